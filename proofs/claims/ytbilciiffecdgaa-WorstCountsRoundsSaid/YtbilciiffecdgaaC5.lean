/- converge.Check and ref19.Begin: the error that all functions begin with. -/
import Derived.Test.YtbilciiffecdgaaC4
namespace Go.Proofs.Ytbilciiffecdgaa
open Go.RowKit

def chk (E : List Nat) (L : List (List Arc)) (m : Nat) : Int := if PlS.spaceOk E L = true then (if m = E.length then 0 else 7) else 13

theorem chk_bad {E : List Nat} {L : List (List Arc)} {m : Nat} (h : PlS.spaceOk E L = false) : chk E L m = 13 := by unfold chk; rw [h]; rfl
theorem chk_form {E : List Nat} {L : List (List Arc)} {m : Nat} (h : PlS.spaceOk E L = true) (hm : m ≠ E.length) : chk E L m = 7 := by unfold chk; rw [if_pos h, if_neg hm]
theorem chk_ok {E : List Nat} {L : List (List Arc)} {m : Nat} (h : PlS.spaceOk E L = true) (hm : m = E.length) : chk E L m = 0 := by unfold chk; rw [if_pos h, if_pos hm]

theorem valid_is (E : List Nat) (L : List (List Arc)) (v : Value) (hE : WfE E) (hL : WfL L) (b : Bool) (h : PlS.spaceOk E L = b) (w : World) (hS : SpaceAt w w.heap.size v E L) :
    Calls Try.prog 58 #[v] w fun e w' => e = .returned (.bool b) ∧ Below w.heap.size w w' := by rw [← h]; exact valid_any E L v hE hL w hS
theorem rvalid_is (E : List Nat) (L : List (List Arc)) (v : Value) (hE : WfE E) (hL : WfL L) (b : Bool) (h : PlS.spaceOk E L = b) (w : World) (hS : SpaceAt w w.heap.size v E L) :
    Calls Try.prog 27 #[v] w fun e w' => e = .returned (.bool b) ∧ Below w.heap.size w w' := by rw [← h]; exact rvalid_any E L v hE hL w hS

set_option maxHeartbeats 1000000 in
theorem check_any (E : List Nat) (L : List (List Arc)) (v : Value) (hE : WfE E) (hL : WfL L) (A : Option Addr) (m c : Nat) (w : World) (hS : SpaceAt w w.heap.size v E L) :
    Calls Try.prog 53 #[v, .slice A m c] w fun e w' => e = .returned (.int .i64 (chk E L m)) ∧ Below w.heap.size w w' := by
  have HS := Lib.hid hS
  obtain ⟨ve, va, rfl, ⟨Ae, ce, rfl, re⟩, ⟨Aa, ca, rows, rfl, ra, hk⟩⟩ := hS
  clear re ra hk
  have HE := Lib.hid hE
  have HL := Lib.hid hL
  clear hE hL
  have hb0 := (Below.refl w.heap.size w).alloc (Nat.le_refl _) (.cells #[.slice Ae E.length ce, .slice Aa L.length ca] 25)
  have HB0 := Lib.hid hb0
  clear hb0
  cases hb : PlS.spaceOk E L
  · have HV := Lib.hid hb
    have HF := Lib.hid (chk_bad (m := m) hb)
    clear hb
    go_enter Try.func53, Try.ntmps53
    go_wp2_with fail
    refine (valid_is E L _ HE.out HL.out _ HV.out _ (HS.out.go HB0.out)).mono ?_
    rintro e w1 ⟨rfl, hb1⟩
    have HB1 := Lib.hid (below_end hb1 HB0.out)
    clear hb1
    go_wp2
    go_ret
    exact ⟨ret_int HF.out.symm, HB1.out⟩
  · have HV := Lib.hid hb
    by_cases hm : m = E.length
    · have HF := Lib.hid (chk_ok hb hm)
      have t1 : ((m : Int) != (E.length : Int)) = false := by simp [hm]
      clear hb hm
      go_enter Try.func53, Try.ntmps53
      go_wp2_with fail
      refine (valid_is E L _ HE.out HL.out _ HV.out _ (HS.out.go HB0.out)).mono ?_
      rintro e w1 ⟨rfl, hb1⟩
      have bs := (Blk.new w 25 #[.slice Ae E.length ce, .slice Aa L.length ca]).below hb1 (by simp)
      have HB1 := Lib.hid (below_end hb1 HB0.out)
      clear hb1
      obtain ⟨p0, p1, pf⟩ := blk2 bs
      go_wp2
      go_ret
      exact ⟨ret_int HF.out.symm, HB1.out⟩
    · have HF := Lib.hid (chk_form hb hm)
      have t1 : ((m : Int) != (E.length : Int)) = true := by rw [bne_iff_ne]; omega
      clear hb
      go_enter Try.func53, Try.ntmps53
      go_wp2_with fail
      refine (valid_is E L _ HE.out HL.out _ HV.out _ (HS.out.go HB0.out)).mono ?_
      rintro e w1 ⟨rfl, hb1⟩
      have bs := (Blk.new w 25 #[.slice Ae E.length ce, .slice Aa L.length ca]).below hb1 (by simp)
      have HB1 := Lib.hid (below_end hb1 HB0.out)
      clear hb1
      obtain ⟨p0, p1, pf⟩ := blk2 bs
      go_wp2
      go_ret
      exact ⟨ret_int HF.out.symm, HB1.out⟩

set_option maxHeartbeats 1000000 in
theorem begin_any (E : List Nat) (L : List (List Arc)) (v : Value) (hE : WfE E) (hL : WfL L) (A : Option Addr) (m c : Nat) (w : World) (hS : SpaceAt w w.heap.size v E L) :
    Calls Try.prog 48 #[v, .slice A m c] w fun e w' => e = .returned (.int .i64 (chk E L m)) ∧ Below w.heap.size w w' := by
  have HS := Lib.hid hS
  obtain ⟨ve, va, rfl, ⟨Ae, ce, rfl, re⟩, ⟨Aa, ca, rows, rfl, ra, hk⟩⟩ := hS
  clear re ra hk
  have HE := Lib.hid hE
  have HL := Lib.hid hL
  clear hE hL
  have hb0 := (Below.refl w.heap.size w).alloc (Nat.le_refl _) (.cells #[.slice Ae E.length ce, .slice Aa L.length ca] 25)
  have HB0 := Lib.hid hb0
  clear hb0
  cases hb : PlS.spaceOk E L
  · have HV := Lib.hid hb
    have HF := Lib.hid (chk_bad (m := m) hb)
    clear hb
    go_enter Try.func48, Try.ntmps48
    go_wp2_with fail
    refine (rvalid_is E L _ HE.out HL.out _ HV.out _ (HS.out.go HB0.out)).mono ?_
    rintro e w1 ⟨rfl, hb1⟩
    have HB1 := Lib.hid (below_end hb1 HB0.out)
    clear hb1
    go_wp2
    go_ret
    exact ⟨ret_int HF.out.symm, HB1.out⟩
  · have HV := Lib.hid hb
    by_cases hm : m = E.length
    · have HF := Lib.hid (chk_ok hb hm)
      have t1 : ((m : Int) != (E.length : Int)) = false := by simp [hm]
      clear hb hm
      go_enter Try.func48, Try.ntmps48
      go_wp2_with fail
      refine (rvalid_is E L _ HE.out HL.out _ HV.out _ (HS.out.go HB0.out)).mono ?_
      rintro e w1 ⟨rfl, hb1⟩
      have bs := (Blk.new w 25 #[.slice Ae E.length ce, .slice Aa L.length ca]).below hb1 (by simp)
      have HB1 := Lib.hid (below_end hb1 HB0.out)
      clear hb1
      obtain ⟨p0, p1, pf⟩ := blk2 bs
      go_wp2
      go_ret
      exact ⟨ret_int HF.out.symm, HB1.out⟩
    · have HF := Lib.hid (chk_form hb hm)
      have t1 : ((m : Int) != (E.length : Int)) = true := by rw [bne_iff_ne]; omega
      clear hb
      go_enter Try.func48, Try.ntmps48
      go_wp2_with fail
      refine (rvalid_is E L _ HE.out HL.out _ HV.out _ (HS.out.go HB0.out)).mono ?_
      rintro e w1 ⟨rfl, hb1⟩
      have bs := (Blk.new w 25 #[.slice Ae E.length ce, .slice Aa L.length ca]).below hb1 (by simp)
      have HB1 := Lib.hid (below_end hb1 HB0.out)
      clear hb1
      obtain ⟨p0, p1, pf⟩ := blk2 bs
      go_wp2
      go_ret
      exact ⟨ret_int HF.out.symm, HB1.out⟩

end Go.Proofs.Ytbilciiffecdgaa
