/- The law's own fair: light, valid, a list of the right length. -/
import Derived.Test.YtnjbofahboopoaaC9
namespace Go.Proofs.Ytnjbofahboopoaa
open Go.RowKit

def fairB (E : List Nat) (L : List (List Arc)) (m : Nat) : Bool := lightB E L m && (PlS.spaceOk E L && decide (m = E.length))
theorem fair_parts {E : List Nat} {L : List (List Arc)} {m : Nat} (h : fairB E L m = true) : lightB E L m = true ∧ PlS.spaceOk E L = true ∧ m = E.length := by
  simpa [fairB, Bool.and_eq_true, and_assoc] using h

set_option maxHeartbeats 1000000 in
theorem fair_any (E : List Nat) (L : List (List Arc)) (v : Value) (hE : WfE E) (hV : WfV L) (A : Option Addr) (m c : Nat) (w : World) (hS : SpaceAt w w.heap.size v E L) :
    Calls Try.prog 15 #[v, .slice A m c] w fun e w' => e = .returned (.bool (fairB E L m)) ∧ Below w.heap.size w w' := by
  have HS := Lib.hid hS
  obtain ⟨ve, va, rfl, ⟨Ae, ce, rfl, re⟩, ⟨Aa, ca, rows, rfl, ra, hk⟩⟩ := hS
  have HE := Lib.hid hE
  have HV := Lib.hid hV
  clear re ra hk hE hV
  have hb0 := (Below.refl w.heap.size w).alloc (Nat.le_refl _) (.cells #[.slice Ae E.length ce, .slice Aa L.length ca] 25)
  have HB0 := Lib.hid hb0
  clear hb0
  cases h1 : lightB E L m
  · have H1 := Lib.hid h1
    have HF := Lib.hid (show fairB E L m = false by unfold fairB; rw [h1]; rfl)
    clear h1
    go_enter Try.func15, Try.ntmps15
    go_wp2_with fail
    refine (light_is E L _ A m c false H1.out _ (HS.out.go HB0.out)).mono ?_
    rintro e w1 ⟨rfl, hb1⟩
    have HB1 := Lib.hid (below_end hb1 HB0.out)
    clear hb1
    go_wp2
    go_ret
    exact ⟨ret_bool HF.out.symm, HB1.out⟩
  · have H1 := Lib.hid h1
    have hLL := wfl_light HV.out h1
    have HL := Lib.hid hLL
    clear hLL
    cases h2 : PlS.spaceOk E L
    · have H2 := Lib.hid h2
      have HF := Lib.hid (show fairB E L m = false by unfold fairB; rw [h1, h2]; rfl)
      clear h1 h2
      go_enter Try.func15, Try.ntmps15
      go_wp2_with fail
      refine (light_is E L _ A m c true H1.out _ (HS.out.go HB0.out)).mono ?_
      rintro e w1 ⟨rfl, hb1⟩
      have HB1 := Lib.hid (below_end hb1 HB0.out)
      have bs := (Blk.new w 25 #[.slice Ae E.length ce, .slice Aa L.length ca]).below hb1 (by simp)
      obtain ⟨p0, p1, pf⟩ := blk2 bs
      clear hb1
      go_wp2_with fail
      refine (rvalid_is E L _ HE.out HL.out false H2.out _ (HS.out.go HB1.out)).mono ?_
      rintro e w2 ⟨rfl, hb2⟩
      have HB2 := Lib.hid (below_end hb2 HB1.out)
      clear hb2 p0 p1 pf
      go_wp2
      go_ret
      exact ⟨ret_bool HF.out.symm, HB2.out⟩
    · have H2 := Lib.hid h2
      have HF := Lib.hid (show fairB E L m = decide (m = E.length) by unfold fairB; rw [h1, h2]; rfl)
      clear h1 h2
      have t1 : ((m : Int) == (E.length : Int)) = decide (m = E.length) := by
        by_cases h : m = E.length
        · simp [h]
        · rw [decide_eq_false h]; exact beq_eq_false_iff_ne.2 (by omega)
      have T1 := Lib.hid t1
      clear t1
      go_enter Try.func15, Try.ntmps15
      go_wp2_with fail
      refine (light_is E L _ A m c true H1.out _ (HS.out.go HB0.out)).mono ?_
      rintro e w1 ⟨rfl, hb1⟩
      have HB1 := Lib.hid (below_end hb1 HB0.out)
      have bs := (Blk.new w 25 #[.slice Ae E.length ce, .slice Aa L.length ca]).below hb1 (by simp)
      obtain ⟨p0, p1, pf⟩ := blk2 bs
      clear hb1
      go_wp2_with fail
      refine (rvalid_is E L _ HE.out HL.out true H2.out _ (HS.out.go HB1.out)).mono ?_
      rintro e w2 ⟨rfl, hb2⟩
      have HB2 := Lib.hid (below_end hb2 HB1.out)
      have bs2 := bs.below hb2 bs.lt
      clear hb2 p0 p1 pf bs
      obtain ⟨p0, p1, pf⟩ := blk2 bs2
      go_wp2
      all_goals
        go_ret
        exact ⟨ret_bool (by rw [HF.out, ← T1.out]), HB2.out⟩

theorem fair_is (E : List Nat) (L : List (List Arc)) (v : Value) (hE : WfE E) (hV : WfV L) (A : Option Addr) (m c : Nat) (b : Bool) (h : fairB E L m = b) (w : World) (hS : SpaceAt w w.heap.size v E L) :
    Calls Try.prog 15 #[v, .slice A m c] w fun e w' => e = .returned (.bool b) ∧ Below w.heap.size w w' := by rw [← h]; exact fair_any E L v hE hV A m c w hS
end Go.Proofs.Ytnjbofahboopoaa
