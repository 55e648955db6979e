/- The law's own helpers: Any, few, fair; equal lists. -/
import Derived.Test.YtbilciiffecdgaaC9
import Derived.Test.YtbilciiffecdgaaF3m
import Derived.Test.YtbilciiffecdgaaNM
import Derived.Test.YtbilciiffecdgaaW1b
namespace Go.Proofs.Ytbilciiffecdgaa
open Go.RowKit

theorem marks_any (n : Nat) (f : Nat → Bool) : (marks n f).any id = true ↔ ∃ k, k < n ∧ f k = true := by
  unfold marks
  simp [List.any_eq_true]

set_option maxHeartbeats 400000 in
theorem rany_any (l : List Bool) (hl : l.length ≤ 1000000) (A : Option Addr) (c B : Nat) (w : World) (hA : Reads w B 1 A l.length (l.map Value.bool)) :
    Calls Try.prog 29 #[.slice A l.length c] w fun e w' => e = .returned (.bool (l.any id)) ∧ w = w' := by
  have RA := Lib.hid hA
  clear hA
  go_enter Try.func29, Try.ntmps29
  go_wp2
  go_loop [3] (fun i => ∃ k : Nat, k ≤ l.length ∧ i = .int .i64 k ∧ (l.take k).any id = false) (fun i => l.length - (intOf i).toNat)
  case atStart => exact ⟨0, Nat.zero_le _, rfl, rfl⟩
  case round =>
    obtain ⟨k, hk, rfl, hno⟩ := hrel
    by_cases hlt : k < l.length
    · obtain ⟨a1, rfl, -, c1⟩ := bool_at RA.out hlt
      have htk := List.take_add_one (l := l) (i := k)
      rw [List.getElem?_eq_getElem hlt, Option.toList_some] at htk
      have HY := Lib.hid (fun h : l[k] = true => (show l.any id = true from List.any_eq_true.2 ⟨l[k], List.getElem_mem hlt, h⟩))
      have HN := Lib.hid (fun h : l[k] = false => (show (l.take (k + 1)).any id = false by rw [htk, List.any_append, hno, h]; rfl))
      clear htk hno
      generalize l[k] = x at *
      have k0 : (0 : Int) ≤ (k : Int) := by omega
      have k1 : (k : Int) < (l.length : Int) := by omega
      cases x
      · have HN' := Lib.hid (HN.out rfl)
        clear HN HY
        go_wp2
        go_round
        case rel => exact ⟨k + 1, by omega, by go_num, HN'.out⟩
        case measure => simp [intOf]; omega
      · have HY' := Lib.hid (HY.out rfl)
        clear HN HY
        go_wp2
        go_ret
        exact ⟨ret_bool HY'.out.symm, rfl⟩
    · obtain rfl : k = l.length := by omega
      rw [List.take_length] at hno
      have HN := Lib.hid hno
      clear hno
      go_wp2
      go_ret
      exact ⟨ret_bool HN.out.symm, rfl⟩
theorem rany_is (l : List Bool) (n : Nat) (hn : l.length = n) (hl : n ≤ 1000000) (b : Bool) (hb : l.any id = b) (A : Option Addr) (c B : Nat) (w : World) (hA : Reads w B 1 A n (l.map Value.bool)) :
    Calls Try.prog 29 #[.slice A n c] w fun e w' => e = .returned (.bool b) ∧ w = w' := by
  subst hn hb
  exact rany_any l hl A c B w hA

def fewB (E : List Nat) : Bool := E.all fun e => decide (Pl.pop e ≤ 8)
theorem few_at {E : List Nat} (h : fewB E = true) (k : Nat) : Pl.pop (E.getD k 0) ≤ 8 := by
  by_cases hk : k < E.length
  · rw [getD_l 0 hk]
    have := List.all_eq_true.1 h _ (List.getElem_mem hk)
    simpa using this
  · rw [List.getD_eq_getElem?_getD, List.getElem?_eq_none (by omega)]
    decide

set_option maxHeartbeats 1000000 in
theorem few_any (E : List Nat) (L : List (List Arc)) (v : Value) (hE : WfE E) (hEl : E.length ≤ 32768) (w : World) (hS : SpaceAt w w.heap.size v E L) :
    Calls Try.prog 18 #[v] w fun e w' => e = .returned (.bool (fewB E)) ∧ Below w.heap.size w w' := by
  obtain ⟨ve, va, rfl, ⟨Ae, ce, rfl, re⟩, ⟨Aa, ca, rows, rfl, ra, hk⟩⟩ := hS
  have RE := Lib.hid re
  have HE := Lib.hid hE
  have HM0 := Lib.hid ((Mem.start w).new 25 #[.slice Ae E.length ce, .slice Aa L.length ca])
  clear re ra hk hE
  go_enter Try.func18, Try.ntmps18
  go_wp2_with fail
  go_loopw [3] (fun i wr => ∃ k : Nat, k ≤ E.length ∧ i = .int .i64 k ∧ fewB (E.take k) = true ∧ Mem w [cB w.heap.size w.heap.size 25 #[.slice Ae E.length ce, .slice Aa L.length ca]] wr) (fun i _ => E.length - (intOf i).toNat)
  case atStart => exact ⟨0, Nat.zero_le _, rfl, rfl, HM0.out⟩
  case round =>
    clear HM0
    obtain ⟨k, hk, rfl, hfw, hM⟩ := hrel
    have HM := Lib.hid hM
    obtain ⟨p0, p1, pf⟩ := blk2 (hM.get 0 rfl).2
    by_cases hlt : k < E.length
    · obtain ⟨ae, hA, hbe, ce0⟩ := set_at (RE.out.below hM.bel) hlt
      subst hA
      have hek := HE.out k hlt
      have htk := List.take_add_one (l := E) (i := k)
      rw [List.getElem?_eq_getElem hlt, Option.toList_some] at htk
      have HY := Lib.hid (fun h : Pl.pop E[k] ≤ 8 => (show fewB (E.take (k + 1)) = true by unfold fewB at hfw ⊢; rw [htk, List.all_append, hfw]; simp [h]))
      have HN := Lib.hid (fun h : ¬ Pl.pop E[k] ≤ 8 => (show fewB E = false from by
        unfold fewB
        rw [List.all_eq_false]
        exact ⟨_, List.getElem_mem hlt, by simpa using h⟩))
      have hp := Pl.pop_le E[k]
      generalize E[k] = en at *
      have k0 : (0 : Int) ≤ (k : Int) := by omega
      have k1 : (k : Int) < (E.length : Int) := by omega
      clear htk hfw hM
      go_wp2_with fail
      refine (count_any en hek _).mono ?_
      rintro e w' ⟨rfl, rfl⟩
      by_cases h8 : Pl.pop en ≤ 8
      · have HY' := Lib.hid (HY.out h8)
        have t1 : decide ((8 : Int) < (Pl.pop en : Int)) = false := decide_eq_false (by omega)
        have t2 : decide (8 < Pl.pop en) = false := decide_eq_false (by omega)
        clear HY HN
        go_wp2
        exact ⟨⟨k + 1, by omega, by go_num, HY'.out, HM.out⟩, by simp [intOf]; omega⟩
      · have HN' := Lib.hid (HN.out h8)
        have t1 : decide ((8 : Int) < (Pl.pop en : Int)) = true := decide_eq_true (by omega)
        have t2 : decide (8 < Pl.pop en) = true := decide_eq_true (by omega)
        clear HY HN
        go_wp2
        go_ret
        exact ⟨ret_bool HN'.out.symm, HM.out.bel⟩
    · obtain rfl : k = E.length := by omega
      rw [List.take_length] at hfw
      have HF := Lib.hid hfw
      clear hfw hM
      go_wp2
      go_ret
      exact ⟨ret_bool HF.out.symm, HM.out.bel⟩
theorem few_is (E : List Nat) (L : List (List Arc)) (v : Value) (hE : WfE E) (hEl : E.length ≤ 32768) (b : Bool) (hb : fewB E = b) (w : World) (hS : SpaceAt w w.heap.size v E L) :
    Calls Try.prog 18 #[v] w fun e w' => e = .returned (.bool b) ∧ Below w.heap.size w w' := by
  subst hb
  exact few_any E L v hE hEl w hS

/-- what fair asks for -/
def FairP (E : List Nat) (L : List (List Arc)) (S : List Bool) : Prop := lightB E L S.length = true ∧ wchk E L S = 0

set_option maxHeartbeats 2000000 in
theorem fair_no1 (E : List Nat) (L : List (List Arc)) (v : Value) (A : Option Addr) (m c : Nat) (h1 : lightB E L m = false) (w : World) (hS : SpaceAt w w.heap.size v E L) :
    Calls Try.prog 24 #[v, .slice A m c] w fun e w' => e = .returned (.bool false) ∧ Below w.heap.size w w' := by
  have HS := Lib.hid hS
  obtain ⟨ve, va, rfl, ⟨Ae, ce, rfl, re⟩, ⟨Aa, ca, rows, rfl, ra, hk⟩⟩ := hS
  have HB0 := Lib.hid ((Below.refl w.heap.size w).alloc (Nat.le_refl _) (.cells #[.slice Ae E.length ce, .slice Aa L.length ca] 25))
  have H1 := Lib.hid h1
  clear re ra hk h1
  go_enter Try.func24, Try.ntmps24
  go_wp2_with fail
  refine (light_is E L _ A m c false H1.out _ (HS.out.go HB0.out)).mono ?_
  rintro e w1 ⟨rfl, hb1⟩
  have HB1 := Lib.hid (below_end hb1 HB0.out)
  clear hb1
  go_wp2
  go_ret
  exact ⟨rfl, HB1.out⟩
set_option maxHeartbeats 2000000 in
theorem fair_no2 (E : List Nat) (L : List (List Arc)) (v : Value) (hE : WfE E) (hL : WfL L) (A : Option Addr) (m c : Nat) (h1 : lightB E L m = true) (h2 : PlS.spaceOk E L = false) (w : World) (hS : SpaceAt w w.heap.size v E L) :
    Calls Try.prog 24 #[v, .slice A m c] w fun e w' => e = .returned (.bool false) ∧ Below w.heap.size w w' := by
  have HS := Lib.hid hS
  obtain ⟨ve, va, rfl, ⟨Ae, ce, rfl, re⟩, ⟨Aa, ca, rows, rfl, ra, hk⟩⟩ := hS
  have HM0 := Lib.hid ((Mem.start w).new 25 #[.slice Ae E.length ce, .slice Aa L.length ca])
  have H1 := Lib.hid h1
  have H2 := Lib.hid h2
  have HE := Lib.hid hE
  have HL := Lib.hid hL
  clear re ra hk h1 h2 hE hL
  go_enter Try.func24, Try.ntmps24
  go_wp2_with fail
  refine (light_is E L _ A m c true H1.out _ (HS.out.go HM0.out.bel)).mono ?_
  rintro e w1 ⟨rfl, hb1⟩
  have HM1 := Lib.hid (HM0.out.below hb1)
  obtain ⟨p0, p1, pf⟩ := blk2 (HM1.out.get 0 rfl).2
  clear hb1
  go_wp2_with fail
  refine (rvalid_is E L _ HE.out HL.out false H2.out _ (HS.out.go HM1.out.bel)).mono ?_
  rintro e w2 ⟨rfl, hb2⟩
  have HM2 := Lib.hid (HM1.out.below hb2)
  clear hb2 p0 p1 pf
  go_wp2
  go_ret
  exact ⟨rfl, HM2.out.bel⟩
set_option maxHeartbeats 2000000 in
theorem fair_no3 (E : List Nat) (L : List (List Arc)) (v : Value) (hE : WfE E) (hL : WfL L) (A : Option Addr) (m c : Nat) (h1 : lightB E L m = true) (h2 : PlS.spaceOk E L = true) (h3 : m ≠ E.length) (w : World) (hS : SpaceAt w w.heap.size v E L) :
    Calls Try.prog 24 #[v, .slice A m c] w fun e w' => e = .returned (.bool false) ∧ Below w.heap.size w w' := by
  have HS := Lib.hid hS
  obtain ⟨ve, va, rfl, ⟨Ae, ce, rfl, re⟩, ⟨Aa, ca, rows, rfl, ra, hk⟩⟩ := hS
  have HM0 := Lib.hid ((Mem.start w).new 25 #[.slice Ae E.length ce, .slice Aa L.length ca])
  have H1 := Lib.hid h1
  have H2 := Lib.hid h2
  have HE := Lib.hid hE
  have HL := Lib.hid hL
  have t1 : ((m : Int) == (E.length : Int)) = false := beq_eq_false_iff_ne.2 (by omega)
  have t2 : ((m : Int) != (E.length : Int)) = true := by rw [bne_iff_ne]; omega
  clear re ra hk h1 h2 hE hL h3
  go_enter Try.func24, Try.ntmps24
  go_wp2_with fail
  refine (light_is E L _ A m c true H1.out _ (HS.out.go HM0.out.bel)).mono ?_
  rintro e w1 ⟨rfl, hb1⟩
  have HM1 := Lib.hid (HM0.out.below hb1)
  obtain ⟨p0, p1, pf⟩ := blk2 (HM1.out.get 0 rfl).2
  clear hb1
  go_wp2_with fail
  refine (rvalid_is E L _ HE.out HL.out true H2.out _ (HS.out.go HM1.out.bel)).mono ?_
  rintro e w2 ⟨rfl, hb2⟩
  have HM2 := Lib.hid (HM1.out.below hb2)
  clear hb2 p0 p1 pf
  obtain ⟨p0, p1, pf⟩ := blk2 (HM2.out.get 0 rfl).2
  go_wp2
  go_ret
  exact ⟨rfl, HM2.out.bel⟩
theorem conv_marks {L : List (List Arc)} {S : List Bool} {f : Nat → Bool} (hf : ∀ k, k < S.length → (f k = true ↔ ¬ PlC.Att (PlG.tg L) (isIn S) k)) : (marks S.length f).any id = false ↔ Conv L S := by
  rw [← Bool.not_eq_true, marks_any]
  constructor
  · intro h k hk
    apply Classical.byContradiction
    intro hn
    exact h ⟨k, hk, (hf k hk).2 hn⟩
  · rintro h ⟨k, hk, hfk⟩
    exact (hf k hk).1 hfk (h k hk)
set_option maxHeartbeats 2000000 in
theorem fair_conv (E : List Nat) (L : List (List Arc)) (v : Value) (hE : WfE E) (hL : WfL L) (S : List Bool) (A : Option Addr) (c : Nat) (h1 : lightB E L S.length = true) (h2 : PlS.spaceOk E L = true) (h3 : S.length = E.length) (b : Bool) (hb : Conv L S ↔ b = true) (w : World) (hS : SpaceAt w w.heap.size v E L)
    (hSr : Reads w w.heap.size 1 A S.length (S.map Value.bool)) :
    Calls Try.prog 24 #[v, .slice A S.length c] w fun e w' => e = .returned (.bool b) ∧ Below w.heap.size w w' := by
  have HS := Lib.hid hS
  obtain ⟨ve, va, rfl, ⟨Ae, ce, rfl, re⟩, ⟨Aa, ca, rows, rfl, ra, hk⟩⟩ := hS
  have HM0 := Lib.hid ((Mem.start w).new 25 #[.slice Ae E.length ce, .slice Aa L.length ca])
  have H1 := Lib.hid h1
  have H2 := Lib.hid h2
  have H3 := Lib.hid h3
  have HE := Lib.hid hE
  have HL := Lib.hid hL
  have HBB := Lib.hid hb
  have SR := Lib.hid hSr
  have hn : S.length ≤ 32768 := by have := (PlG.ok_parts h2).2.1; omega
  have t1 : ((S.length : Int) == (E.length : Int)) = true := by rw [beq_iff_eq]; omega
  have t2 : ((S.length : Int) != (E.length : Int)) = false := by simp [h3]
  clear re ra hk h1 h2 hE hL h3 hb hSr
  go_enter Try.func24, Try.ntmps24
  go_wp2_with fail
  refine (light_is E L _ A S.length c true H1.out _ (HS.out.go HM0.out.bel)).mono ?_
  rintro e w1 ⟨rfl, hb1⟩
  have HM1 := Lib.hid (HM0.out.below hb1)
  obtain ⟨p0, p1, pf⟩ := blk2 (HM1.out.get 0 rfl).2
  clear hb1
  go_wp2_with fail
  refine (rvalid_is E L _ HE.out HL.out true H2.out _ (HS.out.go HM1.out.bel)).mono ?_
  rintro e w2 ⟨rfl, hb2⟩
  have HM2 := Lib.hid (HM1.out.below hb2)
  clear hb2 p0 p1 pf
  obtain ⟨p0, p1, pf⟩ := blk2 (HM2.out.get 0 rfl).2
  go_wp2_with fail
  refine (rcore_ok E L _ HE.out HL.out H2.out S H3.out A c _ (HS.out.go HM2.out.bel) (SR.out.go HM2.out.bel)).mono ?_
  rintro e w3 ⟨vm, f, rfl, ho, hf, hb3⟩
  obtain ⟨Am, cm, rfl⟩ := own_sl ho
  have HM3 := Lib.hid ((HM2.out.below hb3).bel)
  have HAB := Lib.hid (show (marks S.length f).any id = !b from by
    cases b
    · cases ha : (marks S.length f).any id
      · exact absurd (HBB.out.1 ((conv_marks hf).1 ha)) (by simp)
      · rfl
    · exact (conv_marks hf).2 (HBB.out.2 rfl))
  have RM := Lib.hid (Reads.of_own ho)
  clear ho hf hb3 p0 p1 pf
  go_wp2_with fail
  refine (rany_is (marks S.length f) S.length (marks_len _ _) (by omega) _ HAB.out Am cm _ _ RM.out).mono ?_
  rintro e w4 ⟨rfl, rfl⟩
  go_wp2
  go_ret
  exact ⟨ret_bool (by simp), HM3.out⟩
theorem fair_yes (E : List Nat) (L : List (List Arc)) (v : Value) (hE : WfE E) (hL : WfL L) (S : List Bool) (A : Option Addr) (c : Nat) (h : FairP E L S) (w : World) (hS : SpaceAt w w.heap.size v E L)
    (hSr : Reads w w.heap.size 1 A S.length (S.map Value.bool)) :
    Calls Try.prog 24 #[v, .slice A S.length c] w fun e w' => e = .returned (.bool true) ∧ Below w.heap.size w w' := by
  obtain ⟨h2, h3, h4⟩ := wchk_zero h.2
  exact fair_conv E L v hE hL S A c h.1 h2 h3 true ⟨fun _ => rfl, fun _ => h4⟩ w hS hSr
theorem fair_no (E : List Nat) (L : List (List Arc)) (v : Value) (hE : WfE E) (hV : WfV L) (S : List Bool) (A : Option Addr) (c : Nat) (h : ¬ FairP E L S) (w : World) (hS : SpaceAt w w.heap.size v E L)
    (hSr : Reads w w.heap.size 1 A S.length (S.map Value.bool)) :
    Calls Try.prog 24 #[v, .slice A S.length c] w fun e w' => e = .returned (.bool false) ∧ Below w.heap.size w w' := by
  cases h1 : lightB E L S.length
  · exact fair_no1 E L v A _ c h1 w hS
  · have hL := wfl_light hV h1
    cases h2 : PlS.spaceOk E L
    · exact fair_no2 E L v hE hL A _ c h1 h2 w hS
    · by_cases h3 : S.length = E.length
      · refine fair_conv E L v hE hL S A c h1 h2 h3 false ⟨fun hc => ?_, fun h => (by cases h)⟩ w hS hSr
        exact absurd ⟨h1, wchk_ok h2 h3 hc⟩ h
      · exact fair_no3 E L v hE hL A _ c h1 h2 h3 w hS

set_option maxHeartbeats 400000 in
theorem sameU_eq (l : List Nat) (hl : l.length ≤ 1000000) (A B : Option Addr) (ca cb B1 B2 : Nat) (w : World) (hA : Reads w B1 1 A l.length (l.map fun z : Nat => Value.int .u32 (z : Int))) (hB : Reads w B2 1 B l.length (l.map fun z : Nat => Value.int .u32 (z : Int))) :
    Calls Try.prog 23 #[.slice A l.length ca, .slice B l.length cb] w fun e w' => e = .returned (.bool true) ∧ ∃ d, w' = w.drewN d := by
  have RA := Lib.hid hA
  have RB := Lib.hid hB
  clear hA hB
  go_enter Try.func23, Try.ntmps23
  go_wp2
  go_loopw [5] (fun i wr => ∃ k d : Nat, k ≤ l.length ∧ i = .int .i64 k ∧ wr = w.drewN d) (fun i _ => l.length - (intOf i).toNat)
  case atStart => exact ⟨0, 0, Nat.zero_le _, rfl, rfl⟩
  case round =>
    obtain ⟨k, d, hk, rfl, rfl⟩ := hrel
    by_cases hlt : k < l.length
    · obtain ⟨a1, rfl, -, c1⟩ := set_at RA.out hlt
      obtain ⟨a2, rfl, -, c2⟩ := set_at RB.out hlt
      generalize l[k] = x at *
      have k0 : (0 : Int) ≤ (k : Int) := by omega
      have k1 : (k : Int) < (l.length : Int) := by omega
      have x1 : ((x : Int) != (x : Int)) = false := by simp
      go_wp2_with fail
      go_quiet (fail)
      go_wp2
      refine ⟨⟨k + 1, d + nq, by omega, by go_num, by first | rfl | rw [World.drewN_drewN]⟩, by simp [intOf]; omega⟩
    · go_wp2
      go_ret
      exact ⟨rfl, d, rfl⟩
theorem sameU_n (l : List Nat) (n : Nat) (hn : l.length = n) (hl : n ≤ 1000000) (A B : Option Addr) (ca cb B1 B2 : Nat) (w : World) (hA : Reads w B1 1 A n (l.map fun z : Nat => Value.int .u32 (z : Int))) (hB : Reads w B2 1 B n (l.map fun z : Nat => Value.int .u32 (z : Int))) :
    Calls Try.prog 23 #[.slice A n ca, .slice B n cb] w fun e w' => e = .returned (.bool true) ∧ ∃ d, w' = w.drewN d := by
  subst hn
  exact sameU_eq l hl A B ca cb B1 B2 w hA hB
end Go.Proofs.Ytbilciiffecdgaa
