/- The walk of ConvergeFinds. -/
import Derived.Test.YtlhheglffododaaF4
import Derived.Test.YtlhheglffododaaN0
import Derived.Test.YtlhheglffododaaC11
namespace Go.Proofs.Ytlhheglffododaa
open Go.RowKit

theorem chk_zero {E : List Nat} {L : List (List Arc)} {m : Nat} (h : chk E L m = 0) : PlS.spaceOk E L = true ∧ m = E.length := by
  unfold chk at h
  by_cases h1 : PlS.spaceOk E L = true
  · rw [if_pos h1] at h
    by_cases h2 : m = E.length
    · exact ⟨h1, h2⟩
    · rw [if_neg h2] at h; cases h
  · rw [if_neg h1] at h; cases h

/-- what both searches answer -/
noncomputable def attL (E : List Nat) (L : List (List Arc)) (S : List Bool) : List Bool := if chk E L S.length = 0 then marks S.length (fun k => @decide (PlC.Att (PlG.tg L) (isIn S) k) (Classical.propDecidable _)) else []
noncomputable def coreL (E : List Nat) (L : List (List Arc)) (S : List Bool) : List Bool := if chk E L S.length = 0 then marks S.length (fun k => @decide (¬ PlC.Att (PlG.tg L) (isIn S) k) (Classical.propDecidable _)) else []
def clB (E : List Nat) (L : List (List Arc)) (S : List Bool) : Bool := if chk E L S.length = 0 then closedB L S else false

/-- a list of marks that lies somewhere, and an error -/
def ListPost (w : World) (l : List Bool) (z : Int) (e : Ending) (w' : World) : Prop :=
  ∃ (A : Option Addr) (n c : Nat), e = .returned (.tuple #[.slice A n c, .int .i64 z]) ∧ l.length = n ∧ Reads w' w'.heap.size 1 A n (l.map Value.bool) ∧ Below w.heap.size w w'

open Classical in
theorem marks_dec {n : Nat} {f : Nat → Bool} {P : Nat → Prop} (h : ∀ k, k < n → (f k = true ↔ P k)) : marks n f = marks n (fun k => decide (P k)) :=
  marks_congr fun k hk => by
    by_cases hp : P k
    · rw [(h k hk).2 hp, decide_eq_true hp]
    · rw [decide_eq_false hp]; exact Bool.eq_false_iff.2 fun hf => hp ((h k hk).1 hf)
theorem list_marks {w w' : World} {n : Nat} {P : (Nat → Bool) → Prop} {l : List Bool} {e : Ending} (h : MarksPost w n P e w') (hl : ∀ f, P f → marks n f = l) : ListPost w l 0 e w' := by
  obtain ⟨g, f, he, hg, bm, hf, hb⟩ := h
  refine ⟨_, n, n, he, by rw [← hl f hf]; exact marks_len _ _, ?_, hb⟩
  rw [← hl f hf]
  exact reads_blk bm bm.lt (by rw [List.length_map, marks_len, Nat.mul_one])
theorem list_own {w w' : World} {n : Nat} {P : (Nat → Bool) → Prop} {l : List Bool} {e : Ending} (h : OwnMarks w n P e w') (hl : ∀ f, P f → marks n f = l) : ListPost w l 0 e w' := by
  obtain ⟨v, f, he, ho, hf, hb⟩ := h
  obtain ⟨A, c, rfl⟩ := own_slice ho
  refine ⟨A, n, c, he, by rw [← hl f hf]; exact marks_len _ _, ?_, hb⟩
  rw [← hl f hf]
  exact Reads.of_own ho
theorem list_nil {w w' : World} {z : Int} {e : Ending} (h : e = .returned (.tuple #[.slice none 0 0, .int .i64 z]) ∧ Below w.heap.size w w') : ListPost w [] z e w' :=
  ⟨none, 0, 0, h.1, rfl, Reads.none_, h.2⟩

theorem att_iff {E : List Nat} {L : List (List Arc)} {S : List Bool} {f : Nat → Bool} (h0 : chk E L S.length = 0) (h : IsAtt L.length (PlG.tg L) (isIn S) f) (k : Nat) (hk : k < S.length) : f k = true ↔ PlC.Att (PlG.tg L) (isIn S) k := by
  obtain ⟨h1, h2⟩ := chk_zero h0
  exact h.iff k (by have := (PlG.ok_parts h1).2.2.1; omega)
theorem core_iff {E : List Nat} {L : List (List Arc)} {S : List Bool} {f : Nat → Bool} (h0 : chk E L S.length = 0) (h : IsCore L.length (PlG.tg L) (isIn S) f) (k : Nat) (hk : k < S.length) : f k = true ↔ ¬ PlC.Att (PlG.tg L) (isIn S) k := by
  obtain ⟨h1, h2⟩ := chk_zero h0
  exact h.iff k (by have := (PlG.ok_parts h1).2.2.1; omega)

section
variable (E : List Nat) (L : List (List Arc)) (v : Value) (hE : WfE E) (hL : WfL L) (S : List Bool) (A : Option Addr) (c : Nat) (w : World) (hS : SpaceAt w w.heap.size v E L) (hSr : Reads w w.heap.size 1 A S.length (S.map Value.bool))
include hE hL hS hSr
theorem attr_list : Calls Try.prog 12 #[v, .slice A S.length c] w (ListPost w (attL E L S) (chk E L S.length)) := by
  by_cases h0 : chk E L S.length = 0
  · obtain ⟨h1, h2⟩ := chk_zero h0
    refine (attr_ok E L v hE hL h1 S h2 A c w hS hSr).mono fun e w' h => ?_
    rw [h0]
    exact list_marks h fun f hf => by unfold attL; rw [if_pos h0]; exact marks_dec fun k hk => att_iff h0 hf k hk
  · refine (attr_err E L v hE hL A S.length c _ h0 rfl w hS).mono fun e w' h => ?_
    unfold attL; rw [if_neg h0]; exact list_nil h
theorem rattr_list : Calls Try.prog 19 #[v, .slice A S.length c] w (ListPost w (attL E L S) (chk E L S.length)) := by
  by_cases h0 : chk E L S.length = 0
  · obtain ⟨h1, h2⟩ := chk_zero h0
    refine (rattr_ok E L v hE hL h1 S h2 A c w hS hSr).mono fun e w' h => ?_
    rw [h0]
    exact list_own h fun f hf => by unfold attL; rw [if_pos h0]; exact marks_dec hf
  · refine (rattr_err E L v hE hL A S.length c _ h0 rfl w hS).mono fun e w' h => ?_
    unfold attL; rw [if_neg h0]; exact list_nil h
theorem core_list : Calls Try.prog 13 #[v, .slice A S.length c] w (ListPost w (coreL E L S) (chk E L S.length)) := by
  by_cases h0 : chk E L S.length = 0
  · obtain ⟨h1, h2⟩ := chk_zero h0
    refine (core_ok E L v hE hL h1 S h2 A c w hS hSr).mono fun e w' h => ?_
    rw [h0]
    exact list_marks h fun f hf => by unfold coreL; rw [if_pos h0]; exact marks_dec fun k hk => core_iff h0 hf k hk
  · refine (core_err E L v hE hL A S.length c _ h0 rfl w hS).mono fun e w' h => ?_
    unfold coreL; rw [if_neg h0]; exact list_nil h
theorem rcore_list : Calls Try.prog 20 #[v, .slice A S.length c] w (ListPost w (coreL E L S) (chk E L S.length)) := by
  by_cases h0 : chk E L S.length = 0
  · obtain ⟨h1, h2⟩ := chk_zero h0
    refine (rcore_ok E L v hE hL h1 S h2 A c w hS hSr).mono fun e w' h => ?_
    rw [h0]
    exact list_own h fun f hf => by unfold coreL; rw [if_pos h0]; exact marks_dec hf
  · refine (rcore_err E L v hE hL A S.length c _ h0 rfl w hS).mono fun e w' h => ?_
    unfold coreL; rw [if_neg h0]; exact list_nil h
theorem closed_any : Calls Try.prog 17 #[v, .slice A S.length c] w fun e w' => e = .returned (.tuple #[.bool (clB E L S), .int .i64 (chk E L S.length)]) ∧ Below w.heap.size w w' := by
  by_cases h0 : chk E L S.length = 0
  · obtain ⟨h1, h2⟩ := chk_zero h0
    unfold clB; rw [if_pos h0, h0]
    exact closed_ok E L v hE hL h1 S h2 A c w hS hSr
  · unfold clB; rw [if_neg h0]
    exact closed_err E L v hE hL A S.length c _ h0 rfl w hS
theorem rclosed_any : Calls Try.prog 18 #[v, .slice A S.length c] w fun e w' => e = .returned (.tuple #[.bool (clB E L S), .int .i64 (chk E L S.length)]) ∧ Below w.heap.size w w' := by
  by_cases h0 : chk E L S.length = 0
  · obtain ⟨h1, h2⟩ := chk_zero h0
    unfold clB; rw [if_pos h0, h0]
    exact rclosed_ok E L v hE hL h1 S h2 A c w hS hSr
  · unfold clB; rw [if_neg h0]
    exact rclosed_err E L v hE hL A S.length c _ h0 rfl w hS
end

theorem attL_len (E : List Nat) (L : List (List Arc)) (S : List Bool) : (attL E L S).length ≤ S.length := by
  unfold attL
  by_cases h0 : chk E L S.length = 0
  · rw [if_pos h0, marks_len]; exact Nat.le_refl _
  · rw [if_neg h0]; exact Nat.zero_le _
theorem coreL_len (E : List Nat) (L : List (List Arc)) (S : List Bool) : (coreL E L S).length ≤ S.length := by
  unfold coreL
  by_cases h0 : chk E L S.length = 0
  · rw [if_pos h0, marks_len]; exact Nat.le_refl _
  · rw [if_neg h0]; exact Nat.zero_le _

set_option maxRecDepth 100000 in
set_option maxHeartbeats 2000000 in
theorem finds_law (w : World) (E : List Nat) (L : List (List Arc)) (v : Value) (hE : WfE E) (hV : WfV L) (hS : SpaceAt w w.heap.size v E L) (S : List Bool) (A : Option Addr) (c : Nat) (_hm : S.length ≤ 9223372036854775807)
    (hSr : Reads w w.heap.size 1 A S.length (S.map Value.bool)) :
    Calls Try.prog 7 #[v, .slice A S.length c] w fun e w' => e = .returned (.bool true) ∧ Below w.heap.size w w' := by
  have HS := Lib.hid hS
  obtain ⟨ve, va, rfl, ⟨Ae, ce, rfl, re⟩, ⟨Aa, ca, rows, rfl, ra, hk⟩⟩ := hS
  have HE := Lib.hid hE
  have HV := Lib.hid hV
  have SR := Lib.hid hSr
  clear re ra hk hE hV hSr
  have hb0 := (Below.refl w.heap.size w).alloc (Nat.le_refl _) (.cells #[.slice Ae E.length ce, .slice Aa L.length ca] 25)
  have HB0 := Lib.hid hb0
  clear hb0
  cases h1 : lightB E L S.length
  · have H1 := Lib.hid h1
    clear h1
    go_enter Try.func7, Try.ntmps7
    go_wp2_with fail
    refine (light_is E L _ A S.length c false H1.out _ (HS.out.go HB0.out)).mono ?_
    rintro e w1 ⟨rfl, hb1⟩
    have HB1 := Lib.hid (below_end hb1 HB0.out)
    clear hb1
    go_wp2_with fail
    refine (awake_any _).mono ?_
    rintro e w2 ⟨rfl, hb2⟩
    go_wp2
    go_ret
    exact ⟨rfl, below_end hb2 HB1.out⟩
  · have HL := Lib.hid (wfl_light HV.out h1)
    have H1 := Lib.hid h1
    have hn : S.length ≤ 210 := (light_parts h1).2.2.1
    have la := attL_len E L S
    have lc := coreL_len E L S
    have C1 := Lib.hid (closed_any E L (.agg #[.slice Ae E.length ce, .slice Aa L.length ca]) HE.out HL.out S A c · · ·)
    have C2 := Lib.hid (rclosed_any E L (.agg #[.slice Ae E.length ce, .slice Aa L.length ca]) HE.out HL.out S A c · · ·)
    have C3 := Lib.hid (attr_list E L (.agg #[.slice Ae E.length ce, .slice Aa L.length ca]) HE.out HL.out S A c · · ·)
    have C4 := Lib.hid (rattr_list E L (.agg #[.slice Ae E.length ce, .slice Aa L.length ca]) HE.out HL.out S A c · · ·)
    have C5 := Lib.hid (core_list E L (.agg #[.slice Ae E.length ce, .slice Aa L.length ca]) HE.out HL.out S A c · · ·)
    have C6 := Lib.hid (rcore_list E L (.agg #[.slice Ae E.length ce, .slice Aa L.length ca]) HE.out HL.out S A c · · ·)
    generalize attL E L S = la at *
    generalize coreL E L S = lc at *
    generalize clB E L S = bC at *
    generalize chk E L S.length = z at *
    clear h1
    go_enter Try.func7, Try.ntmps7
    go_wp2_with fail
    refine (light_is E L _ A S.length c true H1.out _ (HS.out.go HB0.out)).mono ?_
    rintro e w1 ⟨rfl, hb1⟩
    have HB1 := Lib.hid (below_end hb1 HB0.out)
    have bs := (Blk.new w 25 #[.slice Ae E.length ce, .slice Aa L.length ca]).below hb1 (by simp)
    obtain ⟨p0, p1, pf⟩ := blk2 bs
    clear hb1
    go_wp2_with fail
    refine (C1.out _ (HS.out.go HB1.out) (SR.out.go HB1.out)).mono ?_
    rintro e w2 ⟨rfl, hb2⟩
    have HB2 := Lib.hid (below_end hb2 HB1.out)
    have bs2 := bs.below hb2 bs.lt
    clear hb2 p0 p1 pf bs
    obtain ⟨p0, p1, pf⟩ := blk2 bs2
    go_wp2_with fail
    refine (C2.out _ (HS.out.go HB2.out) (SR.out.go HB2.out)).mono ?_
    rintro e w3 ⟨rfl, hb3⟩
    have HB3 := Lib.hid (below_end hb3 HB2.out)
    have bs3 := bs2.below hb3 bs2.lt
    clear hb3 p0 p1 pf bs2
    obtain ⟨p0, p1, pf⟩ := blk2 bs3
    go_wp2_with fail
    refine (C3.out _ (HS.out.go HB3.out) (SR.out.go HB3.out)).mono ?_
    rintro e w4 ⟨A4, n4, c4, rfl, hn4, hr4, hb4⟩
    have HB4 := Lib.hid (below_end hb4 HB3.out)
    have bs4 := bs3.below hb4 bs3.lt
    have HR4 := Lib.hid hr4
    clear hb4 p0 p1 pf bs3 hr4
    obtain ⟨p0, p1, pf⟩ := blk2 bs4
    go_wp2_with fail
    refine (C4.out _ (HS.out.go HB4.out) (SR.out.go HB4.out)).mono ?_
    rintro e w5 ⟨A5, n5, c5, rfl, hn5, hr5, hb5⟩
    have HB5 := Lib.hid (below_end hb5 HB4.out)
    have bs5 := bs4.below hb5 bs4.lt
    have HR5 := Lib.hid hr5
    have HR45 := Lib.hid (HR4.out.go hb5)
    clear hb5 p0 p1 pf bs4 hr5 HR4
    obtain ⟨p0, p1, pf⟩ := blk2 bs5
    go_wp2_with fail
    refine (C5.out _ (HS.out.go HB5.out) (SR.out.go HB5.out)).mono ?_
    rintro e w6 ⟨A6, n6, c6, rfl, hn6, hr6, hb6⟩
    have HB6 := Lib.hid (below_end hb6 HB5.out)
    have bs6 := bs5.below hb6 bs5.lt
    have HR6 := Lib.hid hr6
    have HR46 := Lib.hid (HR45.out.go hb6)
    have HR56 := Lib.hid (HR5.out.go hb6)
    clear hb6 p0 p1 pf bs5 hr6 HR5 HR45
    obtain ⟨p0, p1, pf⟩ := blk2 bs6
    go_wp2_with fail
    refine (C6.out _ (HS.out.go HB6.out) (SR.out.go HB6.out)).mono ?_
    rintro e w7 ⟨A7, n7, c7, rfl, hn7, hr7, hb7⟩
    have HB7 := Lib.hid (below_end hb7 HB6.out)
    have HR7 := Lib.hid hr7
    have HR47 := Lib.hid (HR46.out.go hb7)
    have HR57 := Lib.hid (HR56.out.go hb7)
    have HR67 := Lib.hid (HR6.out.go hb7)
    clear hb7 p0 p1 pf bs6 hr7 HR46 HR56 HR6 C1 C2 C3 C4 C5 C6
    obtain rfl : n4 = n5 := hn4.symm.trans hn5
    obtain rfl : n6 = n7 := hn6.symm.trans hn7
    have hz1 : (z == z) = true := beq_self_eq_true z
    have hb1 : (bC == bC) = true := beq_self_eq_true bC
    go_wp2_with fail
    refine (awake_any _).mono ?_
    rintro e w8 ⟨rfl, hb8⟩
    have HB8 := Lib.hid (below_end hb8 HB7.out)
    have HR48 := Lib.hid (HR47.out.go hb8)
    have HR58 := Lib.hid (HR57.out.go hb8)
    have HR68 := Lib.hid (HR67.out.go hb8)
    have HR78 := Lib.hid (HR7.out.go hb8)
    clear hb8
    go_wp2_with fail
    refine (same_n _ _ hn4 (by omega) _ _ _ _ _ _ _ HR48.out HR58.out).mono ?_
    rintro e w9 ⟨rfl, d9, rfl⟩
    go_wp2_with fail
    refine (same_n _ _ hn6 (by omega) _ _ _ _ _ _ _ (HR68.out.go below_drew') (HR78.out.go below_drew')).mono ?_
    rintro e w9 ⟨rfl, d10, rfl⟩
    go_wp2
    go_ret
    exact ⟨rfl, below_end below_drew' HB8.out⟩
end Go.Proofs.Ytlhheglffododaa
