/- The walks of FairnessFindsComponents and FairnessFindsTheCore. -/
import Derived.Test.YtnjbofahboopoaaB6
import Derived.Test.YtnjbofahboopoaaH1
import Derived.Test.YtnjbofahboopoaaN0
namespace Go.Proofs.Ytnjbofahboopoaa
open Go.RowKit

theorem chk_zero' {E : List Nat} {L : List (List Arc)} {m : Nat} (h : chk E L m = 0) : PlS.spaceOk E L = true ∧ m = E.length := by
  unfold chk at h
  by_cases h1 : PlS.spaceOk E L = true
  · rw [if_pos h1] at h
    by_cases h2 : m = E.length
    · exact ⟨h1, h2⟩
    · rw [if_neg h2] at h; cases h
  · rw [if_neg h1] at h; cases h
/-- a list that reads as q, and an error -/
def LP {α : Type} (f : α → Value) (w : World) (q : List α) (z : Int) (e : Ending) (w' : World) : Prop :=
  ∃ A c, e = .returned (.tuple #[.slice A q.length c, .int .i64 z]) ∧ Reads w' w'.heap.size 1 A q.length (q.map f) ∧ Below w.heap.size w w'
def Iz (z : Int) : Value := .int .i64 z
theorem lp_nil {α : Type} {f : α → Value} {w w' : World} {z : Int} {e : Ending} (h : e = .returned (.tuple #[.slice none 0 0, .int .i64 z]) ∧ Below w.heap.size w w') : LP f w [] z e w' :=
  ⟨none, 0, h.1, Reads.none_, h.2⟩
theorem nums_map (n : Nat) (f : Nat → Int) : nums n f = ((List.range n).map f).map Iz := by unfold nums; rw [List.map_map]; rfl
theorem lp_blk {α : Type} {f : α → Value} {w w' : World} {g t : Nat} {q : List α} {n : Nat} (hn : q.length = n) (hb : Blk w' g t (q.map f).toArray) (hB : Below w.heap.size w w') : LP f w q 0 (.returned (.tuple #[.slice (some ⟨g, 0, none⟩) n n, .int .i64 0])) w' := by
  subst hn
  exact ⟨_, _, rfl, reads_blk hb hb.lt (by simp), hB⟩
theorem lp_own {α : Type} {f : α → Value} {w w' : World} {B t : Nat} {q : List α} {n : Nat} {v : Value} (hn : q.length = n) (ho : w'.ownsRow B t 1 v n (q.map f)) (hB : Below w.heap.size w w') : LP f w q 0 (.returned (.tuple #[v, .int .i64 0])) w' := by
  subst hn
  obtain ⟨A, c, rfl⟩ := own_sl ho
  exact ⟨A, c, rfl, Reads.of_own ho, hB⟩
section
variable (E : List Nat) (L : List (List Arc)) (v : Value) (hE : WfE E) (hL : WfL L) (S : List Bool) (A : Option Addr) (c : Nat)
include hE hL
theorem comps_both : ∃ (q : List Int), q.length ≤ S.length ∧ ∀ w, SpaceAt w w.heap.size v E L → Reads w w.heap.size 1 A S.length (S.map Value.bool) →
    Calls Try.prog 16 #[v, .slice A S.length c] w (LP Iz w q (chk E L S.length)) ∧ Calls Try.prog 20 #[v, .slice A S.length c] w (LP Iz w q (chk E L S.length)) := by
  by_cases h0 : chk E L S.length = 0
  · obtain ⟨h1, h2⟩ := chk_zero' h0
    refine ⟨(List.range S.length).map (PlT.num S.length (PlG.tg L) (isIn S)), by simp, fun w hS hSr => ⟨?_, ?_⟩⟩
    · refine (comps_ok E L v hE hL h1 S h2 A c w hS hSr).mono fun e w' => ?_
      rintro ⟨g, rfl, _, hb, hB⟩
      rw [h0]
      rw [nums_map] at hb
      exact lp_blk (by simp) hb hB
    · refine (rcomps_ok E L v hE hL h1 S h2 A c w hS hSr).mono fun e w' => ?_
      rintro ⟨v, rfl, ho, hB⟩
      rw [h0]
      rw [nums_map] at ho
      exact lp_own (by simp) ho hB
  · exact ⟨[], Nat.zero_le _, fun w hS _ => ⟨(comps_err E L v hE hL A S.length c _ h0 rfl w hS).mono fun _ _ h => lp_nil h, (rcomps_err E L v hE hL A S.length c _ h0 rfl w hS).mono fun _ _ h => lp_nil h⟩⟩
theorem kept_both : ∃ (q : List Bool), q.length ≤ S.length ∧ ∀ w, SpaceAt w w.heap.size v E L → Reads w w.heap.size 1 A S.length (S.map Value.bool) →
    Calls Try.prog 21 #[v, .slice A S.length c] w (LP Value.bool w q (chk E L S.length)) ∧ Calls Try.prog 22 #[v, .slice A S.length c] w (LP Value.bool w q (chk E L S.length)) := by
  by_cases h0 : chk E L S.length = 0
  · obtain ⟨h1, h2⟩ := chk_zero' h0
    refine ⟨marks (PlT.cnum S.length (PlG.tg L) (isIn S) S.length) (PlT.keptN S.length E L (isIn S)), by rw [marks_len]; exact PlT.cnum_le _ _ _ _, fun w hS hSr => ⟨?_, ?_⟩⟩
    · refine (keptF_ok E L v hE hL h1 S h2 A c w hS hSr).mono fun e w' => ?_
      rintro ⟨g, f, rfl, _, hb, rfl, hB⟩
      rw [h0]
      exact lp_blk (by simp [marks_len]) hb hB
    · refine (rkeptF_ok E L v hE hL h1 S h2 A c w hS hSr).mono fun e w' => ?_
      rintro ⟨v, rfl, ho, hB⟩
      rw [h0]
      exact lp_own (by simp [marks_len]) ho hB
  · exact ⟨[], Nat.zero_le _, fun w hS _ => ⟨(keptF_err E L v hE hL A S.length c _ h0 rfl w hS).mono fun _ _ h => lp_nil h, (rkeptF_err E L v hE hL A S.length c _ h0 rfl w hS).mono fun _ _ h => lp_nil h⟩⟩
theorem core_both : ∃ (q : List Bool), q.length ≤ S.length ∧ ∀ w, SpaceAt w w.heap.size v E L → Reads w w.heap.size 1 A S.length (S.map Value.bool) →
    Calls Try.prog 12 #[v, .slice A S.length c] w (LP Value.bool w q (chk E L S.length)) ∧ Calls Try.prog 13 #[v, .slice A S.length c] w (LP Value.bool w q (chk E L S.length)) := by
  by_cases h0 : chk E L S.length = 0
  · obtain ⟨h1, h2⟩ := chk_zero' h0
    classical
    have key : ∀ f : Nat → Bool, (∀ k, k < S.length → (f k = true ↔ PlT.FCore S.length E L (isIn S) k)) → marks S.length f = marks S.length (fun k => decide (PlT.FCore S.length E L (isIn S) k)) := fun f hf =>
      marks_congr fun k hk => by rw [Bool.eq_iff_iff, decide_eq_true_iff]; exact hf k hk
    refine ⟨marks S.length (fun k => decide (PlT.FCore S.length E L (isIn S) k)), by rw [marks_len]; exact Nat.le_refl _, fun w hS hSr => ⟨?_, ?_⟩⟩
    · refine (fcore_ok E L v hE hL h1 S h2 A c w hS hSr).mono fun e w' => ?_
      rintro ⟨g, f, rfl, _, hb, hf, hB⟩
      rw [h0]
      rw [key f hf] at hb
      exact lp_blk (by simp [marks_len]) hb hB
    · refine (rfcore_ok E L v hE hL h1 S h2 A c w hS hSr).mono fun e w' => ?_
      rintro ⟨g, f, rfl, _, hb, hf, hB⟩
      rw [h0]
      rw [key f hf] at hb
      exact lp_blk (by simp [marks_len]) hb hB
  · exact ⟨[], Nat.zero_le _, fun w hS _ => ⟨(fcore_err E L v hE hL A S.length c _ h0 rfl w hS).mono fun _ _ h => lp_nil h, (rfcore_err E L v hE hL A S.length c _ h0 rfl w hS).mono fun _ _ h => lp_nil h⟩⟩
end

set_option maxRecDepth 100000 in
set_option maxHeartbeats 2000000 in
theorem findscore_law (w : World) (E : List Nat) (L : List (List Arc)) (v : Value) (hE : WfE E) (hV : WfV L) (hS : SpaceAt w w.heap.size v E L) (S : List Bool) (A : Option Addr) (c : Nat) (_hm : S.length ≤ 9223372036854775807)
    (hSr : Reads w w.heap.size 1 A S.length (S.map Value.bool)) :
    Calls Try.prog 3 #[v, .slice A S.length c] w fun e w' => e = .returned (.bool true) ∧ Below w.heap.size w w' := by
  have HS := Lib.hid hS
  obtain ⟨ve, va, rfl, ⟨Ae, ce, rfl, re⟩, ⟨Aa, ca, rows, rfl, ra, hk⟩⟩ := hS
  have HE := Lib.hid hE
  have HV := Lib.hid hV
  have SR := Lib.hid hSr
  clear re ra hk hE hV hSr
  have hb0 := (Below.refl w.heap.size w).alloc (Nat.le_refl _) (.cells #[.slice Ae E.length ce, .slice Aa L.length ca] 25)
  have HB0 := Lib.hid hb0
  clear hb0
  cases h1 : lightB E L S.length
  · have H1 := Lib.hid h1
    clear h1
    go_enter Try.func3, Try.ntmps3
    go_wp2_with fail
    refine (light_is E L _ A S.length c false H1.out _ (HS.out.go HB0.out)).mono ?_
    rintro e w1 ⟨rfl, hb1⟩
    have HB1 := Lib.hid (below_end hb1 HB0.out)
    clear hb1
    go_wp2_with fail
    refine (awake_any _).mono ?_
    rintro e w2 ⟨rfl, hb2⟩
    go_wp2
    go_ret
    exact ⟨rfl, below_end hb2 HB1.out⟩
  · have H1 := Lib.hid h1
    have HL := Lib.hid (wfl_light HV.out h1)
    have hn : S.length ≤ 130 := (light_parts h1).2.2.1
    clear h1
    obtain ⟨q, hq, hC⟩ := core_both E L (.agg #[.slice Ae E.length ce, .slice Aa L.length ca]) HE.out HL.out S A c
    have HC := Lib.hid hC
    have tz : (chk E L S.length == chk E L S.length) = true := beq_self_eq_true _
    clear hC
    generalize chk E L S.length = z at *
    go_enter Try.func3, Try.ntmps3
    go_wp2_with fail
    refine (light_is E L _ A S.length c true H1.out _ (HS.out.go HB0.out)).mono ?_
    rintro e w1 ⟨rfl, hb1⟩
    have hM1 := ((Mem.start w).new 25 #[.slice Ae E.length ce, .slice Aa L.length ca]).below hb1
    obtain ⟨p0, p1, pf⟩ := blk2 (hM1.get 0 rfl).2
    have HM1 := Lib.hid hM1
    clear hb1 hM1 HB0
    go_wp2_with fail
    refine (HC.out _ (HS.out.go HM1.out.bel) (SR.out.go HM1.out.bel)).1.mono ?_
    rintro e w2 ⟨A2, c2, rfl, hr2, hb2⟩
    have hM2 := HM1.out.below hb2
    have HR2 := Lib.hid hr2
    clear p0 p1 pf
    obtain ⟨p0, p1, pf⟩ := blk2 (hM2.get 0 rfl).2
    have HM2 := Lib.hid hM2
    clear hM2 hb2 hr2 HM1
    go_wp2_with fail
    refine (HC.out _ (HS.out.go HM2.out.bel) (SR.out.go HM2.out.bel)).2.mono ?_
    rintro e w3 ⟨A3, c3, rfl, hr3, hb3⟩
    have HM3 := Lib.hid (HM2.out.below hb3)
    have HR23 := Lib.hid ((HR2.out.below hb3).more hb3.size)
    have HR3 := Lib.hid hr3
    clear p0 p1 pf hb3 hr3 HM2 HR2
    go_wp2_with fail
    refine (awake_any _).mono ?_
    rintro e w4 ⟨rfl, hb4⟩
    have HM4 := Lib.hid (HM3.out.below hb4)
    have HR24 := Lib.hid (HR23.out.below hb4)
    have HR34 := Lib.hid (HR3.out.below hb4)
    clear hb4 HM3 HR23 HR3
    go_wp2_with fail
    refine (same_n q q.length rfl (by omega) A2 A3 c2 c3 _ _ _ HR24.out HR34.out).mono ?_
    rintro e w5 ⟨rfl, d, rfl⟩
    have HF := Lib.hid (below_drewN HM4.out.bel d)
    clear HM4 HR24 HR34
    go_wp2
    go_ret
    exact ⟨rfl, HF.out⟩
set_option maxRecDepth 100000 in
set_option maxHeartbeats 2000000 in
theorem findscomps_law (w : World) (E : List Nat) (L : List (List Arc)) (v : Value) (hE : WfE E) (hV : WfV L) (hS : SpaceAt w w.heap.size v E L) (S : List Bool) (A : Option Addr) (c : Nat) (_hm : S.length ≤ 9223372036854775807)
    (hSr : Reads w w.heap.size 1 A S.length (S.map Value.bool)) :
    Calls Try.prog 8 #[v, .slice A S.length c] w fun e w' => e = .returned (.bool true) ∧ Below w.heap.size w w' := by
  have HS := Lib.hid hS
  obtain ⟨ve, va, rfl, ⟨Ae, ce, rfl, re⟩, ⟨Aa, ca, rows, rfl, ra, hk⟩⟩ := hS
  have HE := Lib.hid hE
  have HV := Lib.hid hV
  have SR := Lib.hid hSr
  clear re ra hk hE hV hSr
  have hb0 := (Below.refl w.heap.size w).alloc (Nat.le_refl _) (.cells #[.slice Ae E.length ce, .slice Aa L.length ca] 25)
  have HB0 := Lib.hid hb0
  clear hb0
  cases h1 : lightB E L S.length
  · have H1 := Lib.hid h1
    clear h1
    go_enter Try.func8, Try.ntmps8
    go_wp2_with fail
    refine (light_is E L _ A S.length c false H1.out _ (HS.out.go HB0.out)).mono ?_
    rintro e w1 ⟨rfl, hb1⟩
    have HB1 := Lib.hid (below_end hb1 HB0.out)
    clear hb1
    go_wp2_with fail
    refine (awake_any _).mono ?_
    rintro e w2 ⟨rfl, hb2⟩
    go_wp2
    go_ret
    exact ⟨rfl, below_end hb2 HB1.out⟩
  · have H1 := Lib.hid h1
    have HL := Lib.hid (wfl_light HV.out h1)
    have hn : S.length ≤ 130 := (light_parts h1).2.2.1
    clear h1
    obtain ⟨q, hq, hC⟩ := comps_both E L (.agg #[.slice Ae E.length ce, .slice Aa L.length ca]) HE.out HL.out S A c
    obtain ⟨q', hq', hC'⟩ := kept_both E L (.agg #[.slice Ae E.length ce, .slice Aa L.length ca]) HE.out HL.out S A c
    have HC := Lib.hid hC
    have HC' := Lib.hid hC'
    have tz : (chk E L S.length == chk E L S.length) = true := beq_self_eq_true _
    clear hC hC'
    generalize chk E L S.length = z at *
    go_enter Try.func8, Try.ntmps8
    go_wp2_with fail
    refine (light_is E L _ A S.length c true H1.out _ (HS.out.go HB0.out)).mono ?_
    rintro e w1 ⟨rfl, hb1⟩
    have hM1 := ((Mem.start w).new 25 #[.slice Ae E.length ce, .slice Aa L.length ca]).below hb1
    obtain ⟨p0, p1, pf⟩ := blk2 (hM1.get 0 rfl).2
    have HM1 := Lib.hid hM1
    clear hb1 hM1 HB0
    go_wp2_with fail
    refine (HC.out _ (HS.out.go HM1.out.bel) (SR.out.go HM1.out.bel)).1.mono ?_
    rintro e w2 ⟨A2, c2, rfl, hr2, hb2⟩
    have hM2 := HM1.out.below hb2
    have HR2 := Lib.hid hr2
    clear p0 p1 pf
    obtain ⟨p0, p1, pf⟩ := blk2 (hM2.get 0 rfl).2
    have HM2 := Lib.hid hM2
    clear hM2 hb2 hr2 HM1
    go_wp2_with fail
    refine (HC.out _ (HS.out.go HM2.out.bel) (SR.out.go HM2.out.bel)).2.mono ?_
    rintro e w3 ⟨A3, c3, rfl, hr3, hb3⟩
    have hM3 := HM2.out.below hb3
    have HR23 := Lib.hid ((HR2.out.below hb3).more hb3.size)
    have HR3 := Lib.hid hr3
    clear p0 p1 pf hb3 hr3 HM2 HR2
    obtain ⟨p0, p1, pf⟩ := blk2 (hM3.get 0 rfl).2
    have HM3 := Lib.hid hM3
    clear hM3
    go_wp2_with fail
    refine (HC'.out _ (HS.out.go HM3.out.bel) (SR.out.go HM3.out.bel)).1.mono ?_
    rintro e w4 ⟨A4, c4, rfl, hr4, hb4⟩
    have hM4 := HM3.out.below hb4
    have HR24 := Lib.hid ((HR23.out.below hb4).more hb4.size)
    have HR34 := Lib.hid ((HR3.out.below hb4).more hb4.size)
    have HR4 := Lib.hid hr4
    clear p0 p1 pf hb4 hr4 HM3 HR23 HR3
    obtain ⟨p0, p1, pf⟩ := blk2 (hM4.get 0 rfl).2
    have HM4 := Lib.hid hM4
    clear hM4
    go_wp2_with fail
    refine (HC'.out _ (HS.out.go HM4.out.bel) (SR.out.go HM4.out.bel)).2.mono ?_
    rintro e w5 ⟨A5, c5, rfl, hr5, hb5⟩
    have HM5 := Lib.hid (HM4.out.below hb5)
    have HR25 := Lib.hid ((HR24.out.below hb5).more hb5.size)
    have HR35 := Lib.hid ((HR34.out.below hb5).more hb5.size)
    have HR45 := Lib.hid ((HR4.out.below hb5).more hb5.size)
    have HR5 := Lib.hid hr5
    clear p0 p1 pf hb5 hr5 HM4 HR24 HR34 HR4
    go_wp2_with fail
    refine (awake_any _).mono ?_
    rintro e w6 ⟨rfl, hb6⟩
    have HM6 := Lib.hid (HM5.out.below hb6)
    have HR26 := Lib.hid (HR25.out.below hb6)
    have HR36 := Lib.hid (HR35.out.below hb6)
    have HR46 := Lib.hid (HR45.out.below hb6)
    have HR56 := Lib.hid (HR5.out.below hb6)
    clear hb6 HM5 HR25 HR35 HR45 HR5
    go_wp2_with fail
    refine (sameInts_n q q.length rfl (by omega) A2 A3 c2 c3 _ _ _ HR26.out HR36.out).mono ?_
    rintro e w7 ⟨rfl, d, rfl⟩
    have HF := Lib.hid (below_drewN HM6.out.bel d)
    have HR47 := Lib.hid (HR46.out.drewN d)
    have HR57 := Lib.hid (HR56.out.drewN d)
    clear HM6 HR26 HR36 HR46 HR56
    generalize w6.drewN d = w7 at *
    go_wp2_with fail
    refine (same_n q' q'.length rfl (by omega) A4 A5 c4 c5 _ _ _ HR47.out HR57.out).mono ?_
    rintro e w8 ⟨rfl, d, rfl⟩
    have HF2 := Lib.hid (below_drewN HF.out d)
    clear HF HR47 HR57
    go_wp2
    go_ret
    exact ⟨rfl, HF2.out⟩
end Go.Proofs.Ytnjbofahboopoaa
