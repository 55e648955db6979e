/- Resolve. -/
import Derived.Test.YtdfklagiafmoiaaGreatDoorG33
namespace Go.Proofs.YtdfklagiafmoiaaGreatDoor
open Go.RowKit Go.Shelf
attribute [local go_sem] Oper.semAt_some

theorem low_any (n : Nat) (h : n < 4294967296) : bits .and .u32 (n : Int) (-(n : Int) % 4294967296) = ((lowS n : Nat) : Int) := by
  unfold lowS
  by_cases h0 : n = 0
  · subst h0; rw [if_pos rfl]; decide
  · rw [if_neg h0]; exact low_bits (by omega) h
theorem greedy_skip (l : List Nat) (s t : Nat) : ∀ d, (∀ i, t ≤ i → i < t + d → s.testBit i = false) → greedy l s (t + d) = greedy l s t
  | 0, _ => rfl
  | d + 1, h => by
    rw [show t + (d + 1) = (t + d) + 1 from rfl]
    have e : greedy l s (t + d + 1) = greedy l s (t + d) := if_neg (fun hc => by have := h (t + d) (by omega) (by omega); rw [this] at hc; cases hc.1)
    rw [e]
    exact greedy_skip l s t d fun i h1 h2 => h i h1 (by omega)
def GrI (w : World) (l : List Nat) (s c : Nat) (A : Option Addr) (t : Nat) (W : World) : Prop :=
  t ≤ 32 ∧ Blk W w.heap.size 63 #[.slice A l.length c] ∧ Blk W (w.heap.size + 1) 34 #[.int .u32 (greedy l s t : Int)] ∧ Below w.heap.size w W ∧ w.heap.size + 3 ≤ W.heap.size
section
variable (g : Gr) (hg : GrOk g) (kind : Int) (en wish : Nat) (hen : ∀ i, en.testBit i = true → i < g.ports.length) (hw : wish < 4294967296) (A : Option Addr) (c : Nat) (w : World)
include hg hen hw
set_option maxRecDepth 100000 in
set_option maxHeartbeats 8000000 in
theorem resolve_in (ht : TzAt w) (hn : U32At w w.heap.size (.slice A (nets g).length c) (nets g)) :
    CallsIn Fence.wide 9 Tryz.prog 44 #[.slice A (nets g).length c, .int .i64 kind, .int .u32 (en : Int), .int .u32 (wish : Int)] w fun e w' => e = .returned (.int .u32 (resZ g kind en wish)) ∧ Below w.heap.size w w' := by
  have hgn := hg.hi
  have hen32 : en < 4294967296 := lt_bits fun i hi => by have := hen i hi; omega
  have e1 := u32_and_nat wish en hw hen32
  have e2 := low_any en hen32
  have hln : (nets g).length = g.ports.length := by simp [nets]
  obtain ⟨w1, hw1⟩ : ∃ w1, wish &&& en = w1 := ⟨_, rfl⟩
  obtain ⟨w2, hw2⟩ : ∃ w2, (if w1 = 0 then lowS en else w1) = w2 := ⟨_, rfl⟩
  have HR := Lib.hid (show resZ g kind en wish = (if kind = 1 then lowS w2 else if kind = 2 then greedy (nets g) w2 32 else if kind = 4 then en else w2) from by unfold resZ; simp only [hw1, hw2])
  have hin : ∀ i, w2.testBit i = true → en.testBit i = true := by
    rw [← hw2]
    split
    · intro i hi
      by_cases h0 : en = 0
      · subst h0; unfold lowS at hi; rw [if_pos rfl, Nat.zero_testBit] at hi; cases hi
      · rw [lowS_bit h0 hen32] at hi
        have : i = tz en := by simpa using hi
        subst this
        exact (low_of (Nat.pos_of_ne_zero h0) hen32).at_
    · intro i hi; rw [← hw1, Nat.testBit_and] at hi; simp at hi; exact hi.2
  have w32 : w2 < 4294967296 := lt_bits fun i hi => by have := hen i (hin i hi); omega
  have HIN := Lib.hid (show ∀ i, w2.testBit i = true → i < (nets g).length from fun i hi => by rw [hln]; exact hen i (hin i hi))
  have e3 := low_any w2 w32
  rw [hw1] at e1
  have HLT := Lib.hid (show ∀ x ∈ nets g, x < 4294967296 from fun x hx => by
    unfold nets at hx
    obtain ⟨v, hv, rfl⟩ := List.mem_map.1 hx
    have hv := List.mem_range.1 hv
    refine lt_bits fun i hi => ?_
    have := (nbr_sym hg hv hi).1; omega)
  have hl24 : (nets g).length ≤ 24 := by omega
  generalize nets g = l at *
  generalize resZ g kind en wish = R at *
  have HN := Lib.hid hn
  have HT := Lib.hid ht
  have W32 := Lib.hid w32
  clear hn ht hin hw1 hen hg hgn hln hw
  have hc : (w1 = 0 ∧ bits .and .u32 (en : Int) (-(en : Int) % 4294967296) = (w2 : Int)) ∨ ((((w1 : Int) == 0) = false) ∧ w2 = w1) := by
    by_cases h0 : w1 = 0
    · left; rw [if_pos h0] at hw2; rw [hw2] at e2; exact ⟨h0, e2⟩
    · right; rw [if_neg h0] at hw2; exact ⟨beq_eq_false_iff_ne.2 (by omega), hw2.symm⟩
  clear hw2 e2
  refine callsIn_of_wp_marks Tryz.func44 rfl trivial ?_ rfl
  simp only [Tryz.ntmps44, List.size_toArray, List.length_cons, List.length_nil, Nat.reduceAdd, Nat.reduceSub, Array.replicate_succ, Array.replicate_zero, List.push_toArray, List.append_toArray, List.nil_append, List.cons_append]
  by_cases hk1 : kind = 1
  · subst hk1
    rw [if_pos rfl] at HR
    rcases hc with ⟨rfl, e2⟩ | ⟨b0, rfl⟩
    all_goals
      gi_wp2
      exact ⟨_, results_tmp rfl _ _ _, by rw [HR.out]; rfl, balloc (Below.refl _ _) _⟩
  · have k1 : (kind == 1) = false := beq_eq_false_iff_ne.2 hk1
    rw [if_neg hk1] at HR
    by_cases hk2 : kind = 2
    · subst hk2
      rw [if_pos rfl] at HR
      clear e3 k1 hk1
      have HM := Lib.hid ((((Mem.start w).new 63 #[.slice A l.length c]).new 34 #[.int .u32 0]).new 34 #[.int .u32 (w2 : Int)])
      have HSZ := Lib.hid (show (((w.alloc (.cells #[.slice A l.length c] 63)).alloc (.cells #[.int .u32 0] 34)).alloc (.cells #[.int .u32 (w2 : Int)] 34)).heap.size = w.heap.size + 3 from by simp only [World.size_alloc])
      have HM4 := Lib.hid (show Mem w [cB w.heap.size (w.heap.size + 1 + 1) 34 #[.int .u32 (w2 : Int)], cB w.heap.size (w.heap.size + 1) 34 #[.int .u32 0], cB w.heap.size w.heap.size 63 #[.slice A l.length c]] _ from by
        have h := HM.out
        simp only [World.size_alloc] at h
        exact h)
      clear HM
      rcases hc with ⟨rfl, e2⟩ | ⟨b0, rfl⟩
      · gi_wp2_with (refine ⟨trivial, ?_⟩; gi_at_call 76; refine (callsIn_wide.2 (nodes0_p _ _)).mono ?_; rintro e w' ⟨rfl, rfl⟩)
        generalize World.alloc (World.alloc (World.alloc _ _) _) _ = X0 at *
        have hsz := HSZ.out
        have hb0 := (HM4.out.get 0 rfl).2
        try clear e2
        try clear b0
        clear e1
        refine wpIn_nodes 7 (w.heap.size + 1 + 1) _ W32.out rfl rfl (by omega) hb0 (GrI w l w2 c A) (fun _ => False) ?hI_1 ?hIx_1 ?hTz_1 ?hsz_1 ?h0_1 ?a1_1 ?assign_1 ?body_1 ?done_1 ?stop_1
        case assign_1 =>
          intro l' v W K hK
          gi_wp2
          exact hK
        case hI_1 =>
          rintro t W W' ⟨h1, h2, h3, h5, h6⟩ ho
          exact ⟨h1, ho.blk (by omega) (by omega) h2, ho.blk (by omega) (by omega) h3, ho.below (by omega) (by omega) h5, Nat.le_trans h6 ho.2.2.2.1⟩
        case hIx_1 => exact fun _ _ h _ => h
        case hTz_1 =>
          rintro t W ⟨_, _, _, h5, _⟩
          exact HT.out.below h5 HT.out.1
        case hsz_1 =>
          rintro t W ⟨_, _, _, _, h6⟩
          omega
        case h0_1 => exact ⟨by omega, (HM4.out.get 2 rfl).2, (HM4.out.get 1 rfl).2, HM4.out.bel, by omega⟩
        case stop_1 => exact fun _ _ h => h.elim
        case body_1 =>
          rintro l' t v W htv hv ⟨h1, h2, h3, h5, h6⟩ hbit hgap
          have hvl := HIN.out v hbit
          obtain ⟨ad, hA, hb, d0⟩ := u32_at (U32At.to (Holds_.go h5) HN.out) hvl
          subst hA
          have hsk : greedy l w2 v = greedy l w2 t := by
            have := greedy_skip l w2 t (v - t) (fun i hi1 hi2 => hgap i hi1 (by omega))
            rwa [show t + (v - t) = v from by omega] at this
          have hT32 : greedy l w2 t < 4294967296 := lt_bits fun i hi => by have := (greedy_in l w2 t i hi).2; omega
          have hgd : l.getD v 0 = l[v]'hvl := by rw [List.getD_eq_getElem?_getD, List.getElem?_eq_getElem hvl]; rfl
          have hnx : greedy l w2 (v + 1) = if l[v]'hvl &&& greedy l w2 t = 0 then greedy l w2 t ||| 2 ^ v else greedy l w2 t := by
            rw [show greedy l w2 (v + 1) = if w2.testBit v = true ∧ l.getD v 0 &&& greedy l w2 v = 0 then greedy l w2 v ||| 2 ^ v else greedy l w2 v from rfl, hsk, hgd]
            by_cases h : l[v]'hvl &&& greedy l w2 t = 0
            · rw [if_pos ⟨hbit, h⟩, if_pos h]
            · rw [if_neg (fun hh => h hh.2), if_neg h]
          have HNX := Lib.hid hnx
          have hxl := HLT.out _ (List.getElem_mem hvl)
          obtain ⟨T, hTk⟩ : ∃ T, greedy l w2 t = T := ⟨_, rfl⟩
          obtain ⟨x, hx⟩ : ∃ x, l[v]'hvl = x := ⟨_, rfl⟩
          rw [hTk] at h3 hT32 HNX
          rw [hx] at d0 hxl HNX
          have e1 := u32_and_nat x T hxl hT32
          obtain ⟨y, hy⟩ : ∃ y, x &&& T = y := ⟨_, rfl⟩
          rw [hy] at e1 HNX
          have c2 : W.cell? ⟨w.heap.size, 0, none⟩ = some (.slice (some ad) l.length c) := h2.cell 0
          have c3 : W.cell? ⟨w.heap.size + 1, 0, none⟩ = some (.int .u32 (T : Int)) := h3.cell 0
          have f3 := h3.frozen 0
          have v0 : (0 : Int) ≤ (v : Int) := by omega
          have v1 : (v : Int) < (l.length : Int) := by omega
          have hor := or_bit T v hT32 hv
          have H2 := Lib.hid h2
          have H3 := Lib.hid h3
          have H5 := Lib.hid h5
          have H6 := Lib.hid h6
          have HV := Lib.hid hv
          clear hx hy hgd h1 h2 h3 h5 h6 hgap hsk hnx hTk hT32 hxl hv htv
          have hmx : Tryz.prog.follows .mixedOrders = true := by kernel_rfl
          by_cases hy0 : y = 0
          · subst hy0
            rw [if_pos rfl] at HNX
            gi_wp2
            gi_region_with_o (fail)
            all_goals gi_wp2
            all_goals gi_region_with_o (fail)
            all_goals gi_wp2
            all_goals
              refine ⟨⟨HV.out, H2.out.far (by dsimp only; omega) _, ?_, ?_, by simpa [World.setCell] using H6.out⟩, Below.heap_setCell W ⟨w.heap.size + 1, 0, none⟩ _ _ (show w.heap.size + 1 + 1 ≠ w.heap.size + 1 from by omega), fun k hk _ => Below.heap_setCell W ⟨w.heap.size + 1, 0, none⟩ _ k (show k ≠ w.heap.size + 1 from by omega)⟩
              · rw [HNX.out]
                first | rw [hor] | rw [show IntKind.u32.wrap (2 ^ v) = 2 ^ v % 4294967296 from rfl, hor]
                exact H3.out.set_ 0 _
              · have hB := H5.out.setCell (p := ⟨w.heap.size + 1, 0, none⟩) (show w.heap.size ≤ w.heap.size + 1 from by omega)
                first | exact (hB _).drew | exact (hB _).drew.drew
          · have e2 : ((y : Int) == 0) = false := beq_eq_false_iff_ne.2 (by omega)
            rw [if_neg hy0] at HNX
            gi_wp2
            gi_region_with_o (fail)
            all_goals gi_wp2
            all_goals exact ⟨⟨HV.out, H2.out, by rw [HNX.out]; exact H3.out, H5.out.drew, H6.out⟩, rfl, fun _ _ _ => rfl⟩
        case done_1 =>
          rintro D t W hno ⟨h1, h2, h3, h5, h6⟩ hK hD
          have hfin : greedy l w2 32 = greedy l w2 t := by
            have := greedy_skip l w2 t (32 - t) (fun i hi1 _ => hno i hi1)
            rwa [show t + (32 - t) = 32 from by omega] at this
          rw [hfin] at HR
          have c3 : W.cell? ⟨w.heap.size + 1, 0, none⟩ = some (.int .u32 (greedy l w2 t : Int)) := h3.cell 0
          clear hfin hno h2 h3
          gi_wp2
          refine ⟨by simp, .inl ⟨_, _, rfl, run_takeDeferred hK, ?_⟩⟩
          refine ⟨_, results_tmp rfl _ _ _, by rw [HR.out]; rfl, ?_⟩
          exact belowK_b (w := w) (Nat.le_refl _) _ D _ _ (by omega) hK rfl rfl |> h5.trans
      · gi_wp2_with (refine ⟨trivial, ?_⟩; gi_at_call 76; refine (callsIn_wide.2 (nodes0_p _ _)).mono ?_; rintro e w' ⟨rfl, rfl⟩)
        generalize World.alloc (World.alloc (World.alloc _ _) _) _ = X0 at *
        have hsz := HSZ.out
        have hb0 := (HM4.out.get 0 rfl).2
        try clear e2
        try clear b0
        clear e1
        refine wpIn_nodes 7 (w.heap.size + 1 + 1) _ W32.out rfl rfl (by omega) hb0 (GrI w l w2 c A) (fun _ => False) ?hI_2 ?hIx_2 ?hTz_2 ?hsz_2 ?h0_2 ?a1_2 ?assign_2 ?body_2 ?done_2 ?stop_2
        case assign_2 =>
          intro l' v W K hK
          gi_wp2
          exact hK
        case hI_2 =>
          rintro t W W' ⟨h1, h2, h3, h5, h6⟩ ho
          exact ⟨h1, ho.blk (by omega) (by omega) h2, ho.blk (by omega) (by omega) h3, ho.below (by omega) (by omega) h5, Nat.le_trans h6 ho.2.2.2.1⟩
        case hIx_2 => exact fun _ _ h _ => h
        case hTz_2 =>
          rintro t W ⟨_, _, _, h5, _⟩
          exact HT.out.below h5 HT.out.1
        case hsz_2 =>
          rintro t W ⟨_, _, _, _, h6⟩
          omega
        case h0_2 => exact ⟨by omega, (HM4.out.get 2 rfl).2, (HM4.out.get 1 rfl).2, HM4.out.bel, by omega⟩
        case stop_2 => exact fun _ _ h => h.elim
        case body_2 =>
          rintro l' t v W htv hv ⟨h1, h2, h3, h5, h6⟩ hbit hgap
          have hvl := HIN.out v hbit
          obtain ⟨ad, hA, hb, d0⟩ := u32_at (U32At.to (Holds_.go h5) HN.out) hvl
          subst hA
          have hsk : greedy l w2 v = greedy l w2 t := by
            have := greedy_skip l w2 t (v - t) (fun i hi1 hi2 => hgap i hi1 (by omega))
            rwa [show t + (v - t) = v from by omega] at this
          have hT32 : greedy l w2 t < 4294967296 := lt_bits fun i hi => by have := (greedy_in l w2 t i hi).2; omega
          have hgd : l.getD v 0 = l[v]'hvl := by rw [List.getD_eq_getElem?_getD, List.getElem?_eq_getElem hvl]; rfl
          have hnx : greedy l w2 (v + 1) = if l[v]'hvl &&& greedy l w2 t = 0 then greedy l w2 t ||| 2 ^ v else greedy l w2 t := by
            rw [show greedy l w2 (v + 1) = if w2.testBit v = true ∧ l.getD v 0 &&& greedy l w2 v = 0 then greedy l w2 v ||| 2 ^ v else greedy l w2 v from rfl, hsk, hgd]
            by_cases h : l[v]'hvl &&& greedy l w2 t = 0
            · rw [if_pos ⟨hbit, h⟩, if_pos h]
            · rw [if_neg (fun hh => h hh.2), if_neg h]
          have HNX := Lib.hid hnx
          have hxl := HLT.out _ (List.getElem_mem hvl)
          obtain ⟨T, hTk⟩ : ∃ T, greedy l w2 t = T := ⟨_, rfl⟩
          obtain ⟨x, hx⟩ : ∃ x, l[v]'hvl = x := ⟨_, rfl⟩
          rw [hTk] at h3 hT32 HNX
          rw [hx] at d0 hxl HNX
          have e1 := u32_and_nat x T hxl hT32
          obtain ⟨y, hy⟩ : ∃ y, x &&& T = y := ⟨_, rfl⟩
          rw [hy] at e1 HNX
          have c2 : W.cell? ⟨w.heap.size, 0, none⟩ = some (.slice (some ad) l.length c) := h2.cell 0
          have c3 : W.cell? ⟨w.heap.size + 1, 0, none⟩ = some (.int .u32 (T : Int)) := h3.cell 0
          have f3 := h3.frozen 0
          have v0 : (0 : Int) ≤ (v : Int) := by omega
          have v1 : (v : Int) < (l.length : Int) := by omega
          have hor := or_bit T v hT32 hv
          have H2 := Lib.hid h2
          have H3 := Lib.hid h3
          have H5 := Lib.hid h5
          have H6 := Lib.hid h6
          have HV := Lib.hid hv
          clear hx hy hgd h1 h2 h3 h5 h6 hgap hsk hnx hTk hT32 hxl hv htv
          have hmx : Tryz.prog.follows .mixedOrders = true := by kernel_rfl
          by_cases hy0 : y = 0
          · subst hy0
            rw [if_pos rfl] at HNX
            gi_wp2
            gi_region_with_o (fail)
            all_goals gi_wp2
            all_goals gi_region_with_o (fail)
            all_goals gi_wp2
            all_goals
              refine ⟨⟨HV.out, H2.out.far (by dsimp only; omega) _, ?_, ?_, by simpa [World.setCell] using H6.out⟩, Below.heap_setCell W ⟨w.heap.size + 1, 0, none⟩ _ _ (show w.heap.size + 1 + 1 ≠ w.heap.size + 1 from by omega), fun k hk _ => Below.heap_setCell W ⟨w.heap.size + 1, 0, none⟩ _ k (show k ≠ w.heap.size + 1 from by omega)⟩
              · rw [HNX.out]
                first | rw [hor] | rw [show IntKind.u32.wrap (2 ^ v) = 2 ^ v % 4294967296 from rfl, hor]
                exact H3.out.set_ 0 _
              · have hB := H5.out.setCell (p := ⟨w.heap.size + 1, 0, none⟩) (show w.heap.size ≤ w.heap.size + 1 from by omega)
                first | exact (hB _).drew | exact (hB _).drew.drew
          · have e2 : ((y : Int) == 0) = false := beq_eq_false_iff_ne.2 (by omega)
            rw [if_neg hy0] at HNX
            gi_wp2
            gi_region_with_o (fail)
            all_goals gi_wp2
            all_goals exact ⟨⟨HV.out, H2.out, by rw [HNX.out]; exact H3.out, H5.out.drew, H6.out⟩, rfl, fun _ _ _ => rfl⟩
        case done_2 =>
          rintro D t W hno ⟨h1, h2, h3, h5, h6⟩ hK hD
          have hfin : greedy l w2 32 = greedy l w2 t := by
            have := greedy_skip l w2 t (32 - t) (fun i hi1 _ => hno i hi1)
            rwa [show t + (32 - t) = 32 from by omega] at this
          rw [hfin] at HR
          have c3 : W.cell? ⟨w.heap.size + 1, 0, none⟩ = some (.int .u32 (greedy l w2 t : Int)) := h3.cell 0
          clear hfin hno h2 h3
          gi_wp2
          refine ⟨by simp, .inl ⟨_, _, rfl, run_takeDeferred hK, ?_⟩⟩
          refine ⟨_, results_tmp rfl _ _ _, by rw [HR.out]; rfl, ?_⟩
          exact belowK_b (w := w) (Nat.le_refl _) _ D _ _ (by omega) hK rfl rfl |> h5.trans
    · have k2 : (kind == 2) = false := beq_eq_false_iff_ne.2 hk2
      rw [if_neg hk2] at HR
      by_cases hk4 : kind = 4
      · subst hk4
        rw [if_pos rfl] at HR
        rcases hc with ⟨rfl, e2⟩ | ⟨b0, rfl⟩
        all_goals
          gi_wp2
          exact ⟨_, results_tmp rfl _ _ _, by rw [HR.out]; rfl, balloc (Below.refl _ _) _⟩
      · have k4 : (kind == 4) = false := beq_eq_false_iff_ne.2 hk4
        rw [if_neg hk4] at HR
        rcases hc with ⟨rfl, e2⟩ | ⟨b0, rfl⟩
        all_goals
          gi_wp2
          exact ⟨_, results_tmp rfl _ _ _, by rw [HR.out]; rfl, balloc (Below.refl _ _) _⟩
theorem resolve_p (ht : TzAt w) (hn : U32At w w.heap.size (.slice A (nets g).length c) (nets g)) :
    Calls Tryz.prog 44 #[.slice A (nets g).length c, .int .i64 kind, .int .u32 (en : Int), .int .u32 (wish : Int)] w fun e w' => e = .returned (.int .u32 (resZ g kind en wish)) ∧ Below w.heap.size w w' :=
  callsIn_wide.1 (resolve_in g hg kind en wish hen hw A c w ht hn)
end
end Go.Proofs.YtdfklagiafmoiaaGreatDoor
