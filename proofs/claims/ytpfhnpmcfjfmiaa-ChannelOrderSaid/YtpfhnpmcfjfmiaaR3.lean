/- ref41.Lose. -/
import Derived.Test.YtpfhnpmcfjfmiaaR2
namespace Go.Proofs.Ytpfhnpmcfjfmiaa
open Go.RowKit

theorem add_add' (a : Addr) (m n : Nat) : (a.add m).add n = a.add (m + n) := by
  unfold Addr.add
  by_cases hm : m = 0
  · subst hm; simp
  · by_cases hn : n = 0
    · subst hn; simp
    · rw [if_neg hm, if_neg hn, if_neg (by omega)]
      simp only [Nat.add_assoc]
theorem reads_takeG {x : World} {B n i : Nat} {ad : Addr} {xs : List Value} (h : Reads x B 1 (some ad) n xs) (hi : i ≤ n) : Reads x B 1 (some ad) i (xs.take i) := by
  refine ⟨by rw [List.length_take]; have := h.1; omega, fun h0 => ?_⟩
  obtain ⟨ad', hA, hB, hc⟩ := h.2 (by omega)
  refine ⟨ad', hA, hB, fun k u hu => hc k u ?_⟩
  rw [List.getElem?_take] at hu
  split at hu
  · exact hu
  · cases hu
theorem reads_dropG {x : World} {B n i c : Nat} {ad : Addr} {xs : List Value} (h : Reads x B 1 (some ad) n xs) (hi : i ≤ n) (hc : n ≤ c) : Reads x B 1 (if c = i then some ad else some (ad.add i)) (n - i) (xs.drop i) := by
  refine ⟨by rw [List.length_drop]; have := h.1; omega, fun h0 => ?_⟩
  rw [if_neg (by omega)]
  obtain ⟨ad', hA, hB, hc⟩ := h.2 (by omega)
  injection hA with hA
  subst hA
  refine ⟨_, rfl, by rw [block_of_add]; exact hB, fun k u hu => ?_⟩
  rw [add_add']
  exact hc _ u (by rw [List.getElem?_drop] at hu; exact hu)
theorem rows_erase {N : Nat → Prop} {w : World} {Q : List (List Int)} {rows : List Value} {a : Nat} (_ha : a < Q.length) (_hl : rows.length = Q.length * 1) (hk : ∀ (k : Nat) q, Q[k]? = some q → ∃ u, rows[k]? = some u ∧ IntsOff N w u q) :
    ∀ (k : Nat) q, (Q.eraseIdx a)[k]? = some q → ∃ u, ([] ++ rows.take a ++ rows.drop (a + 1))[k]? = some u ∧ IntsOff N w u q := by
  intro k q h
  rw [List.nil_append, ← List.eraseIdx_eq_take_drop_succ]
  rw [List.getElem?_eraseIdx] at h ⊢
  split at h
  · rw [if_pos ‹_›]; exact hk _ q h
  · rw [if_neg ‹_›]; exact hk _ q h

set_option maxHeartbeats 1000000 in
theorem rlose_bad (N : Nat → Prop) (cap : Int) (Q : List (List Int)) (hv : vldC cap Q = false) (v : Value) (a : Int) (w : World) (hO : ChanOff N w v cap Q) :
    Calls Try.prog 14 #[v, .int .i64 a] w (RefPost N w 0 [] false) := by
  have hC := hO.at
  clear hO
  have HC := Lib.hid hC
  obtain ⟨vq, rfl, A, c, rows, rfl, hr, hk⟩ := hC
  have HV := Lib.hid hv
  clear hr hk hv
  obtain ⟨b0, b1, hB0⟩ := two_new w 24 24 #[.int .i64 cap, .slice A Q.length c] #[.int .i64 0, .slice none 0 0]
  have HB0 := Lib.hid hB0
  clear hB0
  go_enter Try.func14, Try.ntmps14
  go_wp2_with fail
  refine (crvalid_is cap Q _ false HV.out _ (HC.out.go HB0.out)).mono ?_
  rintro e w1 ⟨rfl, hb1⟩
  have HB1 := Lib.hid (below_end hb1 HB0.out)
  have b11 := b1.below hb1 b1.lt
  obtain ⟨q0, q1, qf⟩ := blk2 b11
  clear hb1 b0 b1 b11
  go_wp2
  refine bodyPost_ret (v := .tuple #[.agg #[.int .i64 0, .slice none 0 0], .bool false]) ?_ rfl ⟨_, rfl, coff_nil, CapOk.mk (Nat.le_refl _), ?_⟩
  · simp [results, Try.results14, go_sem, q0, q1]
  · exact (HB1.out.setCell (by simp) _).setCell (by simp) _

set_option maxHeartbeats 1000000 in
theorem rlose_out (N : Nat → Prop) (cap : Int) (Q : List (List Int)) (hv : vldC cap Q = true) (a : Int) (ha : a < 0 ∨ (Q.length : Int) ≤ a) (v : Value) (w : World) (hO : ChanOff N w v cap Q) (hcp : CapOk v) :
    Calls Try.prog 14 #[v, .int .i64 a] w (RefPost N w cap Q false) := by
  have HO := Lib.hid hO
  have hC := hO.at
  clear hO
  have HC := Lib.hid hC
  obtain ⟨vq, rfl, A, c, rows, rfl, hr, hk⟩ := hC
  have HV := Lib.hid hv
  have HCP := Lib.hid hcp
  obtain ⟨v1, v2, v3, v4⟩ := vldC_parts hv
  clear hr hk hv hcp v4
  obtain ⟨b0, b1, hB0⟩ := two_new w 24 24 #[.int .i64 cap, .slice A Q.length c] #[.int .i64 0, .slice none 0 0]
  have HB0 := Lib.hid hB0
  clear hB0
  go_enter Try.func14, Try.ntmps14
  go_wp2_with fail
  refine (crvalid_is cap Q _ true HV.out _ (HC.out.go HB0.out)).mono ?_
  rintro e w1 ⟨rfl, hb1⟩
  have HB1 := Lib.hid (below_end hb1 HB0.out)
  have b01 := b0.below hb1 b0.lt
  have b11 := b1.below hb1 b1.lt
  clear hb1 b0 b1
  obtain ⟨p0, p1, pf⟩ := blk2 b01
  obtain ⟨q0, q1, qf⟩ := blk2 b11
  have HB2 := Lib.hid ((HB1.out.setCell (p := ⟨w.heap.size + 1, 0, none⟩) (by simp) (.int .i64 cap)).setCell (p := ⟨w.heap.size + 1, 1, none⟩) (by simp) (.slice A Q.length c))
  have HD := Lib.hid (show (decide ((0 : Int) ≤ a) && decide (a ≤ (Q.length : Int) - 1)) = false by
    rcases ha with h | h
    · rw [decide_eq_false (by omega)]; rfl
    · rw [decide_eq_false (show ¬ a ≤ (Q.length : Int) - 1 by omega), Bool.and_false])
  have z1 := IntWalk.i64_in ((Q.length : Int) - 1) (by omega)
  clear ha
  go_wp2_with fail
  refine (in_any _ _ _ _).mono ?_
  rintro e w2 ⟨rfl, rfl⟩
  rw [HD.out]
  go_wp2
  refine bodyPost_ret (v := .tuple #[.agg #[.int .i64 cap, .slice A Q.length c], .bool false]) ?_ rfl ⟨_, rfl, HO.out.go (.of_below HB2.out), HCP.out, HB2.out⟩
  simp [results, Try.results14, go_sem, q0, q1]

set_option maxHeartbeats 2000000 in
theorem rlose_ok (N : Nat → Prop) (cap : Int) (Q : List (List Int)) (hv : vldC cap Q = true) (a : Nat) (ha : a < Q.length) (v : Value) (w : World) (hN : ∀ b, N b → b < w.heap.size) (hO : ChanOff N w v cap Q) (hcp : CapOk v) :
    Calls Try.prog 14 #[v, .int .i64 a] w (RefPost N w cap (Q.eraseIdx a) true) := by
  have HC := Lib.hid hO.at
  have HN := Lib.hid hN
  obtain ⟨vq, rfl, A, c, rows, rfl, hro, hko⟩ := hO
  have hr := hro.1
  have hk := fun k q h => let ⟨u, h1, h2⟩ := hko k q h; (⟨u, h1, h2.at⟩ : ∃ u, rows[k]? = some u ∧ IntsAt w w.heap.size u q)
  have HV := Lib.hid hv
  have hc := hcp _ _ _ _ rfl
  obtain ⟨v1, v2, v3, v4⟩ := vldC_parts hv
  obtain ⟨ad, hA, hab, -⟩ := hr.2 (by omega)
  subst hA
  have HR := Lib.hid hr
  have HK := Lib.hid hko
  have HONE := Lib.hid (rows_one hr hk)
  clear hr hk hv hcp v4 hro hko hN
  obtain ⟨b0, b1, hB0⟩ := two_new w 24 24 #[.int .i64 cap, .slice (some ad) Q.length c] #[.int .i64 0, .slice none 0 0]
  have HB0 := Lib.hid hB0
  clear hB0
  obtain ⟨i0, hi0, hz0, hz1, hz2⟩ := info_parts Try.infoInts
  go_enter Try.func14, Try.ntmps14
  go_wp2_with fail
  refine (crvalid_is cap Q _ true HV.out _ (HC.out.go HB0.out)).mono ?_
  rintro e w1 ⟨rfl, hb1⟩
  have HB1 := Lib.hid (below_end hb1 HB0.out)
  have b01 := b0.below hb1 b0.lt
  have b11 := b1.below hb1 b1.lt
  clear hb1 b0 b1
  obtain ⟨p0, p1, pf⟩ := blk2 b01
  obtain ⟨q0, q1, qf⟩ := blk2 b11
  have HD := Lib.hid (show (decide ((0 : Int) ≤ (a : Int)) && decide ((a : Int) ≤ (Q.length : Int) - 1)) = true by rw [decide_eq_true (by omega), decide_eq_true (by omega)]; rfl)
  have z1 := IntWalk.i64_in ((Q.length : Int) - 1) (by omega)
  have z2 := IntWalk.i64_in ((a : Int) + 1) (by omega)
  have a0 : (0 : Int) ≤ (a : Int) := by omega
  have a1 : (a : Int) ≤ (c : Int) := by omega
  have a2 : (0 : Int) ≤ (a : Int) + 1 := by omega
  have a3 : (a : Int) + 1 ≤ (Q.length : Int) := by omega
  have a4 : ((a : Int) + 1).toNat = a + 1 := by omega
  have HRS := Lib.hid (fun X (h : Below w1.heap.size w1 X) => HR.out.below (below_end h HB1.out))
  have l0 := b01.lt
  have l1 := b11.lt
  have hbz := HB1.out.size
  have B11 := Lib.hid b11
  clear b01 b11
  go_wp2_with fail
  refine (in_any _ _ _ _).mono ?_
  rintro e w2 ⟨rfl, rfl⟩
  rw [HD.out]
  go_upto_region 5 with fail
  have rule := grown_rule w1 (w.heap.size + 1)
  have rule2 := grown_rule2 w1 (w.heap.size + 1)
  have l4 : w.heap.size ≠ w.heap.size + 1 := by omega
  have HLN := Lib.hid (show 0 + a ≤ maxLen from len_ok (by omega))
  have HLN1 := Lib.hid (show 0 + a + (Q.length - (a + 1)) ≤ maxLen from len_ok (by omega))
  have HT1 := Lib.hid (fun X (h : Below w1.heap.size w1 X) => reads_takeG (HRS.out X h) (show a ≤ Q.length by omega))
  have HT2 := Lib.hid (fun X (h : Below w1.heap.size w1 X) => reads_dropG (HRS.out X h) (show a + 1 ≤ Q.length by omega) hc)
  have HO1 := Lib.hid (fun u (hu : u ∈ rows.take a) => HONE.out u (List.mem_of_mem_take hu))
  have HO2 := Lib.hid (fun u (hu : u ∈ rows.drop (a + 1)) => HONE.out u (List.mem_of_mem_drop hu))
  go_region_held3 (fun x => w1.grownBy x (some (w.heap.size + 1))) (first | exact World.grownBy.refl _ _ | exact grown_drw (World.grownBy.refl _ _) | assumption | exact galloc (by assumption) _ | exact grown_put (grown_put (by assumption) _ _) _ _) (first
    | ((with_reducible refine step_app_b w1 rfl (.tmp 20) (.tmp 24) 22 rfl 25 i0 (.slice none 0 0) 24 Try.underlying22 hi0 hz0 hz1 hz2 rfl (.slice (some ⟨w1.heap.size, 0, none⟩) 0 0) 0 [] rfl ?_ ?_ w.heap.size (some ad) a c (rows.take a) rfl ?_ ?_ ?_ ?_ ?_); exact own_eA _ _; exact bel1 _ _; exact HT1.out _ (bel1 _ _); exact HO1.out; exact HLN.out; omega; intro v5 x5 ho5 hx5 hg5; have HG5 := gbelow (b := w.heap.size + 1) hx5)
    | ((with_reducible refine step_app_b w1 rfl (.tmp 25) (.tmp 30) 22 rfl 25 i0 (.slice none 0 0) 24 Try.underlying22 hi0 hz0 hz1 hz2 rfl v5 (0 + a) ([] ++ rows.take a) rfl ?_ ?_ w.heap.size (if c = a + 1 then some ad else some (ad.add (a + 1))) (Q.length - (a + 1)) (c - (a + 1)) (rows.drop (a + 1)) rfl ?_ ?_ ?_ ?_ ?_); exact ho5; exact hx5; exact HT2.out _ hx5; exact HO2.out; exact HLN1.out; omega; intro v6 x6 ho6 hx6 hg6; obtain ⟨A6, c6, rfl⟩ := own_form ho6; obtain ⟨r0, r1, rf⟩ := blk2 (B11.out.below hx6 l1); have HG6 := gbelow (b := w.heap.size + 1) hx6))
  all_goals
    have HP := Lib.hid (ref_end (Q := Q.eraseIdx a) (cap := cap) (b := true) ho6 (by rw [List.length_eraseIdx, if_pos ha]; omega) (rows_erase ha HR.out.1 HK.out) (B11.out.below hx6 l1) (below_end hx6 HB1.out) (by omega) HN.out HB1.out.size)
    rw [Nat.zero_add] at HP
    clear ho6 hx6 hg6 HG6 ho5 hx5 hg5 HG5 rule rule2
    go_wp2
    all_goals
      refine bodyPost_ret (v := .tuple #[.agg #[.int .i64 cap, .slice A6 (a + (Q.length - (a + 1))) c6], .bool true]) ?_ rfl HP.out
      simp [results, Try.results14, go_sem, r0, r1]
end Go.Proofs.Ytpfhnpmcfjfmiaa
