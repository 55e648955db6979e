/- channel.without. -/
import Derived.Test.YtpfhnpmcfjfmiaaD3
namespace Go.Proofs.Ytpfhnpmcfjfmiaa
open Go.RowKit

theorem wo_skip (Q : List (List Int)) (a k : Nat) (hk : k < Q.length) (h : k = a) : (Q.take (k + 1)).eraseIdx a = (Q.take k).eraseIdx a := by
  subst h
  rw [List.take_succ_eq_append_getElem hk, List.eraseIdx_append_of_length_le (by simp; omega), List.eraseIdx_of_length_le (l := Q.take k) (by simp; omega)]
  simp [Nat.min_eq_left (Nat.le_of_lt hk)]
theorem wo_add (Q : List (List Int)) (a k : Nat) (hk : k < Q.length) (h : k ≠ a) : (Q.take (k + 1)).eraseIdx a = (Q.take k).eraseIdx a ++ [Q[k]] := by
  rw [List.take_succ_eq_append_getElem hk]
  rcases Nat.lt_or_gt_of_ne h with h1 | h1
  · rw [List.eraseIdx_of_length_le (by simp; omega), List.eraseIdx_of_length_le (l := Q.take k) (by simp; omega)]
  · rw [List.eraseIdx_append_of_lt_length (by simp; omega)]
theorem wo_len (Q : List (List Int)) (a k : Nat) : ((Q.take k).eraseIdx a).length ≤ k := Nat.le_trans (List.length_eraseIdx_le _ _) (by simp; omega)
theorem one_S (A : Option Addr) (n c : Nat) : ∀ u ∈ [Value.slice A n c], u.oneCell' = true := by simp [Value.oneCell']
theorem reads_one (w : World) (t : TypeId) (u : Value) : Reads (w.alloc (.cells #[u] t)) (w.heap.size + 1) 1 (some ⟨w.heap.size, 0, none⟩) 1 [u] := reads_new1 w t u

theorem set_grown (w : World) (a : Addr) (u : Value) (b : Nat) (hb : a.block = b := by rfl) : w.grownBy (w.setCell a u) (some b) :=
  ⟨rfl, rfl, rfl, by simp [World.setCell], fun j _ hne => Below.heap_setCell w _ u j (by rintro rfl; exact hne (by rw [hb]))⟩

set_option maxHeartbeats 1000000 in
theorem without_any (cap : Int) (Q : List (List Int)) (hQ : Q.length ≤ 1000000) (hq : ∀ k (h : k < Q.length), Q[k].length ≤ 1000000) (a : Nat) (v : Value) (w : World) (hC : ChanAt w w.heap.size v cap Q) :
    Calls Try.prog 24 #[v, .int .i64 a] w (ChanOwn w cap (Q.eraseIdx a)) := by
  obtain ⟨vi, rfl, A, c, rows, rfl, hr, hk⟩ := hC
  have HR := Lib.hid hr
  have HK := Lib.hid hk
  have HQ := Lib.hid hq
  clear hr hk hq
  obtain ⟨i0, hi0, hz0, hz1, hz2⟩ := info_parts Try.infoInts
  go_enter Try.func24, Try.ntmps24
  go_wp2_with fail
  go_loopw [14] (fun i wr => ∃ (k m : Nat) (vs : List Value) (v : Value), k ≤ Q.length ∧ i = .int .i64 k ∧ m = ((Q.take k).eraseIdx a).length ∧ wr.ownsRow w.heap.size 25 1 v m vs ∧ RowsB wr vs ((Q.take k).eraseIdx a) ∧
      Blk wr (w.heap.size + 1 + 1) 24 #[.int .i64 cap, v] ∧ Blk wr (w.heap.size + 1) 24 #[.int .i64 0, .slice none 0 0] ∧ Below w.heap.size w wr) (fun i _ => Q.length - (intOf i).toNat)
  case atStart =>
    have a0 := Blk.new w 24 #[.int .i64 cap, .slice A Q.length c]
    have a1 := Blk.new (w.alloc (.cells #[.int .i64 cap, .slice A Q.length c] 24)) 24 #[.int .i64 0, .slice none 0 0]
    have a2 := Blk.new ((w.alloc (.cells #[.int .i64 cap, .slice A Q.length c] 24)).alloc (.cells #[.int .i64 0, .slice none 0 0] 24)) 24 #[.int .i64 cap, .slice none 0 0]
    simp only [World.size_alloc] at a1 a2
    exact ⟨0, 0, [], _, Nat.zero_le _, rfl, rfl, World.ownsRow_nil _ _ _ _, RowsB.nil _, a2, a1.alloc _, (((Below.refl _ _).alloc (Nat.le_refl _) _).alloc (by simp only [World.size_alloc]; omega) _).alloc (by simp only [World.size_alloc]; omega) _⟩
  case round =>
    obtain ⟨k, m, vs, v, hk, rfl, hm, ho, rb, bg, b1, hB⟩ := hrel
    have HM := Lib.hid hm
    have hml : m ≤ k := by rw [hm]; exact wo_len Q a k
    clear hm
    by_cases hlt : k < Q.length
    · obtain ⟨ad, Ak, ck, rfl, hbl, cr, rk⟩ := qrow_at (HR.out.below hB) (fun k l hl => let ⟨u, hu, ha⟩ := HK.out k l hl; (⟨u, hu, ha.below hB⟩ : ∃ u, rows[k]? = some u ∧ IntsAt wr w.heap.size u l)) hlt
      have k0 : (0 : Int) ≤ (k : Int) := by omega
      have k1 : (k : Int) < (Q.length : Int) := by omega
      have HB := Lib.hid hB
      by_cases hka : k = a
      · have t1 : ((k : Int) != (a : Int)) = false := by simp [hka]
        have HE := Lib.hid (wo_skip Q a k hlt hka)
        clear hka hB rk
        go_wp2
        refine ⟨⟨k + 1, m, vs, v, by omega, by go_num, by rw [HE.out]; exact HM.out, ho, by rw [HE.out]; exact rb, bg, b1, HB.out⟩, by simp [intOf]; omega⟩
      · have t1 : ((k : Int) != (a : Int)) = true := by rw [bne_iff_ne]; omega
        have HE := Lib.hid (wo_add Q a k hlt hka)
        have hql := HQ.out k hlt
        generalize Q[k] = q at *
        have RK := Lib.hid (rk.more hB.size)
        obtain ⟨Av, cv, rfl⟩ : ∃ (A : Option Addr) (c : Nat), v = .slice A m c := by
          rcases ho.2 with ⟨rfl, e0⟩ | ⟨g', cap, cur, rfl, _⟩
          · rw [e0]; exact ⟨_, _, rfl⟩
          · exact ⟨_, _, rfl⟩
        obtain ⟨p0, p1, pf⟩ := blk2 bg
        have HO := Lib.hid ho
        have RB := Lib.hid rb
        have BG := Lib.hid bg
        have B1 := Lib.hid b1
        have hgl := bg.lt
        have hbz := hB.size
        clear hka hB rk ho rb bg b1
        go_upto_region 6 with fail
        go_region_law (first
          | ((with_reducible refine step_append_any _ rfl (.tmp 23) (.tmp 26) 22 rfl w.heap.size 25 i0 (.slice none 0 0) 1 24 Try.underlying22 hi0 hz0 hz1 hz2 rfl (by decide) (.slice Av m cv) m vs rfl ?_ (x1.heap.size + 1) (some ⟨x1.heap.size, 0, none⟩) 1 1 [.slice (some ⟨wr.heap.size, 0, none⟩) q.length q.length] rfl ?_ ?_ ?_ ?_ ?_ ?_); exact HO1.out.alloc _; exact reads_one _ _ _; exact one_S _ _ _; exact len_ok (by omega); omega; (simp; omega); intro v1 x2 ho2 hg2 hv2; obtain ⟨gv, cv2, rfl, -, -⟩ := ho2.form (by omega); have hgw : x1.grownBy x2 (Value.slice Av m cv).ownBlock := (by first | exact grown_pre hg2 | exact grown_pre (grown_drew hg2)); have z1 := (BG1.out.grown hgw (Ne.symm (own_blk_ne HO1.out BG1.out (by decide)))); obtain ⟨y0, y1, yf⟩ := blk2 z1; have HO2 := Lib.hid ho2; have HG2 := Lib.hid hgw; have Z1 := Lib.hid z1; clear ho2 hg2 hv2 hgw z1)
          | (go_simp; go_at_call 23; (with_reducible refine (copied_any q hql Ak ck _ ?_).mono ?_); (exact RK.out); rintro e x1 ⟨rfl, hbc, hx1⟩; have hx1 := below_of_drew hx1; have p1' := (hx1.cell (p := ⟨w.heap.size + 1 + 1, 1, none⟩) hgl).trans p1; have hxs := hx1.size; have hgl1 : w.heap.size + 1 + 1 < x1.heap.size := Nat.lt_of_lt_of_le hgl hxs; have HO1 := Lib.hid (own_below' HO.out hx1); have RB1 := Lib.hid ((RB.out.below hx1).snoc hbc); have BG1 := Lib.hid (BG.out.below hx1 hgl); have B11 := Lib.hid (B1.out.below hx1 B1.out.lt); have HB1 := Lib.hid (below_end hx1 HB.out); clear hx1 hbc))
        all_goals
          go_wp2
          refine ⟨⟨k + 1, m + 1, vs ++ [.slice (some ⟨wr.heap.size, 0, none⟩) q.length q.length], .slice (some ⟨gv, 0, none⟩) (m + 1) cv2, by omega, by go_num, by rw [HE.out, List.length_append, ← HM.out]; rfl, ?_, ?_, Z1.out.set_ 1 _, ?_, ?_⟩, by simp [intOf]; omega⟩
          · exact HO2.out.kept (set_grown x2 _ _ _) (.inr (own_blk_ne HO2.out Z1.out (by decide)))
          · rw [HE.out]
            exact (RB1.out.own HO1.out (by decide) HG2.out).set Z1.out (by decide) 1 _
          · exact (B11.out.grown HG2.out (Ne.symm (own_blk_ne HO1.out B11.out (by decide)))).far (by show w.heap.size + 1 ≠ w.heap.size + 1 + 1; omega) _
          · exact (HB1.out.grown HG2.out HB1.out.size (fun b hb => (HO1.out.lt b hb).1)).setCell (by simp; omega) _
    · obtain rfl : k = Q.length := by omega
      have HMM := Lib.hid (show m = (Q.eraseIdx a).length by have := HM.out; rw [List.take_length] at this; exact this)
      rw [List.take_length] at rb
      obtain ⟨Av, cv, rfl⟩ : ∃ (A : Option Addr) (c : Nat), v = .slice A m c := by
        rcases ho.2 with ⟨rfl, e0⟩ | ⟨g', cap, cur, rfl, _⟩
        · rw [e0]; exact ⟨_, _, rfl⟩
        · exact ⟨_, _, rfl⟩
      obtain ⟨p0, p1, pf⟩ := blk2 bg
      obtain ⟨q0, q1, qf⟩ := blk2 b1
      have ho2 := (ho.kept (set_grown wr ⟨w.heap.size + 1, 0, none⟩ (.int .i64 cap) _) (.inr (own_blk_ne ho b1 (by decide))))
      have ho3 := (ho2.kept (set_grown _ ⟨w.heap.size + 1, 1, none⟩ (.slice Av m cv) _) (.inr (own_blk_ne ho2 (b1.set_ 0 _) (by decide))))
      have HF := Lib.hid (show ChanOwn w cap (Q.eraseIdx a) (.returned (.agg #[.int .i64 cap, .slice Av m cv])) ((wr.setCell ⟨w.heap.size + 1, 0, none⟩ (.int .i64 cap)).setCell ⟨w.heap.size + 1, 1, none⟩ (.slice Av m cv)) from
        ⟨_, vs, rfl, by rw [← HMM.out]; exact ho3, ((rb.set b1 (by decide) 0 _).set (b1.set_ 0 _) (by decide) 1 _), (hB.setCell (by simp) _).setCell (by simp) _⟩)
      clear rb hB ho ho2 ho3 bg b1
      go_wp2
      refine bodyPost_ret (v := .agg #[.int .i64 cap, .slice Av m cv]) ?_ rfl HF.out
      simp [results, Try.results24, go_sem, q0, q1]
end Go.Proofs.Ytpfhnpmcfjfmiaa
