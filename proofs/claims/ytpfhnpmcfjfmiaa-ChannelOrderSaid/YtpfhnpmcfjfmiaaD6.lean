/- channel.Send. -/
import Derived.Test.YtpfhnpmcfjfmiaaD5
namespace Go.Proofs.Ytpfhnpmcfjfmiaa
open Go.RowKit

/-- a channel and a bool -/
def StepPost (w : World) (cap : Int) (Q : List (List Int)) (b : Bool) (e : Ending) (w' : World) : Prop :=
  ∃ (vi : Value) (vs : List Value), e = .returned (.tuple #[.agg #[.int .i64 cap, vi], .bool b]) ∧ w'.ownsRow w.heap.size 25 1 vi Q.length vs ∧ RowsB w' vs Q ∧ Below w.heap.size w w'
theorem own_base {w : World} {base base' e n : Nat} {v : Value} {xs : List Value} (h : w.ownsRow base e 1 v n xs) (hb : base' ≤ base) : w.ownsRow base' e 1 v n xs :=
  ⟨h.1, h.2.imp id fun ⟨g, c, cur, e1, hg, hr⟩ => ⟨g, c, cur, e1, Nat.le_trans hb hg, hr⟩⟩

theorem chan_nil {w : World} {B : Nat} {cap : Int} : ChanAt w B (.agg #[.int .i64 cap, .slice none 0 0]) cap [] := ⟨_, rfl, none, 0, [], rfl, Reads.none_, fun k q h => by simp at h⟩
theorem two_new (w : World) (t0 t1 : Nat) (c0 c1 : Array Value) :
    Blk ((w.alloc (.cells c0 t0)).alloc (.cells c1 t1)) w.heap.size t0 c0 ∧ Blk ((w.alloc (.cells c0 t0)).alloc (.cells c1 t1)) (w.heap.size + 1) t1 c1 ∧ Below w.heap.size w ((w.alloc (.cells c0 t0)).alloc (.cells c1 t1)) := by
  have a0 := Blk.new w t0 c0
  have a1 := Blk.new (w.alloc (.cells c0 t0)) t1 c1
  simp only [World.size_alloc] at a1
  exact ⟨a0.alloc _, a1, ((Below.refl _ _).alloc (Nat.le_refl _) _).alloc (by simp only [World.size_alloc]; omega) _⟩

/-- the channel's cells stored into the result's variable -/
theorem step_end {w w2 : World} {base : Nat} {cap : Int} {Q : List (List Int)} {vi : Value} {vs : List Value} {b : Bool} {g : Nat} {cs : Array Value} (ho : w2.ownsRow base 25 1 vi Q.length vs) (rb : RowsB w2 vs Q)
    (hb : Blk w2 g 24 cs) (hB : Below w.heap.size w w2) (hbs : w.heap.size ≤ base) (hg : w.heap.size ≤ g := by omega) :
    StepPost w cap Q b (.returned (.tuple #[.agg #[.int .i64 cap, vi], .bool b])) ((w2.setCell ⟨g, 0, none⟩ (.int .i64 cap)).setCell ⟨g, 1, none⟩ vi) := by
  have h2 := ho.kept (set_grown _ ⟨g, 0, none⟩ (.int .i64 cap) g) (.inr (own_blk_ne ho hb (by decide)))
  have r2 := rb.set hb (by decide) 0 (.int .i64 cap)
  have b2 := hb.set_ 0 (.int .i64 cap)
  have h3 := h2.kept (set_grown _ ⟨g, 1, none⟩ vi g) (.inr (own_blk_ne h2 b2 (by decide)))
  have r3 := r2.set b2 (by decide) 1 vi
  exact ⟨_, vs, rfl, own_base h3 hbs, r3, (hB.setCell hg _).setCell hg _⟩
theorem own_form {w : World} {base e n : Nat} {v : Value} {xs : List Value} (ho : w.ownsRow base e 1 v n xs) : ∃ (A : Option Addr) (c : Nat), v = .slice A n c := by
  rcases ho.2 with ⟨rfl, e0⟩ | ⟨g', cap, cur, rfl, _⟩
  · rw [e0]; exact ⟨_, _, rfl⟩
  · exact ⟨_, _, rfl⟩

set_option maxHeartbeats 1000000 in
theorem send_bad (cap : Int) (Q : List (List Int)) (hv : vldC cap Q = false) (v vi : Value) (w : World) (hC : ChanAt w w.heap.size v cap Q) :
    Calls Try.prog 9 #[v, vi] w (StepPost w 0 [] false) := by
  have HC := Lib.hid hC
  obtain ⟨vq, rfl, A, c, rows, rfl, hr, hk⟩ := hC
  have HV := Lib.hid hv
  clear hr hk hv
  obtain ⟨b0, b1, hB0⟩ := two_new w 24 24 #[.int .i64 cap, .slice A Q.length c] #[.int .i64 0, .slice none 0 0]
  have HB0 := Lib.hid hB0
  clear hB0
  go_enter Try.func9, Try.ntmps9
  go_wp2_with fail
  refine (cvalid_is cap Q _ false HV.out _ (HC.out.go HB0.out)).mono ?_
  rintro e w1 ⟨rfl, hb1⟩
  have HB1 := Lib.hid (below_end hb1 HB0.out)
  have b11 := b1.below hb1 b1.lt
  obtain ⟨q0, q1, qf⟩ := blk2 b11
  clear hb1 b0 b1 b11
  go_wp2
  refine bodyPost_ret (v := .tuple #[.agg #[.int .i64 0, .slice none 0 0], .bool false]) ?_ rfl ⟨_, [], rfl, World.ownsRow_nil _ _ _ _, RowsB.nil _, ?_⟩
  · simp [results, Try.results9, go_sem, q0, q1]
  · exact (HB1.out.setCell (by simp) _).setCell (by simp) _

set_option maxHeartbeats 1000000 in
theorem send_full (cap : Int) (Q : List (List Int)) (hv : vldC cap Q = true) (q : List Int) (hf : (Q.length : Int) = cap ∨ 6 < q.length) (v : Value) (Ai : Option Addr) (ci : Nat) (w : World) (hC : ChanAt w w.heap.size v cap Q) :
    Calls Try.prog 9 #[v, .slice Ai q.length ci] w (StepPost w cap Q false) := by
  have HC := Lib.hid hC
  obtain ⟨vq, rfl, A, c, rows, rfl, hr, hk⟩ := hC
  have HV := Lib.hid hv
  obtain ⟨v1, v2, v3, v4⟩ := vldC_parts hv
  have HQ := Lib.hid (fun k h => Nat.le_trans (v4 k h) (show 6 ≤ 1000000 by decide))
  clear hr hk hv v4
  obtain ⟨b0, b1, hB0⟩ := two_new w 24 24 #[.int .i64 cap, .slice A Q.length c] #[.int .i64 0, .slice none 0 0]
  have HB0 := Lib.hid hB0
  clear hB0
  go_enter Try.func9, Try.ntmps9
  go_wp2_with fail
  refine (cvalid_is cap Q _ true HV.out _ (HC.out.go HB0.out)).mono ?_
  rintro e w1 ⟨rfl, hb1⟩
  have HB1 := Lib.hid (below_end hb1 HB0.out)
  have b01 := b0.below hb1 b0.lt
  have b11 := b1.below hb1 b1.lt
  clear hb1 b0 b1
  obtain ⟨p0, p1, pf⟩ := blk2 b01
  go_wp2_with fail
  refine (copiedAll_any cap Q (by omega) HQ.out _ _ (HC.out.go HB1.out)).mono ?_
  rintro e w2 ⟨vi2, vs, rfl, ho, rb, hb2⟩
  have HB2 := Lib.hid (below_end hb2 HB1.out)
  have b02 := b01.below hb2 b01.lt
  have b12 := b11.below hb2 b11.lt
  obtain ⟨Av, cv, rfl⟩ := own_form ho
  clear p0 p1 pf b01 b11 hb2
  have l3 := b02.lt
  go_upto_region 4 with fail
  generalize hW : World.alloc _ _ = W3
  have hos : W3.ownsRow w1.heap.size 25 1 (.slice Av Q.length cv) Q.length vs := by rw [← hW]; exact ho.alloc _
  have rbs : RowsB W3 vs Q := by rw [← hW]; exact rb.keep fun _ _ h => h.alloc _
  have b03 : Blk W3 w.heap.size 24 #[.int .i64 cap, .slice A Q.length c] := by rw [← hW]; exact b02.alloc _
  have b13 : Blk W3 (w.heap.size + 1) 24 #[.int .i64 0, .slice none 0 0] := by rw [← hW]; exact b12.alloc _
  have bg : Blk W3 w2.heap.size 24 #[.int .i64 cap, .slice Av Q.length cv] := by rw [← hW]; exact Blk.new _ _ _
  have hB3 : Below w.heap.size w W3 := by rw [← hW]; exact HB2.out.alloc HB2.out.size _
  clear hW ho rb b02 b12 HB2
  have HP := Lib.hid (step_end (b := false) (cap := cap) hos rbs b13 hB3 HB1.out.size)
  clear hos rbs hB3
  obtain ⟨p0, p1, pf⟩ := blk2 b03
  obtain ⟨q0, q1, qf⟩ := blk2 b13
  obtain ⟨g0, g1, gf⟩ := blk2 bg
  rcases hf with hf | hf
  · have t1 : ((Q.length : Int) == cap) = true := by simp [hf]
    clear hf
    go_wp2
    refine bodyPost_ret (v := .tuple #[.agg #[.int .i64 cap, .slice Av Q.length cv], .bool false]) ?_ rfl HP.out
    simp [results, Try.results9, go_sem, q0, q1]
  · by_cases t1 : (Q.length : Int) = cap
    all_goals
      first
        | (have t1' : ((Q.length : Int) == cap) = true := by simp [t1]
           have T1 := Lib.hid t1)
        | (have t1' : ((Q.length : Int) == cap) = false := beq_eq_false_iff_ne.2 t1)
      clear t1
      go_wp2
      refine bodyPost_ret (v := .tuple #[.agg #[.int .i64 cap, .slice Av Q.length cv], .bool false]) ?_ rfl HP.out
      simp [results, Try.results9, go_sem, q0, q1]
set_option maxHeartbeats 1000000 in
theorem send_ok (cap : Int) (Q : List (List Int)) (hv : vldC cap Q = true) (q : List Int) (hf1 : (Q.length : Int) ≠ cap) (hf2 : q.length ≤ 6) (v : Value) (Ai : Option Addr) (ci : Nat) (w : World) (hC : ChanAt w w.heap.size v cap Q) (hi : Reads w w.heap.size 1 Ai q.length (q.map Iz)) :
    Calls Try.prog 9 #[v, .slice Ai q.length ci] w (StepPost w cap (Q ++ [q]) true) := by
  have HC := Lib.hid hC
  obtain ⟨vq, rfl, A, c, rows, rfl, hr, hk⟩ := hC
  have HV := Lib.hid hv
  have HI := Lib.hid hi
  clear hi
  obtain ⟨v1, v2, v3, v4⟩ := vldC_parts hv
  have HQ := Lib.hid (fun k h => Nat.le_trans (v4 k h) (show 6 ≤ 1000000 by decide))
  clear hr hk hv v4
  obtain ⟨b0, b1, hB0⟩ := two_new w 24 24 #[.int .i64 cap, .slice A Q.length c] #[.int .i64 0, .slice none 0 0]
  have HB0 := Lib.hid hB0
  clear hB0
  go_enter Try.func9, Try.ntmps9
  go_wp2_with fail
  refine (cvalid_is cap Q _ true HV.out _ (HC.out.go HB0.out)).mono ?_
  rintro e w1 ⟨rfl, hb1⟩
  have HB1 := Lib.hid (below_end hb1 HB0.out)
  have b01 := b0.below hb1 b0.lt
  have b11 := b1.below hb1 b1.lt
  clear hb1 b0 b1
  obtain ⟨p0, p1, pf⟩ := blk2 b01
  go_wp2_with fail
  refine (copiedAll_any cap Q (by omega) HQ.out _ _ (HC.out.go HB1.out)).mono ?_
  rintro e w2 ⟨vi2, vs, rfl, ho, rb, hb2⟩
  have HB2 := Lib.hid (below_end hb2 HB1.out)
  have HBz := Lib.hid hb2.size
  have hl21 : w.heap.size + 1 < w2.heap.size := Nat.lt_of_lt_of_le b11.lt hb2.size
  have b02 := b01.below hb2 b01.lt
  have b12 := b11.below hb2 b11.lt
  obtain ⟨Av, cv, rfl⟩ := own_form ho
  clear p0 p1 pf b01 b11 hb2
  have l3 := b02.lt
  go_upto_region 4 with fail
  generalize hW : World.alloc _ _ = W3
  have hos : W3.ownsRow w1.heap.size 25 1 (.slice Av Q.length cv) Q.length vs := by rw [← hW]; exact ho.alloc _
  have rbs : RowsB W3 vs Q := by rw [← hW]; exact rb.keep fun _ _ h => h.alloc _
  have b03 : Blk W3 w.heap.size 24 #[.int .i64 cap, .slice A Q.length c] := by rw [← hW]; exact b02.alloc _
  have b13 : Blk W3 (w.heap.size + 1) 24 #[.int .i64 0, .slice none 0 0] := by rw [← hW]; exact b12.alloc _
  have bg : Blk W3 w2.heap.size 24 #[.int .i64 cap, .slice Av Q.length cv] := by rw [← hW]; exact Blk.new _ _ _
  have hB3 : Below w.heap.size w W3 := by rw [← hW]; exact HB2.out.alloc HB2.out.size _
  clear hW ho rb b02 b12 HB2
  obtain ⟨p0, p1, pf⟩ := blk2 b03
  obtain ⟨g0, g1, gf⟩ := blk2 bg
  have t1 : ((Q.length : Int) == cap) = false := beq_eq_false_iff_ne.2 hf1
  have HO := Lib.hid hos
  have RB := Lib.hid rbs
  have BG := Lib.hid bg
  have B1 := Lib.hid b13
  have RK := Lib.hid (HI.out.go hB3)
  have HB := Lib.hid hB3
  have hgl := bg.lt
  have hb1s := HB1.out.size
  have hl23 : w1.heap.size ≤ W3.heap.size := Nat.le_trans HBz.out (Nat.le_of_lt hgl)
  obtain ⟨i0, hi0, hz0, hz1, hz2⟩ := info_parts Try.infoInts
  clear hos rbs hB3 bg b13 b03 hf1
  go_upto_region 6 with fail
  go_region_law (first
    | ((with_reducible refine step_append_any _ rfl (.tmp 26) (.tmp 29) 22 rfl w1.heap.size 25 i0 (.slice none 0 0) 1 24 Try.underlying22 hi0 hz0 hz1 hz2 rfl (by decide) (.slice Av Q.length cv) Q.length vs rfl ?_ (x1.heap.size + 1) (some ⟨x1.heap.size, 0, none⟩) 1 1 [.slice (some ⟨W3.heap.size, 0, none⟩) q.length q.length] rfl ?_ ?_ ?_ ?_ ?_ ?_); exact HO1.out.alloc _; exact reads_one _ _ _; exact one_S _ _ _; exact len_ok (by omega); omega; (simp; omega); intro v1 x2 ho2 hg2 hv2; obtain ⟨gv, cv2, rfl, -, -⟩ := ho2.form (by omega); have hgw : x1.grownBy x2 (Value.slice Av Q.length cv).ownBlock := (by first | exact grown_pre hg2 | exact grown_pre (grown_drew hg2)); have z1 := (BG1.out.grown hgw (Ne.symm (own_blk_ne HO1.out BG1.out (by decide)))); obtain ⟨y0, y1, yf⟩ := blk2 z1; have HO2 := Lib.hid ho2; have HG2 := Lib.hid hgw; have Z1 := Lib.hid z1; clear ho2 hg2 hv2 hgw z1)
    | (go_simp; go_at_call 23; (with_reducible refine (copied_any q (by omega) Ai ci _ ?_).mono ?_); (exact RK.out); rintro e x1 ⟨rfl, hbc, hx1⟩; have hx1 := below_of_drew hx1; have g1' := (hx1.cell (p := ⟨w2.heap.size, 1, none⟩) hgl).trans g1; have hxs := hx1.size; have hgl1 : w2.heap.size < x1.heap.size := Nat.lt_of_lt_of_le hgl hxs; have HO1 := Lib.hid (own_below' HO.out hx1); have RB1 := Lib.hid ((RB.out.below hx1).snoc hbc); have BG1 := Lib.hid (BG.out.below hx1 hgl); have B11 := Lib.hid (B1.out.below hx1 B1.out.lt); have HB1' := Lib.hid (below_end hx1 HB.out); clear hx1 hbc))
  all_goals
    have z2 := Z1.out.set_ 1 (.slice (some ⟨gv, 0, none⟩) (Q.length + 1) cv2)
    have ho3 := HO2.out.kept (set_grown x2 ⟨w2.heap.size, 1, none⟩ (.slice (some ⟨gv, 0, none⟩) (Q.length + 1) cv2) _) (.inr (own_blk_ne HO2.out Z1.out (by decide)))
    have rb3 := (RB1.out.own HO1.out (by decide) HG2.out).set Z1.out (by decide) 1 (.slice (some ⟨gv, 0, none⟩) (Q.length + 1) cv2)
    have b3 := (B11.out.grown HG2.out (Ne.symm (own_blk_ne HO1.out B11.out (by decide)))).far (p := ⟨w2.heap.size, 1, none⟩) (by show w.heap.size + 1 ≠ w2.heap.size; omega) (.slice (some ⟨gv, 0, none⟩) (Q.length + 1) cv2)
    have hB5 := (HB1'.out.grown HG2.out HB1'.out.size (fun b hb => Nat.le_trans hb1s (HO1.out.lt b hb).1)).setCell (p := ⟨w2.heap.size, 1, none⟩) (by show w.heap.size ≤ w2.heap.size; omega) (.slice (some ⟨gv, 0, none⟩) (Q.length + 1) cv2)
    have hlen : (Q ++ [q]).length = Q.length + 1 := by simp
    have HP := Lib.hid (step_end (b := true) (cap := cap) (by rw [hlen]; exact ho3) rb3 b3 hB5 hb1s)
    simp only [List.setIfInBounds_toArray, List.set_cons_succ, List.set_cons_zero] at z2
    obtain ⟨g0', g1'', gf'⟩ := blk2 z2
    obtain ⟨q0, q1, qf⟩ := blk2 b3
    clear ho3 rb3 b3 hB5 z2 hlen
    generalize World.setCell x2 _ _ = W5 at *
    go_wp2
    refine bodyPost_ret (v := .tuple #[.agg #[.int .i64 cap, .slice (some ⟨gv, 0, none⟩) (Q.length + 1) cv2], .bool true]) ?_ rfl HP.out
    simp [results, Try.results9, go_sem, q0, q1]
end Go.Proofs.Ytpfhnpmcfjfmiaa
