/- The walk of AccountAdds. -/
import Derived.Test.YthnjcnenncbagaaW6
import Derived.Deep.RegionHeld3
namespace Go.Proofs.Ythnjcnenncbagaa
open Go.RowKit

theorem addV_form (s m r b : Int) (p ch af : Nat) : ∃ (s' m' r' b' : Int) (p' : Nat) (e : Int), addV s m r b p ch af = .tuple #[cnt s' m' r' b' p', .int .i64 e] := by
  unfold addV
  split
  · exact ⟨_, _, _, _, _, _, rfl⟩
  · split
    · exact ⟨_, _, _, _, _, _, rfl⟩
    · split
      · exact ⟨_, _, _, _, _, _, rfl⟩
      · split <;> exact ⟨_, _, _, _, _, _, rfl⟩

theorem below_end {w W0 w' : World} (h : Below W0.heap.size W0 w') (h0 : Below w.heap.size w W0) : Below w.heap.size w w' := h0.trans (h.mono h0.size)

set_option maxHeartbeats 4000000 in
theorem adds_law (s m r b : Int) (p ch af : Nat) (hp : p < 4294967296) (hb : b ≤ 9223372036854775807) (hc : ch < 4294967296) (ha : af < 4294967296) (w : World) :
    Calls Try.prog 3 #[cnt s m r b p, .int .u32 ch, .int .u32 af] w fun e w' => e = .returned (.bool true) ∧ Below w.heap.size w w' := by
  obtain ⟨s', m', r', b', p', er, hv⟩ := addV_form s m r b p ch af
  have HV := Lib.hid hv
  clear hv
  unfold cnt
  go_enter Try.func3, Try.ntmps3
  go_wp2_with fail
  refine (add_any s m r b p ch af hp hc ha _).mono ?_
  rintro e w1 ⟨rfl, hb1⟩
  rw [HV.out]
  unfold cnt
  have bp1 := (Blk.new _ _ _).below hb1 (by simp)
  have hB1 := (Below.refl w.heap.size w).alloc (Nat.le_refl _) _ |>.trans (hb1.mono (by simp only [World.size_alloc]; omega))
  have HB1 := Lib.hid hB1
  have hn1 := bp1.lt
  obtain ⟨p0, p1, p2, p3, p4, pf⟩ := blk5 bp1
  clear hb1 hB1
  go_wp2_with fail
  refine (radd_any s m r b p ch af hp hb hc ha _).mono ?_
  rintro e w2 ⟨rfl, hb2⟩
  rw [HV.out]
  unfold cnt
  have bq2 := (Blk.new _ _ _).below hb2 (by simp)
  have bp2 := (bp1.alloc _).below hb2 (by simp only [World.size_alloc]; omega)
  have HB2 := Lib.hid ((HB1.out.alloc (Nat.le_of_lt hn1) _).trans (hb2.mono (by simp only [World.size_alloc]; omega)))
  have hn2 := bq2.lt
  clear hb2 p0 p1 p2 p3 p4 pf bp1 HB1
  obtain ⟨p0, p1, p2, p3, p4, pf⟩ := blk5 bp2
  go_wp2_with fail
  generalize hW : World.alloc _ _ = W0
  have bs : Blk W0 w2.heap.size 24 #[.int .i64 s', .int .i64 m', .int .i64 r', .int .i64 b', .int .u32 p'] := by rw [← hW]; exact Blk.new _ _ _
  have bq := bq2.alloc (Obj.cells #[.int .i64 s', .int .i64 m', .int .i64 r', .int .i64 b', .int .u32 p'] 24)
  have bp := bp2.alloc (Obj.cells #[.int .i64 s', .int .i64 m', .int .i64 r', .int .i64 b', .int .u32 p'] 24)
  rw [hW] at bq bp
  have HB := Lib.hid (show Below w.heap.size w W0 by rw [← hW]; exact HB2.out.alloc (by omega) _)
  clear hW HB2 p0 p1 p2 p3 p4 pf bp2 bq2
  obtain ⟨p0, p1, p2, p3, p4, pf⟩ := blk5 bp
  obtain ⟨q0, q1, q2, q3, q4, qf⟩ := blk5 bq
  obtain ⟨s0, s1, s2, s3, s4, sf⟩ := blk5 bs
  have np := bp.lt
  have nq := bq.lt
  have ns := bs.lt
  have rule := below_rule W0
  go_region_held3 (fun x => Below W0.heap.size W0 x) (first | exact Below.refl _ _ | exact Below.drew (Below.refl _ _) | assumption | exact below_step (by assumption) (by assumption))
    (first
      | (go_at_call 10; refine (awake_any _).mono ?_; rintro e x1 ⟨rfl, hx1⟩)
      | (go_at_call 11; refine (valid_any s m r b p hp _).mono ?_; rintro e x2 ⟨rfl, hx2⟩)
      | (go_at_call 12; refine (rvalid_any s m r b p hp hb _).mono ?_; rintro e x3 ⟨rfl, hx3⟩)
      | (go_at_call 13; refine (begin_any af ha _).mono ?_; rintro e x4 ⟨rfl, hx4⟩; unfold cnt)
      | (go_at_call 14; refine (rbegin_any af ha _).mono ?_; rintro e x5 ⟨rfl, hx5⟩; unfold cnt))
  go_wp2
  go_ret
  refine ⟨rfl, below_end ?_ HB.out⟩
  assumption
end Go.Proofs.Ythnjcnenncbagaa
