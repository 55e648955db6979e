/- The walk of AccountStaysValid. -/
import Derived.Test.YthnjcnenncbagaaL1
namespace Go.Proofs.Ythnjcnenncbagaa
open Go.RowKit

theorem addV_ok (s m r b : Int) (p ch af : Nat) (hv : Pl.valid s m r b p = true) (hc0 : 0 < ch) (hc : ch < 16777216) (ha : af < 16777216) (hs : s ≠ 4096) :
    ∃ (r' : Int) (p' : Nat), addV s m r b p ch af = .tuple #[cnt (s + 1) (m + Pl.pop ch) r' (r + 1) p', .int .i64 0] ∧ r ≤ r' ∧ r' ≤ r + 1 ∧ p' < 16777216 ∧ Pl.valid (s + 1) (m + Pl.pop ch) r' (r + 1) p' = true := by
  obtain ⟨h1, h2, h3, h4, h5, h6, h7, h8⟩ := Pl.valid_true hv
  have hp := Pl.pop_le24 ch hc
  have hp' := Pl.pop_pos ch (by omega) (by omega)
  have hr := Pl.rest_le p ch af
  unfold addV
  rw [if_neg (by rw [hv]; decide), if_neg (by omega), if_neg hs]
  split
  · exact ⟨r + 1, af, rfl, by omega, by omega, ha, decide_eq_true (by omega)⟩
  · exact ⟨r, Pl.rest p ch af, rfl, by omega, by omega, by omega, decide_eq_true (by omega)⟩

set_option maxHeartbeats 4000000 in
theorem stays_skip (s m r b : Int) (p ch af : Nat) (hp : p < 4294967296) (hb : b ≤ 9223372036854775807) (hc : ch < 4294967296) (ha : af < 4294967296)
    (h : Pl.valid s m r b p = false ∨ (Pl.valid s m r b p = true ∧ ch % 16777216 = 0) ∨ (Pl.valid s m r b p = true ∧ ch % 16777216 ≠ 0 ∧ s = 4096)) (w : World) :
    Calls Try.prog 4 #[cnt s m r b p, .int .u32 ch, .int .u32 af] w fun e w' => e = .returned (.bool true) ∧ Below w.heap.size w w' := by
  have m1 := Pl.and24 ch hc
  have m2 := Pl.and24 af ha
  have cl : ch % 16777216 < 16777216 := Nat.mod_lt _ (by decide)
  have al : af % 16777216 < 16777216 := Nat.mod_lt _ (by decide)
  generalize ch % 16777216 = c at *
  generalize af % 16777216 = a at *
  unfold cnt
  rcases h with h | ⟨h, hz⟩ | ⟨h, hz, hs⟩
  · have H := Lib.hid h
    clear h
    go_enter Try.func4, Try.ntmps4
    go_wp2_with (first | (go_at_call 15; refine (all24 _).mono ?_; rintro e w' ⟨rfl, rfl⟩) | (go_at_call 12; refine (rvalid_no s m r b p hp hb H.out _).mono ?_; rintro e w1 ⟨rfl, hb1⟩) | (go_at_call 10; refine (awake_any _).mono ?_; rintro e w2 ⟨rfl, hb2⟩))
    go_ret
    refine ⟨rfl, ?_⟩
    exact below_end hb2 (below_end hb1 ((Below.refl w.heap.size w).alloc (Nat.le_refl _) _))
  · have H := Lib.hid h
    clear h
    subst hz
    go_enter Try.func4, Try.ntmps4
    go_wp2_with (first | (go_at_call 15; refine (all24 _).mono ?_; rintro e w' ⟨rfl, rfl⟩) | (go_at_call 12; refine (rvalid_yes s m r b p hp H.out _).mono ?_; rintro e w1 ⟨rfl, hb1⟩) | (go_at_call 10; refine (awake_any _).mono ?_; rintro e w2 ⟨rfl, hb2⟩))
    go_ret
    refine ⟨rfl, ?_⟩
    exact below_end hb2 (below_end hb1 ((Below.refl w.heap.size w).alloc (Nat.le_refl _) _))
  · have H := Lib.hid h
    clear h
    subst hs
    have cz : ((c : Int) == 0) = false := beq_eq_false_iff_ne.2 (by omega)
    go_enter Try.func4, Try.ntmps4
    go_wp2_with (first | (go_at_call 15; refine (all24 _).mono ?_; rintro e w' ⟨rfl, rfl⟩) | (go_at_call 12; refine (rvalid_yes _ m r b p hp H.out _).mono ?_; rintro e w1 ⟨rfl, hb1⟩; obtain ⟨p0, p1, p2, p3, p4, pf⟩ := blk5 ((Blk.new _ _ _).below hb1 (by simp))) | (go_at_call 10; refine (awake_any _).mono ?_; rintro e w2 ⟨rfl, hb2⟩))
    go_ret
    refine ⟨rfl, ?_⟩
    exact below_end hb2 (below_end hb1 ((Below.refl w.heap.size w).alloc (Nat.le_refl _) _))

set_option maxHeartbeats 4000000 in
theorem stays_go (s m r b : Int) (p ch af : Nat) (hp : p < 4294967296) (hc : ch < 4294967296) (ha : af < 4294967296)
    (h : Pl.valid s m r b p = true) (hz : ch % 16777216 ≠ 0) (hs : s ≠ 4096) (w : World) :
    Calls Try.prog 4 #[cnt s m r b p, .int .u32 ch, .int .u32 af] w fun e w' => e = .returned (.bool true) ∧ Below w.heap.size w w' := by
  have m1 := Pl.and24 ch hc
  have m2 := Pl.and24 af ha
  have cl : ch % 16777216 < 16777216 := Nat.mod_lt _ (by decide)
  have al : af % 16777216 < 16777216 := Nat.mod_lt _ (by decide)
  generalize ch % 16777216 = c at *
  generalize af % 16777216 = a at *
  obtain ⟨r', p', hv, hr1, hr2, hp', hvv⟩ := addV_ok s m r b p c a h (by omega) cl al hs
  have HV := Lib.hid hv
  have HVV := Lib.hid hvv
  have H := Lib.hid h
  obtain ⟨h1, h2, h3, h4, h5, h6, h7, h8⟩ := Pl.valid_true h
  have hpc := Pl.pop_le24 c cl
  clear hv hvv h
  have cz : ((c : Int) == 0) = false := beq_eq_false_iff_ne.2 (by omega)
  have sz : (s == 4096) = false := beq_eq_false_iff_ne.2 hs
  unfold cnt
  go_enter Try.func4, Try.ntmps4
  go_wp2_with (first | (go_at_call 15; refine (all24 _).mono ?_; rintro e w' ⟨rfl, rfl⟩) | (go_at_call 12; refine (rvalid_yes s m r b p hp H.out _).mono ?_; rintro e w1 ⟨rfl, hb1⟩; have bp1 := (Blk.new _ _ _).below hb1 (by simp); obtain ⟨p0, p1, p2, p3, p4, pf⟩ := blk5 bp1) | fail)
  refine (add_any s m r b p c a hp (by omega) (by omega) _).mono ?_
  rintro e w2 ⟨rfl, hb2⟩
  rw [HV.out]
  unfold cnt
  have bp2 := bp1.below hb2 bp1.lt
  have HB2 := Lib.hid (below_end hb2 (below_end hb1 ((Below.refl w.heap.size w).alloc (Nat.le_refl _) _)))
  have n2 := bp2.lt
  clear hb2 hb1 p0 p1 p2 p3 p4 pf bp1
  go_wp2_with fail
  generalize hW : World.alloc _ _ = W0
  have bs : Blk W0 w2.heap.size 24 #[.int .i64 (s + 1), .int .i64 (m + Pl.pop c), .int .i64 r', .int .i64 (r + 1), .int .u32 p'] := by rw [← hW]; exact Blk.new _ _ _
  have bp : Blk W0 w.heap.size 24 #[.int .i64 s, .int .i64 m, .int .i64 r, .int .i64 b, .int .u32 p] := by rw [← hW]; exact bp2.alloc _
  have HB := Lib.hid (show Below w.heap.size w W0 by rw [← hW]; exact HB2.out.alloc (by omega) _)
  clear hW HB2 bp2
  obtain ⟨p0, p1, p2, p3, p4, pf⟩ := blk5 bp
  obtain ⟨s0, s1, s2, s3, s4, sf⟩ := blk5 bs
  have np := bp.lt
  have ns := bs.lt
  have rule := below_rule W0
  have w1 := IntWalk.i64_in (s + 1) (by omega)
  have w2' := IntWalk.i64_in (m + Pl.pop c) (by omega)
  have w3 := IntWalk.i64_in (r + 1) (by omega)
  have w4 := IntWalk.i64_in (b + 1) (by omega)
  have k1 : b ≤ r + 1 := h3
  have k2 : r + 1 ≤ b + 1 := by omega
  go_region_held3 (fun x => Below W0.heap.size W0 x) (first | exact Below.refl _ _ | exact Below.drew (Below.refl _ _) | assumption | exact below_step (by assumption) (by assumption))
    (first
      | (go_at_call 10; refine (awake_any _).mono ?_; rintro e x1 ⟨rfl, hx1⟩)
      | (go_at_call 11; refine (valid_yes (s + 1) (m + Pl.pop c) r' (r + 1) p' (by omega) HVV.out _).mono ?_; rintro e x2 ⟨rfl, hx2⟩)
      | (go_at_call 16; refine (count_any c (by omega) _).mono ?_; rintro e x3 ⟨rfl, rfl⟩))
  go_wp2
  go_ret
  refine ⟨rfl, below_end ?_ HB.out⟩
  assumption
end Go.Proofs.Ythnjcnenncbagaa
