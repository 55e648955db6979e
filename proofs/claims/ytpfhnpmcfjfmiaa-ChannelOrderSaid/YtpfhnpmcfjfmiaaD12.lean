/- channel.Play for every channel; the sanity check of law 41. -/
import Derived.Test.YtpfhnpmcfjfmiaaD11
namespace Go.Proofs.Ytpfhnpmcfjfmiaa
open Go.RowKit

set_option maxHeartbeats 1000000 in
theorem play_bad (cap : Int) (Q : List (List Int)) (hv : vldC cap Q = false) (v vo : Value) (w : World) (hC : ChanAt w w.heap.size v cap Q) :
    Calls Try.prog 19 #[v, vo] w (PlayPost w (0, [], [], 0)) := by
  have HC := Lib.hid hC
  obtain ⟨vq, rfl, A, c, rows, rfl, hr, hk⟩ := hC
  have HV := Lib.hid hv
  clear hr hk hv
  obtain ⟨b0, b1, hB0⟩ := two_new w 24 24 #[.int .i64 cap, .slice A Q.length c] #[.int .i64 0, .slice none 0 0]
  have HB0 := Lib.hid hB0
  clear hB0
  go_enter Try.func19, Try.ntmps19
  go_wp2_with fail
  refine (cvalid_is cap Q _ false HV.out _ (HC.out.go HB0.out)).mono ?_
  rintro e w1 ⟨rfl, hb1⟩
  have HB1 := Lib.hid (below_end hb1 HB0.out)
  have b11 := b1.below hb1 b1.lt
  obtain ⟨q0, q1, qf⟩ := blk2 b11
  clear hb1 b0 b1 b11
  go_wp2
  refine bodyPost_ret (v := .tuple #[.agg #[.int .i64 0, .slice none 0 0], .slice none 0 0, .int .i64 0]) ?_ rfl ⟨_, _, rfl, ⟨none, 0, [], rfl, Reads.none_, fun k q h => by simp at h⟩, ⟨none, 0, [], rfl, Reads.none_, fun k q h => by simp at h⟩, ?_⟩
  · simp [results, Try.results19, go_sem, q0, q1]
  · exact (HB1.out.setCell (by simp) _).setCell (by simp) _

def playV (cap : Int) (Q : List (List Int)) (ops : List COp) : Int × List (List Int) × List (List Int) × Nat := if vldC cap Q = true then playQ cap Q ops else (0, [], [], 0)
theorem play_any (cap : Int) (Q : List (List Int)) (ops : List COp) (hl : ops.length ≤ 1000000) (v vo : Value) (w : World) (hC : ChanAt w w.heap.size v cap Q) (hO : OpsAt w w.heap.size vo ops) :
    Calls Try.prog 19 #[v, vo] w (PlayPost w (playV cap Q ops)) := by
  unfold playV
  cases hv : vldC cap Q
  · exact play_bad cap Q hv v vo w hC
  · exact play_ok cap Q hv ops hl v vo w hC hO

def exOps : List COp := [(1, 0, [1]), (1, 0, [2]), (2, 0, []), (2, 0, [])]
theorem ex_play : playV 1 [] exOps = (1, [], [[1]], 1) := by decide +kernel

theorem ex_ops {w : World} {B g1 g2 g3 : Nat} (h1 : Blk w g1 3 #[.int .i64 1]) (h2 : Blk w g2 3 #[.int .i64 2])
    (h3 : Blk w g3 38 #[.int .i64 1, .int .i64 0, .slice (some ⟨g1, 0, none⟩) 1 1, .int .i64 1, .int .i64 0, .slice (some ⟨g2, 0, none⟩) 1 1, .int .i64 2, .int .i64 0, .slice none 0 0, .int .i64 2, .int .i64 0, .slice none 0 0])
    (b1 : g1 < B) (b2 : g2 < B) (b3 : g3 < B) : OpsAt w B (.slice (some ⟨g3, 0, none⟩) 4 4) exOps := by
  refine ⟨_, _, rfl, fun _ => ⟨_, rfl, b3, fun k hk => ?_⟩⟩
  match k, hk with
  | 0, _ => exact ⟨_, h3.cell 0, h3.cell 1, h3.cell 2, ⟨_, _, rfl, reads_blk (l := [.int .i64 1]) h1 b1 rfl⟩⟩
  | 1, _ => exact ⟨_, h3.cell 3, h3.cell 4, h3.cell 5, ⟨_, _, rfl, reads_blk (l := [.int .i64 2]) h2 b2 rfl⟩⟩
  | 2, _ => exact ⟨_, h3.cell 6, h3.cell 7, h3.cell 8, ⟨_, _, rfl, Reads.none_⟩⟩
  | 3, _ => exact ⟨_, h3.cell 9, h3.cell 10, h3.cell 11, ⟨_, _, rfl, Reads.none_⟩⟩

theorem three_new (w : World) (t0 t1 t2 : Nat) (c0 c1 c2 : Array Value) :
    let W := ((w.alloc (.cells c0 t0)).alloc (.cells c1 t1)).alloc (.cells c2 t2)
    Blk W w.heap.size t0 c0 ∧ Blk W (w.heap.size + 1) t1 c1 ∧ Blk W (w.heap.size + 1 + 1) t2 c2 ∧ Below w.heap.size w W ∧ W.heap.size = w.heap.size + 1 + 1 + 1 := by
  have a0 := Blk.new w t0 c0
  have a1 := Blk.new (w.alloc (.cells c0 t0)) t1 c1
  have a2 := Blk.new ((w.alloc (.cells c0 t0)).alloc (.cells c1 t1)) t2 c2
  simp only [World.size_alloc] at a1 a2
  exact ⟨(a0.alloc _).alloc _, a1.alloc _, a2, (((Below.refl _ _).alloc (Nat.le_refl _) _).alloc (by simp only [World.size_alloc]; omega) _).alloc (by simp only [World.size_alloc]; omega) _, by simp only [World.size_alloc]⟩

set_option maxHeartbeats 1000000 in
theorem known_any (w : World) : Calls Try.prog 8 #[] w fun e w' => e = .returned (.bool true) ∧ Below w.heap.size w w' := by
  obtain ⟨b1, b2, b3, hB, hsz⟩ := three_new w 3 3 38 #[.int .i64 1] #[.int .i64 2] #[.int .i64 1, .int .i64 0, .slice (some ⟨w.heap.size, 0, none⟩) 1 1, .int .i64 1, .int .i64 0, .slice (some ⟨w.heap.size + 1, 0, none⟩) 1 1, .int .i64 2, .int .i64 0, .slice none 0 0, .int .i64 2, .int .i64 0, .slice none 0 0]
  have HOP := Lib.hid (ex_ops b1 b2 b3 b1.lt b2.lt b3.lt)
  have HB := Lib.hid hB
  clear b1 b2 b3 hB hsz
  go_enter Try.func8, Try.ntmps8
  go_wp2_with fail
  refine (play_any 1 [] exOps (by decide) _ _ _ chan_nil HOP.out).mono ?_
  rw [ex_play]
  rintro e w1 ⟨vi, vr, rfl, hvi, hvr, hb1⟩
  dsimp only at hvi hvr ⊢
  have HB1 := Lib.hid (below_end hb1 HB.out)
  obtain ⟨Ai, ci, ri, rfl, hvi1⟩ := hvi
  have HVR := Lib.hid hvr
  obtain ⟨Ar, cr, rr, rfl, -⟩ := hvr
  clear hb1 hvi1 HOP
  have HBa := Lib.hid ((Below.refl w1.heap.size w1).alloc (Nat.le_refl _) (.cells #[.int .i64 1, .slice Ai 0 ci] 24))
  go_wp2_with fail
  refine (cvalid_is 1 [] _ true (by decide +kernel) _ ⟨_, rfl, Ai, ci, [], rfl, Reads.none_, fun k q h => by simp at h⟩).mono ?_
  rintro e w2 ⟨rfl, hb2⟩
  have bx := (Blk.new w1 24 #[.int .i64 1, .slice Ai 0 ci]).below hb2 (by simp)
  obtain ⟨p0, p1, pf⟩ := blk2 bx
  have HVR2 := Lib.hid (HVR.out.go (below_end hb2 HBa.out))
  have HB2 := Lib.hid (below_end hb2 (below_end HBa.out HB1.out))
  clear hb2 bx
  obtain ⟨c1, c2, hBc⟩ := two_new w2 3 25 #[.int .i64 1] #[.slice (some ⟨w2.heap.size, 0, none⟩) 1 1]
  have HI2 := Lib.hid (show ItemsAt ((w2.alloc (.cells #[.int .i64 1] 3)).alloc (.cells #[.slice (some ⟨w2.heap.size, 0, none⟩) 1 1] 25)) ((w2.alloc (.cells #[.int .i64 1] 3)).alloc (.cells #[.slice (some ⟨w2.heap.size, 0, none⟩) 1 1] 25)).heap.size (.slice (some ⟨w2.heap.size + 1, 0, none⟩) 1 1) [[1]] from
    RowsB.items (Q := [[1]]) (c := 1) (vs := [.slice (some ⟨w2.heap.size, 0, none⟩) 1 1]) ⟨rfl, fun j h h' => by
      match j, h with
      | 0, _ => exact ⟨_, rfl, c1⟩⟩ c2)
  have HVR3 := Lib.hid (HVR2.out.go hBc)
  have HBc := Lib.hid hBc
  clear c1 c2 hBc
  go_wp2_with fail
  refine (sameItems_eq [[1]] (by decide) (fun k h => by match k, h with | 0, _ => simp) _ _ _ _ _ HVR3.out HI2.out).mono ?_
  rintro e w3 ⟨rfl, d, rfl⟩
  go_wp2
  go_ret
  exact ⟨rfl, below_drewN (below_end HBc.out HB2.out) d⟩
end Go.Proofs.Ytpfhnpmcfjfmiaa
