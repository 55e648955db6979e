/- account.Add: the count behind a step. -/
import Derived.Test.YthnjcnenncbagaaW2n
import Derived.Test.YthnjcnenncbagaaW3p
import Derived.Test.YthnjcnenncbagaaKM
import Derived.Deep.RegionWith
import Derived.Deep.DeepCutAuto
namespace Go.Proofs.Ythnjcnenncbagaa
open Go.RowKit

set_option maxHeartbeats 4000000 in
theorem add_form (s m r b : Int) (p ch af : Nat) (hp : p < 4294967296) (h : Pl.valid s m r b p = false) (w : World) :
    Calls Try.prog 8 #[cnt s m r b p, .int .u32 ch, .int .u32 af] w fun e w' => e = .returned (.tuple #[cnt 0 0 0 0 0, .int .i64 7]) ∧ Below w.heap.size w w' := by
  unfold cnt
  have H := Lib.hid h
  clear h
  go_enter Try.func8, Try.ntmps8
  go_wp2_with fail
  refine (valid_no s m r b p hp H.out _).mono ?_
  rintro e w1 ⟨rfl, hb⟩
  have bq := (Blk.new _ _ _).below hb (by simp)
  have bp := ((Blk.new _ _ _).alloc _).below hb (by simp only [World.size_alloc]; omega)
  simp only [World.size_alloc] at bq
  obtain ⟨q0, q1, q2, q3, q4, qf⟩ := blk5 bq
  obtain ⟨p0, p1, p2, p3, p4, pf⟩ := blk5 bp
  have hB := Lib.hid (((Below.refl w.heap.size w).alloc (Nat.le_refl _) _).alloc (by simp) _ |>.trans (hb.mono (by simp only [World.size_alloc]; omega)))
  have hn : w.heap.size + 1 < w1.heap.size := by have := hb.size; simp at this; omega
  have hn0 : w.heap.size < w1.heap.size := by omega
  clear hb
  go_wp2
  refine bodyPost_ret (v := .tuple #[cnt 0 0 0 0 0, .int .i64 7]) ?_ rfl ⟨rfl, ?_⟩
  · simp [results, Try.results8, go_sem, cnt, q0, q1, q2, q3, q4]
  · have hBo := hB.out
    repeat (with_reducible first | refine Below.setCell ?_ (by simp) _ | refine below_drewN ?_ _ | refine Below.drew ?_ | refine Below.alloc ?_ (by simp; omega) _ | exact hBo)

set_option maxHeartbeats 4000000 in
theorem add_none (s m r b : Int) (p ch af : Nat) (hp : p < 4294967296) (h : Pl.valid s m r b p = true) (hc0 : ch = 0) (w : World) :
    Calls Try.prog 8 #[cnt s m r b p, .int .u32 ch, .int .u32 af] w fun e w' => e = .returned (.tuple #[cnt 0 0 0 0 0, .int .i64 11]) ∧ Below w.heap.size w w' := by
  unfold cnt
  subst hc0
  have H := Lib.hid h
  obtain ⟨h1, h2, h3, h4, h5, h6, h7, h8⟩ := Pl.valid_true h
  clear h
  go_enter Try.func8, Try.ntmps8
  go_wp2_with fail
  refine (valid_yes s m r b p hp H.out _).mono ?_
  rintro e w1 ⟨rfl, hb⟩
  have bq := (Blk.new _ _ _).below hb (by simp)
  have bp := ((Blk.new _ _ _).alloc _).below hb (by simp only [World.size_alloc]; omega)
  simp only [World.size_alloc] at bq
  obtain ⟨q0, q1, q2, q3, q4, qf⟩ := blk5 bq
  obtain ⟨p0, p1, p2, p3, p4, pf⟩ := blk5 bp
  have hB := Lib.hid (((Below.refl w.heap.size w).alloc (Nat.le_refl _) _).alloc (by simp) _ |>.trans (hb.mono (by simp only [World.size_alloc]; omega)))
  have hn : w.heap.size + 1 < w1.heap.size := by have := hb.size; simp at this; omega
  have hn0 : w.heap.size < w1.heap.size := by omega
  clear hb
  go_wp2
  refine bodyPost_ret (v := .tuple #[cnt 0 0 0 0 0, .int .i64 11]) ?_ rfl ⟨rfl, ?_⟩
  · simp [results, Try.results8, go_sem, cnt, q0, q1, q2, q3, q4]
  · have hBo := hB.out
    repeat (with_reducible first | refine Below.setCell ?_ (by simp) _ | refine below_drewN ?_ _ | refine Below.drew ?_ | refine Below.alloc ?_ (by simp; omega) _ | exact hBo)

set_option maxHeartbeats 4000000 in
theorem add_wide (s m r b : Int) (p ch af : Nat) (hp : p < 4294967296) (h : Pl.valid s m r b p = true) (hc0 : 0 < ch) (hc : ch < 4294967296) (ha : af < 4294967296) (hx : ¬ (ch < 16777216 ∧ af < 16777216)) (w : World) :
    Calls Try.prog 8 #[cnt s m r b p, .int .u32 ch, .int .u32 af] w fun e w' => e = .returned (.tuple #[cnt 0 0 0 0 0, .int .i64 11]) ∧ Below w.heap.size w w' := by
  unfold cnt
  have H := Lib.hid h
  obtain ⟨h1, h2, h3, h4, h5, h6, h7, h8⟩ := Pl.valid_true h
  clear h
  have c0 : ((ch : Int) == 0) = false := beq_eq_false_iff_ne.2 (by omega)
  have px : (decide (ch < 16777216) && decide (af < 16777216)) = false := by simp; omega
  go_enter Try.func8, Try.ntmps8
  go_wp2_with fail
  refine (valid_yes s m r b p hp H.out _).mono ?_
  rintro e w1 ⟨rfl, hb⟩
  have bq := (Blk.new _ _ _).below hb (by simp)
  have bp := ((Blk.new _ _ _).alloc _).below hb (by simp only [World.size_alloc]; omega)
  simp only [World.size_alloc] at bq
  obtain ⟨q0, q1, q2, q3, q4, qf⟩ := blk5 bq
  obtain ⟨p0, p1, p2, p3, p4, pf⟩ := blk5 bp
  have hB := Lib.hid (((Below.refl w.heap.size w).alloc (Nat.le_refl _) _).alloc (by simp) _ |>.trans (hb.mono (by simp only [World.size_alloc]; omega)))
  have hn : w.heap.size + 1 < w1.heap.size := by have := hb.size; simp at this; omega
  have hn0 : w.heap.size < w1.heap.size := by omega
  clear hb
  go_wp2_with fail
  refine (possible2 _ ch af _ hc ha (by simp [go_sem]) (by simp [go_sem])).mono ?_
  rintro e w2 ⟨rfl, rfl⟩
  rw [px]
  go_wp2
  refine bodyPost_ret (v := .tuple #[cnt 0 0 0 0 0, .int .i64 11]) ?_ rfl ⟨rfl, ?_⟩
  · simp [results, Try.results8, go_sem, cnt, q0, q1, q2, q3, q4, hn]
  · have hBo := hB.out
    repeat (with_reducible first | refine Below.setCell ?_ (by simp) _ | refine below_drewN ?_ _ | refine Below.drew ?_ | refine Below.alloc ?_ (by simp; omega) _ | exact hBo)

set_option maxHeartbeats 4000000 in
theorem add_limit (s m r b : Int) (p ch af : Nat) (hp : p < 4294967296) (h : Pl.valid s m r b p = true) (hc0 : 0 < ch) (hc : ch < 16777216) (ha : af < 16777216) (hs : s = 4096) (w : World) :
    Calls Try.prog 8 #[cnt s m r b p, .int .u32 ch, .int .u32 af] w fun e w' => e = .returned (.tuple #[cnt 0 0 0 0 0, .int .i64 3]) ∧ Below w.heap.size w w' := by
  unfold cnt
  subst hs
  have H := Lib.hid h
  obtain ⟨h1, h2, h3, h4, h5, h6, h7, h8⟩ := Pl.valid_true h
  clear h
  have c0 : ((ch : Int) == 0) = false := beq_eq_false_iff_ne.2 (by omega)
  go_enter Try.func8, Try.ntmps8
  go_wp2_with fail
  refine (valid_yes _ m r b p hp H.out _).mono ?_
  rintro e w1 ⟨rfl, hb⟩
  have bq := (Blk.new _ _ _).below hb (by simp)
  have bp := ((Blk.new _ _ _).alloc _).below hb (by simp only [World.size_alloc]; omega)
  simp only [World.size_alloc] at bq
  obtain ⟨q0, q1, q2, q3, q4, qf⟩ := blk5 bq
  obtain ⟨p0, p1, p2, p3, p4, pf⟩ := blk5 bp
  have hB := Lib.hid (((Below.refl w.heap.size w).alloc (Nat.le_refl _) _).alloc (by simp) _ |>.trans (hb.mono (by simp only [World.size_alloc]; omega)))
  have hn : w.heap.size + 1 < w1.heap.size := by have := hb.size; simp at this; omega
  have hn0 : w.heap.size < w1.heap.size := by omega
  clear hb
  go_wp2_with fail
  refine (possible2 _ ch af _ (by omega) (by omega) (by simp [go_sem]) (by simp [go_sem])).mono ?_
  rintro e w2 ⟨rfl, rfl⟩
  go_wp2
  refine bodyPost_ret (v := .tuple #[cnt 0 0 0 0 0, .int .i64 3]) ?_ rfl ⟨rfl, ?_⟩
  · simp [results, Try.results8, go_sem, cnt, q0, q1, q2, q3, q4, hn]
  · have hBo := hB.out
    repeat (with_reducible first | refine Below.setCell ?_ (by simp) _ | refine below_drewN ?_ _ | refine Below.drew ?_ | refine Below.alloc ?_ (by simp; omega) _ | exact hBo)

set_option maxHeartbeats 4000000 in
theorem add_more (s m r b : Int) (p ch af : Nat) (hp : p < 4294967296) (h : Pl.valid s m r b p = true) (hc0 : 0 < ch) (hc : ch < 16777216) (ha : af < 16777216) (hs : s < 4096) (hr : Pl.rest p ch af ≠ 0) (w : World) :
    Calls Try.prog 8 #[cnt s m r b p, .int .u32 ch, .int .u32 af] w fun e w' => e = .returned (.tuple #[cnt (s + 1) (m + Pl.pop ch) r (r + 1) (Pl.rest p ch af), .int .i64 0]) ∧ Below w.heap.size w w' := by
  unfold cnt
  have H := Lib.hid h
  obtain ⟨h1, h2, h3, h4, h5, h6, h7, h8⟩ := Pl.valid_true h
  clear h
  have c0 : ((ch : Int) == 0) = false := beq_eq_false_iff_ne.2 (by omega)
  have pc := Pl.pop_le24 ch hc
  have e := Pl.rest_eq p ch af hp (by omega) (by omega)
  have hwr := Lib.hid (IntWalk.i64_in (m + Pl.pop ch) (by omega))
  have rz : ((Pl.rest p ch af : Int) == 0) = false := beq_eq_false_iff_ne.2 (by omega)
  go_enter Try.func8, Try.ntmps8
  go_wp2_with fail
  refine (valid_yes s m r b p hp H.out _).mono ?_
  rintro e w1 ⟨rfl, hb⟩
  have bq := (Blk.new _ _ _).below hb (by simp)
  have bp := ((Blk.new _ _ _).alloc _).below hb (by simp only [World.size_alloc]; omega)
  simp only [World.size_alloc] at bq
  obtain ⟨q0, q1, q2, q3, q4, qf⟩ := blk5 bq
  obtain ⟨p0, p1, p2, p3, p4, pf⟩ := blk5 bp
  have hB := Lib.hid (((Below.refl w.heap.size w).alloc (Nat.le_refl _) _).alloc (by simp) _ |>.trans (hb.mono (by simp only [World.size_alloc]; omega)))
  have hn : w.heap.size + 1 < w1.heap.size := by have := hb.size; simp at this; omega
  have hn0 : w.heap.size < w1.heap.size := by omega
  clear hb
  go_wp2_with fail
  refine (possible2 _ ch af _ (by omega) (by omega) (by simp [go_sem]) (by simp [go_sem])).mono ?_
  rintro e w2 ⟨rfl, rfl⟩
  go_wp2_with fail
  go_region_with ((go_at_call 19; refine (ones_any ch (by omega) _).mono ?_; rintro e w' ⟨rfl, d, rfl⟩))
  all_goals
    generalize hW : World.setCell _ _ _ = w3
    have bp3 : Blk w3 w.heap.size 24 #[.int .i64 (s + 1), .int .i64 (m + Pl.pop ch), .int .i64 r, .int .i64 b, .int .u32 p] := by rw [← hW, hwr.out]; exact ((((bp.set_ 0 _).alloc _).drewN _).set_ 1 _)
    have bq3 : Blk w3 (w.heap.size + 1) 24 #[.int .i64 0, .int .i64 0, .int .i64 0, .int .i64 0, .int .u32 0] := by rw [← hW]; exact ((((bq.far (by simp) _).alloc _).drewN _).far (by simp) _)
    have hB3 : Below w.heap.size w w3 := by rw [← hW]; exact ((below_drewN ((hB.out.setCell (by simp) _).alloc (by simp; omega) _) _).setCell (by simp) _)
    clear hW hB p0 p1 p2 p3 p4 pf q0 q1 q2 q3 q4 qf bp bq
    have hB := Lib.hid hB3
    clear hB3
    have hn : w.heap.size + 1 < w3.heap.size := bq3.lt
    have hn0 : w.heap.size < w3.heap.size := by omega
    obtain ⟨p0, p1, p2, p3, p4, pf⟩ := blk5 bp3
    go_upto_region 14 with fail
    generalize hW : World.setCell _ _ _ = w4
    have bp4 : Blk w4 w.heap.size 24 #[.int .i64 (s + 1), .int .i64 (m + Pl.pop ch), .int .i64 r, .int .i64 (r + 1), .int .u32 (Pl.rest p ch af)] := by rw [← hW]; exact ((bp3.set_ 3 _).set_ 4 _)
    have bq4 : Blk w4 (w.heap.size + 1) 24 #[.int .i64 0, .int .i64 0, .int .i64 0, .int .i64 0, .int .u32 0] := by rw [← hW]; exact ((bq3.far (by simp) _).far (by simp) _)
    have hB4 : Below w.heap.size w w4 := by rw [← hW]; exact ((hB.out.setCell (by simp) _).setCell (by simp) _)
    clear hW hB p0 p1 p2 p3 p4 pf bp3 bq3 hn hn0
    have hB := Lib.hid hB4
    clear hB4
    have hn : w.heap.size + 1 < w4.heap.size := bq4.lt
    have hn0 : w.heap.size < w4.heap.size := by omega
    obtain ⟨q0, q1, q2, q3, q4, qf⟩ := blk5 bq4
    obtain ⟨p0, p1, p2, p3, p4, pf⟩ := blk5 bp4
    go_wp2
    refine bodyPost_ret (v := .tuple #[cnt (s + 1) (m + Pl.pop ch) r (r + 1) (Pl.rest p ch af), .int .i64 0]) ?_ rfl ⟨rfl, ?_⟩
    · simp [results, Try.results8, go_sem, cnt, q0, q1, q2, q3, q4]
    · have hBo := hB.out
      repeat (with_reducible first | refine Below.setCell ?_ (by simp) _ | refine below_drewN ?_ _ | refine Below.drew ?_ | refine Below.alloc ?_ (by simp; omega) _ | exact hBo)

set_option maxHeartbeats 4000000 in
theorem add_done (s m r b : Int) (p ch af : Nat) (hp : p < 4294967296) (h : Pl.valid s m r b p = true) (hc0 : 0 < ch) (hc : ch < 16777216) (ha : af < 16777216) (hs : s < 4096) (hr : Pl.rest p ch af = 0) (w : World) :
    Calls Try.prog 8 #[cnt s m r b p, .int .u32 ch, .int .u32 af] w fun e w' => e = .returned (.tuple #[cnt (s + 1) (m + Pl.pop ch) (r + 1) (r + 1) af, .int .i64 0]) ∧ Below w.heap.size w w' := by
  unfold cnt
  have H := Lib.hid h
  obtain ⟨h1, h2, h3, h4, h5, h6, h7, h8⟩ := Pl.valid_true h
  clear h
  have c0 : ((ch : Int) == 0) = false := beq_eq_false_iff_ne.2 (by omega)
  have pc := Pl.pop_le24 ch hc
  have e := Pl.rest_eq p ch af hp (by omega) (by omega)
  have hwr := Lib.hid (IntWalk.i64_in (m + Pl.pop ch) (by omega))
  rw [hr, show ((0 : Nat) : Int) = 0 from rfl] at e
  clear hr
  go_enter Try.func8, Try.ntmps8
  go_wp2_with fail
  refine (valid_yes s m r b p hp H.out _).mono ?_
  rintro e w1 ⟨rfl, hb⟩
  have bq := (Blk.new _ _ _).below hb (by simp)
  have bp := ((Blk.new _ _ _).alloc _).below hb (by simp only [World.size_alloc]; omega)
  simp only [World.size_alloc] at bq
  obtain ⟨q0, q1, q2, q3, q4, qf⟩ := blk5 bq
  obtain ⟨p0, p1, p2, p3, p4, pf⟩ := blk5 bp
  have hB := Lib.hid (((Below.refl w.heap.size w).alloc (Nat.le_refl _) _).alloc (by simp) _ |>.trans (hb.mono (by simp only [World.size_alloc]; omega)))
  have hn : w.heap.size + 1 < w1.heap.size := by have := hb.size; simp at this; omega
  have hn0 : w.heap.size < w1.heap.size := by omega
  clear hb
  go_wp2_with fail
  refine (possible2 _ ch af _ (by omega) (by omega) (by simp [go_sem]) (by simp [go_sem])).mono ?_
  rintro e w2 ⟨rfl, rfl⟩
  go_wp2_with fail
  go_region_with ((go_at_call 19; refine (ones_any ch (by omega) _).mono ?_; rintro e w' ⟨rfl, d, rfl⟩))
  all_goals
    generalize hW : World.setCell _ _ _ = w3
    have bp3 : Blk w3 w.heap.size 24 #[.int .i64 (s + 1), .int .i64 (m + Pl.pop ch), .int .i64 r, .int .i64 b, .int .u32 p] := by rw [← hW, hwr.out]; exact ((((bp.set_ 0 _).alloc _).drewN _).set_ 1 _)
    have bq3 : Blk w3 (w.heap.size + 1) 24 #[.int .i64 0, .int .i64 0, .int .i64 0, .int .i64 0, .int .u32 0] := by rw [← hW]; exact ((((bq.far (by simp) _).alloc _).drewN _).far (by simp) _)
    have hB3 : Below w.heap.size w w3 := by rw [← hW]; exact ((below_drewN ((hB.out.setCell (by simp) _).alloc (by simp; omega) _) _).setCell (by simp) _)
    clear hW hB p0 p1 p2 p3 p4 pf q0 q1 q2 q3 q4 qf bp bq
    have hB := Lib.hid hB3
    clear hB3
    have hn : w.heap.size + 1 < w3.heap.size := bq3.lt
    have hn0 : w.heap.size < w3.heap.size := by omega
    obtain ⟨p0, p1, p2, p3, p4, pf⟩ := blk5 bp3
    go_upto_region 14 with fail
    generalize hW : World.setCell _ _ _ = w4
    have bp4 : Blk w4 w.heap.size 24 #[.int .i64 (s + 1), .int .i64 (m + Pl.pop ch), .int .i64 (r + 1), .int .i64 (r + 1), .int .u32 af] := by rw [← hW]; exact ((((bp3.set_ 3 _).set_ 4 _).set_ 2 _).set_ 4 _)
    have bq4 : Blk w4 (w.heap.size + 1) 24 #[.int .i64 0, .int .i64 0, .int .i64 0, .int .i64 0, .int .u32 0] := by rw [← hW]; exact ((((bq3.far (by simp) _).far (by simp) _).far (by simp) _).far (by simp) _)
    have hB4 : Below w.heap.size w w4 := by rw [← hW]; exact ((((hB.out.setCell (by simp) _).setCell (by simp) _).setCell (by simp) _).setCell (by simp) _)
    clear hW hB p0 p1 p2 p3 p4 pf bp3 bq3 hn hn0
    have hB := Lib.hid hB4
    clear hB4
    have hn : w.heap.size + 1 < w4.heap.size := bq4.lt
    have hn0 : w.heap.size < w4.heap.size := by omega
    obtain ⟨q0, q1, q2, q3, q4, qf⟩ := blk5 bq4
    obtain ⟨p0, p1, p2, p3, p4, pf⟩ := blk5 bp4
    go_wp2
    refine bodyPost_ret (v := .tuple #[cnt (s + 1) (m + Pl.pop ch) (r + 1) (r + 1) af, .int .i64 0]) ?_ rfl ⟨rfl, ?_⟩
    · simp [results, Try.results8, go_sem, cnt, q0, q1, q2, q3, q4]
    · have hBo := hB.out
      repeat (with_reducible first | refine Below.setCell ?_ (by simp) _ | refine below_drewN ?_ _ | refine Below.drew ?_ | refine Below.alloc ?_ (by simp; omega) _ | exact hBo)
end Go.Proofs.Ythnjcnenncbagaa
