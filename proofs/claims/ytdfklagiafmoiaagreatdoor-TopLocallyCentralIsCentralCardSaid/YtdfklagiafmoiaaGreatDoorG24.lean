/- Lemmas of this seat, laid together out of 2 texts: no statement of the seat is proved here. -/
import Derived.Test.YtdfklagiafmoiaaGreatDoorG23
import Derived.Test.YtdfklagiafmoiaaGreatDoorG03
/- Has, OnesCount32. -/
namespace Go.Proofs.YtdfklagiafmoiaaGreatDoor
open Go.RowKit

set_option maxHeartbeats 400000 in
theorem has_any (n k : Nat) (hn : n < 4294967296) (hk : k < 32) (w : World) :
    Calls Tryz.prog 8 #[.int .u32 n, .int .i64 k] w fun e w' => e = .returned (.bool (n.testBit k)) ∧ w = w' := by
  go_enter Tryz.func8, Tryz.ntmps8
  go_wp2
  go_ret
  exact ⟨ret_bool (Pl.has_bit n k hn), rfl⟩

set_option maxRecDepth 100000 in
set_option maxHeartbeats 400000 in
theorem ones_any (n : Nat) (hn : n < 4294967296) (w : World) :
    Calls Tryz.prog 112 #[.int .u32 n] w fun e w' => e = .returned (.int .i64 (Pl.pop n)) ∧ ∃ d, w' = w.drewN d := by
  go_enter Tryz.func112, Tryz.ntmps112
  generalize hT : ByteArray.mk (List.toArray (List.append (List.append _ _) (List.append _ _))) = T
  have HT := Lib.hid hT
  clear hT
  have hix : ∀ (i : Int) (j : Nat) (w : World), i = j → j < 256 → (Instr.index 9 (.string T) (.int .u32 i)).run Tryz.prog w = .ok (.int .u8 (Pl.popTo j 8)) w := by
    intro i j w hi hj
    have hb : T[j]? = some (UInt8.ofNat (Pl.popTo j 8)) := by
      have key : ∀ j, j < 256 → T[j]? = some (UInt8.ofNat (Pl.popTo j 8)) := by rw [← HT.out]; decide +kernel
      exact key j hj
    have hp := Pl.popTo_le j 8
    subst hi
    simp [Instr.index, asIntOf, run_underlying Tryz.underlying9, hb, go_sem]
    omega
  have m2 := Pl.and255 (n / 65536) (by omega)
  have m3 := Pl.and255 (n / 256) (by omega)
  have m4 := Pl.and255 n hn
  simp only [Int.natCast_ediv, Int.natCast_emod, Int.cast_ofNat_Int] at m2 m3 m4
  have x1 := fun w => hix ((n : Int) / 16777216) (n / 16777216 % 256) w (by omega) (by omega)
  have x2 := fun w => hix ((n : Int) / 65536 % 256) (n / 65536 % 256) w (by omega) (by omega)
  have x3 := fun w => hix ((n : Int) / 256 % 256) (n / 256 % 256) w (by omega) (by omega)
  have x4 := fun w => hix ((n : Int) % 256) (n % 256) w (by omega) (by omega)
  have p1 := Pl.popTo_le (n / 16777216 % 256) 8
  have p2 := Pl.popTo_le (n / 65536 % 256) 8
  have p3 := Pl.popTo_le (n / 256 % 256) 8
  have p4 := Pl.popTo_le (n % 256) 8
  have HP := Lib.hid (Pl.pop_parts n)
  clear hix
  generalize Pl.popTo (n / 16777216 % 256) 8 = q1 at *
  generalize Pl.popTo (n / 65536 % 256) 8 = q2 at *
  generalize Pl.popTo (n / 256 % 256) 8 = q3 at *
  generalize Pl.popTo (n % 256) 8 = q4 at *
  go_wp2
  go_quiet (fail)
  go_wp2
  go_ret
  exact ⟨ret_int (by rw [HP.out]; omega), nq, rfl⟩
end Go.Proofs.YtdfklagiafmoiaaGreatDoor

/- account.Begin and account.Add at valid counts. -/
namespace Go.Proofs.YtdfklagiafmoiaaGreatDoor
open Go.RowKit

/-- a count as a value -/
def cnt (s m r b : Int) (p : Nat) : Value := .agg #[.int .i64 s, .int .i64 m, .int .i64 r, .int .i64 b, .int .u32 p]

set_option maxHeartbeats 400000 in
theorem possible_any (b : Nat) (zs : List Nat) (w : World) (hl : zs.length ≤ 2) (hz : ∀ i (h : i < zs.length), zs[i] < 4294967296)
    (hc : ∀ i (h : i < zs.length), w.cell? ⟨b, i, none⟩ = some (.int .u32 zs[i])) :
    Calls Tryz.prog 111 #[.slice (some ⟨b, 0, none⟩) zs.length zs.length] w fun e w' => e = .returned (.bool (zs.all (· < 16777216))) ∧ w = w' := by
  go_enter Tryz.func111, Tryz.ntmps111
  go_wp2
  go_loop [4, 7] (fun _ i => ∃ k : Nat, k ≤ zs.length ∧ i = .int .i64 k ∧ (zs.take k).all (· < 16777216) = true) (fun _ i => zs.length - (intOf i).toNat)
  case atStart => exact ⟨0, by omega, rfl, rfl⟩
  case round =>
    obtain ⟨k, hk, rfl, ha⟩ := hrel
    have HA := Lib.hid ha
    clear ha
    have HC := Lib.hid hc
    have HZ := Lib.hid hz
    clear hc hz
    by_cases hlt : k < zs.length
    · have c := HC.out k hlt
      have z := HZ.out k hlt
      have HT := Lib.hid (List.take_succ_eq_append_getElem hlt)
      have HM := Lib.hid (List.getElem_mem hlt)
      generalize zs[k] = y at *
      have e := Pl.andNot24 y z
      by_cases hy : y < 16777216
      · have e0 : y / 16777216 * 16777216 = 0 := by omega
        rw [e0] at e
        clear e0
        go_wp2
        go_round
        case rel => exact ⟨k + 1, by omega, by go_num, by rw [HT.out]; simp [HA.out, hy]⟩
        case measure => simp [intOf]; omega
      · have e0 : (bits .andNot .u32 (y : Int) 16777215 != 0) = true := by rw [e, bne_iff_ne]; omega
        clear e
        go_wp2
        go_ret
        exact ⟨ret_bool (List.all_eq_false.2 ⟨y, HM.out, by simpa using hy⟩).symm, rfl⟩
    · go_wp2
      go_ret
      obtain rfl : k = zs.length := by omega
      exact ⟨ret_bool (by rw [← HA.out, List.take_length]), rfl⟩

set_option maxHeartbeats 400000 in
theorem valid_yes (s m r b : Int) (p : Nat) (hp : p < 4294967296) (h : Pl.valid s m r b p = true) (w : World) :
    Calls Tryz.prog 110 #[cnt s m r b p] w fun e w' => e = .returned (.bool true) ∧ Below w.heap.size w w' := by
  unfold cnt
  obtain ⟨h1, h2, h3, h4, h5, h6, h7, h8⟩ := Pl.valid_true h
  clear h
  go_enter Tryz.func110, Tryz.ntmps110
  go_wp2_with (go_at_call 111; refine (possible_any _ [p] _ (by simp) (by simpa using hp) (by simp [go_sem])).mono ?_; rintro e w' ⟨rfl, rfl⟩)
  go_ret
  exact ⟨rfl, ((Below.refl _ _).alloc (Nat.le_refl _) _).alloc (by simp) _⟩

theorem possible2 (b x y : Nat) (w : World) (hx : x < 4294967296) (hy : y < 4294967296) (c0 : w.cell? ⟨b, 0, none⟩ = some (.int .u32 x)) (c1 : w.cell? ⟨b, 1, none⟩ = some (.int .u32 y)) :
    Calls Tryz.prog 111 #[.slice (some ⟨b, 0, none⟩) 2 2] w fun e w' => e = .returned (.bool (decide (x < 16777216) && decide (y < 16777216))) ∧ w = w' := by
  have h := possible_any b [x, y] w (by simp) (by
    intro i hi
    match i, hi with
    | 0, _ => exact hx
    | 1, _ => exact hy) (by
    intro i hi
    match i, hi with
    | 0, _ => exact c0
    | 1, _ => exact c1)
  simpa using h
set_option maxHeartbeats 4000000 in
theorem acc_begin (n : Nat) (hn : n < 4294967296) (w : World) :
    Calls Tryz.prog 72 #[.int .u32 n] w fun e w' => e = .returned (cnt 0 0 0 0 (n % 16777216)) ∧ Below w.heap.size w w' := by
  have e := Pl.and24 n hn
  go_enter Tryz.func72, Tryz.ntmps72
  go_wp2
  exact bodyPost_ret (v := cnt 0 0 0 0 (n % 16777216)) (by simp [results, Tryz.results72, go_sem, cnt]) rfl ⟨rfl, (Below.refl _ _).alloc (Nat.le_refl _) _⟩
set_option maxHeartbeats 4000000 in
theorem add_more (s m r b : Int) (p ch af : Nat) (hp : p < 4294967296) (h : Pl.valid s m r b p = true) (hc0 : 0 < ch) (hc : ch < 16777216) (ha : af < 16777216) (hs : s < 4096) (hr : Pl.rest p ch af ≠ 0) (w : World) :
    Calls Tryz.prog 75 #[cnt s m r b p, .int .u32 ch, .int .u32 af] w fun e w' => e = .returned (.tuple #[cnt (s + 1) (m + Pl.pop ch) r (r + 1) (Pl.rest p ch af), .int .i64 0]) ∧ Below w.heap.size w w' := by
  unfold cnt
  have H := Lib.hid h
  obtain ⟨h1, h2, h3, h4, h5, h6, h7, h8⟩ := Pl.valid_true h
  clear h
  have c0 : ((ch : Int) == 0) = false := beq_eq_false_iff_ne.2 (by omega)
  have pc := Pl.pop_le24 ch hc
  have e := Pl.rest_eq p ch af hp (by omega) (by omega)
  have hwr := Lib.hid (IntWalk.i64_in (m + Pl.pop ch) (by omega))
  have rz : ((Pl.rest p ch af : Int) == 0) = false := beq_eq_false_iff_ne.2 (by omega)
  go_enter Tryz.func75, Tryz.ntmps75
  go_wp2_with fail
  refine (valid_yes s m r b p hp H.out _).mono ?_
  rintro e w1 ⟨rfl, hb⟩
  have bq := (Blk.new _ _ _).below hb (by simp)
  have bp := ((Blk.new _ _ _).alloc _).below hb (by simp only [World.size_alloc]; omega)
  simp only [World.size_alloc] at bq
  obtain ⟨q0, q1, q2, q3, q4, qf⟩ := blk5 bq
  obtain ⟨p0, p1, p2, p3, p4, pf⟩ := blk5 bp
  have hB := Lib.hid (((Below.refl w.heap.size w).alloc (Nat.le_refl _) _).alloc (by simp) _ |>.trans (hb.mono (by simp only [World.size_alloc]; omega)))
  have hn : w.heap.size + 1 < w1.heap.size := by have := hb.size; simp at this; omega
  have hn0 : w.heap.size < w1.heap.size := by omega
  clear hb
  go_wp2_with fail
  refine (possible2 _ ch af _ (by omega) (by omega) (by simp [go_sem]) (by simp [go_sem])).mono ?_
  rintro e w2 ⟨rfl, rfl⟩
  go_wp2_with fail
  go_region_with ((go_at_call 112; refine (ones_any ch (by omega) _).mono ?_; rintro e w' ⟨rfl, d, rfl⟩))
  all_goals
    generalize hW : World.setCell _ _ _ = w3
    have bp3 : Blk w3 w.heap.size 36 #[.int .i64 (s + 1), .int .i64 (m + Pl.pop ch), .int .i64 r, .int .i64 b, .int .u32 p] := by rw [← hW, hwr.out]; exact ((((bp.set_ 0 _).alloc _).drewN _).set_ 1 _)
    have bq3 : Blk w3 (w.heap.size + 1) 36 #[.int .i64 0, .int .i64 0, .int .i64 0, .int .i64 0, .int .u32 0] := by rw [← hW]; exact ((((bq.far (by simp) _).alloc _).drewN _).far (by simp) _)
    have hB3 : Below w.heap.size w w3 := by rw [← hW]; exact ((below_drewN ((hB.out.setCell (by simp) _).alloc (by simp; omega) _) _).setCell (by simp) _)
    clear hW hB p0 p1 p2 p3 p4 pf q0 q1 q2 q3 q4 qf bp bq
    have hB := Lib.hid hB3
    clear hB3
    have hn : w.heap.size + 1 < w3.heap.size := bq3.lt
    have hn0 : w.heap.size < w3.heap.size := by omega
    obtain ⟨p0, p1, p2, p3, p4, pf⟩ := blk5 bp3
    go_upto_region 14 with fail
    generalize hW : World.setCell _ _ _ = w4
    have bp4 : Blk w4 w.heap.size 36 #[.int .i64 (s + 1), .int .i64 (m + Pl.pop ch), .int .i64 r, .int .i64 (r + 1), .int .u32 (Pl.rest p ch af)] := by rw [← hW]; exact ((bp3.set_ 3 _).set_ 4 _)
    have bq4 : Blk w4 (w.heap.size + 1) 36 #[.int .i64 0, .int .i64 0, .int .i64 0, .int .i64 0, .int .u32 0] := by rw [← hW]; exact ((bq3.far (by simp) _).far (by simp) _)
    have hB4 : Below w.heap.size w w4 := by rw [← hW]; exact ((hB.out.setCell (by simp) _).setCell (by simp) _)
    clear hW hB p0 p1 p2 p3 p4 pf bp3 bq3 hn hn0
    have hB := Lib.hid hB4
    clear hB4
    have hn : w.heap.size + 1 < w4.heap.size := bq4.lt
    have hn0 : w.heap.size < w4.heap.size := by omega
    obtain ⟨q0, q1, q2, q3, q4, qf⟩ := blk5 bq4
    obtain ⟨p0, p1, p2, p3, p4, pf⟩ := blk5 bp4
    go_wp2
    refine bodyPost_ret (v := .tuple #[cnt (s + 1) (m + Pl.pop ch) r (r + 1) (Pl.rest p ch af), .int .i64 0]) ?_ rfl ⟨rfl, ?_⟩
    · simp [results, Tryz.results75, go_sem, cnt, q0, q1, q2, q3, q4]
    · have hBo := hB.out
      repeat (with_reducible first | refine Below.setCell ?_ (by simp) _ | refine below_drewN ?_ _ | refine Below.drew ?_ | refine Below.alloc ?_ (by simp; omega) _ | exact hBo)

set_option maxHeartbeats 4000000 in
theorem add_done (s m r b : Int) (p ch af : Nat) (hp : p < 4294967296) (h : Pl.valid s m r b p = true) (hc0 : 0 < ch) (hc : ch < 16777216) (ha : af < 16777216) (hs : s < 4096) (hr : Pl.rest p ch af = 0) (w : World) :
    Calls Tryz.prog 75 #[cnt s m r b p, .int .u32 ch, .int .u32 af] w fun e w' => e = .returned (.tuple #[cnt (s + 1) (m + Pl.pop ch) (r + 1) (r + 1) af, .int .i64 0]) ∧ Below w.heap.size w w' := by
  unfold cnt
  have H := Lib.hid h
  obtain ⟨h1, h2, h3, h4, h5, h6, h7, h8⟩ := Pl.valid_true h
  clear h
  have c0 : ((ch : Int) == 0) = false := beq_eq_false_iff_ne.2 (by omega)
  have pc := Pl.pop_le24 ch hc
  have e := Pl.rest_eq p ch af hp (by omega) (by omega)
  have hwr := Lib.hid (IntWalk.i64_in (m + Pl.pop ch) (by omega))
  rw [hr, show ((0 : Nat) : Int) = 0 from rfl] at e
  clear hr
  go_enter Tryz.func75, Tryz.ntmps75
  go_wp2_with fail
  refine (valid_yes s m r b p hp H.out _).mono ?_
  rintro e w1 ⟨rfl, hb⟩
  have bq := (Blk.new _ _ _).below hb (by simp)
  have bp := ((Blk.new _ _ _).alloc _).below hb (by simp only [World.size_alloc]; omega)
  simp only [World.size_alloc] at bq
  obtain ⟨q0, q1, q2, q3, q4, qf⟩ := blk5 bq
  obtain ⟨p0, p1, p2, p3, p4, pf⟩ := blk5 bp
  have hB := Lib.hid (((Below.refl w.heap.size w).alloc (Nat.le_refl _) _).alloc (by simp) _ |>.trans (hb.mono (by simp only [World.size_alloc]; omega)))
  have hn : w.heap.size + 1 < w1.heap.size := by have := hb.size; simp at this; omega
  have hn0 : w.heap.size < w1.heap.size := by omega
  clear hb
  go_wp2_with fail
  refine (possible2 _ ch af _ (by omega) (by omega) (by simp [go_sem]) (by simp [go_sem])).mono ?_
  rintro e w2 ⟨rfl, rfl⟩
  go_wp2_with fail
  go_region_with ((go_at_call 112; refine (ones_any ch (by omega) _).mono ?_; rintro e w' ⟨rfl, d, rfl⟩))
  all_goals
    generalize hW : World.setCell _ _ _ = w3
    have bp3 : Blk w3 w.heap.size 36 #[.int .i64 (s + 1), .int .i64 (m + Pl.pop ch), .int .i64 r, .int .i64 b, .int .u32 p] := by rw [← hW, hwr.out]; exact ((((bp.set_ 0 _).alloc _).drewN _).set_ 1 _)
    have bq3 : Blk w3 (w.heap.size + 1) 36 #[.int .i64 0, .int .i64 0, .int .i64 0, .int .i64 0, .int .u32 0] := by rw [← hW]; exact ((((bq.far (by simp) _).alloc _).drewN _).far (by simp) _)
    have hB3 : Below w.heap.size w w3 := by rw [← hW]; exact ((below_drewN ((hB.out.setCell (by simp) _).alloc (by simp; omega) _) _).setCell (by simp) _)
    clear hW hB p0 p1 p2 p3 p4 pf q0 q1 q2 q3 q4 qf bp bq
    have hB := Lib.hid hB3
    clear hB3
    have hn : w.heap.size + 1 < w3.heap.size := bq3.lt
    have hn0 : w.heap.size < w3.heap.size := by omega
    obtain ⟨p0, p1, p2, p3, p4, pf⟩ := blk5 bp3
    go_upto_region 14 with fail
    generalize hW : World.setCell _ _ _ = w4
    have bp4 : Blk w4 w.heap.size 36 #[.int .i64 (s + 1), .int .i64 (m + Pl.pop ch), .int .i64 (r + 1), .int .i64 (r + 1), .int .u32 af] := by rw [← hW]; exact ((((bp3.set_ 3 _).set_ 4 _).set_ 2 _).set_ 4 _)
    have bq4 : Blk w4 (w.heap.size + 1) 36 #[.int .i64 0, .int .i64 0, .int .i64 0, .int .i64 0, .int .u32 0] := by rw [← hW]; exact ((((bq3.far (by simp) _).far (by simp) _).far (by simp) _).far (by simp) _)
    have hB4 : Below w.heap.size w w4 := by rw [← hW]; exact ((((hB.out.setCell (by simp) _).setCell (by simp) _).setCell (by simp) _).setCell (by simp) _)
    clear hW hB p0 p1 p2 p3 p4 pf bp3 bq3 hn hn0
    have hB := Lib.hid hB4
    clear hB4
    have hn : w.heap.size + 1 < w4.heap.size := bq4.lt
    have hn0 : w.heap.size < w4.heap.size := by omega
    obtain ⟨q0, q1, q2, q3, q4, qf⟩ := blk5 bq4
    obtain ⟨p0, p1, p2, p3, p4, pf⟩ := blk5 bp4
    go_wp2
    refine bodyPost_ret (v := .tuple #[cnt (s + 1) (m + Pl.pop ch) (r + 1) (r + 1) af, .int .i64 0]) ?_ rfl ⟨rfl, ?_⟩
    · simp [results, Tryz.results75, go_sem, cnt, q0, q1, q2, q3, q4]
    · have hBo := hB.out
      repeat (with_reducible first | refine Below.setCell ?_ (by simp) _ | refine below_drewN ?_ _ | refine Below.drew ?_ | refine Below.alloc ?_ (by simp; omega) _ | exact hBo)
theorem acc_add (s m r b p ch af s' m' r' b' p' : Nat) (hp : p < 4294967296) (hv : Pl.valid s m r b p = true) (hc0 : 0 < ch) (hc : ch < 16777216) (ha : af < 16777216) (hs : s < 4096) (h1 : s' = s + 1) (h2 : m' = m + Pl.pop ch) (h3 : r' = r + if Pl.rest p ch af = 0 then 1 else 0) (h4 : b' = r + 1) (h5 : p' = if Pl.rest p ch af = 0 then af else Pl.rest p ch af) (w : World) :
    Calls Tryz.prog 75 #[cnt s m r b p, .int .u32 ch, .int .u32 af] w fun e w' => e = .returned (.tuple #[cnt s' m' r' b' p', .int .i64 0]) ∧ Below w.heap.size w w' := by
  have e1 : ((s + 1 : Nat) : Int) = (s : Int) + 1 := by omega
  have e2 : ((m + Pl.pop ch : Nat) : Int) = (m : Int) + Pl.pop ch := by omega
  have e3 : ((r + 1 : Nat) : Int) = (r : Int) + 1 := by omega
  by_cases hr : Pl.rest p ch af = 0
  · rw [if_pos hr] at h3 h5
    refine (add_done s m r b p ch af hp hv hc0 hc ha (by omega) hr w).mono fun e w' hh => ⟨?_, hh.2⟩
    rw [hh.1, h1, h2, h3, h4, h5, e1, e2, e3]
  · rw [if_neg hr, Nat.add_zero] at h3
    rw [if_neg hr] at h5
    refine (add_more s m r b p ch af hp hv hc0 hc ha (by omega) hr w).mono fun e w' hh => ⟨?_, hh.2⟩
    rw [hh.1, h1, h2, h3, h4, h5, e1, e2, e3]
end Go.Proofs.YtdfklagiafmoiaaGreatDoor
