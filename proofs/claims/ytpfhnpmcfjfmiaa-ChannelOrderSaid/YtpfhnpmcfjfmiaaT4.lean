/- The walk of ChannelOrder. -/
import Derived.Test.YtpfhnpmcfjfmiaaPlO
import Derived.Test.YtpfhnpmcfjfmiaaT3
import Derived.Test.YtpfhnpmcfjfmiaaKA
namespace Go.Proofs.Ytpfhnpmcfjfmiaa
open Go.RowKit

def ORel (w : World) (l : List (Int × Int)) (vo sent i : Value) (wr : World) : Prop :=
  ∃ (k : Nat) (zs : List OpV), k ≤ l.length ∧ k ≤ 150 ∧ i = .int .i64 k ∧ zs.map (·.1) = (ordOps (l.take k)).1 ∧ sent = .int .i64 ((ordOps (l.take k)).2 : Nat) ∧ OpsOwn w.heap.size wr vo zs ∧ Below w.heap.size w wr
theorem tmod_b (x : Int) (n : Int) (hn : 0 < n) : -n < x.tmod n ∧ x.tmod n < n := by
  have h1 := Int.tmod_lt_of_pos x hn
  have h2 := Int.tmod_lt_of_pos (-x) hn
  rw [Int.neg_tmod] at h2
  omega
theorem tmod_p (x : Int) (n : Int) (hx : 0 ≤ x) (hn : 0 < n) : 0 ≤ x.tmod n ∧ x.tmod n < n := ⟨Int.tmod_nonneg n hx, Int.tmod_lt_of_pos x hn⟩
def capO (c : Int) : Int := 1 + c.tmod 8 % 8
theorem capO_b (c : Int) : 1 ≤ capO c ∧ capO c ≤ 8 := by
  have h1 := Int.emod_nonneg (c.tmod 8) (show (8 : Int) ≠ 0 by decide)
  have h2 := Int.emod_lt_of_pos (c.tmod 8) (show (0 : Int) < 8 by decide)
  unfold capO
  omega
theorem kdO_b (c : Int) : 1 ≤ kdO c ∧ kdO c ≤ 3 := by
  have h1 := Int.emod_nonneg (c.tmod 3) (show (3 : Int) ≠ 0 by decide)
  have h2 := Int.emod_lt_of_pos (c.tmod 3) (show (0 : Int) < 3 by decide)
  unfold kdO
  omega
theorem kd_eq (c : Int) : 1 + (c.tmod 3 + 3).tmod 3 = kdO c := by
  have h1 := tmod_b c 3 (by decide)
  unfold kdO
  rw [Int.tmod_eq_emod_of_nonneg (by omega), Int.add_emod_right]
theorem OpsOwn.set {base g t i : Nat} {w : World} {vo x : Value} {zs : List OpV} {cs : Array Value} (h : OpsOwn base w vo zs) (hb : Blk w g t cs) (ht : 3 ≠ t) (hne : ∀ b, vo.ownBlock = some b → b ≠ g) : OpsOwn base (w.setCell ⟨g, i, none⟩ x) vo zs := by
  refine ⟨h.own.kept (set_grown _ ⟨g, i, none⟩ x g) ?_, fun z hz => (h.it z hz).set hb ht i x⟩
  cases hv : vo.ownBlock with
  | none => exact .inl rfl
  | some b => exact .inr (fun e => by injection e with e; exact hne b hv e)
theorem reads_newN (w : World) (t size n : Nat) (l : List Value) (hl : l.length = n * size) : Reads (w.alloc (.cells l.toArray t)) (w.heap.size + 1) size (some ⟨w.heap.size, 0, none⟩) n l :=
  reads_blk (Blk.new w t l.toArray) (Nat.lt_succ_self _) hl
theorem one_op3 (a b : Int) (u : Value) (h : u.oneCell' = true) : ∀ x ∈ [Value.int .i64 a, .int .i64 b, u], x.oneCell' = true := by
  intro x hx
  simp only [List.mem_cons, List.not_mem_nil, or_false] at hx
  rcases hx with rfl | rfl | rfl
  all_goals first | rfl | assumption
theorem it_one_set (w : World) (a : Addr) (x : Value) (z : Int) : ItB ((w.setCell a x).alloc (.cells #[.int .i64 z] 3)) (.slice (some ⟨w.heap.size, 0, none⟩) 1 1) [z] := by
  have := ItB.one (w.setCell a x) z
  rwa [show (w.setCell a x).heap.size = w.heap.size by simp [World.setCell]] at this
theorem pair_at {w : World} {B : Nat} {A : Option Addr} {l : List (Int × Int)} {k : Nat} (h : Reads w B 2 A l.length (l.flatMap fun z => [Value.int .i64 z.1, Value.int .i64 z.2])) (hk : k < l.length) :
    ∃ ad, A = some ad ∧ ad.block < B ∧ w.cell? (ad.add (k * 2)) = some (.int .i64 l[k].1) ∧ w.cell? ⟨(ad.add (k * 2)).block, (ad.add (k * 2)).off + 1, none⟩ = some (.int .i64 l[k].2) := by
  obtain ⟨ad, e, hb, hc⟩ := h.2 (by omega)
  have key : ∀ (l : List (Int × Int)) (k : Nat) (h : k < l.length), (l.flatMap fun z => [Value.int .i64 z.1, Value.int .i64 z.2])[k * 2]? = some (.int .i64 l[k].1) ∧ (l.flatMap fun z => [Value.int .i64 z.1, Value.int .i64 z.2])[k * 2 + 1]? = some (.int .i64 l[k].2) := by
    intro l
    induction l with
    | nil => intro k h; simp at h
    | cons z l ih =>
      intro k h
      rcases k with _ | k
      · exact ⟨rfl, rfl⟩
      · have := ih k (by simpa using h)
        rw [List.flatMap_cons, List.getElem?_append_right (by simp; omega), List.getElem?_append_right (by simp; omega)]
        have e1 : (k + 1) * 2 - [Value.int .i64 z.1, Value.int .i64 z.2].length = k * 2 := by simp; omega
        have e2 : (k + 1) * 2 + 1 - [Value.int .i64 z.1, Value.int .i64 z.2].length = k * 2 + 1 := by simp; omega
        rw [e1, e2]
        simpa using this
  obtain ⟨g0, g1⟩ := key l k hk
  have c1 := hc _ _ g1
  rw [← add_add'] at c1
  exact ⟨ad, e, hb, hc _ _ g0, c1⟩

set_option maxRecDepth 100000 in
set_option maxHeartbeats 4000000 in
theorem order_law (w : World) (cp : Int) (_hcp : -9223372036854775808 ≤ cp ∧ cp ≤ 9223372036854775807) (l : List (Int × Int)) (Al : Option Addr) (cl : Nat) (_hm : l.length ≤ 9223372036854775807) (hr : Reads w w.heap.size 2 Al l.length (l.flatMap fun z => [Value.int .i64 z.1, Value.int .i64 z.2]))
    (hz : ∀ z ∈ l, (Lit.int .i64 z.1).wf = true ∧ (Lit.int .i64 z.2).wf = true) :
    Calls Try.prog 5 #[.int .i64 cp, .slice Al l.length cl] w fun e w' => e = .returned (.bool true) ∧ Below w.heap.size w w' := by
  have HL := Lib.hid hr
  have HZ := Lib.hid hz
  clear hr hz
  obtain ⟨hc1, hc2⟩ := capO_b cp
  have a1 := tmod_b cp 8 (by decide)
  have a2 := tmod_p (cp.tmod 8 + 8) 8 (by omega) (by decide)
  have w1 := IntWalk.i64_in (cp.tmod 8) (by omega)
  have w2 := IntWalk.i64_in (cp.tmod 8 + 8) (by omega)
  have w3 := IntWalk.i64_in ((cp.tmod 8 + 8).tmod 8) (by omega)
  have w4 := IntWalk.i64_in (1 + (cp.tmod 8 + 8).tmod 8) (by omega)
  obtain ⟨i0, hi0, hz0, hz1, hz2⟩ := info_parts Try.infoInts
  obtain ⟨j0, hj0, hy0, hy1, hy2⟩ := info_parts Try.infoOp
  go_enter Try.func5, Try.ntmps5
  go_wp2_with fail
  clear w1 w2 w3 w4 a1 a2
  rw [show 1 + cp.tmod 8 % 8 = capO cp from rfl]
  generalize capO cp = cap at *
  generalize (cp.tmod 8 + 8) % 8 = junk1
  generalize cp.tmod 8 + 8 = junk2
  generalize cp.tmod 8 = junk3
  go_loopw [5, 6, 7] (ORel w l) (fun _ _ i _ => l.length - (intOf i).toNat)
  case atStart => exact ⟨0, [], Nat.zero_le _, Nat.zero_le _, rfl, rfl, rfl, OpsOwn.nil _ _, Below.refl _ _⟩
  case round =>
    obtain ⟨k, zs, hk, hk150, rfl, hzs, rfl, hoo, hB⟩ := hrel
    obtain ⟨ol1, ol2⟩ := ord_len (l.take k)
    have htl : (l.take k).length = k := by rw [List.length_take]; omega
    have hzl : zs.length = k := by have := congrArg List.length hzs; rw [List.length_map] at this; omega
    have hbz := hB.size
    have HZS := Lib.hid hzs
    have HOO := Lib.hid hoo
    have HB := Lib.hid hB
    by_cases hend : k < l.length ∧ k < 150
    · obtain ⟨hlt, hlt2⟩ := hend
      obtain ⟨ad, hA, hbl, c0, c1⟩ := pair_at (HL.out.below hB) hlt
      subst hA
      have HST := Lib.hid (show ordOps (l.take (k + 1)) = ordStep (ordOps (l.take k)) l[k] by rw [List.take_succ_eq_append_getElem hlt, ord_snoc])
      have hzz := HZ.out l[k] (List.getElem_mem _)
      generalize l[k] = z at *
      obtain ⟨kd, at_⟩ := z
      dsimp only at c0 c1 hzz
      have kb1 := i64_wf hzz.1
      have kb2 := i64_wf hzz.2
      have a1 := tmod_b kd 3 (by decide)
      have a2 := tmod_p (kd.tmod 3 + 3) 3 (by omega) (by decide)
      have a3 := tmod_b at_ 10 (by decide)
      have e1 := IntWalk.i64_in (kd.tmod 3) (by omega)
      have e2 := IntWalk.i64_in (kd.tmod 3 + 3) (by omega)
      have e3 := IntWalk.i64_in ((kd.tmod 3 + 3).tmod 3) (by omega)
      have e4 := IntWalk.i64_in (1 + (kd.tmod 3 + 3).tmod 3) (by omega)
      have e5 := IntWalk.i64_in (at_.tmod 10) (by omega)
      obtain ⟨hkd1, hkd2⟩ := kdO_b kd
      generalize ordOps (l.take k) = os at *
      obtain ⟨ops, sent⟩ := os
      dsimp only at HZS ol1 ol2 ⊢
      have k0 : (0 : Int) ≤ (k : Int) := by omega
      have k1 : (k : Int) < (l.length : Int) := by omega
      have hbl2 : (ad.add (k * 2)).block < wr.heap.size := by rw [block_of_add]; omega
      clear hoo hB hzs hzz
      go_upto_region 7 with fail
      have rule := below_addr wr
      have rule2 := below_rule wr
      go_region_held3 (fun x => Below wr.heap.size wr x) (first | exact Below.refl _ _ | exact Below.drew (Below.refl _ _) | assumption | exact balloc (by assumption) _ | exact bdrw (balloc (Below.refl _ _) _)) (first | fail)
      rw [kd_eq]
      have HST1 := Lib.hid (show ordOps (l.take (k + 1)) = (ops ++ [(kdO kd, at_.tmod 10, if kdO kd = 1 then [(sent : Int)] else [])], if kdO kd = 1 then sent + 1 else sent) from HST.out)
      generalize kdO kd = kk at *
      generalize hW : World.drew _ = W1
      have hbw : Below wr.heap.size wr W1 := by rw [← hW]; exact bdrw (balloc (Below.refl _ _) _)
      have bo : Blk W1 wr.heap.size 38 #[.int .i64 kk, .int .i64 (at_.tmod 10), .slice none 0 0] := by rw [← hW]; exact (Blk.new _ _ _).drew
      have HO1 := Lib.hid (HOO.out.below hbw)
      have HNE := Lib.hid (fun b (h : u5.ownBlock = some b) => (show b < wr.heap.size from (HOO.out.own.lt b h).2))
      have HB1 := Lib.hid (below_end hbw HB.out)
      have hbz1 := HB1.out.size
      obtain ⟨y0, y1, y2, yf⟩ := blk3 bo
      have lbo := bo.lt
      clear hW hbw rule rule2 c0 c1 HST a1 a2 e1 e2 e3 e4 e5 HOO HB
      by_cases hk1 : kk = 1
      · subst hk1
        have BO := Lib.hid bo
        clear bo
        go_upto_region 10 with fail
        generalize hW2 : World.alloc _ _ = W2
        have hnw : wr.heap.size ≠ W1.heap.size := by omega
        have hO2 : OpsOwn w.heap.size W2 u5 zs := by rw [← hW2]; exact (HO1.out.set BO.out (by decide) fun b hb => by have := HNE.out b hb; omega).alloc _
        have bo2 : Blk W2 wr.heap.size 38 #[.int .i64 1, .int .i64 (at_.tmod 10), .slice (some ⟨W1.heap.size, 0, none⟩) 1 1] := by rw [← hW2]; exact (BO.out.set_ 2 _).alloc _
        have hI2 : ItB W2 (.slice (some ⟨W1.heap.size, 0, none⟩) 1 1) [(sent : Int)] := by rw [← hW2]; exact it_one_set W1 ⟨wr.heap.size, 2, none⟩ _ sent
        have hB2 : Below w.heap.size w W2 := by rw [← hW2]; exact balloc (HB1.out.setCell (by show w.heap.size ≤ wr.heap.size; exact hbz) _) _
        have HO2 := Lib.hid hO2
        have HI2 := Lib.hid hI2
        have HB2 := Lib.hid hB2
        have hbz2 := hB2.size
        have lbo2 := bo2.lt
        obtain ⟨x0, x1, x2, xf⟩ := blk3 bo2
        clear hW2 hO2 bo2 hI2 hB2 y0 y1 y2 yf HO1 HB1 BO
        go_upto_region 6 with (at_builtin; refine wpList_append_any _ rfl (.tmp 54) (.tmp 56) 36 rfl w.heap.size 38 j0 (.agg #[.int .i64 0, .int .i64 0, .slice none 0 0]) 3 40 Try.underlying36 hj0 hy0 hy1 hy2 rfl (by decide) u5 zs.length (zs.flatMap opc) rfl (HO2.out.own.alloc _) (W2.heap.size + 1) (some ⟨W2.heap.size, 0, none⟩) 1 1 [.int .i64 1, .int .i64 (at_.tmod 10), .slice (some ⟨W1.heap.size, 0, none⟩) 1 1] rfl (reads_newN _ _ _ _ _ rfl) (one_op3 _ _ _ rfl) (len_ok (by omega)) (by omega) (by simp; omega) ?_; intro v5 x5 ho5 hg5 hv5; clear hv5)
        have hoo5 := HO2.out.app (ys := [((1, at_.tmod 10, [(sent : Int)]), .slice (some ⟨W1.heap.size, 0, none⟩) 1 1)]) (balloc (Below.refl _ _) _) ho5 hg5 (fun y hy => by
          rw [List.mem_singleton] at hy
          subst hy
          exact HI2.out.alloc _)
        have hB5 : Below w.heap.size w x5 := (balloc HB2.out _).grown hg5 (balloc HB2.out _).size (fun b hb => (HO2.out.own.lt b hb).1)
        have HO5 := Lib.hid hoo5
        have HB5 := Lib.hid hB5
        clear hoo5 hB5 ho5 hg5 x0 x1 x2 xf
        go_wp2
        refine ⟨⟨k + 1, _, by omega, by omega, by go_num, ?_, ?_, HO5.out, HB5.out⟩, by simp [intOf]; omega⟩
        · rw [HST1.out, List.map_append, HZS.out]; rfl
        · rw [HST1.out]; go_num
      · have d1 : (kk == 1) = false := beq_eq_false_iff_ne.2 hk1
        clear bo
        go_upto_region 6 with (at_builtin; refine wpList_append_any _ rfl (.tmp 54) (.tmp 56) 36 rfl w.heap.size 38 j0 (.agg #[.int .i64 0, .int .i64 0, .slice none 0 0]) 3 40 Try.underlying36 hj0 hy0 hy1 hy2 rfl (by decide) u5 zs.length (zs.flatMap opc) rfl (HO1.out.own.alloc _) (W1.heap.size + 1) (some ⟨W1.heap.size, 0, none⟩) 1 1 [.int .i64 kk, .int .i64 (at_.tmod 10), .slice none 0 0] rfl (reads_newN _ _ _ _ _ rfl) (one_op3 _ _ _ rfl) (len_ok (by omega)) (by omega) (by simp; omega) ?_; intro v5 x5 ho5 hg5 hv5; clear hv5)
        have hoo5 := HO1.out.app (ys := [((kk, at_.tmod 10, []), .slice none 0 0)]) (balloc (Below.refl _ _) _) ho5 hg5 (fun y hy => by
          rw [List.mem_singleton] at hy
          subst hy
          exact .inl ⟨rfl, rfl⟩)
        have hB5 : Below w.heap.size w x5 := (balloc HB1.out _).grown hg5 (balloc HB1.out _).size (fun b hb => (HO1.out.own.lt b hb).1)
        have HO5 := Lib.hid hoo5
        have HB5 := Lib.hid hB5
        clear hoo5 hB5 ho5 hg5 y0 y1 y2 yf
        go_wp2
        refine ⟨⟨k + 1, _, by omega, by omega, by go_num, ?_, ?_, HO5.out, HB5.out⟩, by simp [intOf]; omega⟩
        · rw [HST1.out, List.map_append, HZS.out, if_neg hk1]; rfl
        · rw [HST1.out]
          show _ = Value.int .i64 ((if kk = 1 then sent + 1 else sent : Nat) : Int)
          rw [if_neg hk1]
    · obtain ⟨xs, hx⟩ := ord_play hc1 hc2 (l.take k)
      have hops := hoo.at
      rw [hzs] at hops
      have HOP := Lib.hid hops
      have CP := Lib.hid (play_any cap [] (ordOps (l.take k)).1 (by omega) (.agg #[.int .i64 cap, .slice none 0 0]) u5)
      have hpv : playV cap [] (ordOps (l.take k)).1 = playQ cap [] (ordOps (l.take k)).1 := by unfold playV; rw [if_pos (vld_mk (Q := []) hc1 hc2 (by simp; omega) (by simp))]
      rw [hpv] at CP
      clear hpv
      generalize playQ cap [] (ordOps (l.take k)).1 = ps at *
      generalize (ordOps (l.take k)).2 = sent at *
      obtain ⟨cp', Q', R, lost⟩ := ps
      obtain ⟨xc, xv, xe, xa, xl, xn⟩ := hx
      dsimp only at xc xv xe xn CP
      subst xc
      have hel : R.length + Q'.length = xs.length := by have := congrArg List.length xe; simpa using this
      have hQc := (vld_mem xv).2.2.1
      have HXE := Lib.hid xe
      have HXA := Lib.hid xa
      have HXL := Lib.hid (lst_lt xl)
      have HEL := Lib.hid (show 0 + R.length + Q'.length = xs.length by omega)
      have HXN := Lib.hid xn
      have hxb : xs.length ≤ 150 := by omega
      have hRb : R.length ≤ 150 := by omega
      have hQb : Q'.length ≤ 150 := by omega
      have hlb : lost ≤ 150 := by omega
      have htest : decide ((k : Int) < (l.length : Int)) = false ∨ (decide ((k : Int) < (l.length : Int)) = true ∧ decide ((k : Int) < 150) = false) := by
        by_cases h : k < l.length
        · exact .inr ⟨decide_eq_true (by omega), decide_eq_false (by omega)⟩
        · exact .inl (decide_eq_false (by omega))
      have htest2 : (decide (k < l.length) = false) ∨ (decide (k < l.length) = true ∧ decide (k < 150) = false) := by
        by_cases h : k < l.length
        · exact .inr ⟨decide_eq_true (by omega), decide_eq_false (by omega)⟩
        · exact .inl (decide_eq_false (by omega))
      clear hoo hB hzs hops xv xe xa xl xn hel hend HZS HOO
      by_cases hlt : k < l.length
      all_goals
        first
          | (have t1 : (k : Int) < (l.length : Int) := by omega
             have t2 : ¬ (k : Int) < 150 := by rcases htest with h | ⟨_, h⟩; exact absurd t1 (of_decide_eq_false h); exact of_decide_eq_false h
             have t3 : ¬ k < 150 := by omega)
          | (have t1 : ¬ (k : Int) < (l.length : Int) := by omega)
        clear htest htest2
        go_wp2_with fail
        refine (CP.out _ chan_nil HOP.out).mono ?_
        rintro e y1 ⟨vi, vr, rfl, hvi, hvr, hb⟩
        dsimp only at hvi hvr ⊢
        obtain ⟨A1, c1, rfl⟩ := items_form hvi
        obtain ⟨R1, d1, rfl⟩ := items_form hvr
        have HB5 := Lib.hid (below_end hb HB.out)
        have HVI := Lib.hid hvi
        have HVR := Lib.hid hvr
        clear hb hvi hvr CP HOP HB
        go_upto_region 13 with fail
        generalize hW : World.alloc _ _ = W0
        have hbw : Below y1.heap.size y1 W0 := by rw [← hW]; exact balloc (Below.refl _ _) _
        have bn : Blk W0 y1.heap.size 24 #[.int .i64 cp', .slice A1 Q'.length c1] := by rw [← hW]; exact Blk.new _ _ _
        have HB6 := Lib.hid (below_end hbw HB5.out)
        have HVI6 := Lib.hid (HVI.out.go hbw)
        have HVR6 := Lib.hid (HVR.out.go hbw)
        clear hW hbw HB5 HVI HVR
        obtain ⟨y0, z0, f0⟩ := blk2 bn
        have lb := bn.lt
        have BN := Lib.hid bn
        clear bn
        have rule := below_rule W0
        obtain ⟨A1', c1', rs1, e1, hr1, hk1⟩ := HVI6.out
        injection e1 with e11 _ e12
        subst e11 e12
        obtain ⟨R1', d1', rs2, e2, hr2, hk2⟩ := HVR6.out
        injection e2 with e21 _ e22
        subst e21 e22
        have HRI := Lib.hid hr1
        have HKI := Lib.hid hk1
        have HRR2 := Lib.hid hr2
        have HKR := Lib.hid hk2
        have HO1 := Lib.hid (rows_one hr1 hk1)
        have HO2 := Lib.hid (rows_one hr2 hk2)
        clear hr1 hk1 hr2 hk2
        have HTI := Lib.hid (fun (u1z : Nat) (x : World) (A : Option Addr) (c : Nat) (ho : x.ownsRow u1z 25 1 (.slice A xs.length c) xs.length ([] ++ rs2 ++ rs1)) (hb : Below W0.heap.size W0 x) => two_items ho (show (R ++ Q').length = xs.length by rw [List.length_append, ← HEL.out]; omega) HRR2.out.1 HKR.out HKI.out hb)
        rw [HXE.out] at HTI
        have HLN := Lib.hid (show 0 + R.length ≤ maxLen from len_ok (by omega))
        have HLN1 := Lib.hid (show 0 + R.length + Q'.length ≤ maxLen from len_ok (by omega))
        go_region_held3 (fun x => Below W0.heap.size W0 x) (first | exact Below.refl _ _ | exact Below.drew (Below.refl _ _) | assumption | exact balloc (by assumption) _ | exact bdrw (balloc (Below.refl _ _) _))
          (first
            | ((with_reducible refine step_app_b W0 rfl (.tmp 66) (.tmp 67) 22 rfl 25 i0 (.slice none 0 0) 24 Try.underlying22 hi0 hz0 hz1 hz2 rfl (.slice (some ⟨W0.heap.size, 0, none⟩) 0 0) 0 [] rfl ?_ ?_ W0.heap.size R1 R.length d1 rs2 rfl ?_ ?_ ?_ ?_ ?_); exact own_eA _ _; exact bel1 _ _; exact HRR2.out.below (bel1 _ _); exact HO2.out; exact HLN.out; omega; intro v5 x5 ho5 hx5 hg5)
            | ((with_reducible refine step_app_b W0 rfl (.tmp 68) (.tmp 70) 22 rfl 25 i0 (.slice none 0 0) 24 Try.underlying22 hi0 hz0 hz1 hz2 rfl v5 (0 + R.length) ([] ++ rs2) rfl ?_ ?_ W0.heap.size A1 Q'.length c1 rs1 rfl ?_ ?_ ?_ ?_ ?_); exact ho5; exact hx5; exact HRI.out.below hx5; exact HO1.out; exact HLN1.out; omega; intro v6 x6 ho6 hx6 hg6; rw [HEL.out] at ho6; obtain ⟨A6, c6, rfl⟩ := own_form ho6))
        have HI6 := Lib.hid (HTI.out _ _ _ _ ho6 hx6)
        have HB7 := Lib.hid (below_end hx6 HB6.out)
        have b6 := BN.out.below hx6 lb
        clear ho6 hx6 hg6 ho5 hx5 hg5 rule y0 z0 f0 HTI HRI HKI HRR2 HKR HVI6 HVR6 HB6 BN
        have B6 := Lib.hid b6
        clear b6
        go_wp2_with fail
        go_loop [13, 14] (fun last i => ∃ j : Nat, j ≤ xs.length ∧ last = .int .i64 (lst xs j) ∧ i = .int .i64 j) (fun _ i => xs.length - (intOf i).toNat)
        case atStart => exact ⟨0, Nat.zero_le _, rfl, rfl⟩
        case round =>
          obtain ⟨j, hj, rfl, rfl⟩ := hrel
          by_cases hjl : j < xs.length
          · obtain ⟨A6', c6', rs, e6, hr6, hk6⟩ := HI6.out
            rw [List.length_map] at e6 hr6
            injection e6 with e61 _ e62
            subst e61 e62
            obtain ⟨u, hu, Au, cu, rfl, hru⟩ := hk6 j [(xs[j] : Int)] (by rw [List.getElem?_map, List.getElem?_eq_getElem hjl]; rfl)
            obtain ⟨ad6, hA6, -, hc6⟩ := hr6.2 (by omega)
            subst hA6
            have q0 := hc6 j _ hu
            obtain ⟨adu, hAu, -, hcu⟩ := hru.2 (by simp)
            subst hAu
            have q1 := hcu 0 (Iz (xs[j] : Int)) rfl
            rw [show adu.add 0 = adu by cases adu; simp [Addr.add]] at q1
            unfold Iz at q1
            simp only [List.length_cons, List.length_nil, Nat.zero_add] at q0
            obtain ⟨ls1, ls2⟩ := lst_step HXA.out hjl
            have HLS := Lib.hid ls2
            have d1' : decide ((xs[j] : Int) ≤ lst xs j) = false := decide_eq_false (by omega)
            have d2' : ¬ (xs[j] : Int) ≤ lst xs j := by omega
            clear ls1 ls2 hc6 hcu hu hru hr6 hk6
            generalize xs[j] = xj at *
            generalize lst xs j = lj at *
            have j0' : (0 : Int) ≤ (j : Int) := by omega
            have j1' : (j : Int) < (xs.length : Int) := by omega
            go_wp2
            refine ⟨⟨j + 1, by omega, by rw [HLS.out], by go_num⟩, by simp [intOf]; omega⟩
          · obtain rfl : j = xs.length := by omega
            have hll := HXL.out
            have hnn := HXN.out
            generalize lst xs xs.length = ll at *
            have e1' : (((xs.length : Int) + (lost : Int)) == (sent : Int)) = true := by rw [← hnn]; simp
            have e2' := IntWalk.i64_in ((xs.length : Int) + (lost : Int)) (by omega)
            have HNN := Lib.hid hnn
            clear hnn
            go_wp2_with fail
            refine (known_any _).mono ?_
            rintro e w9 ⟨rfl, hb9⟩
            have HB9 := Lib.hid (below_end hb9 HB7.out)
            obtain ⟨y0, z0, f0⟩ := blk2 (B6.out.below hb9 B6.out.lt)
            clear hb9
            go_wp2
            go_ret
            exact ⟨rfl, HB9.out⟩
end Go.Proofs.Ytpfhnpmcfjfmiaa
