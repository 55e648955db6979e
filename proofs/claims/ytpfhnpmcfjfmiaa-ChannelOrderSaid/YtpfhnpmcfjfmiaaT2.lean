/- The walk of ChannelPlays. -/
import Derived.Test.YtpfhnpmcfjfmiaaR7
import Derived.Test.YtpfhnpmcfjfmiaaT1
namespace Go.Proofs.Ytpfhnpmcfjfmiaa
open Go.RowKit

def Bd (n : Nat) (s : Int × List (List Int) × List (List Int) × Nat) : Prop := s.2.1.length ≤ n ∧ (∀ x ∈ s.2.1, x.length ≤ 100) ∧ ∀ x ∈ s.2.2.1, x.length ≤ 100
theorem bd_op {n : Nat} {s : Int × List (List Int) × List (List Int) × Nat} {o : COp} (h : Bd n s) (ho : o.2.2.length ≤ 100) : Bd (n + 1) (opQ s o) := by
  obtain ⟨h1, h2, h3⟩ := h
  obtain ⟨cp, Q, R, l⟩ := s
  dsimp only at h1 h2 h3
  unfold opQ
  split
  · unfold sendQ
    dsimp only
    split
    · exact ⟨Nat.zero_le _, by simp, h3⟩
    · split
      · exact ⟨Nat.le_succ_of_le h1, h2, h3⟩
      · refine ⟨by simpa using h1, fun x hx => ?_, h3⟩
        rcases List.mem_append.1 hx with hx | hx
        · exact h2 x hx
        · rw [List.mem_singleton] at hx; subst hx; exact ho
  · split
    · unfold recvQ
      dsimp only
      split
      · exact ⟨Nat.zero_le _, by simp, by simpa using h3⟩
      · match Q, h1, h2 with
        | [], _, _ => exact ⟨Nat.zero_le _, by simp, by simpa using h3⟩
        | q :: Q', h1, h2 =>
          refine ⟨?_, fun x hx => h2 x (List.mem_cons_of_mem _ hx), fun x hx => ?_⟩
          · simp only [List.length_cons] at h1
            show Q'.length ≤ _
            omega
          · simp only [if_true] at hx
            rcases List.mem_append.1 hx with hx | hx
            · exact h3 x hx
            · rw [List.mem_singleton] at hx; subst hx; exact h2 _ (List.mem_cons_self ..)
    · split
      · unfold loseQ
        dsimp only
        split
        · exact ⟨Nat.zero_le _, by simp, h3⟩
        · split
          · exact ⟨Nat.le_succ_of_le h1, h2, h3⟩
          · exact ⟨Nat.le_succ_of_le (Nat.le_trans (List.length_eraseIdx_le ..) h1), fun x hx => h2 x (List.mem_of_mem_eraseIdx hx), h3⟩
      · exact ⟨Nat.le_succ_of_le h1, h2, h3⟩
theorem bd_fold : ∀ (l : List COp) (n : Nat) (s : Int × List (List Int) × List (List Int) × Nat), Bd n s → (∀ o ∈ l, o.2.2.length ≤ 100) → Bd (n + l.length) (l.foldl opQ s)
  | [], _, _, h, _ => h
  | o :: l, n, s, h, hl => by
    have := bd_fold l (n + 1) (opQ s o) (bd_op h (hl o (List.mem_cons_self ..))) fun x hx => hl x (List.mem_cons_of_mem _ hx)
    rw [List.foldl_cons, List.length_cons, show n + (l.length + 1) = n + 1 + l.length by omega]
    exact this
theorem sml_play {cap : Int} {Q : List (List Int)} {ops : List COp} (h : largeB Q = false) (hl : ops.length ≤ 200) (ho : ∀ o ∈ ops, o.2.2.length ≤ 100) : Sml (playV cap Q ops).2.1 ∧ Sml (playV cap Q ops).2.2.1 := by
  obtain ⟨h1, h2⟩ := sml_of h
  unfold playV
  split
  · obtain ⟨b1, b2, b3⟩ := bd_fold ops 30 (cap, Q, [], 0) ⟨h1, h2, by simp⟩ ho
    have b4 := (playQ_lost cap Q ops).2
    exact ⟨sml_mem (by show (playQ cap Q ops).2.1.length ≤ _; unfold playQ; omega) fun x hx => by have := b2 x hx; omega, sml_mem (by omega) fun x hx => by have := b3 x hx; omega⟩
  · exact ⟨sml_nil, sml_nil⟩
theorem sameItems_b {Q : List (List Int)} (hQ : Sml Q) {v u : Value} {w : World} (hA : ItemsAt w w.heap.size v Q) (hB : ItemsAt w w.heap.size u Q) :
    Calls Try.prog 21 #[v, u] w fun e w' => e = .returned (.bool true) ∧ Below w.heap.size w w' :=
  (sameItems_eq Q hQ.1 hQ.2 v u _ _ w hA hB).mono fun _ _ ⟨he, d, hd⟩ => ⟨he, by rw [hd]; exact below_drewN (Below.refl _ _) d⟩
theorem items_form {w : World} {B : Nat} {v : Value} {Q : List (List Int)} (h : ItemsAt w B v Q) : ∃ (A : Option Addr) (c : Nat), v = .slice A Q.length c := by
  obtain ⟨A, c, rows, rfl, _⟩ := h
  exact ⟨A, c, rfl⟩

set_option maxRecDepth 100000 in
set_option maxHeartbeats 4000000 in
theorem plays_law (w : World) (cap : Int) (Q : List (List Int)) (v : Value) (hC : ChanAt w w.heap.size v cap Q) (hcp : CapOk v) (ops : List COp) (vo : Value) (hO : OpsAt w w.heap.size vo ops) (_hm : ops.length ≤ 9223372036854775807) :
    Calls Try.prog 4 #[v, vo] w fun e w' => e = .returned (.bool true) ∧ Below w.heap.size w w' := by
  have HC := Lib.hid hC
  have HCP := Lib.hid hcp
  have HO := Lib.hid hO
  obtain ⟨A, c, rfl⟩ := chan_form hC
  obtain ⟨Ao, co, rfl, -⟩ := hO
  clear hC hcp
  have hb0 := (Below.refl w.heap.size w).alloc (Nat.le_refl _) (.cells #[.int .i64 cap, .slice A Q.length c] 24)
  have HB0 := Lib.hid hb0
  clear hb0
  by_cases hlg : largeB Q = true ∨ 200 < ops.length
  · cases hl : largeB Q
    all_goals
      first
        | (have hq : 200 < ops.length := by rcases hlg with h | h; rw [hl] at h; cases h; exact h)
        | skip
      have H1 := Lib.hid hl
      clear hl hlg
      go_enter Try.func4, Try.ntmps4
      go_wp2_with fail
      refine (large_is cap Q _ _ H1.out _ (HC.out.go HB0.out)).mono ?_
      rintro e w1 ⟨rfl, hb1⟩
      have HB1 := Lib.hid (below_end hb1 HB0.out)
      clear hb1
      go_wp2_with fail
      refine (known_any _).mono ?_
      rintro e w2 ⟨rfl, hb2⟩
      go_wp2
      go_ret
      exact ⟨rfl, below_end hb2 HB1.out⟩
  · have H1 := Lib.hid (show largeB Q = false from Bool.eq_false_iff.2 fun h => hlg (.inl h))
    have hq : ¬ 200 < ops.length := fun h => hlg (.inr h)
    have hq' : ops.length ≤ 200 := by omega
    clear hlg
    go_enter Try.func4, Try.ntmps4
    go_wp2_with fail
    refine (large_is cap Q _ false H1.out _ (HC.out.go HB0.out)).mono ?_
    rintro e w1 ⟨rfl, hb1⟩
    have HB1 := Lib.hid (below_end hb1 HB0.out)
    have bs := (Blk.new w 24 #[.int .i64 cap, .slice A Q.length c]).below hb1 (by simp)
    clear hb1
    obtain ⟨p0, p1, pf⟩ := blk2 bs
    have BS := Lib.hid bs
    have lbs := bs.lt
    clear bs
    go_wp2_with fail
    go_loop [5] (fun i => ∃ k : Nat, k ≤ ops.length ∧ i = .int .i64 k ∧ ∀ o ∈ ops.take k, o.2.2.length ≤ 100) (fun i => ops.length - (intOf i).toNat)
    case atStart => exact ⟨0, Nat.zero_le _, rfl, by simp⟩
    case round =>
      obtain ⟨k, hk, rfl, hall⟩ := hrel
      have HALL := Lib.hid hall
      clear hall
      by_cases hlt : k < ops.length
      · obtain ⟨Ao', co', hvo, hops⟩ := HO.out.go HB1.out
        injection hvo with q1 _ q3
        subst q1 q3
        obtain ⟨ad, hA, hbl, hcell⟩ := hops (by omega)
        subst hA
        obtain ⟨u, c0, c1', c2, hit⟩ := hcell k hlt
        have HT := Lib.hid (List.take_succ_eq_append_getElem hlt)
        clear hops hcell
        generalize ops[k] = o at *
        obtain ⟨kd, at_, q⟩ := o
        dsimp only at c0 c1' c2 hit
        obtain ⟨Aq, cq, rfl, -⟩ := hit
        have k0 : (0 : Int) ≤ (k : Int) := by omega
        have k1 : (k : Int) < (ops.length : Int) := by omega
        by_cases hl1 : 100 < q.length
        · go_wp2_with fail
          refine (known_any _).mono ?_
          rintro e w2 ⟨rfl, hb2⟩
          go_wp2
          go_ret
          exact ⟨rfl, below_end hb2 HB1.out⟩
        · go_wp2
          refine ⟨⟨k + 1, by omega, by go_num, fun o ho => ?_⟩, by simp [intOf]; omega⟩
          rw [HT.out] at ho
          rcases List.mem_append.1 ho with ho | ho
          · exact HALL.out o ho
          · rw [List.mem_singleton] at ho; subst ho; show q.length ≤ 100; omega
      · obtain rfl : k = ops.length := by omega
        have hall := HALL.out
        rw [List.take_length] at hall
        have HSM := Lib.hid (sml_play (cap := cap) H1.out hq' hall)
        have C1 := Lib.hid (play_any cap Q ops (by omega) (.agg #[.int .i64 cap, .slice A Q.length c]) (.slice Ao ops.length co))
        have C2 := Lib.hid (rplay_any cap Q ops (by omega) (.agg #[.int .i64 cap, .slice A Q.length c]) (.slice Ao ops.length co) · · HCP.out)
        have hls : (playV cap Q ops).2.2.2 ≤ 200 := by
          unfold playV
          split
          · have := (playQ_lost cap Q ops).1; omega
          · exact Nat.zero_le _
        generalize playV cap Q ops = s at *
        obtain ⟨cp, Q', R, lost⟩ := s
        dsimp only at HSM hls
        clear hall HALL hlt
        go_wp2_with fail
        refine (C1.out _ (HC.out.go HB1.out) (HO.out.go HB1.out)).mono ?_
        rintro e x1 ⟨vi, vr, rfl, hvi, hvr, hb⟩
        dsimp only at hvi hvr ⊢
        obtain ⟨A1, c1, rfl⟩ := items_form hvi
        obtain ⟨R1, d1, rfl⟩ := items_form hvr
        have bs := BS.out.below hb lbs
        have HB2 := Lib.hid (below_end hb HB1.out)
        have HV1 := Lib.hid hvi
        have HR1 := Lib.hid hvr
        clear hvi hvr hb p0 p1 pf C1
        obtain ⟨p0, p1, pf⟩ := blk2 bs
        have lz := bs.lt
        have BS2 := Lib.hid bs
        clear bs
        go_wp2_with fail
        generalize hW : World.alloc _ _ = W1
        have hbw : Below x1.heap.size x1 W1 := by rw [← hW]; exact balloc (Below.refl _ _) _
        have bn : Blk W1 x1.heap.size 24 #[.int .i64 cp, .slice A1 Q'.length c1] := by rw [← hW]; exact Blk.new _ _ _
        have BN := Lib.hid bn
        have HB3 := Lib.hid (below_end hbw HB2.out)
        have HV2 := Lib.hid (HV1.out.go hbw)
        have HR2 := Lib.hid (HR1.out.go hbw)
        clear hW bn hbw HB2 HV1 HR1 p0 p1 pf
        refine (C2.out _ (HC.out.go HB3.out) (HO.out.go HB3.out)).mono ?_
        rintro e x2 ⟨vi, vr, rfl, hvi, hvr, hb⟩
        dsimp only at hvi hvr ⊢
        obtain ⟨A2, c2, rfl⟩ := items_form hvi
        obtain ⟨R2, d2, rfl⟩ := items_form hvr
        have b1 := BN.out.below hb BN.out.lt
        have HB4 := Lib.hid (below_end hb HB3.out)
        have HV3 := Lib.hid (HV2.out.go hb)
        have HR3 := Lib.hid (HR2.out.go hb)
        have HV4 := Lib.hid hvi
        have HR4 := Lib.hid hvr
        clear hvi hvr hb C2 HV2 HR2 HB3 BN
        have BN := Lib.hid b1
        clear b1
        go_wp2_with fail
        generalize hW : World.alloc _ _ = W0
        have hbw : Below x2.heap.size x2 W0 := by rw [← hW]; exact balloc (Below.refl _ _) _
        have b2 : Blk W0 x2.heap.size 24 #[.int .i64 cp, .slice A2 Q'.length c2] := by rw [← hW]; exact Blk.new _ _ _
        have b1 := BN.out.below hbw BN.out.lt
        have HB5 := Lib.hid (below_end hbw HB4.out)
        have HV5 := Lib.hid (HV3.out.go hbw)
        have HR5 := Lib.hid (HR3.out.go hbw)
        have HV6 := Lib.hid (HV4.out.go hbw)
        have HR6 := Lib.hid (HR4.out.go hbw)
        clear hW hbw BN HB4 HV3 HR3 HV4 HR4
        refine (known_any _).mono ?_
        rintro e w5 ⟨rfl, hb5⟩
        have b15 := b1.below hb5 b1.lt
        have b25 := b2.below hb5 b2.lt
        have HB6 := Lib.hid (below_end hb5 HB5.out)
        have HV7 := Lib.hid (HV5.out.go hb5)
        have HR7 := Lib.hid (HR5.out.go hb5)
        have HV8 := Lib.hid (HV6.out.go hb5)
        have HR8 := Lib.hid (HR6.out.go hb5)
        clear hb5 b1 b2 HV5 HR5 HV6 HR6 HB5
        obtain ⟨y1, z1, f1⟩ := blk2 b15
        obtain ⟨y2, z2, f2⟩ := blk2 b25
        have t1 : ((lost : Int) == (lost : Int)) = true := beq_self_eq_true _
        go_wp2_with fail
        refine (same_s (cap := cp) HSM.out.1 ⟨_, rfl, HV7.out⟩ ⟨_, rfl, HV8.out⟩).mono ?_
        rintro e w6 ⟨rfl, hb6⟩
        have HB7 := Lib.hid (below_end hb6 HB6.out)
        have HR9 := Lib.hid (HR7.out.go hb6)
        have HR10 := Lib.hid (HR8.out.go hb6)
        clear hb6 HR7 HR8 y1 y2 z1 z2 f1 f2 b15 b25
        go_wp2_with fail
        refine (sameItems_b HSM.out.2 HR9.out HR10.out).mono ?_
        rintro e w7 ⟨rfl, hb7⟩
        have HB8 := Lib.hid (below_end hb7 HB7.out)
        clear hb7
        go_wp2
        go_ret
        exact ⟨rfl, HB8.out⟩
end Go.Proofs.Ytpfhnpmcfjfmiaa
