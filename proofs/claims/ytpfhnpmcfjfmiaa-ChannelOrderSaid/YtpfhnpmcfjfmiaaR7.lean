/- The walk of ref41.Play. -/
import Derived.Test.YtpfhnpmcfjfmiaaR6
import Derived.Deep.RegionHeld3
namespace Go.Proofs.Ytpfhnpmcfjfmiaa
open Go.RowKit

def RPlayRel (w : World) (cap : Int) (Q : List (List Int)) (ops : List COp) (vr lost i : Value) (wr : World) : Prop :=
  ∃ (k : Nat) (A : Option Addr) (c : Nat) (vsR : List Value), k ≤ ops.length ∧ i = .int .i64 k ∧ lost = .int .i64 (playQ cap Q (ops.take k)).2.2.2 ∧
    RPW w wr (playQ cap Q (ops.take k)).1 (playQ cap Q (ops.take k)).2.1 (playQ cap Q (ops.take k)).2.2.1 A c vr vsR

theorem ops_off {w wr : World} {vr : Value} {u : Value} {q : List Int} (h : IntsAt w w.heap.size u q) (hb : Below w.heap.size w wr) (hv : ∀ b, vr.ownBlock = some b → w.heap.size ≤ b) : IntsOff (RN w vr) wr u q :=
  .of (h.below hb) hb.size fun b hb => by
    rcases hb with rfl | rfl | hb
    · exact Nat.le_refl _
    · exact Nat.le_succ _
    · exact hv b hb

theorem bput2 {w X : World} {a b : Value} (h : Below w.heap.size w X) : Below w.heap.size w ((X.setCell ⟨w.heap.size, 0, none⟩ a).setCell ⟨w.heap.size, 1, none⟩ b) :=
  (h.setCell (Nat.le_refl _) _).setCell (Nat.le_refl _) _
set_option maxRecDepth 100000 in
set_option maxHeartbeats 4000000 in
theorem rplay_ok (cap : Int) (Q : List (List Int)) (hv : vldC cap Q = true) (ops : List COp) (hl : ops.length ≤ 1000000) (v vo : Value) (w : World) (hC : ChanAt w w.heap.size v cap Q) (hcp : CapOk v) (hO : OpsAt w w.heap.size vo ops) :
    Calls Try.prog 20 #[v, vo] w (PlayPost w (playQ cap Q ops)) := by
  have HC := Lib.hid hC
  have HO := Lib.hid hO
  have HCP := Lib.hid hcp
  obtain ⟨A, c, rfl⟩ := chan_form hC
  obtain ⟨Ao, co, rfl, -⟩ := hO
  have HV := Lib.hid hv
  clear hv hC hcp
  obtain ⟨b0, b1, hB0⟩ := two_new w 24 24 #[.int .i64 cap, .slice A Q.length c] #[.int .i64 0, .slice none 0 0]
  have HB0 := Lib.hid hB0
  clear hB0
  obtain ⟨i0, hi0, hz0, hz1, hz2⟩ := info_parts Try.infoInts
  go_enter Try.func20, Try.ntmps20
  go_wp2_with fail
  refine (crvalid_is cap Q _ true HV.out _ (HC.out.go HB0.out)).mono ?_
  rintro e w1 ⟨rfl, hb1⟩
  have HB1 := Lib.hid (below_end hb1 HB0.out)
  have hPW : RPW w w1 cap Q [] A c (.slice none 0 0) [] := ⟨b0.below hb1 b0.lt, b1.below hb1 b1.lt,
    .of (HC.out.below HB1.out) HB1.out.size (fun b hb => by rcases hb with rfl | rfl | hb; exact Nat.le_refl _; exact Nat.le_succ _; cases hb), HCP.out, World.ownsRow_nil _ _ _ _, fun k q h => by simp at h, HB1.out⟩
  have HPW := Lib.hid hPW
  clear hPW b0 b1 hb1 HC HCP
  go_wp2_with fail
  go_loopw [7, 8, 9] (RPlayRel w cap Q ops) (fun _ _ i _ => ops.length - (intOf i).toNat)
  case atStart => exact ⟨0, _, _, _, Nat.zero_le _, rfl, rfl, HPW.out⟩
  case round =>
    clear HPW HB1 HB0
    obtain ⟨k, A1, c1, vsR, hk, rfl, rfl, hp⟩ := hrel
    obtain ⟨hls1, hls2⟩ := playQ_lost cap Q (ops.take k)
    have htk : (ops.take k).length ≤ k := List.length_take_le _ _
    by_cases hlt : k < ops.length
    · have hsn : playQ cap Q (ops.take (k + 1)) = opQ (playQ cap Q (ops.take k)) ops[k] := by rw [List.take_succ_eq_append_getElem hlt, playQ_snoc]
      obtain ⟨Ao', co', hvo, hops⟩ := HO.out
      injection hvo with q1 _ q3
      subst q1 q3
      obtain ⟨ad, hA, hbl, hcell⟩ := hops (by omega)
      subst hA
      obtain ⟨u, c0, c1', c2, hit⟩ := hcell k hlt
      have hbl1 : (ad.add (k * 3)).block < w.heap.size := by rw [block_of_add]; exact hbl
      have c0 := (hp.bel.cell hbl1).trans c0
      have c1' := (hp.bel.cell (p := ⟨(ad.add (k * 3)).block, (ad.add (k * 3)).off + 1, none⟩) hbl1).trans c1'
      have c2 := (hp.bel.cell (p := ⟨(ad.add (k * 3)).block, (ad.add (k * 3)).off + 2, none⟩) hbl1).trans c2
      clear hops hcell
      generalize ops[k] = o at *
      obtain ⟨kd, at_, q⟩ := o
      dsimp only at c0 c1' c2 hit
      have hq1 := ops_off hit hp.bel fun b hb => (hp.orr.lt b hb).1
      obtain ⟨Aq, cq, rfl, -⟩ := hit
      obtain ⟨Aq', cq', he', hq1⟩ := hq1
      injection he' with e1' _ e2'
      subst e1' e2'
      have HQ1 := Lib.hid hq1
      clear hq1
      have HS := Lib.hid hsn
      clear hsn
      generalize playQ cap Q (ops.take k) = s at *
      obtain ⟨cp, Qk, R, lost⟩ := s
      dsimp only at hp hls1 hls2 ⊢
      have k0 : (0 : Int) ≤ (k : Int) := by omega
      have k1 : (k : Int) < (ops.length : Int) := by omega
      have HP := Lib.hid hp
      have hbz := hp.bel.size
      obtain ⟨p0, p1, pf⟩ := blk2 hp.b0
      have l0 := hp.b0.lt
      have l1 := hp.b1.lt
      have hbl2 : (ad.add (k * 3)).block < wr.heap.size := by omega
      clear hp
      by_cases h1 : kd = 1
      · subst h1
        have hsq : playQ cap Q (ops.take (k + 1)) = ((sendQ cp Qk q).1, (sendQ cp Qk q).2.1, R, if (sendQ cp Qk q).2.2 = true then lost else lost + 1) := by rw [HS.out]; simp [opQ]
        have HSQ := Lib.hid hsq
        have CS := Lib.hid (rsend_any · cp Qk q (.agg #[.int .i64 cp, .slice A1 Qk.length c1]) Aq cq)
        generalize sendQ cp Qk q = r3 at *
        obtain ⟨cp3, Q3, ok⟩ := r3
        dsimp only at CS HSQ
        clear hsq HS
        go_upto_region 10 with fail
        have HSZ := Lib.hid (show wr.heap.size < (wr.alloc (.cells #[.int .i64 0, .slice none 0 0] 24)).drew.heap.size by simp)
        have rule := below_rule wr
        have rule2 := below_addr wr
        go_region_held3 (fun x => Below wr.heap.size wr x) (first | exact Below.refl _ _ | exact Below.drew (Below.refl _ _) | assumption | exact bput2 (by assumption) | exact balloc (by assumption) _ | exact below_step (by assumption) (by assumption))
          (first
            | (go_at_call 10; (with_reducible refine (CS.out (RN w u7) _ ?_ ?_ ?_ ?_).mono ?_); exact (HP.out.side (bdrw (Below.refl _ _))).1; exact (HP.out.side (bdrw (Below.refl _ _))).2.1; exact HP.out.cp; exact (HP.out.side (bdrw (Below.refl _ _))).2.2 HQ1.out; rintro e w2 ⟨v3, rfl, hx, hcp3, hb2⟩; obtain ⟨A3, c3, rfl⟩ := chan_form hx.at; have hbw := below_step (W0 := wr) hb2 (bdrw (Below.refl _ _)))
            | (go_at_call 10; (with_reducible refine (CS.out (RN2 w wr u7) _ ?_ ?_ ?_ ?_).mono ?_); exact (HP.out.side2 (bel1 _ _) HSZ.out).1; exact (HP.out.side2 (bel1 _ _) HSZ.out).2.1; exact HP.out.cp; exact (HP.out.side2 (bel1 _ _) HSZ.out).2.2 HQ1.out; rintro e w2 ⟨v3, rfl, hx, hcp3, hb2⟩; obtain ⟨A3, c3, rfl⟩ := chan_form hx.at; have hbw := below_step (W0 := wr) hb2 (bel1 _ _); have BY := Lib.hid ((Blk.new wr 24 #[.int .i64 0, .slice none 0 0]).drew.below hb2 HSZ.out); obtain ⟨r0, r1, rf⟩ := blk2 BY.out))
        all_goals clear rule rule2 p0 p1 pf c0 c1' c2
        · generalize hW : World.alloc _ _ = W3
          have hb3 : Below wr.heap.size wr W3 := by rw [← hW]; exact balloc hbw _
          have hP3 := HP.out.after hb3 (by rw [← hW]; exact hx.go (.of_below (balloc (Below.refl _ _) _))) hcp3
          have bn : Blk W3 w2.heap.size 24 #[.int .i64 cp3, .slice A3 Q3.length c3] := by rw [← hW]; exact Blk.new _ _ _
          have b0W := HP.out.b0.below hb3 HP.out.b0.lt
          have HP3 := Lib.hid hP3
          obtain ⟨p0, p1, pf⟩ := blk2 b0W
          obtain ⟨n0, n1, nf⟩ := blk2 bn
          clear hW hP3 b0W bn hb3 hx hcp3 hbw HP
          cases ok
          all_goals
            go_wp2
            refine ⟨⟨k + 1, _, _, vsR, by omega, by go_num, by rw [HSQ.out]; first | rfl | go_num, by rw [HSQ.out]; exact HP3.out⟩, by simp [intOf]; omega⟩
        · clear rf
          generalize hW : World.setCell (World.setCell _ _ _) _ _ = W3
          have hb3 : Below wr.heap.size wr W3 := by rw [← hW]; exact bput2 hbw
          have hK3 : Kept (RN2 w wr u7) w2 W3 := by rw [← hW]; exact ((Kept.refl _ _).set (.inl (.inr rfl)) _).set (.inl (.inr rfl)) _
          have hP3 := HP.out.after hb3 ((hx.go hK3).less fun b _ hb => .inl hb) hcp3
          have bn : Blk W3 wr.heap.size 24 #[.int .i64 cp3, .slice A3 Q3.length c3] := by rw [← hW]; exact (BY.out.set_ 0 _).set_ 1 _
          have b0W := HP.out.b0.below hb3 HP.out.b0.lt
          have HP3 := Lib.hid hP3
          obtain ⟨p0, p1, pf⟩ := blk2 b0W
          obtain ⟨n0, n1, nf⟩ := blk2 bn
          clear hW hP3 b0W bn hb3 hx hcp3 hbw HP BY r0 r1 hK3 hb2
          cases ok
          all_goals
            go_wp2
            refine ⟨⟨k + 1, _, _, vsR, by omega, by go_num, by rw [HSQ.out]; first | rfl | go_num, by rw [HSQ.out]; exact HP3.out⟩, by simp [intOf]; omega⟩
      · have d1 : (kd == 1) = false := beq_eq_false_iff_ne.2 h1
        by_cases h2 : kd = 2
        · subst h2
          have hsq : playQ cap Q (ops.take (k + 1)) = ((recvQ cp Qk).1, (recvQ cp Qk).2.1, if (recvQ cp Qk).2.2.2 = true then R ++ [(recvQ cp Qk).2.2.1] else R, lost) := by rw [HS.out]; simp [opQ]
          have HSQ := Lib.hid hsq
          have CS := Lib.hid (rrecv_any (RN w u7) cp Qk (.agg #[.int .i64 cp, .slice A1 Qk.length c1]) wr HP.out.lt HP.out.xo HP.out.cp)
          generalize recvQ cp Qk = r3 at *
          obtain ⟨cp3, Q3, q3, ok⟩ := r3
          dsimp only at CS HSQ
          clear hsq HS
          go_wp2_with fail
          refine CS.out.mono ?_
          rintro e w2 ⟨v3, u3, rfl, hx, hcp3, hu3, hb2⟩
          obtain ⟨A3, c3, rfl⟩ := chan_form hx.at
          have b02 := HP.out.b0.below hb2 HP.out.b0.lt
          have l2 := b02.lt
          have HU := Lib.hid hu3
          obtain ⟨Au, cu, rfl, -⟩ := hu3
          clear p0 p1 pf c0 c1' c2
          go_upto_region 16 with fail
          generalize hW : World.alloc _ _ = W3
          have hb3 : Below wr.heap.size wr W3 := by rw [← hW]; exact balloc hb2 _
          have hP3 := HP.out.after hb3 (by rw [← hW]; exact hx.go (.of_below (balloc (Below.refl _ _) _))) hcp3
          have hU3 : IntsOff (RN w u7) W3 (.slice Au q3.length cu) q3 := by rw [← hW]; exact HU.out.go (.of_below (balloc (Below.refl _ _) _))
          have bn : Blk W3 w2.heap.size 24 #[.int .i64 cp3, .slice A3 Q3.length c3] := by rw [← hW]; exact Blk.new _ _ _
          have b0W := HP.out.b0.below hb3 HP.out.b0.lt
          have HP3 := Lib.hid hP3
          have HU4 := Lib.hid (hU3.go (((Kept.refl (RN w u7) W3).set (a := ⟨w.heap.size, 0, none⟩) (.inl (.inl rfl)) (.int .i64 cp3)).set (a := ⟨w.heap.size, 1, none⟩) (.inl (.inl rfl)) (.slice A3 Q3.length c3)))
          obtain ⟨p0, p1, pf⟩ := blk2 b0W
          obtain ⟨n0, n1, nf⟩ := blk2 bn
          clear hW hP3 b0W bn hb3 hx hcp3 HP hU3 HU hb2 b02 CS
          cases ok
          · go_wp2
            refine ⟨⟨k + 1, _, _, vsR, by omega, by go_num, by rw [HSQ.out], by rw [HSQ.out]; exact HP3.out⟩, by simp [intOf]; omega⟩
          · go_upto_region 18 with fail
            generalize hW5 : World.setCell _ _ _ = W5 at *
            have hbz5 := HP3.out.bel.size
            clear hW5
            go_wp2_with (at_builtin; refine wpList_append_any _ rfl (.tmp 59) (.tmp 61) 22 rfl w.heap.size 25 i0 (.slice none 0 0) 1 24 Try.underlying22 hi0 hz0 hz1 hz2 rfl (by decide) u7 R.length vsR rfl (HP3.out.orr.alloc _) (W5.heap.size + 1) (some ⟨W5.heap.size, 0, none⟩) 1 1 [.slice Au q3.length cu] rfl (reads_one _ _ _) (one_S _ _ _) (len_ok (by omega)) (by omega) (by simp; omega) ?_; intro v5 x5 ho5 hg5 hv5; have HP5 := Lib.hid (HP3.out.got HU4.out (grown_pre hg5) ho5 (S := W5.heap.size + 1) (by simpa using hv5) (by omega)); clear ho5 hg5 hv5)
            refine ⟨⟨k + 1, _, _, vsR ++ [.slice Au q3.length cu], by omega, by go_num, by rw [HSQ.out], by rw [HSQ.out]; exact HP5.out⟩, by simp [intOf]; omega⟩
        · have d2 : (kd == 2) = false := beq_eq_false_iff_ne.2 h2
          by_cases h3 : kd = 3
          · subst h3
            have hsq : playQ cap Q (ops.take (k + 1)) = ((loseQ cp Qk at_).1, (loseQ cp Qk at_).2.1, R, if (loseQ cp Qk at_).2.2 = true then lost + 1 else lost) := by rw [HS.out]; simp [opQ]
            have HSQ := Lib.hid hsq
            have CS := Lib.hid (rlose_any · cp Qk at_ (.agg #[.int .i64 cp, .slice A1 Qk.length c1]))
            generalize loseQ cp Qk at_ = r3 at *
            obtain ⟨cp3, Q3, ok⟩ := r3
            dsimp only at CS HSQ
            clear hsq HS
            go_upto_region 20 with fail
            have HSZ := Lib.hid (show wr.heap.size < (wr.alloc (.cells #[.int .i64 0, .slice none 0 0] 24)).drew.heap.size by simp)
            have rule := below_rule wr
            have rule2 := below_addr wr
            go_region_held3 (fun x => Below wr.heap.size wr x) (first | exact Below.refl _ _ | exact Below.drew (Below.refl _ _) | assumption | exact bput2 (by assumption) | exact balloc (by assumption) _ | exact below_step (by assumption) (by assumption))
              (first
                | (go_at_call 14; (with_reducible refine (CS.out (RN w u7) _ ?_ ?_ ?_).mono ?_); exact (HP.out.side (bdrw (Below.refl _ _))).1; exact (HP.out.side (bdrw (Below.refl _ _))).2.1; exact HP.out.cp; rintro e w2 ⟨v3, rfl, hx, hcp3, hb2⟩; obtain ⟨A3, c3, rfl⟩ := chan_form hx.at; have hbw := below_step (W0 := wr) hb2 (bdrw (Below.refl _ _)))
                | (go_at_call 14; (with_reducible refine (CS.out (RN2 w wr u7) _ ?_ ?_ ?_).mono ?_); exact (HP.out.side2 (bel1 _ _) HSZ.out).1; exact (HP.out.side2 (bel1 _ _) HSZ.out).2.1; exact HP.out.cp; rintro e w2 ⟨v3, rfl, hx, hcp3, hb2⟩; obtain ⟨A3, c3, rfl⟩ := chan_form hx.at; have hbw := below_step (W0 := wr) hb2 (bel1 _ _); have BY := Lib.hid ((Blk.new wr 24 #[.int .i64 0, .slice none 0 0]).drew.below hb2 HSZ.out); obtain ⟨r0, r1, rf⟩ := blk2 BY.out))
            all_goals clear rule rule2 p0 p1 pf c0 c1' c2
            · generalize hW : World.alloc _ _ = W3
              have hb3 : Below wr.heap.size wr W3 := by rw [← hW]; exact balloc hbw _
              have hP3 := HP.out.after hb3 (by rw [← hW]; exact hx.go (.of_below (balloc (Below.refl _ _) _))) hcp3
              have bn : Blk W3 w2.heap.size 24 #[.int .i64 cp3, .slice A3 Q3.length c3] := by rw [← hW]; exact Blk.new _ _ _
              have b0W := HP.out.b0.below hb3 HP.out.b0.lt
              have HP3 := Lib.hid hP3
              obtain ⟨p0, p1, pf⟩ := blk2 b0W
              obtain ⟨n0, n1, nf⟩ := blk2 bn
              clear hW hP3 b0W bn hb3 hx hcp3 hbw HP
              cases ok
              all_goals
                go_wp2
                refine ⟨⟨k + 1, _, _, vsR, by omega, by go_num, by rw [HSQ.out]; first | rfl | go_num, by rw [HSQ.out]; exact HP3.out⟩, by simp [intOf]; omega⟩
            · clear rf
              generalize hW : World.setCell (World.setCell _ _ _) _ _ = W3
              have hb3 : Below wr.heap.size wr W3 := by rw [← hW]; exact bput2 hbw
              have hK3 : Kept (RN2 w wr u7) w2 W3 := by rw [← hW]; exact ((Kept.refl _ _).set (.inl (.inr rfl)) _).set (.inl (.inr rfl)) _
              have hP3 := HP.out.after hb3 ((hx.go hK3).less fun b _ hb => .inl hb) hcp3
              have bn : Blk W3 wr.heap.size 24 #[.int .i64 cp3, .slice A3 Q3.length c3] := by rw [← hW]; exact (BY.out.set_ 0 _).set_ 1 _
              have b0W := HP.out.b0.below hb3 HP.out.b0.lt
              have HP3 := Lib.hid hP3
              obtain ⟨p0, p1, pf⟩ := blk2 b0W
              obtain ⟨n0, n1, nf⟩ := blk2 bn
              clear hW hP3 b0W bn hb3 hx hcp3 hbw HP BY r0 r1 hK3 hb2
              cases ok
              all_goals
                go_wp2
                refine ⟨⟨k + 1, _, _, vsR, by omega, by go_num, by rw [HSQ.out]; first | rfl | go_num, by rw [HSQ.out]; exact HP3.out⟩, by simp [intOf]; omega⟩
          · have d3 : (kd == 3) = false := beq_eq_false_iff_ne.2 h3
            have hsq : playQ cap Q (ops.take (k + 1)) = (cp, Qk, R, lost) := by rw [HS.out]; simp [opQ, h1, h2, h3]
            have HSQ := Lib.hid hsq
            clear hsq HS
            go_wp2
            refine ⟨⟨k + 1, _, _, vsR, by omega, by go_num, by rw [HSQ.out], by rw [HSQ.out]; exact HP.out⟩, by simp [intOf]; omega⟩
    · obtain rfl : k = ops.length := by omega
      rw [List.take_length] at hp ⊢
      generalize playQ cap Q ops = s at *
      obtain ⟨cp, Qk, R, lost⟩ := s
      dsimp only at hp hls1 hls2 ⊢
      obtain ⟨Ar, cr, rfl⟩ := own_form hp.orr
      have HF := Lib.hid (show PlayPost w (cp, Qk, R, lost) (.returned (.tuple #[.agg #[.int .i64 cp, .slice A1 Qk.length c1], .slice Ar R.length cr, .int .i64 lost])) ((wr.setCell ⟨w.heap.size + 1, 0, none⟩ (.int .i64 cp)).setCell ⟨w.heap.size + 1, 1, none⟩ (.slice A1 Qk.length c1)) from by
        have c0' := hp.b1.set_ 0 (.int .i64 cp)
        have k2 := hp.orr.kept (set_grown _ ⟨w.heap.size + 1, 0, none⟩ (.int .i64 cp) (w.heap.size + 1)) (.inr (own_blk_ne hp.orr hp.b1 (by decide)))
        have k3 := k2.kept (set_grown _ ⟨w.heap.size + 1, 1, none⟩ (.slice A1 Qk.length c1) (w.heap.size + 1)) (.inr (own_blk_ne k2 c0' (by decide)))
        have hK : Kept (RN w (.slice Ar R.length cr)) wr ((wr.setCell ⟨w.heap.size + 1, 0, none⟩ (.int .i64 cp)).setCell ⟨w.heap.size + 1, 1, none⟩ (.slice A1 Qk.length c1)) :=
          ((Kept.refl _ _).set (.inl (.inr (.inl rfl))) _).set (.inl (.inr (.inl rfl))) _
        obtain ⟨vi, e1, hi⟩ := (hp.xo.go hK).at
        injection e1 with e1
        have e1 := Array.toList_inj.2 e1
        simp only [List.cons.injEq, and_true] at e1
        obtain ⟨-, rfl⟩ := e1
        exact ⟨_, _, rfl, hi, ⟨Ar, cr, vsR, rfl, Reads.of_own k3, fun k q hq => let ⟨u, h1, h2⟩ := hp.rr k q hq; ⟨u, h1, (h2.go hK).at⟩⟩, (hp.bel.setCell (by simp) _).setCell (by simp) _⟩)
      obtain ⟨p0, p1, pf⟩ := blk2 hp.b0
      obtain ⟨q0, q1, qf⟩ := blk2 hp.b1
      have l0 := hp.b1.lt
      clear hp
      go_wp2
      refine bodyPost_ret (v := .tuple #[.agg #[.int .i64 cp, .slice A1 Qk.length c1], .slice Ar R.length cr, .int .i64 lost]) ?_ rfl HF.out
      simp [results, Try.results20, go_sem, q0, q1]

set_option maxHeartbeats 1000000 in
theorem rplay_bad (cap : Int) (Q : List (List Int)) (hv : vldC cap Q = false) (v vo : Value) (w : World) (hC : ChanAt w w.heap.size v cap Q) :
    Calls Try.prog 20 #[v, vo] w (PlayPost w (0, [], [], 0)) := by
  have HC := Lib.hid hC
  obtain ⟨vq, rfl, A, c, rows, rfl, hr, hk⟩ := hC
  have HV := Lib.hid hv
  clear hr hk hv
  obtain ⟨b0, b1, hB0⟩ := two_new w 24 24 #[.int .i64 cap, .slice A Q.length c] #[.int .i64 0, .slice none 0 0]
  have HB0 := Lib.hid hB0
  clear hB0
  go_enter Try.func20, Try.ntmps20
  go_wp2_with fail
  refine (crvalid_is cap Q _ false HV.out _ (HC.out.go HB0.out)).mono ?_
  rintro e w1 ⟨rfl, hb1⟩
  have HB1 := Lib.hid (below_end hb1 HB0.out)
  have b11 := b1.below hb1 b1.lt
  obtain ⟨q0, q1, qf⟩ := blk2 b11
  clear hb1 b0 b1 b11
  go_wp2
  refine bodyPost_ret (v := .tuple #[.agg #[.int .i64 0, .slice none 0 0], .slice none 0 0, .int .i64 0]) ?_ rfl ⟨_, _, rfl, ⟨none, 0, [], rfl, Reads.none_, fun k q h => by simp at h⟩, ⟨none, 0, [], rfl, Reads.none_, fun k q h => by simp at h⟩, ?_⟩
  · simp [results, Try.results20, go_sem, q0, q1]
  · exact (HB1.out.setCell (by simp) _).setCell (by simp) _
theorem rplay_any (cap : Int) (Q : List (List Int)) (ops : List COp) (hl : ops.length ≤ 1000000) (v vo : Value) (w : World) (hC : ChanAt w w.heap.size v cap Q) (hcp : CapOk v) (hO : OpsAt w w.heap.size vo ops) :
    Calls Try.prog 20 #[v, vo] w (PlayPost w (playV cap Q ops)) := by
  unfold playV
  cases hv : vldC cap Q
  · exact rplay_bad cap Q hv v vo w hC
  · exact rplay_ok cap Q hv ops hl v vo w hC hcp hO
end Go.Proofs.Ytpfhnpmcfjfmiaa
