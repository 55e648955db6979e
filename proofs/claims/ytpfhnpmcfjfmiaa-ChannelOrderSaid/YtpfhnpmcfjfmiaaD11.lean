/- The walk of channel.Play. -/
import Derived.Test.YtpfhnpmcfjfmiaaD10
namespace Go.Proofs.Ytpfhnpmcfjfmiaa
open Go.RowKit

/-- a channel, items and a number, all in new memory -/
def PlayPost (w : World) (s : Int × List (List Int) × List (List Int) × Nat) (e : Ending) (w' : World) : Prop :=
  ∃ (vi vr : Value), e = .returned (.tuple #[.agg #[.int .i64 s.1, vi], vr, .int .i64 s.2.2.2]) ∧ ItemsAt w' w'.heap.size vi s.2.1 ∧ ItemsAt w' w'.heap.size vr s.2.2.1 ∧ Below w.heap.size w w'

def PlayRel (w : World) (cap : Int) (Q : List (List Int)) (ops : List COp) (vr lost i : Value) (wr : World) : Prop :=
  ∃ (k : Nat) (vi : Value) (vs vsR : List Value), k ≤ ops.length ∧ i = .int .i64 k ∧ lost = .int .i64 (playQ cap Q (ops.take k)).2.2.2 ∧
    PW w wr (playQ cap Q (ops.take k)).1 (playQ cap Q (ops.take k)).2.1 (playQ cap Q (ops.take k)).2.2.1 vi vs vr vsR

theorem blk3 {w : World} {g : Nat} {t : TypeId} {a0 a1 a2 : Value} (h : Blk w g t #[a0, a1, a2]) :
    w.cell? ⟨g, 0, none⟩ = some a0 ∧ w.cell? ⟨g, 1, none⟩ = some a1 ∧ w.cell? ⟨g, 2, none⟩ = some a2 ∧ (∀ o, w.frozen? ⟨g, o, none⟩ = false) :=
  ⟨h.cell 0, h.cell 1, h.cell 2, h.frozen⟩

set_option maxHeartbeats 2000000 in
theorem play_ok (cap : Int) (Q : List (List Int)) (hv : vldC cap Q = true) (ops : List COp) (hl : ops.length ≤ 1000000) (v vo : Value) (w : World) (hC : ChanAt w w.heap.size v cap Q) (hO : OpsAt w w.heap.size vo ops) :
    Calls Try.prog 19 #[v, vo] w (PlayPost w (playQ cap Q ops)) := by
  have HC := Lib.hid hC
  have HO := Lib.hid hO
  obtain ⟨vq, rfl, A, c, rows, rfl, hr, hk⟩ := hC
  obtain ⟨Ao, co, rfl, -⟩ := hO
  have HV := Lib.hid hv
  obtain ⟨v1, v2, v3, v4⟩ := vldC_parts hv
  have HQ := Lib.hid (fun k h => Nat.le_trans (v4 k h) (show 6 ≤ 1000000 by decide))
  clear hr hk hv v4
  obtain ⟨b0, b1, hB0⟩ := two_new w 24 24 #[.int .i64 cap, .slice A Q.length c] #[.int .i64 0, .slice none 0 0]
  have HB0 := Lib.hid hB0
  clear hB0
  obtain ⟨i0, hi0, hz0, hz1, hz2⟩ := info_parts Try.infoInts
  go_enter Try.func19, Try.ntmps19
  go_wp2_with fail
  refine (cvalid_is cap Q _ true HV.out _ (HC.out.go HB0.out)).mono ?_
  rintro e w1 ⟨rfl, hb1⟩
  have HB1 := Lib.hid (below_end hb1 HB0.out)
  have b01 := b0.below hb1 b0.lt
  have b11 := b1.below hb1 b1.lt
  clear hb1 b0 b1
  obtain ⟨p0, p1, pf⟩ := blk2 b01
  go_wp2_with fail
  refine (copiedAll_any cap Q (by omega) HQ.out _ _ (HC.out.go HB1.out)).mono ?_
  rintro e w2 ⟨vi2, vs, rfl, ho, rb, hb2⟩
  have HB2 := Lib.hid (below_end hb2 HB1.out)
  have b02 := b01.below hb2 b01.lt
  have b12 := b11.below hb2 b11.lt
  obtain ⟨Av, cv, rfl⟩ := own_form ho
  clear p0 p1 pf b01 b11 hb2
  obtain ⟨p0, p1, pf⟩ := blk2 b02
  have hPW : PW w ((w2.setCell ⟨w.heap.size, 0, none⟩ (.int .i64 cap)).setCell ⟨w.heap.size, 1, none⟩ (.slice Av Q.length cv)) cap Q [] (.slice Av Q.length cv) vs (.slice none 0 0) [] := by
    have c0' := b02.set_ 0 (.int .i64 cap)
    have k2 := ho.kept (set_grown _ ⟨w.heap.size, 0, none⟩ (.int .i64 cap) w.heap.size) (.inr (own_blk_ne ho b02 (by decide)))
    have k3 := k2.kept (set_grown _ ⟨w.heap.size, 1, none⟩ (.slice Av Q.length cv) w.heap.size) (.inr (own_blk_ne k2 c0' (by decide)))
    exact ⟨c0'.set_ 1 _, own_base k3 HB1.out.size, (rb.set b02 (by decide) 0 _).set c0' (by decide) 1 _, World.ownsRow_nil _ _ _ _, RowsB.nil _, .inl rfl,
      (b12.far (by show w.heap.size + 1 ≠ w.heap.size; omega) _).far (by show w.heap.size + 1 ≠ w.heap.size; omega) _, (HB2.out.setCell (Nat.le_refl _) _).setCell (Nat.le_refl _) _⟩
  have HPW := Lib.hid hPW
  clear hPW ho rb b02 b12
  go_wp2_with fail
  go_loopw [7, 8, 26] (PlayRel w cap Q ops) (fun _ _ i _ => ops.length - (intOf i).toNat)
  case atStart => exact ⟨0, _, _, _, Nat.zero_le _, rfl, rfl, HPW.out⟩
  case round =>
    clear HPW p0 p1 pf HB2 HB1 HB0 HC
    obtain ⟨k, vi, vs, vsR, hk, rfl, rfl, hp⟩ := hrel
    obtain ⟨hls1, hls2⟩ := playQ_lost cap Q (ops.take k)
    have htk : (ops.take k).length ≤ k := List.length_take_le _ _
    have HO1 := Lib.hid (HO.out.go hp.bel)
    by_cases hlt : k < ops.length
    · have hsn : playQ cap Q (ops.take (k + 1)) = opQ (playQ cap Q (ops.take k)) ops[k] := by rw [List.take_succ_eq_append_getElem hlt, playQ_snoc]
      obtain ⟨Ao', co', hvo, hops⟩ := HO1.out
      injection hvo with q1 _ q3
      subst q1 q3
      obtain ⟨ad, hA, hbl, hcell⟩ := hops (by omega)
      subst hA
      obtain ⟨u, c0, c1, c2, hit⟩ := hcell k hlt
      clear hops hcell
      generalize ops[k] = o at *
      obtain ⟨kd, at_, q⟩ := o
      dsimp only at c0 c1 c2 hit
      obtain ⟨Aq, cq, rfl, hq⟩ := hit
      have HS := Lib.hid hsn
      clear hsn
      generalize playQ cap Q (ops.take k) = s at *
      obtain ⟨cp, Qk, R, lost⟩ := s
      dsimp only at hp hls1 hls2 ⊢
      have k0 : (0 : Int) ≤ (k : Int) := by omega
      have k1 : (k : Int) < (ops.length : Int) := by omega
      have HP := Lib.hid hp
      have HQ1 := Lib.hid hq
      obtain ⟨Av', cv', rfl⟩ := own_form hp.oi
      clear hp hq
      go_upto_region 9 with fail
      generalize hW : World.alloc _ _ = W
      have hPW := HP.out.alloc (.cells #[.int .i64 kd, .int .i64 at_, .slice Aq q.length cq] 38)
      rw [hW] at hPW
      have bo : Blk W wr.heap.size 38 #[.int .i64 kd, .int .i64 at_, .slice Aq q.length cq] := by rw [← hW]; exact Blk.new _ _ _
      have HQ2 : Hid (Reads W W.heap.size 1 Aq q.length (q.map Iz)) := by rw [← hW]; exact (HQ1.out.alloc (Nat.le_refl _) _).more (by simp)
      clear hW HP HQ1 c0 c1 c2
      obtain ⟨y0, y1, y2, yf⟩ := blk3 bo
      obtain ⟨p0, p1, pf⟩ := blk2 hPW.b0
      have hol := bo.lt
      by_cases h1 : kd = 1
      · subst h1
        have hsq : playQ cap Q (ops.take (k + 1)) = ((sendQ cp Qk q).1, (sendQ cp Qk q).2.1, R, if (sendQ cp Qk q).2.2 = true then lost else lost + 1) := by rw [HS.out]; simp [opQ]
        have HSQ := Lib.hid hsq
        clear hsq HS
        go_wp2_with fail
        refine (send_any cp Qk q _ Aq cq _ hPW.chan HQ2.out).mono ?_
        rintro e w3 ⟨vi3, vs3, rfl, ho3, rb3, hb3⟩
        generalize sendQ cp Qk q = r3 at *
        obtain ⟨cp3, Q3, ok⟩ := r3
        dsimp only at ho3 rb3 ⊢
        obtain ⟨Av3, cv3, rfl⟩ := own_form ho3
        have b03 := hPW.b0.below hb3 hPW.b0.lt
        have l3 := b03.lt
        clear p0 p1 pf y0 y1 y2 yf
        go_upto_region 12 with fail
        generalize hW3 : World.alloc _ _ = W3
        have hP3 := hPW.after (cap2 := cp3) hW3 hb3 ho3 rb3
        have b0W : Blk W3 w.heap.size 24 #[.int .i64 cp, .slice Av' Qk.length cv'] := by rw [← hW3]; exact b03.alloc _
        have bn : Blk W3 w3.heap.size 24 #[.int .i64 cp3, .slice Av3 Q3.length cv3] := by rw [← hW3]; exact Blk.new _ _ _
        have HP3 := Lib.hid hP3
        obtain ⟨p0, p1, pf⟩ := blk2 b0W
        obtain ⟨n0, n1, nf⟩ := blk2 bn
        clear hW3 hP3 hPW ho3 rb3 hb3 b03
        cases ok
        all_goals
          go_wp2
          refine ⟨⟨k + 1, _, vs3, vsR, by omega, by go_num, by rw [HSQ.out]; first | rfl | go_num, by rw [HSQ.out]; exact HP3.out⟩, by simp [intOf]; omega⟩
      · have d1 : (kd == 1) = false := beq_eq_false_iff_ne.2 h1
        by_cases h2 : kd = 2
        · subst h2
          have hsq : playQ cap Q (ops.take (k + 1)) = ((recvQ cp Qk).1, (recvQ cp Qk).2.1, if (recvQ cp Qk).2.2.2 = true then R ++ [(recvQ cp Qk).2.2.1] else R, lost) := by rw [HS.out]; simp [opQ]
          have HSQ := Lib.hid hsq
          clear hsq HS
          go_wp2_with fail
          refine (recv_any cp Qk _ _ hPW.chan).mono ?_
          rintro e w3 ⟨vi3, vs3, vq3, rfl, ho3, rb3, hq3, hb3⟩
          generalize recvQ cp Qk = r3 at *
          obtain ⟨cp3, Q3, q3, ok⟩ := r3
          dsimp only at ho3 rb3 hq3 ⊢
          obtain ⟨Av3, cv3, rfl⟩ := own_form ho3
          have b03 := hPW.b0.below hb3 hPW.b0.lt
          have l3 := b03.lt
          clear p0 p1 pf y0 y1 y2 yf
          go_upto_region 17 with fail
          generalize hW3 : World.alloc _ _ = W3
          have hP3 := hPW.after (cap2 := cp3) hW3 hb3 ho3 rb3
          have b0W : Blk W3 w.heap.size 24 #[.int .i64 cp, .slice Av' Qk.length cv'] := by rw [← hW3]; exact b03.alloc _
          have bn : Blk W3 w3.heap.size 24 #[.int .i64 cp3, .slice Av3 Q3.length cv3] := by rw [← hW3]; exact Blk.new _ _ _
          have HP3 := Lib.hid hP3
          obtain ⟨p0, p1, pf⟩ := blk2 b0W
          obtain ⟨n0, n1, nf⟩ := blk2 bn
          have hq4 : ∀ gc cs, Blk w3 gc 3 cs → Blk ((W3.setCell ⟨w.heap.size, 0, none⟩ (.int .i64 cp3)).setCell ⟨w.heap.size, 1, none⟩ (.slice Av3 Q3.length cv3)) gc 3 cs := fun gc cs hg => by
            have h4 : Blk W3 gc 3 cs := by rw [← hW3]; exact hg.alloc _
            exact (h4.far (p := ⟨w.heap.size, 0, none⟩) (Blk.ne_ h4 b0W (by decide)) _).far (p := ⟨w.heap.size, 1, none⟩) (Blk.ne_ h4 b0W (by decide)) _
          have HQ4 := Lib.hid hq4
          clear hW3 hP3 hPW ho3 rb3 hb3 b03 hq4
          rcases hq3 with ⟨rfl, rfl, rfl⟩ | ⟨rfl, gc, rfl, hgc⟩
          · go_wp2
            refine ⟨⟨k + 1, _, vs3, vsR, by omega, by go_num, by rw [HSQ.out], by rw [HSQ.out]; exact HP3.out⟩, by simp [intOf]; omega⟩
          · have HGC := Lib.hid (HQ4.out gc _ hgc)
            clear hgc
            go_upto_region 19 with fail
            generalize hW5 : World.setCell _ _ _ = W5 at *
            have hbz := HP3.out.bel.size
            clear hW5
            go_wp2_with (at_builtin; refine wpList_append_any _ rfl (.tmp 56) (.tmp 58) 22 rfl w.heap.size 25 i0 (.slice none 0 0) 1 24 Try.underlying22 hi0 hz0 hz1 hz2 rfl (by decide) u7 R.length vsR rfl (HP3.out.orr.alloc _) (W5.heap.size + 1) (some ⟨W5.heap.size, 0, none⟩) 1 1 [.slice (some ⟨gc, 0, none⟩) q3.length q3.length] rfl (reads_one _ _ _) (one_S _ _ _) (len_ok (by omega)) (by omega) (by simp; omega) ?_; intro v5 x5 ho5 hg5 hv5; have HP5 := Lib.hid (HP3.out.got HGC.out (grown_pre hg5) ho5 (S := W5.heap.size + 1) (by simpa using hv5) (by omega)); clear ho5 hg5 hv5)
            refine ⟨⟨k + 1, _, vs3, vsR ++ [.slice (some ⟨gc, 0, none⟩) q3.length q3.length], by omega, by go_num, by rw [HSQ.out], by rw [HSQ.out]; exact HP5.out⟩, by simp [intOf]; omega⟩
        · have d2 : (kd == 2) = false := beq_eq_false_iff_ne.2 h2
          by_cases h3 : kd = 3
          · subst h3
            have hsq : playQ cap Q (ops.take (k + 1)) = ((loseQ cp Qk at_).1, (loseQ cp Qk at_).2.1, R, if (loseQ cp Qk at_).2.2 = true then lost + 1 else lost) := by rw [HS.out]; simp [opQ]
            have HSQ := Lib.hid hsq
            clear hsq HS
            go_wp2_with fail
            refine (lose_any cp Qk at_ _ _ hPW.chan).mono ?_
            rintro e w3 ⟨vi3, vs3, rfl, ho3, rb3, hb3⟩
            generalize loseQ cp Qk at_ = r3 at *
            obtain ⟨cp3, Q3, ok⟩ := r3
            dsimp only at ho3 rb3 ⊢
            obtain ⟨Av3, cv3, rfl⟩ := own_form ho3
            have b03 := hPW.b0.below hb3 hPW.b0.lt
            have l3 := b03.lt
            clear p0 p1 pf y0 y1 y2 yf
            go_upto_region 22 with fail
            generalize hW3 : World.alloc _ _ = W3
            have hP3 := hPW.after (cap2 := cp3) hW3 hb3 ho3 rb3
            have b0W : Blk W3 w.heap.size 24 #[.int .i64 cp, .slice Av' Qk.length cv'] := by rw [← hW3]; exact b03.alloc _
            have bn : Blk W3 w3.heap.size 24 #[.int .i64 cp3, .slice Av3 Q3.length cv3] := by rw [← hW3]; exact Blk.new _ _ _
            have HP3 := Lib.hid hP3
            obtain ⟨p0, p1, pf⟩ := blk2 b0W
            obtain ⟨n0, n1, nf⟩ := blk2 bn
            clear hW3 hP3 hPW ho3 rb3 hb3 b03
            cases ok
            all_goals
              go_wp2
              refine ⟨⟨k + 1, _, vs3, vsR, by omega, by go_num, by rw [HSQ.out]; first | rfl | go_num, by rw [HSQ.out]; exact HP3.out⟩, by simp [intOf]; omega⟩
          · have d3 : (kd == 3) = false := beq_eq_false_iff_ne.2 h3
            have hsq : playQ cap Q (ops.take (k + 1)) = (cp, Qk, R, lost) := by rw [HS.out]; simp [opQ, h1, h2, h3]
            have HSQ := Lib.hid hsq
            clear hsq HS
            go_wp2
            refine ⟨⟨k + 1, _, vs, vsR, by omega, by go_num, by rw [HSQ.out], by rw [HSQ.out]; exact hPW⟩, by simp [intOf]; omega⟩
    · obtain rfl : k = ops.length := by omega
      rw [List.take_length] at hp ⊢
      generalize playQ cap Q ops = s at *
      obtain ⟨cp, Qk, R, lost⟩ := s
      dsimp only at hp hls1 hls2 ⊢
      obtain ⟨Av', cv', rfl⟩ := own_form hp.oi
      obtain ⟨Ar, cr, rfl⟩ := own_form hp.orr
      have HF := Lib.hid (show PlayPost w (cp, Qk, R, lost) (.returned (.tuple #[.agg #[.int .i64 cp, .slice Av' Qk.length cv'], .slice Ar R.length cr, .int .i64 lost])) ((wr.setCell ⟨w.heap.size + 1, 0, none⟩ (.int .i64 cp)).setCell ⟨w.heap.size + 1, 1, none⟩ (.slice Av' Qk.length cv')) from by
        have c0' := hp.b1.set_ 0 (.int .i64 cp)
        have kk : ∀ {v : Value} {n : Nat} {xs : List Value}, wr.ownsRow w.heap.size 25 1 v n xs → ((wr.setCell ⟨w.heap.size + 1, 0, none⟩ (.int .i64 cp)).setCell ⟨w.heap.size + 1, 1, none⟩ (.slice Av' Qk.length cv')).ownsRow w.heap.size 25 1 v n xs := fun ho => by
          have k2 := ho.kept (set_grown _ ⟨w.heap.size + 1, 0, none⟩ (.int .i64 cp) (w.heap.size + 1)) (.inr (own_blk_ne ho hp.b1 (by decide)))
          exact k2.kept (set_grown _ ⟨w.heap.size + 1, 1, none⟩ (.slice Av' Qk.length cv') (w.heap.size + 1)) (.inr (own_blk_ne k2 c0' (by decide)))
        exact ⟨_, _, rfl, ((hp.ri.set hp.b1 (by decide) 0 _).set c0' (by decide) 1 _).items_own (kk hp.oi), ((hp.rr.set hp.b1 (by decide) 0 _).set c0' (by decide) 1 _).items_own (kk hp.orr), (hp.bel.setCell (by simp) _).setCell (by simp) _⟩)
      obtain ⟨p0, p1, pf⟩ := blk2 hp.b0
      obtain ⟨q0, q1, qf⟩ := blk2 hp.b1
      have l0 := hp.b1.lt
      clear hp
      go_wp2
      refine bodyPost_ret (v := .tuple #[.agg #[.int .i64 cp, .slice Av' Qk.length cv'], .slice Ar R.length cr, .int .i64 lost]) ?_ rfl HF.out
      simp [results, Try.results19, go_sem, q0, q1]
end Go.Proofs.Ytpfhnpmcfjfmiaa
