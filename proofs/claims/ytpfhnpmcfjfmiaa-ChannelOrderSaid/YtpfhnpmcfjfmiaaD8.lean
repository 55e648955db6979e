/- channel.Receive of an item; the three functions for every channel. -/
import Derived.Test.YtpfhnpmcfjfmiaaD7
namespace Go.Proofs.Ytpfhnpmcfjfmiaa
open Go.RowKit

theorem grown_below {w W x : World} {b : Nat} (h2 : Below W.heap.size W x) (h1 : w.grownBy W (some b)) : w.grownBy x (some b) :=
  ⟨h2.os.trans h1.os, h2.tape.trans h1.tape, h2.output.trans h1.output, Nat.le_trans h1.size h2.size, fun i hi hn => (h2.block i (Nat.lt_of_lt_of_le hi h1.size)).trans (h1.block i hi hn)⟩
theorem grown_drw {w W : World} {b : Nat} (h1 : w.grownBy W (some b)) : w.grownBy W.drew (some b) := ⟨h1.os, h1.tape, h1.output, h1.size, h1.block⟩
theorem grown_put {w W : World} {b : Nat} (h : w.grownBy W (some b)) (i : Nat) (u : Value) : w.grownBy (W.setCell ⟨b, i, none⟩ u) (some b) :=
  ⟨h.os, h.tape, h.output, by simpa [World.setCell] using h.size, fun j hj hne => (Below.heap_setCell W ⟨b, i, none⟩ u j (by rintro rfl; exact hne rfl)).trans (h.block j hj hne)⟩
theorem grown_rule (w : World) (b : Nat) : ∀ x, w.grownBy x (some b) → ∀ a : Addr, a.block < w.heap.size → a.block ≠ b → x.cell? a = w.cell? a :=
  fun _ h a ha hne => h.cell_far a ha (fun e => hne (by injection e))
theorem grown_rule2 (w : World) (b : Nat) : ∀ x, w.grownBy x (some b) → ∀ c o, c < w.heap.size → c ≠ b → x.cell? ⟨c, o, none⟩ = w.cell? ⟨c, o, none⟩ :=
  fun _ h c o ha hne => h.cell_far ⟨c, o, none⟩ ha (fun e => hne (by injection e))

theorem without0 (cap : Int) (Q : List (List Int)) (hQ : Q.length ≤ 1000000) (hq : ∀ k (h : k < Q.length), Q[k].length ≤ 1000000) (v : Value) (w : World) (hC : ChanAt w w.heap.size v cap Q) :
    Calls Try.prog 24 #[v, .int .i64 0] w (ChanOwn w cap (Q.eraseIdx 0)) := without_any cap Q hQ hq 0 v w hC
theorem below_undrew {w x : World} (h : Below w.drew.heap.size w.drew x) : Below w.heap.size w x := ⟨h.os, h.tape, h.output, h.size, h.block⟩
theorem recv_end {w x : World} {cap : Int} {b g gc : Nat} {Q : List (List Int)} {q : List Int} {vi : Value} {vs : List Value} {cs : Array Value} (ho : x.ownsRow b 25 1 vi Q.length vs) (rb : RowsB x vs Q) (hb : Blk x g 24 cs)
    (hc : Blk x gc 3 (q.map Iz).toArray) (hB : Below w.heap.size w x) (hbs : w.heap.size ≤ b) (hg : w.heap.size ≤ g) :
    RecvPost w cap Q q true (.returned (.tuple #[.agg #[.int .i64 cap, vi], .slice (some ⟨gc, 0, none⟩) q.length q.length, .bool true])) ((x.setCell ⟨g, 0, none⟩ (.int .i64 cap)).setCell ⟨g, 1, none⟩ vi) := by
  obtain ⟨vs', h1, h2, h3⟩ := (step_end (w := w) (b := true) (cap := cap) ho rb hb hB hbs hg).recv
  have c2 := (hc.far (p := ⟨g, 0, none⟩) (Blk.ne_ hc hb (by decide)) (.int .i64 cap)).far (p := ⟨g, 1, none⟩) (Blk.ne_ hc hb (by decide)) vi
  exact ⟨_, vs', _, rfl, h1, h2, .inr ⟨rfl, gc, rfl, c2⟩, h3⟩

set_option maxHeartbeats 1000000 in
theorem recv_some (cap : Int) (Q : List (List Int)) (hv : vldC cap Q = true) (h0 : 0 < Q.length) (v : Value) (w : World) (hC : ChanAt w w.heap.size v cap Q) :
    Calls Try.prog 11 #[v] w (RecvPost w cap (Q.eraseIdx 0) Q[0] true) := by
  have HC := Lib.hid hC
  obtain ⟨vq, rfl, A, c, rows, rfl, hr, hk⟩ := hC
  have HV := Lib.hid hv
  obtain ⟨v1, v2, v3, v4⟩ := vldC_parts hv
  have HQ := Lib.hid (fun k h => Nat.le_trans (v4 k h) (show 6 ≤ 1000000 by decide))
  have t0 : ((Q.length : Int) == 0) = false := beq_eq_false_iff_ne.2 (by omega)
  have HR := Lib.hid hr
  have HK := Lib.hid hk
  have hq0 := v4 0 h0
  clear hr hk hv v4
  obtain ⟨b0, b1, hB0⟩ := two_new w 24 24 #[.int .i64 cap, .slice A Q.length c] #[.int .i64 0, .slice none 0 0]
  have HB0 := Lib.hid hB0
  clear hB0
  go_enter Try.func11, Try.ntmps11
  go_wp2_with fail
  refine (cvalid_is cap Q _ true HV.out _ (HC.out.go HB0.out)).mono ?_
  rintro e w1 ⟨rfl, hb1⟩
  have HB1 := Lib.hid (below_end hb1 HB0.out)
  have b01 := b0.below hb1 b0.lt
  have b11 := b1.below hb1 b1.lt
  clear hb1 b0 b1
  obtain ⟨p0, p1, pf⟩ := blk2 b01
  obtain ⟨ad, Ak, ck, hA, hbl, cr, rk⟩ := qrow_at (HR.out.below HB1.out) (fun k l hl => let ⟨u, hu, ha⟩ := HK.out k l hl; (⟨u, hu, ha.below HB1.out⟩ : ∃ u, rows[k]? = some u ∧ IntsAt w1 w.heap.size u l)) h0
  subst hA
  have cr0 : w1.cell? ad = some (.slice Ak Q[0].length ck) := cr
  have RK := Lib.hid (rk.more HB1.out.size)
  have HC1 := Lib.hid (HC.out.go HB1.out)
  have l0 := b01.lt
  have l1 := b11.lt
  have l2 : ad.block < w1.heap.size := Nat.lt_of_lt_of_le hbl HB1.out.size
  have l3 : ad.block ≠ w.heap.size + 1 := by omega
  have l4 : w.heap.size ≠ w.heap.size + 1 := by omega
  have rule := grown_rule w1 (w.heap.size + 1)
  have rule2 := grown_rule2 w1 (w.heap.size + 1)
  have z0 : (0 : Int) < (Q.length : Int) := by omega
  have B11 := Lib.hid b11
  clear cr rk HR HK HC HB0 b11
  have HL := Lib.hid (show (Q.eraseIdx 0).length = Q.length - 1 by rw [List.length_eraseIdx, if_pos h0])
  generalize hqe : Q[0] = q at *
  have HQE := Lib.hid hqe
  clear hqe
  go_upto_region 5 with fail
  go_region_held3 (fun x => w1.grownBy x (some (w.heap.size + 1))) (first | exact World.grownBy.refl _ _ | exact grown_drw (World.grownBy.refl _ _) | assumption | exact grown_below (by assumption) (by assumption) | exact grown_put (grown_put (by assumption) _ _) _ _)
    (first
      | (go_at_call 24; (with_reducible refine (without0 cap Q (by omega) HQ.out _ _ ?_).mono ?_); (first | exact HC1.out | exact HC1.out.go (below_undrew HXB.out)); rintro e x1 ⟨vi2, vs, rfl, ho, rb, hb2⟩; obtain ⟨Av, cv, rfl⟩ := own_form ho; have HWB := Lib.hid hb2; have HOW := Lib.hid ho; have HRW := Lib.hid rb; have bw : Blk x1 (w.heap.size + 1) 24 #[.int .i64 0, .slice none 0 0] := (by first | exact B11.out.below (below_undrew hb2) l1 | exact BX.out.below hb2 BX.out.lt); obtain ⟨r0, r1, rf⟩ := blk2 bw; have BW := Lib.hid bw; clear ho rb bw)
      | (go_at_call 23; (with_reducible refine (copied_any q (by omega) Ak ck _ ?_).mono ?_); (first | exact RK.out | exact RK.out.go (below_undrew HWB.out)); rintro e x2 ⟨rfl, hbc, hb3⟩; have HXB := Lib.hid hb3; have HCB := Lib.hid hbc; have bx : Blk x2 (w.heap.size + 1) 24 #[.int .i64 0, .slice none 0 0] := (by first | exact B11.out.below (below_undrew hb3) l1 | exact BW.out.below hb3 BW.out.lt); obtain ⟨s0, s1, sf⟩ := blk2 bx; have BX := Lib.hid bx; clear hbc bx))
  have HP := Lib.hid (recv_end (cap := cap) (own_below' HOW.out HXB.out) (HRW.out.below HXB.out) BX.out HCB.out (below_end HXB.out (below_end (below_undrew HWB.out) HB1.out)) HB1.out.size (by omega))
  rw [HL.out] at HP
  clear hb2 hb3 rule rule2
  go_wp2
  refine bodyPost_ret (v := .tuple #[.agg #[.int .i64 cap, .slice Av (Q.length - 1) cv], .slice (some ⟨x1.heap.size, 0, none⟩) q.length q.length, .bool true]) ?_ rfl (by rw [HQE.out]; exact HP.out)
  simp [results, Try.results11, go_sem, s0, s1]

/-- what the three functions answer -/
def sendQ (cap : Int) (Q : List (List Int)) (q : List Int) : Int × List (List Int) × Bool :=
  if vldC cap Q = false then (0, [], false) else if (Q.length : Int) = cap ∨ 6 < q.length then (cap, Q, false) else (cap, Q ++ [q], true)
def loseQ (cap : Int) (Q : List (List Int)) (a : Int) : Int × List (List Int) × Bool :=
  if vldC cap Q = false then (0, [], false) else if a < 0 ∨ (Q.length : Int) ≤ a then (cap, Q, false) else (cap, Q.eraseIdx a.toNat, true)
def recvQ (cap : Int) (Q : List (List Int)) : Int × List (List Int) × List Int × Bool :=
  if vldC cap Q = false then (0, [], [], false) else match Q with
  | [] => (cap, [], [], false)
  | q :: Q' => (cap, Q', q, true)

theorem send_any (cap : Int) (Q : List (List Int)) (q : List Int) (v : Value) (Ai : Option Addr) (ci : Nat) (w : World) (hC : ChanAt w w.heap.size v cap Q) (hi : Reads w w.heap.size 1 Ai q.length (q.map Iz)) :
    Calls Try.prog 9 #[v, .slice Ai q.length ci] w (StepPost w (sendQ cap Q q).1 (sendQ cap Q q).2.1 (sendQ cap Q q).2.2) := by
  unfold sendQ
  cases hv : vldC cap Q
  · exact send_bad cap Q hv v _ w hC
  · rw [if_neg (by simp)]
    split
    · exact send_full cap Q hv q ‹_› v Ai ci w hC
    · rename_i h
      exact send_ok cap Q hv q (fun e => h (.inl e)) (by have : ¬ 6 < q.length := fun e => h (.inr e); omega) v Ai ci w hC hi
theorem lose_any (cap : Int) (Q : List (List Int)) (a : Int) (v : Value) (w : World) (hC : ChanAt w w.heap.size v cap Q) :
    Calls Try.prog 13 #[v, .int .i64 a] w (StepPost w (loseQ cap Q a).1 (loseQ cap Q a).2.1 (loseQ cap Q a).2.2) := by
  unfold loseQ
  cases hv : vldC cap Q
  · exact lose_bad cap Q hv v a w hC
  · rw [if_neg (by simp)]
    split
    · exact lose_out cap Q hv a ‹_› v w hC
    · rename_i h
      have h1 : 0 ≤ a := by have : ¬ a < 0 := fun e => h (.inl e); omega
      have h2 : a < (Q.length : Int) := by have : ¬ (Q.length : Int) ≤ a := fun e => h (.inr e); omega
      obtain ⟨a, rfl⟩ := Int.eq_ofNat_of_zero_le h1
      exact lose_ok cap Q hv a (by omega) v w hC
theorem recv_any (cap : Int) (Q : List (List Int)) (v : Value) (w : World) (hC : ChanAt w w.heap.size v cap Q) :
    Calls Try.prog 11 #[v] w (RecvPost w (recvQ cap Q).1 (recvQ cap Q).2.1 (recvQ cap Q).2.2.1 (recvQ cap Q).2.2.2) := by
  unfold recvQ
  cases hv : vldC cap Q
  · exact recv_bad cap Q hv v w hC
  · rw [if_neg (by simp)]
    match Q, hv, hC with
    | [], hv, hC => exact recv_none cap [] hv rfl v w hC
    | q :: Q', hv, hC => exact recv_some cap (q :: Q') hv (by simp) v w hC
end Go.Proofs.Ytpfhnpmcfjfmiaa
