/- channel.Lose and the ways of channel.Receive without an item. -/
import Derived.Test.YtpfhnpmcfjfmiaaD6
namespace Go.Proofs.Ytpfhnpmcfjfmiaa
open Go.RowKit

set_option maxHeartbeats 1000000 in
theorem lose_bad (cap : Int) (Q : List (List Int)) (hv : vldC cap Q = false) (v : Value) (at_ : Int) (w : World) (hC : ChanAt w w.heap.size v cap Q) :
    Calls Try.prog 13 #[v, .int .i64 at_] w (StepPost w 0 [] false) := by
  have HC := Lib.hid hC
  obtain ⟨vq, rfl, A, c, rows, rfl, hr, hk⟩ := hC
  have HV := Lib.hid hv
  clear hr hk hv
  obtain ⟨b0, b1, hB0⟩ := two_new w 24 24 #[.int .i64 cap, .slice A Q.length c] #[.int .i64 0, .slice none 0 0]
  have HB0 := Lib.hid hB0
  clear hB0
  go_enter Try.func13, Try.ntmps13
  go_wp2_with fail
  refine (cvalid_is cap Q _ false HV.out _ (HC.out.go HB0.out)).mono ?_
  rintro e w1 ⟨rfl, hb1⟩
  have HB1 := Lib.hid (below_end hb1 HB0.out)
  have b11 := b1.below hb1 b1.lt
  obtain ⟨q0, q1, qf⟩ := blk2 b11
  clear hb1 b0 b1 b11
  go_wp2
  refine bodyPost_ret (v := .tuple #[.agg #[.int .i64 0, .slice none 0 0], .bool false]) ?_ rfl ⟨_, [], rfl, World.ownsRow_nil _ _ _ _, RowsB.nil _, ?_⟩
  · simp [results, Try.results13, go_sem, q0, q1]
  · exact (HB1.out.setCell (by simp) _).setCell (by simp) _


set_option maxHeartbeats 1000000 in
theorem lose_out (cap : Int) (Q : List (List Int)) (hv : vldC cap Q = true) (at_ : Int) (ha : at_ < 0 ∨ (Q.length : Int) ≤ at_) (v : Value) (w : World) (hC : ChanAt w w.heap.size v cap Q) :
    Calls Try.prog 13 #[v, .int .i64 at_] w (StepPost w cap Q false) := by
  have HC := Lib.hid hC
  obtain ⟨vq, rfl, A, c, rows, rfl, hr, hk⟩ := hC
  have HV := Lib.hid hv
  obtain ⟨v1, v2, v3, v4⟩ := vldC_parts hv
  have HQ := Lib.hid (fun k h => Nat.le_trans (v4 k h) (show 6 ≤ 1000000 by decide))
  clear hr hk hv v4
  obtain ⟨b0, b1, hB0⟩ := two_new w 24 24 #[.int .i64 cap, .slice A Q.length c] #[.int .i64 0, .slice none 0 0]
  have HB0 := Lib.hid hB0
  clear hB0
  go_enter Try.func13, Try.ntmps13
  go_wp2_with fail
  refine (cvalid_is cap Q _ true HV.out _ (HC.out.go HB0.out)).mono ?_
  rintro e w1 ⟨rfl, hb1⟩
  have HB1 := Lib.hid (below_end hb1 HB0.out)
  have b01 := b0.below hb1 b0.lt
  have b11 := b1.below hb1 b1.lt
  clear hb1 b0 b1
  obtain ⟨p0, p1, pf⟩ := blk2 b01
  have t0 : decide (at_ < 0) = true ∨ (decide (at_ < 0) = false ∧ decide ((Q.length : Int) ≤ at_) = true) := by
    rcases ha with h | h
    · exact .inl (decide_eq_true h)
    · by_cases h' : at_ < 0
      · exact .inl (decide_eq_true h')
      · exact .inr ⟨decide_eq_false h', decide_eq_true h⟩
  clear ha
  rcases t0 with t0 | ⟨t0, t1⟩
  all_goals
    go_wp2_with fail
    refine (copiedAll_any cap Q (by omega) HQ.out _ _ (HC.out.go HB1.out)).mono ?_
    rintro e w2 ⟨vi2, vs, rfl, ho, rb, hb2⟩
    have HB2 := Lib.hid (below_end hb2 HB1.out)
    have b12 := b11.below hb2 b11.lt
    obtain ⟨Av, cv, rfl⟩ := own_form ho
    have HP := Lib.hid (step_end (b := false) (cap := cap) ho rb b12 HB2.out HB1.out.size)
    clear p0 p1 pf b01 b11 hb2 ho rb
    obtain ⟨q0, q1, qf⟩ := blk2 b12
    go_wp2
    refine bodyPost_ret (v := .tuple #[.agg #[.int .i64 cap, .slice Av Q.length cv], .bool false]) ?_ rfl HP.out
    simp [results, Try.results13, go_sem, q0, q1]

set_option maxHeartbeats 1000000 in
theorem lose_ok (cap : Int) (Q : List (List Int)) (hv : vldC cap Q = true) (a : Nat) (ha : a < Q.length) (v : Value) (w : World) (hC : ChanAt w w.heap.size v cap Q) :
    Calls Try.prog 13 #[v, .int .i64 a] w (StepPost w cap (Q.eraseIdx a) true) := by
  have HC := Lib.hid hC
  obtain ⟨vq, rfl, A, c, rows, rfl, hr, hk⟩ := hC
  have HV := Lib.hid hv
  obtain ⟨v1, v2, v3, v4⟩ := vldC_parts hv
  have HQ := Lib.hid (fun k h => Nat.le_trans (v4 k h) (show 6 ≤ 1000000 by decide))
  clear hr hk hv v4
  obtain ⟨b0, b1, hB0⟩ := two_new w 24 24 #[.int .i64 cap, .slice A Q.length c] #[.int .i64 0, .slice none 0 0]
  have HB0 := Lib.hid hB0
  clear hB0
  go_enter Try.func13, Try.ntmps13
  go_wp2_with fail
  refine (cvalid_is cap Q _ true HV.out _ (HC.out.go HB0.out)).mono ?_
  rintro e w1 ⟨rfl, hb1⟩
  have HB1 := Lib.hid (below_end hb1 HB0.out)
  have b01 := b0.below hb1 b0.lt
  have b11 := b1.below hb1 b1.lt
  clear hb1 b0 b1
  obtain ⟨p0, p1, pf⟩ := blk2 b01
  go_wp2_with fail
  refine (without_any cap Q (by omega) HQ.out a _ _ (HC.out.go HB1.out)).mono ?_
  rintro e w2 ⟨vi2, vs, rfl, ho, rb, hb2⟩
  have HB2 := Lib.hid (below_end hb2 HB1.out)
  have b12 := b11.below hb2 b11.lt
  obtain ⟨Av, cv, rfl⟩ := own_form ho
  have HP := Lib.hid (step_end (b := true) (cap := cap) ho rb b12 HB2.out HB1.out.size)
  clear p0 p1 pf b01 b11 hb2 ho rb
  obtain ⟨q0, q1, qf⟩ := blk2 b12
  generalize (Q.eraseIdx a).length = m at *
  go_wp2
  refine bodyPost_ret (v := .tuple #[.agg #[.int .i64 cap, .slice Av m cv], .bool true]) ?_ rfl HP.out
  simp [results, Try.results13, go_sem, q0, q1]

/-- an item in a new block, or nil -/
def ItemB (w : World) (v : Value) (q : List Int) (b : Bool) : Prop :=
  (b = false ∧ v = .slice none 0 0 ∧ q = []) ∨ (b = true ∧ ∃ gc, v = .slice (some ⟨gc, 0, none⟩) q.length q.length ∧ Blk w gc 3 (q.map Iz).toArray)
/-- a channel, an item and a bool -/
def RecvPost (w : World) (cap : Int) (Q : List (List Int)) (q : List Int) (b : Bool) (e : Ending) (w' : World) : Prop :=
  ∃ (vi : Value) (vs : List Value) (vq : Value), e = .returned (.tuple #[.agg #[.int .i64 cap, vi], vq, .bool b]) ∧ w'.ownsRow w.heap.size 25 1 vi Q.length vs ∧ RowsB w' vs Q ∧ ItemB w' vq q b ∧ Below w.heap.size w w'
theorem StepPost.recv {w w' : World} {cap : Int} {Q : List (List Int)} {b : Bool} {vi : Value} (h : StepPost w cap Q b (.returned (.tuple #[.agg #[.int .i64 cap, vi], .bool b])) w') :
    ∃ vs, w'.ownsRow w.heap.size 25 1 vi Q.length vs ∧ RowsB w' vs Q ∧ Below w.heap.size w w' := by
  obtain ⟨vi', vs, e, h1, h2, h3⟩ := h
  injection e with e
  injection e with e
  have := Array.toList_inj.2 e
  simp only [List.cons.injEq] at this
  have t1 := this.1
  injection t1 with t1
  have := Array.toList_inj.2 t1
  simp only [List.cons.injEq, and_true, true_and] at this
  rw [this]
  exact ⟨vs, h1, h2, h3⟩

set_option maxHeartbeats 1000000 in
theorem recv_bad (cap : Int) (Q : List (List Int)) (hv : vldC cap Q = false) (v : Value) (w : World) (hC : ChanAt w w.heap.size v cap Q) :
    Calls Try.prog 11 #[v] w (RecvPost w 0 [] [] false) := by
  have HC := Lib.hid hC
  obtain ⟨vq, rfl, A, c, rows, rfl, hr, hk⟩ := hC
  have HV := Lib.hid hv
  clear hr hk hv
  obtain ⟨b0, b1, hB0⟩ := two_new w 24 24 #[.int .i64 cap, .slice A Q.length c] #[.int .i64 0, .slice none 0 0]
  have HB0 := Lib.hid hB0
  clear hB0
  go_enter Try.func11, Try.ntmps11
  go_wp2_with fail
  refine (cvalid_is cap Q _ false HV.out _ (HC.out.go HB0.out)).mono ?_
  rintro e w1 ⟨rfl, hb1⟩
  have HB1 := Lib.hid (below_end hb1 HB0.out)
  have b11 := b1.below hb1 b1.lt
  obtain ⟨q0, q1, qf⟩ := blk2 b11
  clear hb1 b0 b1 b11
  go_wp2
  refine bodyPost_ret (v := .tuple #[.agg #[.int .i64 0, .slice none 0 0], .slice none 0 0, .bool false]) ?_ rfl ⟨_, [], _, rfl, World.ownsRow_nil _ _ _ _, RowsB.nil _, .inl ⟨rfl, rfl, rfl⟩, ?_⟩
  · simp [results, Try.results11, go_sem, q0, q1]
  · exact (HB1.out.setCell (by simp) _).setCell (by simp) _


set_option maxHeartbeats 1000000 in
theorem recv_none (cap : Int) (Q : List (List Int)) (hv : vldC cap Q = true) (h0 : Q.length = 0) (v : Value) (w : World) (hC : ChanAt w w.heap.size v cap Q) :
    Calls Try.prog 11 #[v] w (RecvPost w cap Q [] false) := by
  have HC := Lib.hid hC
  obtain ⟨vq, rfl, A, c, rows, rfl, hr, hk⟩ := hC
  have HV := Lib.hid hv
  obtain ⟨v1, v2, v3, v4⟩ := vldC_parts hv
  have HQ := Lib.hid (fun k h => Nat.le_trans (v4 k h) (show 6 ≤ 1000000 by decide))
  have t0 : ((Q.length : Int) == 0) = true := by simp [h0]
  clear hr hk hv v4 h0
  obtain ⟨b0, b1, hB0⟩ := two_new w 24 24 #[.int .i64 cap, .slice A Q.length c] #[.int .i64 0, .slice none 0 0]
  have HB0 := Lib.hid hB0
  clear hB0
  go_enter Try.func11, Try.ntmps11
  go_wp2_with fail
  refine (cvalid_is cap Q _ true HV.out _ (HC.out.go HB0.out)).mono ?_
  rintro e w1 ⟨rfl, hb1⟩
  have HB1 := Lib.hid (below_end hb1 HB0.out)
  have b01 := b0.below hb1 b0.lt
  have b11 := b1.below hb1 b1.lt
  clear hb1 b0 b1
  obtain ⟨p0, p1, pf⟩ := blk2 b01
  go_wp2_with fail
  refine (copiedAll_any cap Q (by omega) HQ.out _ _ (HC.out.go HB1.out)).mono ?_
  rintro e w2 ⟨vi2, vs, rfl, ho, rb, hb2⟩
  have HB2 := Lib.hid (below_end hb2 HB1.out)
  have b12 := b11.below hb2 b11.lt
  obtain ⟨Av, cv, rfl⟩ := own_form ho
  have HP := Lib.hid (step_end (b := false) (cap := cap) ho rb b12 HB2.out HB1.out.size).recv
  clear p0 p1 pf b01 b11 hb2 ho rb
  obtain ⟨q0, q1, qf⟩ := blk2 b12
  go_wp2
  refine bodyPost_ret (v := .tuple #[.agg #[.int .i64 cap, .slice Av Q.length cv], .slice none 0 0, .bool false]) ?_ rfl (let ⟨vs, h1, h2, h3⟩ := HP.out; ⟨_, vs, _, rfl, h1, h2, .inl ⟨rfl, rfl, rfl⟩, h3⟩)
  simp [results, Try.results11, go_sem, q0, q1]
end Go.Proofs.Ytpfhnpmcfjfmiaa
