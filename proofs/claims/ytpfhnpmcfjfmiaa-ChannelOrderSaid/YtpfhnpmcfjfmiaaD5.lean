/- channel.Valid and its reference; ref01.In. -/
import Derived.Test.YtpfhnpmcfjfmiaaD4
namespace Go.Proofs.Ytpfhnpmcfjfmiaa
open Go.RowKit

def vldC (cap : Int) (Q : List (List Int)) : Bool := decide (1 ≤ cap ∧ cap ≤ 8 ∧ (Q.length : Int) ≤ cap) && Q.all (fun q => decide (q.length ≤ 6))

theorem vldC_parts {cap : Int} {Q : List (List Int)} (h : vldC cap Q = true) : 1 ≤ cap ∧ cap ≤ 8 ∧ (Q.length : Int) ≤ cap ∧ ∀ k (h : k < Q.length), Q[k].length ≤ 6 := by
  simp only [vldC, Bool.and_eq_true, decide_eq_true_eq, List.all_eq_true] at h
  exact ⟨h.1.1, h.1.2.1, h.1.2.2, fun k hk => h.2 _ (List.getElem_mem _)⟩
theorem allC_no {Q : List (List Int)} {k : Nat} (h : k < Q.length) (hno : ¬ Q[k].length ≤ 6) : Q.all (fun q => decide (q.length ≤ 6)) = false :=
  List.all_eq_false.2 ⟨Q[k], List.getElem_mem _, by simpa using hno⟩
theorem allC_step {Q : List (List Int)} {k : Nat} (h : k < Q.length) (hy : Q[k].length ≤ 6) (ha : (Q.take k).all (fun q => decide (q.length ≤ 6)) = true) : (Q.take (k + 1)).all (fun q => decide (q.length ≤ 6)) = true := by
  rw [List.take_succ_eq_append_getElem h, List.all_append, ha]; simp [hy]

set_option maxHeartbeats 400000 in
theorem in_any (x a b : Int) (w : World) : Calls Try.prog 25 #[.int .i64 x, .int .i64 a, .int .i64 b] w fun e w' => e = .returned (.bool (decide (a ≤ x) && decide (x ≤ b))) ∧ w = w' := by
  go_enter Try.func25, Try.ntmps25
  go_wp2
  all_goals (go_ret; exact ⟨ret_bool (by simp; omega), rfl⟩)
theorem in_is (x a b : Int) (v : Bool) (h : (decide (a ≤ x) && decide (x ≤ b)) = v) (w : World) : Calls Try.prog 25 #[.int .i64 x, .int .i64 a, .int .i64 b] w fun e w' => e = .returned (.bool v) ∧ w = w' := by
  rw [← h]; exact in_any x a b w

set_option maxHeartbeats 1000000 in
theorem cvalid_any (cap : Int) (Q : List (List Int)) (v : Value) (w : World) (hC : ChanAt w w.heap.size v cap Q) :
    Calls Try.prog 15 #[v] w fun e w' => e = .returned (.bool (vldC cap Q)) ∧ Below w.heap.size w w' := by
  obtain ⟨vi, rfl, A, c, rows, rfl, hr, hk⟩ := hC
  have HR := Lib.hid hr
  have HK := Lib.hid hk
  have HB0 := Lib.hid ((Below.refl w.heap.size w).alloc (Nat.le_refl _) (.cells #[.int .i64 cap, .slice A Q.length c] 24))
  clear hr hk
  by_cases h1 : 1 ≤ cap ∧ cap ≤ 8 ∧ (Q.length : Int) ≤ cap
  · have HF := Lib.hid (show vldC cap Q = Q.all (fun q => decide (q.length ≤ 6)) by unfold vldC; rw [decide_eq_true h1]; rfl)
    obtain ⟨h1, h2, h3⟩ := h1
    go_enter Try.func15, Try.ntmps15
    go_wp2
    generalize hW : World.alloc _ _ = W
    have hB : Below w.heap.size w W := by rw [← hW]; exact HB0.out
    have HB := Lib.hid hB
    have RAW := Lib.hid (HR.out.below hB)
    have HKW := Lib.hid (fun k l hl => let ⟨u, hu, ha⟩ := HK.out k l hl; (⟨u, hu, ha.below hB⟩ : ∃ u, rows[k]? = some u ∧ IntsAt W w.heap.size u l))
    clear hW hB HB0 HR HK
    go_loop [24] (fun i => ∃ k : Nat, k ≤ Q.length ∧ i = .int .i64 k ∧ (Q.take k).all (fun q => decide (q.length ≤ 6)) = true) (fun i => Q.length - (intOf i).toNat)
    case atStart => exact ⟨0, Nat.zero_le _, rfl, rfl⟩
    case round =>
      obtain ⟨k, hk, rfl, ha⟩ := hrel
      have HA := Lib.hid ha
      clear ha
      by_cases hlt : k < Q.length
      · obtain ⟨ad, Ak, ck, rfl, hbl, cr, -⟩ := qrow_at RAW.out HKW.out hlt
        have HNO := Lib.hid (allC_no hlt)
        have HYES := Lib.hid (allC_step hlt)
        generalize Q[k].length = ll at *
        have k0 : (0 : Int) ≤ (k : Int) := by omega
        have k1 : (k : Int) < (Q.length : Int) := by omega
        by_cases h4 : ll ≤ 6
        · go_wp2
          exact ⟨⟨k + 1, by omega, by go_num, HYES.out h4 HA.out⟩, by simp [intOf]; omega⟩
        · go_wp2
          go_ret
          exact ⟨ret_bool (by rw [HF.out, HNO.out h4]), HB.out⟩
      · go_wp2
        go_ret
        refine ⟨ret_bool ?_, HB.out⟩
        rw [HF.out, ← HA.out, List.take_of_length_le (by omega)]
  · have HF := Lib.hid (show vldC cap Q = false by unfold vldC; rw [decide_eq_false h1]; rfl)
    go_enter Try.func15, Try.ntmps15
    go_wp2
    all_goals first
      | (exfalso; omega)
      | (go_ret; exact ⟨ret_bool HF.out.symm, HB0.out⟩)

set_option maxHeartbeats 1000000 in
theorem crvalid_any (cap : Int) (Q : List (List Int)) (v : Value) (w : World) (hC : ChanAt w w.heap.size v cap Q) :
    Calls Try.prog 16 #[v] w fun e w' => e = .returned (.bool (vldC cap Q)) ∧ Below w.heap.size w w' := by
  obtain ⟨vi, rfl, A, c, rows, rfl, hr, hk⟩ := hC
  have HR := Lib.hid hr
  have HK := Lib.hid hk
  have HB0 := Lib.hid ((Below.refl w.heap.size w).alloc (Nat.le_refl _) (.cells #[.int .i64 cap, .slice A Q.length c] 24))
  clear hr hk
  by_cases h0 : 1 ≤ cap ∧ cap ≤ 8
  · have I1 := Lib.hid (show (decide (1 ≤ cap) && decide (cap ≤ 8)) = true by simp; omega)
    obtain ⟨h1, h2⟩ := h0
    by_cases h3 : (Q.length : Int) ≤ cap
    · have HF := Lib.hid (show vldC cap Q = Q.all (fun q => decide (q.length ≤ 6)) by unfold vldC; rw [decide_eq_true ⟨h1, h2, h3⟩]; rfl)
      go_enter Try.func16, Try.ntmps16
      go_wp2_with (go_at_call 25; refine (in_is _ _ _ _ I1.out _).mono ?_; rintro e w' ⟨rfl, rfl⟩)
      generalize hW : World.alloc _ _ = W
      have bs : Blk W w.heap.size 24 #[.int .i64 cap, .slice A Q.length c] := by rw [← hW]; exact Blk.new _ _ _
      have hB : Below w.heap.size w W := by rw [← hW]; exact HB0.out
      have HB := Lib.hid hB
      have RAW := Lib.hid (HR.out.below hB)
      have HKW := Lib.hid (fun k l hl => let ⟨u, hu, ha⟩ := HK.out k l hl; (⟨u, hu, ha.below hB⟩ : ∃ u, rows[k]? = some u ∧ IntsAt W w.heap.size u l))
      obtain ⟨p0, p1, pf⟩ := blk2 bs
      clear hW hB HB0 HR HK bs
      go_loop [3] (fun i => ∃ k : Nat, k ≤ Q.length ∧ i = .int .i64 k ∧ (Q.take k).all (fun q => decide (q.length ≤ 6)) = true) (fun i => Q.length - (intOf i).toNat)
      case atStart => exact ⟨0, Nat.zero_le _, rfl, rfl⟩
      case round =>
        obtain ⟨k, hk, rfl, ha⟩ := hrel
        have HA := Lib.hid ha
        clear ha
        by_cases hlt : k < Q.length
        · obtain ⟨ad, Ak, ck, rfl, hbl, cr, -⟩ := qrow_at RAW.out HKW.out hlt
          have HNO := Lib.hid (allC_no hlt)
          have HYES := Lib.hid (allC_step hlt)
          generalize Q[k].length = ll at *
          have k0 : (0 : Int) ≤ (k : Int) := by omega
          have k1 : (k : Int) < (Q.length : Int) := by omega
          by_cases h4 : ll ≤ 6
          · go_wp2
            exact ⟨⟨k + 1, by omega, by go_num, HYES.out h4 HA.out⟩, by simp [intOf]; omega⟩
          · go_wp2
            go_ret
            exact ⟨ret_bool (by rw [HF.out, HNO.out h4]), HB.out⟩
        · go_wp2
          go_ret
          refine ⟨ret_bool ?_, HB.out⟩
          rw [HF.out, ← HA.out, List.take_of_length_le (by omega)]
    · have HF := Lib.hid (show vldC cap Q = false by unfold vldC; rw [decide_eq_false (fun h => h3 h.2.2)]; rfl)
      go_enter Try.func16, Try.ntmps16
      go_wp2_with (go_at_call 25; refine (in_is _ _ _ _ I1.out _).mono ?_; rintro e w' ⟨rfl, rfl⟩)
      go_ret
      exact ⟨ret_bool HF.out.symm, HB0.out⟩
  · have HF := Lib.hid (show vldC cap Q = false by unfold vldC; rw [decide_eq_false (fun h => h0 ⟨h.1, h.2.1⟩)]; rfl)
    have I1 := Lib.hid (show (decide (1 ≤ cap) && decide (cap ≤ 8)) = false by simp; omega)
    go_enter Try.func16, Try.ntmps16
    go_wp2_with (go_at_call 25; refine (in_is _ _ _ _ I1.out _).mono ?_; rintro e w' ⟨rfl, rfl⟩)
    go_ret
    exact ⟨ret_bool HF.out.symm, HB0.out⟩

theorem cvalid_is (cap : Int) (Q : List (List Int)) (v : Value) (b : Bool) (h : vldC cap Q = b) (w : World) (hC : ChanAt w w.heap.size v cap Q) :
    Calls Try.prog 15 #[v] w fun e w' => e = .returned (.bool b) ∧ Below w.heap.size w w' := by rw [← h]; exact cvalid_any cap Q v w hC
theorem crvalid_is (cap : Int) (Q : List (List Int)) (v : Value) (b : Bool) (h : vldC cap Q = b) (w : World) (hC : ChanAt w w.heap.size v cap Q) :
    Calls Try.prog 16 #[v] w fun e w' => e = .returned (.bool b) ∧ Below w.heap.size w w' := by rw [← h]; exact crvalid_any cap Q v w hC
end Go.Proofs.Ytpfhnpmcfjfmiaa
