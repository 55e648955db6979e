/- Comparisons of equal items and channels; the law's own large. -/
import Derived.Test.YtpfhnpmcfjfmiaaD8
namespace Go.Proofs.Ytpfhnpmcfjfmiaa
open Go.RowKit

set_option maxHeartbeats 400000 in
theorem sameInts_eq (l : List Int) (hl : l.length ≤ 1000000) (A B : Option Addr) (ca cb B1 B2 : Nat) (w : World) (hA : Reads w B1 1 A l.length (l.map Iz)) (hB : Reads w B2 1 B l.length (l.map Iz)) :
    Calls Try.prog 18 #[.slice A l.length ca, .slice B l.length cb] w fun e w' => e = .returned (.bool true) ∧ ∃ d, w' = w.drewN d := by
  have RA := Lib.hid hA
  have RB := Lib.hid hB
  clear hA hB
  go_enter Try.func18, Try.ntmps18
  go_wp2
  go_loopw [5] (fun i wr => ∃ k d : Nat, k ≤ l.length ∧ i = .int .i64 k ∧ wr = w.drewN d) (fun i _ => l.length - (intOf i).toNat)
  case atStart => exact ⟨0, 0, Nat.zero_le _, rfl, rfl⟩
  case round =>
    obtain ⟨k, d, hk, rfl, rfl⟩ := hrel
    by_cases hlt : k < l.length
    · obtain ⟨a1, rfl, -, c1⟩ := item_at RA.out hlt
      obtain ⟨a2, rfl, -, c2⟩ := item_at RB.out hlt
      generalize l[k] = x at *
      have k0 : (0 : Int) ≤ (k : Int) := by omega
      have k1 : (k : Int) < (l.length : Int) := by omega
      have x1 : (x != x) = false := by simp
      go_wp2_with fail
      go_quiet (fail)
      go_wp2
      refine ⟨⟨k + 1, d + nq, by omega, by go_num, by first | rfl | rw [World.drewN_drewN]⟩, by simp [intOf]; omega⟩
    · go_wp2
      go_ret
      exact ⟨rfl, d, rfl⟩

theorem quiet_drewn {P : Program} {f : FuncId} {args : Array Value} {w : World} {a n : Nat} {v : Value}
    (h : Calls P f args (w.drewN (a + n)) fun e w' => e = .returned v ∧ ∃ m, w' = (w.drewN (a + n)).drewN m) :
    Calls P f args (w.drewN (a + n)) fun e w'' => e = .returned v ∧ ∃ m, w'' = w.drewN (a + m) :=
  h.mono fun _ _ ⟨he, m, hm⟩ => ⟨he, n + m, by rw [hm, World.drewN_drewN, Nat.add_assoc]⟩

set_option maxHeartbeats 400000 in
theorem sameItems_eq (Q : List (List Int)) (hQ : Q.length ≤ 1000000) (hq : ∀ k (h : k < Q.length), Q[k].length ≤ 1000000) (v u : Value) (B1 B2 : Nat) (w : World) (hA : ItemsAt w B1 v Q) (hB : ItemsAt w B2 u Q) :
    Calls Try.prog 21 #[v, u] w fun e w' => e = .returned (.bool true) ∧ ∃ d, w' = w.drewN d := by
  obtain ⟨A, c, rows, rfl, hr, hk⟩ := hA
  obtain ⟨A', c', rows', rfl, hr', hk'⟩ := hB
  have RA := Lib.hid hr
  have RB := Lib.hid hr'
  have HK := Lib.hid hk
  have HK' := Lib.hid hk'
  have HQ := Lib.hid hq
  clear hr hr' hk hk' hq
  go_enter Try.func21, Try.ntmps21
  go_wp2
  go_loopw [5] (fun i wr => ∃ k d : Nat, k ≤ Q.length ∧ i = .int .i64 k ∧ wr = w.drewN d) (fun i _ => Q.length - (intOf i).toNat)
  case atStart => exact ⟨0, 0, Nat.zero_le _, rfl, rfl⟩
  case round =>
    obtain ⟨k, d, hk, rfl, rfl⟩ := hrel
    by_cases hlt : k < Q.length
    · obtain ⟨a1, Ak, ck, rfl, -, c1, r1⟩ := qrow_at RA.out HK.out hlt
      obtain ⟨a2, Ak', ck', rfl, -, c2, r2⟩ := qrow_at RB.out HK'.out hlt
      have hql := HQ.out k hlt
      generalize Q[k] = q at *
      have R1 := Lib.hid r1
      have R2 := Lib.hid r2
      clear r1 r2
      have k0 : (0 : Int) ≤ (k : Int) := by omega
      have k1 : (k : Int) < (Q.length : Int) := by omega
      go_wp2_with fail
      go_quiet ((go_at_call 18; (with_reducible refine quiet_drewn (sameInts_eq q hql _ _ _ _ B1 B2 _ ?_ ?_)); (exact R1.out); (exact R2.out)))
      go_wp2
      refine ⟨⟨k + 1, d + nq, by omega, by go_num, by first | rfl | rw [World.drewN_drewN]⟩, by simp [intOf]; omega⟩
    · go_wp2
      go_ret
      exact ⟨rfl, d, rfl⟩

set_option maxHeartbeats 400000 in
theorem same_eq (cap : Int) (Q : List (List Int)) (hQ : Q.length ≤ 1000000) (hq : ∀ k (h : k < Q.length), Q[k].length ≤ 1000000) (v u : Value) (w : World) (hA : ChanAt w w.heap.size v cap Q) (hB : ChanAt w w.heap.size u cap Q) :
    Calls Try.prog 17 #[v, u] w fun e w' => e = .returned (.bool true) ∧ Below w.heap.size w w' := by
  obtain ⟨vi, rfl, hi⟩ := hA
  obtain ⟨ui, rfl, hi'⟩ := hB
  obtain ⟨b0, b1, hB0⟩ := two_new w 24 24 #[.int .i64 cap, vi] #[.int .i64 cap, ui]
  have HI := Lib.hid (hi.go hB0)
  have HI' := Lib.hid (hi'.go hB0)
  have HQ := Lib.hid hq
  have HB0 := Lib.hid hB0
  obtain ⟨A, c, rows, rfl, -⟩ := hi
  obtain ⟨A', c', rows', rfl, -⟩ := hi'
  clear hq hB0 b0 b1
  have t1 : (cap == cap) = true := by simp
  go_enter Try.func17, Try.ntmps17
  go_wp2_with fail
  refine (sameItems_eq Q hQ HQ.out _ _ _ _ _ HI.out HI'.out).mono ?_
  rintro e w1 ⟨rfl, d, rfl⟩
  go_wp2
  go_ret
  exact ⟨rfl, below_drewN HB0.out d⟩

def largeB (Q : List (List Int)) : Bool := (Q.take 30).any (fun q => decide (100 < q.length)) || decide (30 < Q.length)
theorem large_parts {Q : List (List Int)} (h : largeB Q = false) : Q.length ≤ 30 ∧ ∀ k (h : k < Q.length), Q[k].length ≤ 100 := by
  simp only [largeB, Bool.or_eq_false_iff, decide_eq_false_iff_not] at h
  refine ⟨by omega, fun k hk => ?_⟩
  have h1 := List.any_eq_false.1 h.1 Q[k] (by rw [List.take_of_length_le (by omega)]; exact List.getElem_mem _)
  simp at h1
  omega

set_option maxHeartbeats 1000000 in
theorem large_any (cap : Int) (Q : List (List Int)) (v : Value) (w : World) (hC : ChanAt w w.heap.size v cap Q) :
    Calls Try.prog 7 #[v] w fun e w' => e = .returned (.bool (largeB Q)) ∧ Below w.heap.size w w' := by
  obtain ⟨vi, rfl, A, c, rows, rfl, hr, hk⟩ := hC
  have HB0 := Lib.hid ((Below.refl w.heap.size w).alloc (Nat.le_refl _) (.cells #[.int .i64 cap, .slice A Q.length c] 24))
  have HR := Lib.hid hr
  have HK := Lib.hid hk
  clear hr hk
  go_enter Try.func7, Try.ntmps7
  go_wp2
  generalize hW : World.alloc _ _ = W
  have bs : Blk W w.heap.size 24 #[.int .i64 cap, .slice A Q.length c] := by rw [← hW]; exact Blk.new _ _ _
  have hB : Below w.heap.size w W := by rw [← hW]; exact HB0.out
  have HB := Lib.hid hB
  have RAW := Lib.hid (HR.out.below hB)
  have HKW := Lib.hid (fun k l hl => let ⟨u, hu, ha⟩ := HK.out k l hl; (⟨u, hu, ha.below hB⟩ : ∃ u, rows[k]? = some u ∧ IntsAt W w.heap.size u l))
  obtain ⟨p0, p1, pf⟩ := blk2 bs
  clear hW hB HB0 HR HK bs
  go_loop [3] (fun i => ∃ k : Nat, k ≤ Q.length ∧ k ≤ 30 ∧ i = .int .i64 k ∧ (Q.take k).any (fun q => decide (100 < q.length)) = false) (fun i => Q.length - (intOf i).toNat)
  case atStart => exact ⟨0, Nat.zero_le _, Nat.zero_le _, rfl, rfl⟩
  case round =>
    obtain ⟨k, hk, hk30, rfl, ha⟩ := hrel
    have HA := Lib.hid ha
    clear ha
    by_cases hlt : k < Q.length
    · by_cases hlt3 : k < 30
      · obtain ⟨ad, Ak, ck, rfl, hbl, cr, -⟩ := qrow_at RAW.out HKW.out hlt
        have hst : (Q.take (k + 1)).any (fun q => decide (100 < q.length)) = ((Q.take k).any (fun q => decide (100 < q.length)) || decide (100 < Q[k].length)) := by
          rw [List.take_succ_eq_append_getElem hlt, List.any_append]; simp
        have hyes : 100 < Q[k].length → largeB Q = true := fun h => by
          have : (Q.take 30).any (fun q => decide (100 < q.length)) = true := List.any_eq_true.2 ⟨Q[k], by rw [List.mem_take_iff_getElem]; exact ⟨k, by omega, rfl⟩, by simpa using h⟩
          unfold largeB; rw [this]; rfl
        have HST := Lib.hid hst
        have HYES := Lib.hid hyes
        clear hst hyes
        generalize Q[k].length = ll at *
        have k0 : (0 : Int) ≤ (k : Int) := by omega
        have k1 : (k : Int) < (Q.length : Int) := by omega
        by_cases h4 : 100 < ll
        · go_wp2
          go_ret
          exact ⟨ret_bool (HYES.out h4).symm, HB.out⟩
        · go_wp2
          exact ⟨⟨k + 1, by omega, by omega, by go_num, by rw [HST.out, HA.out]; simp; omega⟩, by simp [intOf]; omega⟩
      · obtain rfl : k = 30 := by omega
        have HF := Lib.hid (show largeB Q = true by unfold largeB; rw [HA.out, decide_eq_true hlt]; rfl)
        go_wp2
        go_ret
        exact ⟨ret_bool HF.out.symm, HB.out⟩
    · obtain rfl : k = Q.length := by omega
      have HF := Lib.hid (show largeB Q = false by
        have := HA.out
        rw [List.take_length] at this
        unfold largeB; rw [List.take_of_length_le hk30, this, decide_eq_false (by omega)]; rfl)
      go_wp2
      go_ret
      exact ⟨ret_bool (by rw [HF.out]; exact decide_eq_false (by omega)), HB.out⟩
theorem large_is (cap : Int) (Q : List (List Int)) (v : Value) (b : Bool) (h : largeB Q = b) (w : World) (hC : ChanAt w w.heap.size v cap Q) :
    Calls Try.prog 7 #[v] w fun e w' => e = .returned (.bool b) ∧ Below w.heap.size w w' := by rw [← h]; exact large_any cap Q v w hC
end Go.Proofs.Ytpfhnpmcfjfmiaa
