/- made.Mod. -/
import Derived.Test.YtbilciiffecdgaaA24
import Derived.Test.YtbilciiffecdgaaRows
namespace Go.Proofs.Ytbilciiffecdgaa
open Go.RowKit

theorem tmod_neg (k n : Int) (hk : k < 0) (hn : 0 < n) : -n < k.tmod n ∧ k.tmod n ≤ 0 ∧ (k.tmod n < 0 → k.tmod n + n = k % n) ∧ (k.tmod n = 0 → k % n = 0) := by
  have h1 : k.tmod n = -((-k).tmod n) := by rw [Int.neg_tmod]; simp
  have h2 : (-k).tmod n = (-k) % n := Int.tmod_eq_emod_of_nonneg (by omega)
  have h3 := Int.emod_nonneg (-k) (show n ≠ 0 by omega)
  have h4 := Int.emod_lt_of_pos (-k) hn
  have h5 := Int.emod_nonneg k (show n ≠ 0 by omega)
  have h6 := Int.emod_lt_of_pos k hn
  rw [h1, h2]
  refine ⟨by omega, by omega, fun h => ?_, fun h => ?_⟩
  · -- (-k) % n > 0
    have e : k % n + (-k) % n = n := by
      have hs : (k % n + (-k) % n) % n = 0 := by rw [← Int.add_emod, Int.add_right_neg]; exact Int.zero_emod _
      have hlt : k % n + (-k) % n < 2 * n := by omega
      have hpos : 0 < k % n + (-k) % n := by omega
      have hd := Int.emod_add_mul_ediv (k % n + (-k) % n) n
      rw [hs] at hd
      have hq : (k % n + (-k) % n) / n = 1 := by
        generalize (k % n + (-k) % n) / n = q at hd
        rcases Int.lt_trichotomy q 1 with h' | h' | h'
        · have : n * q ≤ n * 0 := Int.mul_le_mul_of_nonneg_left (by omega) (by omega)
          omega
        · exact h'
        · have : n * 2 ≤ n * q := Int.mul_le_mul_of_nonneg_left (by omega) (by omega)
          omega
      rw [hq] at hd
      omega
    omega
  · have hz : (-k) % n = 0 := by omega
    exact Int.emod_eq_zero_of_dvd (Int.dvd_neg.1 (Int.dvd_of_emod_eq_zero hz))

set_option maxHeartbeats 400000 in
theorem mod_any (k n : Int) (hk : -9223372036854775808 ≤ k ∧ k ≤ 9223372036854775807) (hn : 0 < n) (hn' : n ≤ 1000000) (w : World) :
    Calls Try.prog 26 #[.int .i64 k, .int .i64 n] w fun e w' => e = .returned (.int .i64 (k % n)) ∧ w = w' := by
  obtain ⟨hk1, hk2⟩ := hk
  have n0 : (n == 0) = false := beq_eq_false_iff_ne.2 (by omega)
  by_cases h : 0 ≤ k
  · have h5 := Int.emod_nonneg k (show n ≠ 0 by omega)
    go_enter Try.func26, Try.ntmps26
    go_wp2
    go_ret
    exact ⟨rfl, rfl⟩
  · obtain ⟨a1, a2, a3, a4⟩ := tmod_neg k n (by omega) hn
    have A3 := Lib.hid a3
    have A4 := Lib.hid a4
    clear a3 a4
    by_cases h2 : k.tmod n < 0
    · go_enter Try.func26, Try.ntmps26
      go_wp2
      go_ret
      exact ⟨ret_int (A3.out h2), rfl⟩
    · have HZ := Lib.hid (show k.tmod n = 0 by omega)
      go_enter Try.func26, Try.ntmps26
      go_wp2
      go_ret
      exact ⟨ret_int (by rw [HZ.out, A4.out HZ.out]), rfl⟩
end Go.Proofs.Ytbilciiffecdgaa
