/- ref16.Valid at a count that is not valid. -/
import Derived.Test.YthnjcnenncbagaaW2
namespace Go.Proofs.Ythnjcnenncbagaa
open Go.RowKit

set_option maxHeartbeats 4000000 in
theorem rvalid_no (s m r b : Int) (p : Nat) (hp : p < 4294967296) (hb : b ≤ 9223372036854775807) (h : Pl.valid s m r b p = false) (w : World) :
    Calls Try.prog 12 #[cnt s m r b p] w fun e w' => e = .returned (.bool false) ∧ Below w.heap.size w w' := by
  unfold cnt
  have h := Pl.valid_false h
  have hh : r < 0 ∨ (0 ≤ r ∧ b < r) ∨ (0 ≤ r ∧ r ≤ b ∧ 1 < b - r) ∨ (0 ≤ r ∧ r ≤ b ∧ b - r ≤ 1 ∧ s < b) ∨
    (0 ≤ r ∧ r ≤ b ∧ b - r ≤ 1 ∧ b ≤ s ∧ 4096 < s) ∨ (0 ≤ r ∧ r ≤ b ∧ b - r ≤ 1 ∧ b ≤ s ∧ s ≤ 4096 ∧ m < s) ∨
    (0 ≤ r ∧ r ≤ b ∧ b - r ≤ 1 ∧ b ≤ s ∧ s ≤ 4096 ∧ s ≤ m ∧ 24 * s < m) ∨ (0 ≤ r ∧ r ≤ b ∧ b - r ≤ 1 ∧ b ≤ s ∧ s ≤ 4096 ∧ s ≤ m ∧ m ≤ 24 * s ∧ 16777216 ≤ p) := by omega
  clear h
  have e := Pl.andNot24 p hp
  rcases hh with h1 | ⟨h1, h2⟩ | ⟨h1, h2, h3⟩ | ⟨h1, h2, h3, h4⟩ | ⟨h1, h2, h3, h4, h5⟩ | ⟨h1, h2, h3, h4, h5, h6⟩ | ⟨h1, h2, h3, h4, h5, h6, h7⟩ | ⟨h1, h2, h3, h4, h5, h6, h7, h8⟩
  iterate 4
    · clear e
      go_enter Try.func12, Try.ntmps12
      go_wp2
      go_ret
      exact ⟨rfl, (Below.refl _ _).alloc (Nat.le_refl _) _⟩
  · clear e
    have d1 : decide (s ≤ 4096) = false := by simpa using h5
    go_enter Try.func12, Try.ntmps12
    go_wp2
    go_quiet (fail)
    go_wp2
    go_ret
    exact ⟨rfl, below_drewN ((Below.refl _ _).alloc (Nat.le_refl _) _) _⟩
  · clear e
    have d1 : decide (s ≤ m) = false := by simpa using h6
    go_enter Try.func12, Try.ntmps12
    go_wp2
    go_quiet (fail)
    go_wp2
    go_ret
    exact ⟨rfl, below_drewN ((Below.refl _ _).alloc (Nat.le_refl _) _) _⟩
  · clear e
    have hw := IntWalk.i64_in (24 * s) (by omega)
    have d1 : decide (m ≤ 24 * s) = false := by simpa using h7
    go_enter Try.func12, Try.ntmps12
    go_wp2
    go_quiet (fail)
    go_wp2
    go_ret
    exact ⟨rfl, below_drewN ((Below.refl _ _).alloc (Nat.le_refl _) _) _⟩
  · have hw := IntWalk.i64_in (24 * s) (by omega)
    have e0 : (bits .andNot .u32 (p : Int) 16777215 == 0) = false := by rw [e, beq_eq_false_iff_ne]; omega
    clear e
    go_enter Try.func12, Try.ntmps12
    go_wp2
    go_quiet ((go_at_call 15; exact quiet_left (all24 _)))
    go_wp2
    go_ret
    exact ⟨rfl, below_drewN ((Below.refl _ _).alloc (Nat.le_refl _) _) _⟩
end Go.Proofs.Ythnjcnenncbagaa
