/- account.Valid at a count that is not valid. -/
import Derived.Test.YthnjcnenncbagaaW2
namespace Go.Proofs.Ythnjcnenncbagaa
open Go.RowKit

set_option maxHeartbeats 4000000 in
theorem valid_no (s m r b : Int) (p : Nat) (hp : p < 4294967296) (h : Pl.valid s m r b p = false) (w : World) :
    Calls Try.prog 11 #[cnt s m r b p] w fun e w' => e = .returned (.bool false) ∧ Below w.heap.size w w' := by
  unfold cnt
  have h := Pl.valid_false h
  have hh : s < 0 ∨ (0 ≤ s ∧ 4096 < s) ∨ (0 ≤ s ∧ s ≤ 4096 ∧ r < 0) ∨ (0 ≤ s ∧ s ≤ 4096 ∧ 0 ≤ r ∧ b < r) ∨ (0 ≤ s ∧ s ≤ 4096 ∧ 0 ≤ r ∧ r ≤ b ∧ s < b) ∨
    (0 ≤ s ∧ s ≤ 4096 ∧ 0 ≤ r ∧ r ≤ b ∧ b ≤ s ∧ r + 1 < b) ∨ (0 ≤ s ∧ s ≤ 4096 ∧ 0 ≤ r ∧ r ≤ b ∧ b ≤ s ∧ b ≤ r + 1 ∧ m < s) ∨
    (0 ≤ s ∧ s ≤ 4096 ∧ 0 ≤ r ∧ r ≤ b ∧ b ≤ s ∧ b ≤ r + 1 ∧ s ≤ m ∧ 24 * s < m) ∨ (0 ≤ s ∧ s ≤ 4096 ∧ 0 ≤ r ∧ r ≤ b ∧ b ≤ s ∧ b ≤ r + 1 ∧ s ≤ m ∧ m ≤ 24 * s ∧ 16777216 ≤ p) := by omega
  clear h
  rcases hh with h1 | ⟨h1, h2⟩ | ⟨h1, h2, h3⟩ | ⟨h1, h2, h3, h4⟩ | ⟨h1, h2, h3, h4, h5⟩ | ⟨h1, h2, h3, h4, h5, h6⟩ | ⟨h1, h2, h3, h4, h5, h6, h7⟩ | ⟨h1, h2, h3, h4, h5, h6, h7, h8⟩ | ⟨h1, h2, h3, h4, h5, h6, h7, h8, h9⟩
  all_goals
    go_enter Try.func11, Try.ntmps11
    go_wp2_with (go_at_call 18; refine (possible_any _ [p] _ (by simp) (by simpa using hp) (by simp [go_sem])).mono ?_; rintro e w' ⟨rfl, rfl⟩)
    go_ret
    first | exact ⟨rfl, ((Below.refl _ _).alloc (Nat.le_refl _) _)⟩ | exact ⟨ret_bool (by simp; omega), ((Below.refl _ _).alloc (Nat.le_refl _) _).alloc (by simp) _⟩
end Go.Proofs.Ythnjcnenncbagaa
