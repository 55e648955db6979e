/- Plain: parts numbered in the order of their least states. -/
import Derived.Test.YtnjbofahboopoaaPlU
namespace Go.Proofs.Ytnjbofahboopoaa.PlT

/-- the roots of the first k states, in the order in which they appear -/
def roots (S : Nat → Bool) (r : Nat → Nat) : Nat → List Nat
  | 0 => []
  | k + 1 => if S k = true ∨ r k ∈ roots S r k then roots S r k else roots S r k ++ [r k]
def numOf (S : Nat → Bool) (r : Nat → Nat) (n k : Nat) : Int := if S k = true then -1 else ((roots S r n).idxOf (r k) : Nat)
theorem roots_succ (S : Nat → Bool) (r : Nat → Nat) (k : Nat) : ∃ X, roots S r (k + 1) = roots S r k ++ X := by
  rw [roots]
  split
  · exact ⟨[], by simp⟩
  · exact ⟨[r k], rfl⟩
theorem roots_pre (S : Nat → Bool) (r : Nat → Nat) (k d : Nat) : ∃ X, roots S r (k + d) = roots S r k ++ X := by
  induction d with
  | zero => exact ⟨[], by simp⟩
  | succ d ih =>
    obtain ⟨X, hX⟩ := ih
    obtain ⟨Y, hY⟩ := roots_succ S r (k + d)
    exact ⟨X ++ Y, by rw [← Nat.add_assoc, hY, hX, List.append_assoc]⟩
theorem roots_mem {S : Nat → Bool} {r : Nat → Nat} {k : Nat} (h : S k = false) : r k ∈ roots S r (k + 1) := by
  rw [roots]
  split
  · rename_i h1
    rcases h1 with h1 | h1
    · rw [h] at h1; cases h1
    · exact h1
  · exact List.mem_append_right _ (List.mem_singleton.2 rfl)
theorem roots_idx {S : Nat → Bool} {r : Nat → Nat} {k n x : Nat} (hk : k ≤ n) (hx : x ∈ roots S r k) : (roots S r n).idxOf x = (roots S r k).idxOf x := by
  obtain ⟨X, hX⟩ := roots_pre S r k (n - k)
  rw [Nat.add_sub_cancel' hk] at hX
  rw [hX, List.idxOf_append, if_pos hx]
theorem roots_nodup (S : Nat → Bool) (r : Nat → Nat) (k : Nat) : (roots S r k).Nodup := by
  induction k with
  | zero => exact List.nodup_nil
  | succ k ih =>
    rw [roots]
    split
    · exact ih
    · rename_i h
      exact List.nodup_append.2 ⟨ih, by simp, fun a ha b hb => by rw [List.mem_singleton] at hb; subst hb; exact fun e => h (.inr (e ▸ ha))⟩
theorem roots_len (S : Nat → Bool) (r : Nat → Nat) (k : Nat) : (roots S r k).length ≤ k := by
  induction k with
  | zero => exact Nat.le_refl _
  | succ k ih =>
    rw [roots]
    split
    · omega
    · simp; omega
theorem numOf_eq {S : Nat → Bool} {r : Nat → Nat} {n x y : Nat} (hx : x < n) (_hy : y < n) (sx : S x = false) (sy : S y = false) : numOf S r n x = numOf S r n y ↔ r x = r y := by
  unfold numOf
  rw [if_neg (by rw [sx]; simp), if_neg (by rw [sy]; simp)]
  have mx : r x ∈ roots S r n := by
    obtain ⟨X, hX⟩ := roots_pre S r (x + 1) (n - (x + 1))
    rw [Nat.add_sub_cancel' hx] at hX
    rw [hX]
    exact List.mem_append_left _ (roots_mem sx)
  constructor
  · intro h
    have h1 : (roots S r n).idxOf (r x) = (roots S r n).idxOf (r y) := by omega
    have h2 := List.idxOf_lt_length_of_mem mx
    have e1 := List.getElem_idxOf h2
    have h3 : (roots S r n).idxOf (r y) < (roots S r n).length := by omega
    have e2 := List.getElem_idxOf h3
    rw [← e1, ← e2]
    congr 1
  · intro h
    rw [h]
end Go.Proofs.Ytnjbofahboopoaa.PlT
