/- Plain facts for the runs of law 16: bounds along a run, one step of it. -/
import Derived.Test.YthnjcnenncbagaaPl3
namespace Go.Proofs.Ythnjcnenncbagaa.Pl4
open Pl Pl3

theorem acc_bounds (C E : List Nat) (hE : ∀ i, E.getD i 0 < 16777216) (i : Nat) :
    (acc C E i).1 ≤ (acc C E i).2.1 ∧ (acc C E i).2.1 ≤ (acc C E i).1 + 1 ∧ (acc C E i).2.1 ≤ i ∧ (acc C E i).2.2 < 16777216 := by
  induction i with
  | zero => simpa [acc] using hE 0
  | succ i ih =>
    obtain ⟨h1, h2, h3, h4⟩ := ih
    simp only [acc]
    split
    · exact ⟨Nat.le_refl _, Nat.le_succ _, by dsimp only; omega, hE _⟩
    · exact ⟨Nat.le_succ _, Nat.le_refl _, by dsimp only; omega, Nat.lt_of_le_of_lt (rest_le _ _ _) (hE _)⟩

theorem getD_last (l : List Nat) (x : Nat) : (l ++ [x]).getD l.length 0 = x := by
  rw [List.getD_eq_getElem?_getD, List.getElem?_append_right (Nat.le_refl _)]
  simp
theorem getD_snoc_lt (l : List Nat) (x b : Nat) (h : ∀ i, l.getD i 0 < b) (hx : x < b) : ∀ i, (l ++ [x]).getD i 0 < b := by
  intro i
  rcases Nat.lt_trichotomy i l.length with hi | hi | hi
  · rw [getD_snoc l x i hi]; exact h i
  · subst hi; rw [getD_last]; exact hx
  · rw [List.getD_eq_getElem?_getD, List.getElem?_eq_none (by simp; omega)]
    have := h 0
    simp; omega

theorem acc_succ (C E : List Nat) (c e : Nat) (h : E.length = C.length + 1) :
    acc (C ++ [c]) (E ++ [e]) (C.length + 1) =
      (if rest (acc C E C.length).2.2 c e = 0 then ((acc C E C.length).1 + 1, (acc C E C.length).1 + 1, e) else ((acc C E C.length).1, (acc C E C.length).1 + 1, rest (acc C E C.length).2.2 c e)) := by
  simp only [acc]
  rw [acc_snoc C E c e h C.length (Nat.le_refl _), getD_last, ← h, getD_last]
end Go.Proofs.Ythnjcnenncbagaa.Pl4
