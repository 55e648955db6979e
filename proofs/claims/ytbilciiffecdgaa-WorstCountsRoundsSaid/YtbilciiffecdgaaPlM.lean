/- Plain: lists of marks. -/
import Derived.Test.YtbilciiffecdgaaPlG
namespace Go.Proofs.Ytbilciiffecdgaa
open PlC

def marks (n : Nat) (f : Nat → Bool) : List Bool := (List.range n).map f
theorem marks_len (n : Nat) (f : Nat → Bool) : (marks n f).length = n := by simp [marks]
theorem marks_get (n : Nat) (f : Nat → Bool) (k : Nat) (h : k < (marks n f).length) : (marks n f)[k] = f k := by simp [marks]
theorem marks_set (n : Nat) (f : Nat → Bool) (x : Nat) (b : Bool) : (marks n f).set x b = marks n (fun k => if k = x then b else f k) := by
  apply List.ext_getElem
  · simp [marks]
  · intro i h1 h2
    rw [List.getElem_set, marks_get n (fun k => if k = x then b else f k)]
    by_cases h : x = i
    · subst h; simp
    · rw [if_neg h, if_neg (Ne.symm h), marks_get]
theorem marks_congr {n : Nat} {f g : Nat → Bool} (h : ∀ k, k < n → f k = g k) : marks n f = marks n g :=
  List.map_congr_left fun k hk => h k (List.mem_range.1 hk)
theorem marks_of (S : List Bool) : marks S.length (fun k => S.getD k false) = S := by
  apply List.ext_getElem
  · simp [marks]
  · intro i h1 h2
    rw [marks_get, List.getD_eq_getElem?_getD, List.getElem?_eq_getElem h2]; rfl
theorem getD_marks (n : Nat) (f : Nat → Bool) (k : Nat) : (marks n f).getD k false = (decide (k < n) && f k) := by
  rw [List.getD_eq_getElem?_getD]
  by_cases h : k < n
  · rw [List.getElem?_eq_getElem (by rw [marks_len]; exact h), marks_get]; simp [h]
  · rw [List.getElem?_eq_none (by rw [marks_len]; omega)]; simp [h]

/-- f marks the attractor, found in an order -/
def IsAtt (n : Nat) (G : Nat → List Nat) (S : Nat → Bool) (f : Nat → Bool) : Prop := ∃ O : List Nat, Order n G S O ∧ ∀ k, k < n → (f k = true ↔ k ∈ O)
/-- f marks the rest -/
def IsCore (n : Nat) (G : Nat → List Nat) (S : Nat → Bool) (f : Nat → Bool) : Prop := ∃ O : List Nat, Order n G S O ∧ ∀ k, k < n → (f k = true ↔ k ∉ O)
theorem IsAtt.iff {n : Nat} {G : Nat → List Nat} {S f : Nat → Bool} (h : IsAtt n G S f) (k : Nat) (hk : k < n) : f k = true ↔ Att G S k := by
  obtain ⟨O, hO, hf⟩ := h
  rw [hf k hk, hO.all k hk]
theorem IsCore.iff {n : Nat} {G : Nat → List Nat} {S f : Nat → Bool} (h : IsCore n G S f) (k : Nat) (hk : k < n) : f k = true ↔ ¬ Att G S k := by
  obtain ⟨O, hO, hf⟩ := h
  rw [hf k hk, hO.all k hk]
end Go.Proofs.Ytbilciiffecdgaa
