/- Escape, in plain words. -/
import Derived.Test.YtnjbofahboopoaaPlC
namespace Go.Proofs.Ytnjbofahboopoaa.PlE

/-- the place of x in O, or -1 -/
def fnd (O : List Nat) (x : Nat) : Int := if x ∈ O then (O.idxOf x : Nat) else -1
/-- a state, or -1 -/
def opt : Option Nat → Int
  | some t => t
  | none => -1
/-- the way from x when the states of O lie behind: what lies ahead of the circle, and the circle -/
def esc (nx : Nat → Option Nat) : Nat → List Nat → Nat → List Nat × List Nat
  | 0, O, _ => (O, [])
  | fuel + 1, O, x => if x ∈ O then (O.take (O.idxOf x), O.drop (O.idxOf x)) else
      match nx x with
      | some y => esc nx fuel (O ++ [x]) y
      | none => (O ++ [x], [])

theorem mem_take_succ' {O : List Nat} {k : Nat} (h : k < O.length) (x : Nat) : x ∈ O.take (k + 1) ↔ x ∈ O.take k ∨ x = O[k] := by
  rw [List.take_add_one, List.getElem?_eq_getElem h]
  simp only [List.mem_append, Option.toList_some, List.mem_singleton]
theorem fnd_hit {O : List Nat} {k : Nat} (h : k < O.length) (hn : O[k] ∉ O.take k) : fnd O O[k] = k := by
  have h1 : O.idxOf O[k] = k := by
    have h2 : O = O.take k ++ O[k] :: O.drop (k + 1) := by rw [← List.drop_eq_getElem_cons h, List.take_append_drop]
    have h3 : (O.take k ++ O[k] :: O.drop (k + 1)).idxOf O[k] = k := by
      rw [List.idxOf_append, if_neg hn, List.idxOf_cons_self, List.length_take]
      omega
    rw [← h2] at h3
    exact h3
  unfold fnd
  rw [if_pos (List.getElem_mem h), h1]
theorem fnd_miss {O : List Nat} {x : Nat} (h : x ∉ O) : fnd O x = -1 := if_neg h
theorem idx_lt {O : List Nat} {x : Nat} (h : x ∈ O) : O.idxOf x < O.length := List.idxOf_lt_length_of_mem h
theorem fnd_mem {O : List Nat} {x : Nat} (h : x ∈ O) : fnd O x = (O.idxOf x : Nat) := if_pos h
end Go.Proofs.Ytnjbofahboopoaa.PlE
