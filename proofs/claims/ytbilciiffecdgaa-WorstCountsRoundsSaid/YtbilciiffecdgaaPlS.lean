/- Plain: what makes a transition system valid. -/
import Derived.Test.YtbilciiffecdgaaPl
namespace Go.Proofs.Ytbilciiffecdgaa.PlS

/-- the arcs of a state from one on, the one before it having the set b -/
def rowOk (en n : Nat) : Nat → List (Nat × Int) → Bool
  | _, [] => true
  | b, x :: l => decide (b < x.1 ∧ x.1 &&& (4294967295 - en) = 0 ∧ 0 ≤ x.2 ∧ x.2 < n) && rowOk en n x.1 l
def stateOk (en n : Nat) (l : List (Nat × Int)) : Bool := decide (en < 16777216 ∧ (en ≠ 0 ↔ 0 < l.length)) && rowOk en n 0 l
/-- all states from k on, t arcs before them -/
def allOk (n : Nat) : Nat → List Nat → List (List (Nat × Int)) → Bool
  | t, e :: es, l :: ls => decide (t + l.length ≤ 262144) && (stateOk e n l && allOk n (t + l.length) es ls)
  | _, _, _ => true
def spaceOk (E : List Nat) (L : List (List (Nat × Int))) : Bool :=
  decide (1 ≤ E.length ∧ E.length ≤ 32768 ∧ L.length = E.length) && allOk E.length 0 E L

theorem rowOk_drop (en n b : Nat) (l : List (Nat × Int)) (k : Nat) (h : k < l.length) :
    rowOk en n b (l.drop k) = (decide (b < l[k].1 ∧ l[k].1 &&& (4294967295 - en) = 0 ∧ 0 ≤ l[k].2 ∧ l[k].2 < n) && rowOk en n l[k].1 (l.drop (k + 1))) := by
  rw [List.drop_eq_getElem_cons h]; rfl
end Go.Proofs.Ytbilciiffecdgaa.PlS
