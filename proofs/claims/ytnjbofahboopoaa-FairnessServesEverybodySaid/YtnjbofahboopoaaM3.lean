/- A map from states to their places in a list. -/
import Derived.Maps.OwnSet
import Derived.Test.YtnjbofahboopoaaPlE
namespace Go.Proofs.Ytnjbofahboopoaa
open Go.Maps

def kI (x : Nat) : Lit := .int .i64 (x : Int)
def vI (x : Nat) : DataW Unit := .lit (.int .i64 (x : Int))
/-- D holds the place in O of each state of O -/
structure Plc (O : List Nat) (D : DataW Unit) : Prop where
  has_ : ∀ x, Maps.has D (kI x) = decide (x ∈ O)
  at_ : ∀ x, x ∈ O → ∀ z, D.atKey (kI x) z = vI (O.idxOf x)
theorem kI_key (x : Nat) : WideAt.IsKeyLit (kI x) := by unfold kI; trivial
theorem kI_ne {x y : Nat} (h : x ≠ y) : kI x ≠ kI y := by unfold kI; intro e; injection e with _ e; omega
theorem Plc.start : Plc [] (.map []) := ⟨fun _ => rfl, fun x h => by cases h⟩
theorem Plc.step {O : List Nat} {D : DataW Unit} (h : Plc O D) (hD : IsMap D) {t : Nat} (ht : t ∉ O) : Plc (O ++ [t]) (D.put (kI t) (vI O.length)) := by
  refine ⟨fun x => ?_, fun x hx z => ?_⟩
  · by_cases e : x = t
    · subst e; rw [has_put_same hD (kI_key x)]; simp
    · rw [has_put_other (kI_ne e), h.has_]; simp [e]
  · by_cases e : x = t
    · subst e
      rw [atKey_put_same hD (kI_key x), List.idxOf_append, if_neg ht]
      simp
    · have hx' : x ∈ O := by rcases List.mem_append.1 hx with h' | h'; exact h'; exact absurd (List.mem_singleton.1 h') e
      rw [atKey_put_other (kI_ne e), h.at_ x hx', List.idxOf_append, if_pos hx']
end Go.Proofs.Ytnjbofahboopoaa
