/- Plain: states that can be reached, found by passes until nothing changes. -/
import Derived.Test.YtnjbofahboopoaaPlF
import Derived.Test.YtnjbofahboopoaaPlW
namespace Go.Proofs.Ytnjbofahboopoaa.PlT

structure Rc (n : Nat) (G : Nat → List Nat) (S : Nat → Bool) (x0 : Nat) (f : Nat → Bool) : Prop where
  base : f x0 = true
  sound : ∀ t, f t = true → t < n ∧ Rch G S x0 t
def Clo (G : Nat → List Nat) (S f : Nat → Bool) (k : Nat) : Prop := f k = true → ∀ t, t ∈ G k → S t = false → f t = true
section
variable {n : Nat} {G : Nat → List Nat} {S : Nat → Bool} {x0 : Nat} {f : Nat → Bool}
theorem Rc.start (h : x0 < n) : Rc n G S x0 (fun j => if j = x0 then true else false) :=
  ⟨if_pos rfl, fun t ht => by
    by_cases e : t = x0
    · subst e; exact ⟨h, .refl _⟩
    · rw [if_neg e] at ht; cases ht⟩
theorem Rc.add (h : Rc n G S x0 f) {k t : Nat} (hk : f k = true) (ht : t ∈ G k) (hs : S t = false) (htn : t < n) : Rc n G S x0 (PlF.upd f t) := by
  refine ⟨?_, fun y hy => ?_⟩
  · unfold PlF.upd; split
    · rfl
    · exact h.base
  · unfold PlF.upd at hy
    split at hy
    · rename_i e; subst e; exact ⟨htn, (h.sound k hk).2.step ht hs⟩
    · exact h.sound y hy
theorem Rc.done (h : Rc n G S x0 f) (hc : ∀ k, k < n → Clo G S f k) (t : Nat) : f t = true ↔ Rch G S x0 t := by
  refine ⟨fun ht => (h.sound t ht).2, fun hr => ?_⟩
  induction hr with
  | refl => exact h.base
  | step h0 h1 h2 ih => exact hc _ (h.sound _ ih).1 ih _ h1 h2
end
end Go.Proofs.Ytnjbofahboopoaa.PlT
