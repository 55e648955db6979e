/- Plain: the attractor by adding states until nothing changes. -/
import Derived.Test.YtbilciiffecdgaaPlM
namespace Go.Proofs.Ytbilciiffecdgaa.PlF
open PlC

/-- state k is to be added to the marks g -/
def Cond (G : Nat → List Nat) (g : Nat → Bool) (k : Nat) : Prop := g k = false ∧ G k ≠ [] ∧ ∀ t, t ∈ G k → g t = true
/-- between S and its attractor -/
structure Fix (n : Nat) (G : Nat → List Nat) (S g : Nat → Bool) : Prop where
  lo : ∀ k, k < n → S k = true → g k = true
  hi : ∀ k, k < n → g k = true → Att G S k
def cnt (n : Nat) (g : Nat → Bool) : Nat := (List.range n).countP (fun k => !g k)
def upd (g : Nat → Bool) (k : Nat) (j : Nat) : Bool := if j = k then true else g j

theorem Fix.add {n : Nat} {G : Nat → List Nat} {S g : Nat → Bool} (h : Fix n G S g) (hT : ∀ k t, t ∈ G k → t < n) {k : Nat} (hk : k < n) (hc : Cond G g k) : Fix n G S (upd g k) := by
  refine ⟨fun j hj hs => ?_, fun j hj hg => ?_⟩
  · unfold upd; split
    · rfl
    · exact h.lo j hj hs
  · unfold upd at hg
    split at hg
    · rename_i e; subst e
      exact .step hc.2.1 fun t ht => h.hi t (hT j t ht) (hc.2.2 t ht)
    · exact h.hi j hj hg
theorem Fix.done {n : Nat} {G : Nat → List Nat} {S g : Nat → Bool} (h : Fix n G S g) (hS : ∀ j, S j = true → j < n) (hG : ∀ j, G j ≠ [] → j < n) (hno : ∀ k, k < n → ¬ Cond G g k) (k : Nat) (hk : k < n) : g k = true ↔ Att G S k := by
  refine ⟨h.hi k hk, fun ha => ?_⟩
  refine (ha (fun j => j < n ∧ g j = true) (fun j hj => ⟨hS j hj, h.lo j (hS j hj) hj⟩) fun j h1 h2 => ?_).2
  have hj := hG j h1
  refine ⟨hj, ?_⟩
  cases hg : g j
  · exact absurd ⟨hg, h1, fun t ht => (h2 t ht).2⟩ (hno j hj)
  · rfl
theorem cnt_upd {n : Nat} {g : Nat → Bool} {k : Nat} (hk : k < n) (hg : g k = false) : cnt n (upd g k) < cnt n g := by
  unfold cnt
  have key : ∀ l : List Nat, k ∈ l → l.countP (fun j => !upd g k j) < l.countP (fun j => !g j) := by
    have le : ∀ l : List Nat, l.countP (fun j => !upd g k j) ≤ l.countP (fun j => !g j) := fun l => List.countP_mono_left fun j _ hj => by
      unfold upd at hj
      split at hj
      · simp at hj
      · exact hj
    intro l
    induction l with
    | nil => intro h; simp at h
    | cons x l ih =>
      intro h
      rw [List.countP_cons, List.countP_cons]
      by_cases hx : x = k
      · subst hx
        have := le l
        have e1 : upd g x x = true := by unfold upd; rw [if_pos rfl]
        rw [e1, hg]
        simp only [Bool.not_true, Bool.not_false, Bool.false_eq_true, if_false, if_true]
        omega
      · have hm : k ∈ l := by
          rcases List.mem_cons.1 h with h | h
          · exact absurd h.symm hx
          · exact h
        have := ih hm
        have e2 : upd g k x = g x := by unfold upd; rw [if_neg hx]
        rw [e2]
        omega
  exact key _ (List.mem_range.2 hk)
theorem cond_iff {G : Nat → List Nat} {g : Nat → Bool} {k : Nat} : Cond G g k ↔ g k = false ∧ 0 < (G k).length ∧ (G k).countP g = (G k).length := by
  unfold Cond
  rw [List.countP_eq_length, List.length_pos_iff]
theorem cond_iff0 {G : Nat → List Nat} {f : Nat → Bool} {k : Nat} : Cond G (fun j => !f j) k ↔ f k = true ∧ 0 < (G k).length ∧ (G k).countP f = 0 := by
  unfold Cond
  rw [List.countP_eq_zero, List.length_pos_iff]
  simp
end Go.Proofs.Ytbilciiffecdgaa.PlF
