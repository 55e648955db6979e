/- Plain: the numbers of the parts do not depend on how the parts were found. -/
import Derived.Test.YtnjbofahboopoaaPlN
namespace Go.Proofs.Ytnjbofahboopoaa.PlT

def Mut (G : Nat → List Nat) (S : Nat → Bool) (x y : Nat) : Prop := Rch G S x y ∧ Rch G S y x
section
variable {G : Nat → List Nat} {S : Nat → Bool} {x y z : Nat}
theorem Mut.refl (x : Nat) : Mut G S x x := ⟨.refl _, .refl _⟩
theorem Mut.symm (h : Mut G S x y) : Mut G S y x := ⟨h.2, h.1⟩
theorem Mut.trans (h : Mut G S x y) (h' : Mut G S y z) : Mut G S x z := ⟨h.1.trans h'.1, h'.2.trans h.2⟩
end
/-- r tells the parts apart -/
def Parts (n : Nat) (G : Nat → List Nat) (S : Nat → Bool) (r : Nat → Nat) : Prop := ∀ x y, x < n → y < n → S x = false → S y = false → (r x = r y ↔ Mut G S x y)
/-- the least state of a part -/
noncomputable def lst (n : Nat) (G : Nat → List Nat) (S : Nat → Bool) (x : Nat) : Nat := by
  classical exact ((List.range n).find? fun y => decide (S y = false ∧ Mut G S x y)).getD 0
theorem lst_spec (n : Nat) (G : Nat → List Nat) (S : Nat → Bool) (x : Nat) (hx : x < n) (hS : S x = false) : S (lst n G S x) = false ∧ Mut G S x (lst n G S x) := by
  classical
  have h : lst n G S x = ((List.range n).find? fun y => decide (S y = false ∧ Mut G S x y)).getD 0 := by
    unfold lst; congr
  rw [h]
  cases hf : (List.range n).find? fun y => decide (S y = false ∧ Mut G S x y) with
  | none => exact absurd (List.find?_eq_none.1 hf x (List.mem_range.2 hx)) (by simp [hS, Mut.refl])
  | some y => simpa using List.find?_some hf
theorem lst_parts (n : Nat) (G : Nat → List Nat) (S : Nat → Bool) : Parts n G S (lst n G S) := by
  intro x y hx hy sx sy
  obtain ⟨_, hx2⟩ := lst_spec n G S x hx sx
  obtain ⟨_, hy2⟩ := lst_spec n G S y hy sy
  constructor
  · intro h
    rw [h] at hx2
    exact hx2.trans hy2.symm
  · intro h
    classical
    have hp : (fun z => decide (S z = false ∧ Mut G S x z)) = fun z => decide (S z = false ∧ Mut G S y z) := by
      funext z
      refine decide_eq_decide.2 (and_congr_right fun _ => ⟨fun h1 => h.symm.trans h1, fun h1 => h.trans h1⟩)
    have e1 : lst n G S x = ((List.range n).find? fun z => decide (S z = false ∧ Mut G S x z)).getD 0 := by unfold lst; congr
    have e2 : lst n G S y = ((List.range n).find? fun z => decide (S z = false ∧ Mut G S y z)).getD 0 := by unfold lst; congr
    rw [e1, e2, hp]
theorem idx_map {l : List Nat} {r r' : Nat → Nat} {k : Nat} (h : ∀ x ∈ l, r x = r k ↔ r' x = r' k) : (l.map r).idxOf (r k) = (l.map r').idxOf (r' k) := by
  induction l with
  | nil => rfl
  | cons a l ih =>
    have ih' := ih fun x hx => h x (List.mem_cons_of_mem _ hx)
    have ha := h a (List.mem_cons_self ..)
    rw [List.map_cons, List.map_cons, List.idxOf_cons, List.idxOf_cons, ih']
    by_cases e : r a = r k
    · have e' := ha.1 e
      rw [beq_iff_eq.2 e, beq_iff_eq.2 e']
    · have e' : r' a ≠ r' k := fun h1 => e (ha.2 h1)
      rw [beq_eq_false_iff_ne.2 e, beq_eq_false_iff_ne.2 e']
theorem roots_reps {S : Nat → Bool} {r r' : Nat → Nat} {n : Nat} (h : ∀ x y, x < n → y < n → S x = false → S y = false → (r x = r y ↔ r' x = r' y)) (m : Nat) (hm : m ≤ n) :
    ∃ l : List Nat, (∀ x ∈ l, x < m ∧ S x = false) ∧ roots S r m = l.map r ∧ roots S r' m = l.map r' := by
  induction m with
  | zero => exact ⟨[], by simp, rfl, rfl⟩
  | succ m ih =>
    obtain ⟨l, h1, h2, h3⟩ := ih (by omega)
    rw [roots, roots, h2, h3]
    cases hs : S m
    · have hmem : r m ∈ l.map r ↔ r' m ∈ l.map r' := by
        rw [List.mem_map, List.mem_map]
        constructor
        · rintro ⟨a, ha, e⟩
          exact ⟨a, ha, (h a m (by have := (h1 a ha).1; omega) (by omega) (h1 a ha).2 hs).1 e⟩
        · rintro ⟨a, ha, e⟩
          exact ⟨a, ha, (h a m (by have := (h1 a ha).1; omega) (by omega) (h1 a ha).2 hs).2 e⟩
      by_cases hx : r m ∈ l.map r
      · rw [if_pos (.inr hx), if_pos (.inr (hmem.1 hx))]
        exact ⟨l, fun x hx => ⟨by have := (h1 x hx).1; omega, (h1 x hx).2⟩, rfl, rfl⟩
      · rw [if_neg (by rintro (h' | h'); cases h'; exact hx h'), if_neg (by rintro (h' | h'); cases h'; exact hx (hmem.2 h'))]
        refine ⟨l ++ [m], fun x hx => ?_, by simp, by simp⟩
        rcases List.mem_append.1 hx with h' | h'
        · exact ⟨by have := (h1 x h').1; omega, (h1 x h').2⟩
        · rw [List.mem_singleton] at h'; subst h'; exact ⟨by omega, hs⟩
    · rw [if_pos (.inl rfl), if_pos (.inl rfl)]
      exact ⟨l, fun x hx => ⟨by have := (h1 x hx).1; omega, (h1 x hx).2⟩, rfl, rfl⟩
theorem roots_len_congr {S : Nat → Bool} {r r' : Nat → Nat} {n : Nat} (h : ∀ x y, x < n → y < n → S x = false → S y = false → (r x = r y ↔ r' x = r' y)) (m : Nat) (hm : m ≤ n) : (roots S r m).length = (roots S r' m).length := by
  obtain ⟨l, -, h2, h3⟩ := roots_reps h m hm
  rw [h2, h3]; simp
theorem numOf_congr {S : Nat → Bool} {r r' : Nat → Nat} {n : Nat} (h : ∀ x y, x < n → y < n → S x = false → S y = false → (r x = r y ↔ r' x = r' y)) (k : Nat) (hk : k < n) : numOf S r n k = numOf S r' n k := by
  obtain ⟨l, h1, h2, h3⟩ := roots_reps h n (Nat.le_refl _)
  unfold numOf
  cases hs : S k
  · rw [h2, h3, idx_map fun x hx => h x k (h1 x hx).1 hk (h1 x hx).2 hs]
  · rfl
/-- the number of a state's part -/
noncomputable def num (n : Nat) (G : Nat → List Nat) (S : Nat → Bool) (k : Nat) : Int := numOf S (lst n G S) n k
/-- how many parts the first k states have -/
noncomputable def cnum (n : Nat) (G : Nat → List Nat) (S : Nat → Bool) (k : Nat) : Nat := (roots S (lst n G S) k).length
theorem Parts.num {n : Nat} {G : Nat → List Nat} {S : Nat → Bool} {r : Nat → Nat} (h : Parts n G S r) (k : Nat) (hk : k < n) : numOf S r n k = num n G S k :=
  numOf_congr (fun x y hx hy sx sy => (h x y hx hy sx sy).trans (lst_parts n G S x y hx hy sx sy).symm) k hk
theorem Parts.cnum {n : Nat} {G : Nat → List Nat} {S : Nat → Bool} {r : Nat → Nat} (h : Parts n G S r) (k : Nat) (hk : k ≤ n) : (roots S r k).length = cnum n G S k :=
  roots_len_congr (fun x y hx hy sx sy => (h x y hx hy sx sy).trans (lst_parts n G S x y hx hy sx sy).symm) k hk
theorem num_mem (n : Nat) (G : Nat → List Nat) (S : Nat → Bool) {k : Nat} (h : S k = true) : num n G S k = -1 := by unfold num numOf; rw [if_pos h]
theorem num_eq {n : Nat} {G : Nat → List Nat} {S : Nat → Bool} {x y : Nat} (hx : x < n) (hy : y < n) (sx : S x = false) (sy : S y = false) : num n G S x = num n G S y ↔ Mut G S x y :=
  (numOf_eq hx hy sx sy).trans (lst_parts n G S x y hx hy sx sy)
theorem numOf_next {S : Nat → Bool} {r : Nat → Nat} {n k : Nat} (hk : k < n) :
    (S k = true ∧ numOf S r n k = -1 ∧ roots S r (k + 1) = roots S r k) ∨
    (S k = false ∧ r k ∈ roots S r k ∧ numOf S r n k = ((roots S r k).idxOf (r k) : Nat) ∧ (roots S r k).idxOf (r k) < (roots S r k).length ∧ roots S r (k + 1) = roots S r k) ∨
    (S k = false ∧ r k ∉ roots S r k ∧ numOf S r n k = ((roots S r k).length : Nat) ∧ roots S r (k + 1) = roots S r k ++ [r k]) := by
  cases hs : S k
  · right
    have hm : r k ∈ roots S r (k + 1) := roots_mem hs
    have hn : numOf S r n k = ((roots S r (k + 1)).idxOf (r k) : Nat) := by
      unfold numOf
      rw [if_neg (by rw [hs]; simp), roots_idx (show k + 1 ≤ n by omega) hm]
    by_cases hx : r k ∈ roots S r k
    · left
      have e : roots S r (k + 1) = roots S r k := by rw [roots, if_pos (.inr hx)]
      rw [e] at hn
      exact ⟨rfl, hx, hn, List.idxOf_lt_length_of_mem hx, e⟩
    · right
      have e : roots S r (k + 1) = roots S r k ++ [r k] := by rw [roots, if_neg (by rintro (h' | h'); rw [hs] at h'; cases h'; exact hx h')]
      refine ⟨rfl, hx, ?_, e⟩
      rw [hn, e, List.idxOf_append, if_neg hx]
      simp
  · left
    exact ⟨rfl, by unfold numOf; rw [if_pos hs], by rw [roots, if_pos (.inl hs)]⟩
theorem num_next {n : Nat} {G : Nat → List Nat} {S : Nat → Bool} {k : Nat} (hk : k < n) :
    (S k = true ∧ num n G S k = -1 ∧ cnum n G S (k + 1) = cnum n G S k) ∨
    (S k = false ∧ 0 ≤ num n G S k ∧ num n G S k < (cnum n G S k : Nat) ∧ cnum n G S (k + 1) = cnum n G S k) ∨
    (S k = false ∧ num n G S k = (cnum n G S k : Nat) ∧ cnum n G S (k + 1) = cnum n G S k + 1) := by
  unfold num cnum
  rcases numOf_next (S := S) (r := lst n G S) hk with ⟨h1, h2, h3⟩ | ⟨h1, -, h3, h4, h5⟩ | ⟨h1, -, h3, h4⟩
  · exact .inl ⟨h1, h2, by rw [h3]⟩
  · exact .inr (.inl ⟨h1, by rw [h3]; omega, by rw [h3]; omega, by rw [h5]⟩)
  · exact .inr (.inr ⟨h1, h3, by rw [h4]; simp⟩)
theorem cnum_zero (n : Nat) (G : Nat → List Nat) (S : Nat → Bool) : cnum n G S 0 = 0 := rfl
theorem cnum_le (n : Nat) (G : Nat → List Nat) (S : Nat → Bool) (k : Nat) : cnum n G S k ≤ k := roots_len _ _ _
theorem cnum_mono {n : Nat} {G : Nat → List Nat} {S : Nat → Bool} {k m : Nat} (h : k ≤ m) : cnum n G S k ≤ cnum n G S m := by
  unfold cnum
  obtain ⟨X, hX⟩ := roots_pre S (lst n G S) k (m - k)
  rw [Nat.add_sub_cancel' h] at hX
  rw [hX]; simp
theorem num_lt {n : Nat} {G : Nat → List Nat} {S : Nat → Bool} {k : Nat} (hk : k < n) (hs : S k = false) : 0 ≤ num n G S k ∧ num n G S k < (cnum n G S n : Nat) := by
  have := cnum_mono (n := n) (G := G) (S := S) (show k + 1 ≤ n by omega)
  rcases num_next (G := G) (S := S) hk with ⟨h1, _⟩ | ⟨_, h2, h3, h4⟩ | ⟨_, h2, h3⟩
  · rw [hs] at h1; cases h1
  · exact ⟨h2, by omega⟩
  · exact ⟨by omega, by omega⟩
/-- when all states are found, the roots tell the parts apart -/
theorem Inv.parts {n : Nat} {G : Nat → List Nat} {S : Nat → Bool} {s : St} (h : Inv n G S s []) (hall : ∀ x, x < n → S x = false → s.ix x ≠ 0) :
    (∀ x, x < n → S x = false → s.rt x = some ((s.rt x).getD 0)) ∧ Parts n G S (fun x => (s.rt x).getD 0) := by
  have hpd : ∀ x, x ∉ s.pd := fun x hx => by obtain ⟨w, hw, _⟩ := h.base x hx; cases hw
  have hrt : ∀ x, x < n → S x = false → s.rt x ≠ none := fun x hx hs hr => hpd x ((h.pd_iff x).2 ⟨hx, hs, hall x hx hs, hr⟩)
  have hsome : ∀ x, x < n → S x = false → s.rt x = some ((s.rt x).getD 0) := fun x hx hs => by
    cases hr : s.rt x with
    | none => exact absurd hr (hrt x hx hs)
    | some r => rfl
  refine ⟨hsome, fun x y hx hy sx sy => ⟨fun e => ?_, fun hm => ?_⟩⟩
  · have h1 := h.root x _ (hsome x hx sx)
    have h2 := h.root y _ (hsome y hy sy)
    dsimp only at e
    rw [e] at h1
    exact ⟨h1.2.1.trans h2.2.2, h2.2.1.trans h1.2.2⟩
  · have := h.comp x y (hrt x hx sx) (hrt y hy sy) hm.1 hm.2
    show (s.rt x).getD 0 = (s.rt y).getD 0
    rw [this]
end Go.Proofs.Ytnjbofahboopoaa.PlT
