/- Escape in plain words: where its way begins, that it follows arcs, where it ends. -/
import Derived.Test.YtlhheglffododaaPlE
import Derived.Test.YtlhheglffododaaPlG
namespace Go.Proofs.Ytlhheglffododaa.PlX
open PlE

/-- a way from k0, step by step -/
structure Way (n : Nat) (g : Nat → Bool) (nx : Nat → Option Nat) (k0 : Nat) (a : List Nat) : Prop where
  first : a[0]? = some k0
  mem : ∀ k, k ∈ a → k < n ∧ g k = true
  step : ∀ (i : Nat) u v, a[i]? = some u → a[i + 1]? = some v → nx u = some v
/-- what comes out -/
structure Out (n : Nat) (g : Nat → Bool) (nx : Nat → Option Nat) (k0 : Nat) (P Q : List Nat) (l : Nat) : Prop extends Way n g nx k0 (P ++ Q) where
  nodup : (P ++ Q).Nodup
  last : (P ++ Q)[(P ++ Q).length - 1]? = some l
  open_ : Q = [] → nx l = none
  loop : ∀ y, Q[0]? = some y → nx l = some y

theorem Way.snoc {n : Nat} {g : Nat → Bool} {nx : Nat → Option Nat} {k0 x y : Nat} {O : List Nat} (h : Way n g nx k0 (O ++ [x])) (hy : nx x = some y) (hn : y < n) (hg : g y = true) : Way n g nx k0 (O ++ [x] ++ [y]) := by
  refine ⟨?_, fun k hk => ?_, fun i u v hu hv => ?_⟩
  · rw [List.getElem?_append_left (by simp)]; exact h.first
  · rcases List.mem_append.1 hk with h1 | h1
    · exact h.mem k h1
    · rw [List.mem_singleton] at h1; subst h1; exact ⟨hn, hg⟩
  · have hlt : i + 1 < (O ++ [x] ++ [y]).length := (List.getElem?_eq_some_iff.1 hv).1
    by_cases hi : i + 1 < (O ++ [x]).length
    · rw [List.getElem?_append_left (by omega)] at hu
      rw [List.getElem?_append_left hi] at hv
      exact h.step i u v hu hv
    · have e : i = O.length := by simp at hlt hi; omega
      subst e
      have e1 : u = x := by simpa using hu.symm
      have e2 : v = y := by simpa using hv.symm
      subst e1 e2
      exact hy

theorem esc_out {n : Nat} {g : Nat → Bool} {nx : Nat → Option Nat} {k0 : Nat} (hnx : ∀ x y, nx x = some y → y < n ∧ g y = true) :
    ∀ (fuel : Nat) (O : List Nat) (x : Nat), fuel + O.length = n + 1 → O.Nodup → Way n g nx k0 (O ++ [x]) → ∃ l, Out n g nx k0 (esc nx fuel O x).1 (esc nx fuel O x).2 l
  | 0, O, x, hf, hnd, hw => by
    have := PlC.nodup_length_le hnd fun k hk => (hw.mem k (List.mem_append_left _ hk)).1
    omega
  | fuel + 1, O, x, hf, hnd, hw => by
    unfold esc
    by_cases h : x ∈ O
    · rw [if_pos h]
      have hpos : 0 < O.length := List.length_pos_of_mem h
      have hW : Way n g nx k0 O := by
        refine ⟨?_, fun k hk => hw.mem k (List.mem_append_left _ hk), fun i u v hu hv => hw.step i u v ?_ ?_⟩
        · have := hw.first
          rwa [List.getElem?_append_left hpos] at this
        · rw [List.getElem?_append_left (List.getElem?_eq_some_iff.1 hu).1]; exact hu
        · rw [List.getElem?_append_left (List.getElem?_eq_some_iff.1 hv).1]; exact hv
      have hil := idx_lt h
      have hd0 : (O.drop (O.idxOf x))[0]? = some x := by
        rw [List.getElem?_drop, Nat.add_zero, List.getElem?_eq_getElem hil, List.getElem_idxOf]
      refine ⟨O[O.length - 1], ?_⟩
      dsimp only
      have hst : nx O[O.length - 1] = some x := hw.step (O.length - 1) _ _ (by rw [List.getElem?_append_left (by omega), List.getElem?_eq_getElem]) (by rw [Nat.sub_add_cancel hpos]; simp)
      refine ⟨by rw [List.take_append_drop]; exact hW, by rw [List.take_append_drop]; exact hnd, by rw [List.take_append_drop, List.getElem?_eq_getElem], fun e => ?_, fun y hy => ?_⟩
      · rw [e] at hd0; simp at hd0
      · rw [hd0] at hy; rw [hst]; exact hy
    · rw [if_neg h]
      have hnd1 : (O ++ [x]).Nodup := List.nodup_append.2 ⟨hnd, by simp, fun a ha b hb => by rw [List.mem_singleton] at hb; subst hb; exact fun e => h (e ▸ ha)⟩
      cases hy : nx x with
      | none =>
        refine ⟨x, ?_⟩
        dsimp only
        exact ⟨by rw [List.append_nil]; exact hw, by rw [List.append_nil]; exact hnd1, by simp, fun _ => hy, fun y h => by simp at h⟩
      | some y =>
        obtain ⟨h1, h2⟩ := hnx x y hy
        exact esc_out hnx fuel (O ++ [x]) y (by simp; omega) hnd1 (hw.snoc hy h1 h2)

/-- the way of Escape, as the law wants it -/
theorem way {n : Nat} {G : Nat → List Nat} {S g : Nat → Bool} (hg : ∀ k, g k = true ↔ ¬ PlC.Att G S k) (hT : ∀ k t, t ∈ G k → t < n) {k0 : Nat} (hk : k0 < n) (h0 : g k0 = true) {P Q : List Nat} (h : esc (fun k => (G k).find? g) (n + 1) [] k0 = (P, Q)) :
    ∃ l, (P ++ Q)[0]? = some k0 ∧ (P ++ Q).length ≤ n ∧ (∀ k, k ∈ P ++ Q → k < n ∧ S k = false) ∧ (∀ (i : Nat) u v, (P ++ Q)[i]? = some u → (P ++ Q)[i + 1]? = some v → v ∈ G u) ∧
      (P ++ Q)[(P ++ Q).length - 1]? = some l ∧ l < n ∧ (Q = [] → G l = []) ∧ (∀ y, Q[0]? = some y → y ∈ G l) := by
  obtain ⟨l, hl⟩ := esc_out (n := n) (g := g) (nx := fun k => (G k).find? g) (k0 := k0) (fun x y hy => ⟨hT x y (List.mem_of_find?_eq_some hy), List.find?_some hy⟩) (n + 1) [] k0 (by simp) List.nodup_nil
    ⟨by simp, fun k hk' => by simp at hk'; subst hk'; exact ⟨hk, h0⟩, fun i u v _ hv => by simp at hv⟩
  rw [h] at hl
  have hlm : l ∈ P ++ Q := List.mem_of_getElem? hl.last
  refine ⟨l, hl.first, PlC.nodup_length_le hl.nodup fun k hk => (hl.mem k hk).1, fun k hk => ⟨(hl.mem k hk).1, ?_⟩, fun i u v hu hv => List.mem_of_find?_eq_some (hl.step i u v hu hv), hl.last, (hl.mem l hlm).1, fun e => ?_, fun y hy => List.mem_of_find?_eq_some (hl.loop y hy)⟩
  · cases hs : S k
    · rfl
    · exact absurd (PlC.Att.base hs) ((hg k).1 (hl.mem k hk).2)
  · have h1 := hl.open_ e
    apply Classical.byContradiction
    intro hne
    refine (hg l).1 (hl.mem l hlm).2 (.step hne fun t ht => ?_)
    have h2 := List.find?_eq_none.1 h1 t ht
    exact Classical.byContradiction fun h3 => h2 ((hg t).2 h3)
end Go.Proofs.Ytlhheglffododaa.PlX
