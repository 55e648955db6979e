/- Plain: the pairs that are found, in the order in which they are found. -/
import Derived.Test.YtbilciiffecdgaaE5
namespace Go.Proofs.Ytbilciiffecdgaa
open PlL
theorem adq_pre (S : Nat → Bool) (Q : List (Nat × Nat)) (x : Nat × Nat) : ∃ X, adq S Q x = Q ++ X := by
  unfold adq
  split
  · exact ⟨[], by simp⟩
  · split
    · exact ⟨[], by simp⟩
    · exact ⟨[x], rfl⟩
theorem adq_sub {S : Nat → Bool} {Q : List (Nat × Nat)} {x y : Nat × Nat} (h : y ∈ Q) : y ∈ adq S Q x := by
  obtain ⟨X, hX⟩ := adq_pre S Q x
  rw [hX]; exact List.mem_append_left _ h
theorem adq_mem {S : Nat → Bool} {Q : List (Nat × Nat)} {x : Nat × Nat} (h : S x.1 = false) : x ∈ adq S Q x := by
  unfold adq
  rw [if_neg (by rw [h]; simp)]
  split
  · assumption
  · simp
structure BF (n : Nat) (E : List Nat) (L : List (List Ar)) (S : Nat → Bool) (Q : List Pr) (i : Nat) : Prop where
  nodup : Q.Nodup
  ok : ∀ x ∈ Q, PrOk n E S x
  done : ∀ j, j < i → ∀ x, Q[j]? = some x → ∀ a ∈ L.getD x.1 [], S a.2.toNat = false → suc E x a ∈ Q
section
variable {n : Nat} {E : List Nat} {L : List (List Ar)} {S : Nat → Bool} {Q : List Pr} {i : Nat}
theorem BF.start : BF n E L S [] 0 := ⟨List.nodup_nil, fun x h => (by cases h), fun j h => absurd h (Nat.not_lt_zero j)⟩
theorem BF.add (h : BF n E L S Q i) (hi : i ≤ Q.length) {x : Pr} (hx : S x.1 = false → PrOk n E S x) : BF n E L S (adq S Q x) i := by
  refine ⟨?_, fun y hy => ?_, fun j hj y hy a ha hs => ?_⟩
  · unfold adq
    split
    · exact h.nodup
    · split
      · exact h.nodup
      · rename_i hm
        exact List.nodup_append.2 ⟨h.nodup, by simp, fun a ha b hb => by rw [List.mem_singleton] at hb; subst hb; exact fun e => hm (e ▸ ha)⟩
  · unfold adq at hy
    split at hy
    · exact h.ok y hy
    · rename_i hs
      split at hy
      · exact h.ok y hy
      · rcases List.mem_append.1 hy with h1 | h1
        · exact h.ok y h1
        · rw [List.mem_singleton] at h1; subst h1; exact hx (by simpa using hs)
  · obtain ⟨X, hX⟩ := adq_pre S Q x
    rw [hX, List.getElem?_append_left (by omega)] at hy
    exact adq_sub (h.done j hj y hy a ha hs)
theorem BF.next (h : BF n E L S Q i) {x : Pr} (hx : Q[i]? = some x) (hd : ∀ a ∈ L.getD x.1 [], S a.2.toNat = false → suc E x a ∈ Q) : BF n E L S Q (i + 1) := by
  refine ⟨h.nodup, h.ok, fun j hj y hy => ?_⟩
  rcases Nat.lt_or_ge j i with h1 | h1
  · exact h.done j h1 y hy
  · obtain rfl : j = i := by omega
    rw [hx] at hy
    injection hy with hy
    subst hy
    exact hd
theorem suc_ok (hE : ∀ x, E.getD x 0 < 4294967296) (x : Pr) {a : Ar} (ht : a.2.toNat < n) (hs : S a.2.toNat = false) : PrOk n E S (suc E x a) := ⟨ht, hs, aft_lt hE _ _, aft_sub _ _ _⟩
theorem ini_ok (hE : ∀ x, E.getD x 0 < 4294967296) {k : Nat} (hk : k < n) (hs : S k = false) : PrOk n E S (k, E.getD k 0) := ⟨hk, hs, hE _, Nat.and_self _⟩
end
/-- the sets of pending nodes that belong to a state -/
def rowOf (Q : List Pr) (k : Nat) : List Nat := (Q.filter fun x => x.1 == k).map (·.2)
def rowsOf (n : Nat) (Q : List Pr) : List (List Nat) := (List.range n).map (rowOf Q)
theorem rowsOf_len (n : Nat) (Q : List Pr) : (rowsOf n Q).length = n := by simp [rowsOf]
theorem rowsOf_get {n : Nat} {Q : List Pr} {k : Nat} (h : k < (rowsOf n Q).length) : (rowsOf n Q)[k] = rowOf Q k := by simp [rowsOf]
theorem rowOf_snoc (Q : List Pr) (x : Pr) (k : Nat) : rowOf (Q ++ [x]) k = if x.1 = k then rowOf Q k ++ [x.2] else rowOf Q k := by
  unfold rowOf
  rw [List.filter_append, List.map_append]
  by_cases e : x.1 = k
  · rw [if_pos e]; simp [e]
  · rw [if_neg e]; simp [e]
theorem rowsOf_set {n : Nat} {Q : List Pr} {x : Pr} : (rowsOf n Q).set x.1 (rowOf Q x.1 ++ [x.2]) = rowsOf n (Q ++ [x]) := by
  apply List.ext_getElem
  · simp [rowsOf]
  · intro j h1 h2
    rw [List.getElem_set, rowsOf_get h2, rowOf_snoc]
    by_cases e : x.1 = j
    · rw [if_pos e, if_pos e, e]
    · rw [if_neg e, if_neg e, rowsOf_get]
theorem rowOf_mem {Q : List Pr} {k p : Nat} : p ∈ rowOf Q k ↔ (k, p) ∈ Q := by
  unfold rowOf
  rw [List.mem_map]
  constructor
  · rintro ⟨x, hx, rfl⟩
    obtain ⟨h1, h2⟩ := List.mem_filter.1 hx
    rw [beq_iff_eq] at h2
    subst h2
    exact h1
  · intro h
    exact ⟨(k, p), List.mem_filter.2 ⟨h, by simp⟩, rfl⟩
theorem rowOf_nodup {Q : List Pr} (h : Q.Nodup) (k : Nat) : (rowOf Q k).Nodup := by
  unfold rowOf
  have h1 : (Q.filter fun x => x.1 == k).Nodup := h.filter _
  refine List.pairwise_map.2 (h1.imp_of_mem fun {a b} ha hb hab e => hab ?_)
  have h2 := (List.mem_filter.1 ha).2
  have h3 := (List.mem_filter.1 hb).2
  rw [beq_iff_eq] at h2 h3
  exact Prod.ext (h2.trans h3.symm) e
theorem rowOf_len (Q : List Pr) (k : Nat) : (rowOf Q k).length ≤ Q.length := by
  unfold rowOf; rw [List.length_map]; exact List.length_filter_le _ _
end Go.Proofs.Ytbilciiffecdgaa
