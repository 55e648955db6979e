/- Plain: the graph of a valid transition system; who leads to whom. -/
import Derived.Test.YtbilciiffecdgaaPlS
import Derived.Test.YtbilciiffecdgaaPlC
namespace Go.Proofs.Ytbilciiffecdgaa.PlG
open PlS PlC

/-- the targets of a state's arcs -/
def tg (L : List (List (Nat × Int))) (k : Nat) : List Nat := (L.getD k []).map fun a => a.2.toNat

theorem rowOk_all (en n b : Nat) (l : List (Nat × Int)) (h : rowOk en n b l = true) : ∀ x ∈ l, 0 < x.1 ∧ x.1 &&& (4294967295 - en) = 0 ∧ 0 ≤ x.2 ∧ x.2 < n := by
  induction l generalizing b with
  | nil => simp
  | cons y l ih =>
    simp only [rowOk, Bool.and_eq_true, decide_eq_true_eq] at h
    intro x hx
    rcases List.mem_cons.1 hx with rfl | hx
    · exact ⟨by omega, h.1.2⟩
    · exact ih _ h.2 x hx
theorem allOk_at (n t : Nat) (E : List Nat) (L : List (List (Nat × Int))) (hl : L.length = E.length) (h : allOk n t E L = true) (k : Nat) (hk : k < E.length) : stateOk E[k] n (L[k]'(by omega)) = true := by
  induction E generalizing t L k with
  | nil => simp at hk
  | cons e E ih =>
    cases L with
    | nil => simp at hl
    | cons l L =>
      simp only [allOk, Bool.and_eq_true] at h
      rcases k with _ | k
      · exact h.2.1
      · exact ih _ L (by simpa using hl) h.2.2 k (by simpa using hk)
/-- what a valid system gives -/
theorem ok_parts {E : List Nat} {L : List (List (Nat × Int))} (h : spaceOk E L = true) :
    1 ≤ E.length ∧ E.length ≤ 32768 ∧ L.length = E.length ∧ ∀ k (hk : k < L.length), ∀ x ∈ L[k], 0 ≤ x.2 ∧ x.2 < E.length := by
  simp only [spaceOk, Bool.and_eq_true, decide_eq_true_eq] at h
  obtain ⟨⟨h1, h2, h3⟩, h4⟩ := h
  refine ⟨h1, h2, h3, fun k hk x hx => ?_⟩
  have := allOk_at _ _ E L h3 h4 k (by omega)
  simp only [stateOk, Bool.and_eq_true] at this
  exact (rowOk_all _ _ _ _ this.2 x hx).2.2
theorem ok_empty {E : List Nat} {L : List (List (Nat × Int))} (h : spaceOk E L = true) (k : Nat) (hk : k < E.length) : (E[k] ≠ 0 ↔ tg L k ≠ []) := by
  have h0 := h
  simp only [spaceOk, Bool.and_eq_true, decide_eq_true_eq] at h
  obtain ⟨⟨h1, h2, h3⟩, h4⟩ := h
  have := allOk_at _ _ E L h3 h4 k (by omega)
  simp only [stateOk, Bool.and_eq_true, decide_eq_true_eq] at this
  rw [this.1.2, tg, List.getD_eq_getElem?_getD, List.getElem?_eq_getElem (by omega)]
  simp only [Option.getD_some, ne_eq, List.map_eq_nil_iff]
  exact List.length_pos_iff

theorem tg_lt {E : List Nat} {L : List (List (Nat × Int))} (h : spaceOk E L = true) (k t : Nat) (ht : t ∈ tg L k) : t < E.length := by
  obtain ⟨_, _, h3, h4⟩ := ok_parts h
  unfold tg at ht
  rcases Nat.lt_or_ge k L.length with hk | hk
  · rw [List.getD_eq_getElem?_getD, List.getElem?_eq_getElem hk] at ht
    obtain ⟨x, hx, rfl⟩ := List.mem_map.1 ht
    have := h4 k hk x (by simpa using hx)
    omega
  · rw [List.getD_eq_getElem?_getD, List.getElem?_eq_none hk] at ht
    simp at ht
theorem tg_dom {E : List Nat} {L : List (List (Nat × Int))} (h : spaceOk E L = true) (k : Nat) (ht : tg L k ≠ []) : k < E.length := by
  obtain ⟨_, _, h3, _⟩ := ok_parts h
  rcases Nat.lt_or_ge k L.length with hk | hk
  · omega
  · exact absurd (by unfold tg; rw [List.getD_eq_getElem?_getD, List.getElem?_eq_none hk]; rfl) ht
theorem tg_len (L : List (List (Nat × Int))) (k : Nat) (hk : k < L.length) : (tg L k).length = L[k].length := by
  unfold tg
  rw [List.getD_eq_getElem?_getD, List.getElem?_eq_getElem hk]
  simp
theorem tg_get (L : List (List (Nat × Int))) (k j : Nat) (hk : k < L.length) (hj : j < L[k].length) : (tg L k)[j]? = some L[k][j].2.toNat := by
  unfold tg
  rw [List.getD_eq_getElem?_getD, List.getElem?_eq_getElem hk]
  simp [List.getElem?_eq_getElem hj]

/-- the sources so far: all arcs of the states before k, and the first j of k -/
structure SrcTo (L : List (List (Nat × Int))) (n : Nat) (R : List (List Nat)) (k j : Nat) : Prop where
  len : R.length = n
  cnt : ∀ x i, x < n → (R.getD x []).count i = (if i < k then (tg L i).count x else if i = k then ((tg L k).take j).count x else 0)
  size : ∀ x, (R.getD x []).length ≤ k * 1000000 + j

theorem SrcTo.start (L : List (List (Nat × Int))) (n : Nat) : SrcTo L n (List.replicate n []) 0 0 := by
  have e : ∀ x, (List.replicate n ([] : List Nat)).getD x [] = [] := fun x => by
    rw [List.getD_eq_getElem?_getD, List.getElem?_replicate]
    split <;> rfl
  refine ⟨by simp, fun x i hx => ?_, fun x => ?_⟩
  · rw [e]; simp
  · rw [e]; simp
theorem getD_set (R : List (List Nat)) (t x : Nat) (l : List Nat) (ht : t < R.length) : (R.set t l).getD x [] = if x = t then l else R.getD x [] := by
  rw [List.getD_eq_getElem?_getD, List.getD_eq_getElem?_getD, List.getElem?_set]
  by_cases h : t = x
  · subst h; simp [ht]
  · rw [if_neg h, if_neg (Ne.symm h)]
theorem SrcTo.next {L : List (List (Nat × Int))} {n : Nat} {R : List (List Nat)} {k j t : Nat} (h : SrcTo L n R k j) (ht : t < n) (hj : (tg L k)[j]? = some t) (htr : t < R.length) :
    SrcTo L n (R.set t (R[t] ++ [k])) k (j + 1) := by
  have e : R[t] = R.getD t [] := by rw [List.getD_eq_getElem?_getD, List.getElem?_eq_getElem htr]; rfl
  have hT : (tg L k).take (j + 1) = (tg L k).take j ++ [t] := by rw [List.take_add_one, hj]; rfl
  refine ⟨by simpa using h.len, fun x i hx => ?_, fun x => ?_⟩
  · rw [getD_set R t x _ htr]
    by_cases hxt : x = t
    · subst hxt
      rw [if_pos rfl, List.count_append, e, h.cnt x i hx]
      by_cases h1 : i < k
      · rw [if_pos h1, if_pos h1, (List.count_eq_zero (l := [k])).2 (by simp; omega)]; rfl
      · by_cases h2 : i = k
        · subst h2
          rw [if_neg h1, if_pos rfl, if_neg h1, if_pos rfl, hT, List.count_append]
          simp
        · rw [if_neg h1, if_neg h2, if_neg h1, if_neg h2, (List.count_eq_zero (l := [k])).2 (by simp; omega)]
    · rw [if_neg hxt, h.cnt x i hx]
      by_cases h1 : i < k
      · rw [if_pos h1, if_pos h1]
      · by_cases h2 : i = k
        · subst h2
          rw [if_neg h1, if_pos rfl, if_neg h1, if_pos rfl, hT, List.count_append, List.count_eq_zero (l := [t]) |>.2 (by simpa using hxt)]; rfl
        · rw [if_neg h1, if_neg h2, if_neg h1, if_neg h2]
  · rw [getD_set R t x _ htr]
    by_cases hxt : x = t
    · subst hxt
      have := h.size x
      rw [if_pos rfl, e]; simp only [List.length_append, List.length_cons, List.length_nil]; omega
    · rw [if_neg hxt]; have := h.size x; omega
theorem SrcTo.row {L : List (List (Nat × Int))} {n : Nat} {R : List (List Nat)} {k j : Nat} (h : SrcTo L n R k j) (hj : j = (tg L k).length) (hb : j ≤ 1000000) : SrcTo L n R (k + 1) 0 := by
  subst hj
  refine ⟨h.len, fun x i hx => ?_, fun x => ?_⟩
  · rw [h.cnt x i hx, List.take_length]
    by_cases h1 : i < k
    · rw [if_pos h1, if_pos (by omega)]
    · by_cases h2 : i = k
      · subst h2; rw [if_neg h1, if_pos rfl, if_pos (by omega)]
      · rw [if_neg h1, if_neg h2, if_neg (by omega)]
        split <;> simp
  · have := h.size x
    rw [Nat.add_zero, Nat.add_mul, Nat.one_mul]
    exact Nat.le_trans this (Nat.add_le_add_left hb _)

/-- the sources of each state, once for each arc -/
structure Src (L : List (List (Nat × Int))) (n : Nat) (R : List (List Nat)) : Prop where
  len : R.length = n
  cnt : ∀ x i, x < n → i < n → (R.getD x []).count i = (tg L i).count x
  lt : ∀ x i, x < n → i ∈ R.getD x [] → i < n
  size : ∀ x, (R.getD x []).length ≤ n * 1000000
theorem SrcTo.done {L : List (List (Nat × Int))} {n : Nat} {R : List (List Nat)} (h : SrcTo L n R n 0) : Src L n R := by
  refine ⟨h.len, fun x i hx hi => by rw [h.cnt x i hx, if_pos hi], fun x i hx hi => ?_, fun x => by have := h.size x; rw [Nat.add_zero] at this; exact this⟩
  rcases Nat.lt_or_ge i n with h1 | h1
  · exact h1
  · have := List.count_pos_iff.2 hi
    rw [h.cnt x i hx, if_neg (by omega)] at this
    split at this <;> simp at this
end Go.Proofs.Ytbilciiffecdgaa.PlG
