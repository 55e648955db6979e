/- Merged out of PlA, PlAc, PlAr. -/
import Derived.Test.YtbilciiffecdgaaPlP
import Derived.Test.YtbilciiffecdgaaNM
import Derived.Test.YtbilciiffecdgaaPlJ
import Derived.Test.YtbilciiffecdgaaE2
import Derived.Test.YtbilciiffecdgaaPlI
/- Plain: rounds, steps and moves, one below the other; the sets of a valid system. -/
namespace Go.Proofs.Ytbilciiffecdgaa
open PlS PlG

theorem rowOk_asc (en n b : Nat) (l : List (Nat × Int)) (h : rowOk en n b l = true) : (∀ x ∈ l, b < x.1) ∧ (l.map (·.1)).Nodup := by
  induction l generalizing b with
  | nil => simp
  | cons y l ih =>
    simp only [rowOk, Bool.and_eq_true, decide_eq_true_eq] at h
    obtain ⟨h1, h2⟩ := ih _ h.2
    refine ⟨fun x hx => ?_, ?_⟩
    · rcases List.mem_cons.1 hx with rfl | hx
      · exact h.1.1
      · have := h1 x hx; omega
    · rw [List.map_cons, List.nodup_cons]
      refine ⟨fun hm => ?_, h2⟩
      obtain ⟨x, hx, e⟩ := List.mem_map.1 hm
      have := h1 x hx
      omega
theorem ok_row {E : List Nat} {L : List (List (Nat × Int))} (h : spaceOk E L = true) (k : Nat) (hk : k < L.length) : (∀ x ∈ L[k], 0 < x.1 ∧ x.1 &&& (4294967295 - E.getD k 0) = 0) ∧ (L[k].map (·.1)).Nodup := by
  obtain ⟨_, _, h3, _⟩ := ok_parts h
  simp only [spaceOk, Bool.and_eq_true, decide_eq_true_eq] at h
  have h4 := allOk_at _ _ E L h3 h.2 k (by omega)
  simp only [stateOk, Bool.and_eq_true, decide_eq_true_eq] at h4
  have hr := rowOk_all _ _ _ _ h4.2
  refine ⟨fun x hx => ⟨(hr x hx).1, ?_⟩, (rowOk_asc _ _ _ _ h4.2).2⟩
  rw [getD_l 0 (by omega)]
  exact (hr x hx).2.1
namespace PlL
section
variable {n : Nat} {E : List Nat} {L : List (List Ar)} {S : Nat → Bool} {r : Nat → Nat}
theorem rd_le_val (h : Ranked n L S r) {c : Ar → Nat} (hc : ∀ k, k < n → ∀ a ∈ L.getD k [], 1 ≤ c a) {R : Pr → Nat} {f : Nat → Nat} (hR : IsRd n E L S R) (hf : IsVal n L S c f) : ∀ m k, k < n → S k = false → r k < m → ∀ P, R (k, P) ≤ f k := by
  intro m
  induction m with
  | zero => intro k _ _ h0; omega
  | succ m ih =>
    intro k hk hs hr P
    rw [hR k hk hs, (hf k hk).2 hs]
    obtain ⟨h1, h2⟩ := h.down k hk hs
    refine mrf_le _ _ ?_ fun a ha hsa => ?_
    · obtain ⟨a, ha⟩ := List.exists_mem_of_ne_nil _ h1
      have := mx_mem (c := c) (f := f) ha
      have := hc k hk a ha
      omega
    · have h3 := ih _ (h2 a ha).1 hsa (by have := (h2 a ha).2; omega) (aft E P a)
      have h4 := mx_mem (c := c) (f := f) ha
      have h5 := hc k hk a ha
      unfold rst
      split <;> omega
theorem val_mono (h : Ranked n L S r) {c d : Ar → Nat} (hc : ∀ k, k < n → ∀ a ∈ L.getD k [], c a ≤ d a) {f g : Nat → Nat} (hf : IsVal n L S c f) (hg : IsVal n L S d g) : ∀ m k, k < n → r k < m → f k ≤ g k := by
  intro m
  induction m with
  | zero => intro k _ h0; omega
  | succ m ih =>
    intro k hk hr
    cases hs : S k
    · rw [(hf k hk).2 hs, (hg k hk).2 hs]
      refine mx_le fun a ha => ?_
      have h1 := (h.down k hk hs).2 a ha
      have h2 := ih _ h1.1 (by omega)
      have h3 := mx_mem (c := d) (f := g) ha
      have h4 := hc k hk a ha
      omega
    · rw [(hf k hk).1 hs]; exact Nat.zero_le _
theorem rnd_facts (h : Ranked n L S r) {c d : Ar → Nat} (hc1 : ∀ k, k < n → ∀ a ∈ L.getD k [], 1 ≤ c a) (hc : ∀ k, k < n → ∀ a ∈ L.getD k [], c a ≤ d a) {R : Pr → Nat} {f g : Nat → Nat} (hR : IsRd n E L S R) (hf : IsVal n L S c f) (hg : IsVal n L S d g) {k : Nat} (hk : k < n) :
    (S k = true → rnd E S R k = 0 ∧ f k = 0 ∧ g k = 0) ∧ (S k = false → 1 ≤ rnd E S R k ∧ rnd E S R k ≤ f k ∧ f k ≤ g k) := by
  refine ⟨fun hs => ⟨by unfold rnd; rw [if_pos hs], (hf k hk).1 hs, (hg k hk).1 hs⟩, fun hs => ?_⟩
  have e : rnd E S R k = R (k, E.getD k 0) := by unfold rnd; rw [if_neg (by rw [hs]; simp)]
  rw [e]
  exact ⟨hR.pos hk hs _, rd_le_val h hc1 hR hf n k hk hs (h.lt k hk) _, val_mono h hc hf hg n k hk (h.lt k hk)⟩
end
end PlL
end Go.Proofs.Ytbilciiffecdgaa

/- Plain: an execution by any choices, and the account of it. -/
namespace Go.Proofs.Ytbilciiffecdgaa
open PlS PlG

theorem ok_en {E : List Nat} {L : List (List (Nat × Int))} (h : spaceOk E L = true) (k : Nat) : E.getD k 0 < 16777216 := by
  by_cases hk : k < E.length
  · obtain ⟨_, _, h3, _⟩ := ok_parts h
    simp only [spaceOk, Bool.and_eq_true, decide_eq_true_eq] at h
    have h4 := allOk_at _ _ E L h3 h.2 k hk
    simp only [stateOk, Bool.and_eq_true, decide_eq_true_eq] at h4
    rw [getD_l 0 hk]
    exact h4.1.1
  · rw [List.getD_eq_getElem?_getD, List.getElem?_eq_none (by omega)]; exact (by decide : 0 < 16777216)
theorem sub_24 {x e : Nat} (hx : x < 4294967296) (he : e < 16777216) (h : x &&& (4294967295 - e) = 0) : x < 16777216 := by
  apply Nat.lt_pow_two_of_testBit (n := 24) x
  intro i hi
  by_cases h32 : i < 32
  · have h1 : (x &&& (4294967295 - e)).testBit i = false := by rw [h]; exact Nat.zero_testBit i
    rw [Nat.testBit_and, show 4294967295 - e = 2 ^ 32 - (e + 1) by omega, Nat.testBit_two_pow_sub_succ (by omega)] at h1
    have h2 : e.testBit i = false := Nat.testBit_lt_two_pow (Nat.lt_of_lt_of_le he (Nat.pow_le_pow_right (n := 2) (by decide) hi))
    rw [h2] at h1
    simpa [h32] using h1
  · exact Nat.testBit_lt_two_pow (Nat.lt_of_lt_of_le hx (Nat.pow_le_pow_right (n := 2) (by decide) (show 32 ≤ i by omega)))
theorem ok_arc {E : List Nat} {L : List (List (Nat × Int))} (h : spaceOk E L = true) (hL : WfL L) {k : Nat} {a : Nat × Int} (ha : a ∈ L.getD k []) : 0 < a.1 ∧ a.1 < 16777216 ∧ a.2.toNat < E.length := by
  by_cases hk : k < L.length
  · rw [getD_l [] hk] at ha
    obtain ⟨j, hj, e⟩ := List.getElem_of_mem ha
    have h1 := (ok_row h k hk).1 a ha
    have h2 := (hL k hk).2 j hj
    rw [e] at h2
    have h3 := (ok_parts h).2.2.2 k hk a ha
    exact ⟨h1.1, sub_24 h2 (ok_en h k) h1.2, by omega⟩
  · rw [List.getD_eq_getElem?_getD, List.getElem?_eq_none (by omega)] at ha
    cases ha
/-- the account of an execution from k0 that has come to q -/
structure Acc (n : Nat) (S : Nat → Bool) (f1 f2 : Nat → Nat) (R : Nat × Nat → Nat) (z : Nat) (k0 q s m r b p : Nat) : Prop where
  lt : q < n
  st : s + f1 q ≤ f1 k0
  mv : m + f2 q ≤ f2 k0
  bz : b ≤ z
  rd : S q = false → r + R (q, p) ≤ z
  rb : r ≤ b
  br : b ≤ r + 1
  bs : b ≤ s
  sm : s ≤ m
  ms : m ≤ 24 * s
  pl : p < 16777216
section
variable {n : Nat} {E : List Nat} {L : List (List Arc)} {S : Nat → Bool} {f1 f2 : Nat → Nat} {R : Nat × Nat → Nat} {k0 q s m r b p : Nat}
theorem Acc.start (hk : k0 < n) (he : ∀ k, E.getD k 0 < 16777216) : Acc n S f1 f2 R (rnd E S R k0) k0 k0 0 0 0 0 (E.getD k0 0) :=
  ⟨hk, by omega, by omega, Nat.zero_le _, fun hs => by unfold rnd; rw [if_neg (by rw [hs]; simp)]; omega, Nat.le_refl _, by omega, Nat.le_refl _, Nat.le_refl _, by omega, he k0⟩
theorem Acc.next {z : Nat} (h : Acc n S f1 f2 R z k0 q s m r b p) (h1 : PlL.IsVal n L S cOne f1) (h2 : PlL.IsVal n L S cPop f2) (h3 : PlL.IsRd n E L S R) (hs : S q = false) {a : Arc} (ha : a ∈ L.getD q []) (hp1 : 1 ≤ Pl.pop a.1) (hp24 : Pl.pop a.1 ≤ 24) (ht : a.2.toNat < n) (he : ∀ k, E.getD k 0 < 16777216) :
    Acc n S f1 f2 R z k0 a.2.toNat (s + 1) (m + Pl.pop a.1) (r + if PlL.lft E p a = 0 then 1 else 0) (r + 1) (PlL.aft E p a) := by
  have q1 := PlL.mx_mem (c := cOne) (f := f1) ha
  have q2 := PlL.mx_mem (c := cPop) (f := f2) ha
  rw [← (h1 q h.lt).2 hs] at q1
  rw [← (h2 q h.lt).2 hs] at q2
  unfold cOne at q1
  unfold cPop at q2
  have hr := h.rd hs
  have hpos := h3.pos h.lt hs p
  have hst := h.st
  have hmv := h.mv
  have hrb := h.rb
  have hbr := h.br
  have hbs := h.bs
  have hsm := h.sm
  have hms := h.ms
  refine ⟨ht, by omega, by omega, by omega, fun hst2 => ?_, ?_, ?_, by omega, by omega, by omega, ?_⟩
  · have hm := PlL.mrf_mem (E := E) (S := S) (R := R) (P := p) 1 ha hst2
    have e := h3 q h.lt hs p
    unfold PlL.mr at e
    rw [← e] at hm
    unfold PlL.rst at hm
    omega
  · split <;> omega
  · split <;> omega
  · unfold PlL.aft
    split
    · exact he _
    · unfold PlL.lft; exact Nat.lt_of_le_of_lt (Pl.rest_le _ _ _) (he _)
end
end Go.Proofs.Ytbilciiffecdgaa

/- Plain: the reference's search for pairs, and its rounds, improved until nothing changes. -/
namespace Go.Proofs.Ytbilciiffecdgaa
open PlL

/-- the pairs of a state with their numbers -/
def rowP (Q : List Pr) (G : Pr → Nat) (k : Nat) : List Arc := (rowOf Q k).map fun P => (P, (G (k, P) : Int))
def rowsV (n : Nat) (Q : List Pr) (G : Pr → Nat) : List (Nat × List Value) := (List.range n).map fun k => ((rowOf Q k).length, (rowP Q G k).flatMap arcCells)
theorem rowP_len (Q : List Pr) (G : Pr → Nat) (k : Nat) : (rowP Q G k).length = (rowOf Q k).length := by simp [rowP]
theorem rowsV_len (n : Nat) (Q : List Pr) (G : Pr → Nat) : (rowsV n Q G).length = n := by simp [rowsV]
theorem rowsV_get {n : Nat} {Q : List Pr} {G : Pr → Nat} {k : Nat} (h : k < (rowsV n Q G).length) : (rowsV n Q G)[k] = ((rowOf Q k).length, (rowP Q G k).flatMap arcCells) := by simp [rowsV]
theorem rowsV_nil (n : Nat) (G : Pr → Nat) : rowsV n [] G = List.replicate n (0, []) := by
  unfold rowsV rowP rowOf
  apply List.ext_getElem
  · simp
  · intro i h1 h2; simp
theorem rowP_snoc (Q : List Pr) (G : Pr → Nat) (x : Pr) (k : Nat) : rowP (Q ++ [x]) G k = if x.1 = k then rowP Q G k ++ [(x.2, (G x : Int))] else rowP Q G k := by
  unfold rowP
  rw [rowOf_snoc]
  by_cases e : x.1 = k
  · subst e; rw [if_pos rfl, if_pos rfl, List.map_append]; rfl
  · rw [if_neg e, if_neg e]
theorem rowsV_set {n : Nat} {Q : List Pr} {G : Pr → Nat} {x : Pr} : (rowsV n Q G).set x.1 ((rowOf Q x.1).length + 1, (rowP Q G x.1).flatMap arcCells ++ arcCells (x.2, (G x : Int))) = rowsV n (Q ++ [x]) G := by
  apply List.ext_getElem
  · simp [rowsV]
  · intro j h1 h2
    rw [List.getElem_set, rowsV_get h2, rowOf_snoc, rowP_snoc]
    by_cases e : x.1 = j
    · subst e; simp
    · rw [if_neg e, if_neg e, if_neg e, rowsV_get]
def updP (G : Pr → Nat) (x : Pr) (v : Nat) (y : Pr) : Nat := if y = x then v else G y
theorem flat_set : ∀ (l : List Arc) (j : Nat) (hj : j < l.length) (v : Int), (l.flatMap arcCells).set (j * 2 + 1) (.int .i64 v) = (l.set j (l[j].1, v)).flatMap arcCells
  | a :: l, 0, _, v => rfl
  | a :: l, j + 1, hj, v => by
    have := flat_set l j (by simpa using hj) v
    rw [show (j + 1) * 2 + 1 = j * 2 + 1 + 1 + 1 by omega]
    simp only [List.flatMap_cons, List.set_cons_succ, List.getElem_cons_succ]
    rw [← this]
    rfl
theorem rowP_upd {Q : List Pr} {G : Pr → Nat} (hn : Q.Nodup) {k j P v : Nat} (hj : (rowOf Q k)[j]? = some P) : (rowP Q G k).set j (P, (v : Int)) = rowP Q (updP G (k, P) v) k := by
  have hnd := rowOf_nodup hn k
  obtain ⟨hjl, hjP⟩ := List.getElem?_eq_some_iff.1 hj
  unfold rowP
  apply List.ext_getElem
  · simp
  · intro i h1 h2
    rw [List.getElem_set]
    simp only [List.getElem_map]
    unfold updP
    by_cases e : j = i
    · subst e; rw [if_pos rfl, hjP, if_pos rfl]
    · rw [if_neg e, if_neg]
      intro h
      have h3 : (rowOf Q k)[i]'(by simpa using h2) = (rowOf Q k)[j] := by rw [hjP]; exact (Prod.mk.inj h).2
      exact e ((List.getElem_inj hnd).1 h3).symm
theorem rowP_other {Q : List Pr} {G : Pr → Nat} {k k' P v : Nat} (h : k' ≠ k) : rowP Q (updP G (k, P) v) k' = rowP Q G k' := by
  unfold rowP updP
  refine List.map_congr_left fun p _ => ?_
  rw [if_neg (fun e => h (Prod.mk.inj e).1)]
theorem rowsV_upd {n : Nat} {Q : List Pr} {G : Pr → Nat} (hn : Q.Nodup) {k j P v : Nat} (hj : (rowOf Q k)[j]? = some P) : (rowsV n Q G).set k ((rowOf Q k).length, ((rowP Q G k).flatMap arcCells).set (j * 2 + 1) (.int .i64 (v : Int))) = rowsV n Q (updP G (k, P) v) := by
  obtain ⟨hjl, hjP⟩ := List.getElem?_eq_some_iff.1 hj
  have hl : j < (rowP Q G k).length := by rw [rowP_len]; exact hjl
  have e : ((rowP Q G k).flatMap arcCells).set (j * 2 + 1) (.int .i64 (v : Int)) = (rowP Q (updP G (k, P) v) k).flatMap arcCells := by
    have h6 : (rowP Q G k)[j].1 = P := by simp [rowP, hjP]
    rw [flat_set _ j hl, h6, rowP_upd hn hj]
  rw [e]
  apply List.ext_getElem
  · simp [rowsV]
  · intro i h1 h2
    rw [List.getElem_set, rowsV_get h2]
    by_cases e : k = i
    · subst e; rw [if_pos rfl]
    · rw [if_neg e, rowsV_get, rowP_other (Ne.symm e)]
/-- where a pair stands -/
theorem row_index {Q : List Pr} (hn : Q.Nodup) {G : Pr → Nat} {x : Pr} (hx : x ∈ Q) : ∃ j, ∃ hj : j < (rowP Q G x.1).length, (rowP Q G x.1)[j].1 = x.2 ∧ (rowP Q G x.1)[j].2 = (G x : Int) ∧ ∀ i (hi : i < (rowP Q G x.1).length), i < j → (rowP Q G x.1)[i].1 ≠ x.2 := by
  obtain ⟨j, hj, e⟩ := List.getElem_of_mem (rowOf_mem.2 hx)
  have hj' : j < (rowP Q G x.1).length := by rw [rowP_len]; exact hj
  refine ⟨j, hj', by simp [rowP, e], by simp [rowP, e], fun i hi hij h => ?_⟩
  have hi' : i < (rowOf Q x.1).length := by rw [rowP_len] at hi; exact hi
  have h2 : (rowOf Q x.1)[i] = x.2 := by simpa [rowP] using h
  have := (List.getElem_inj (rowOf_nodup hn x.1)).1 (h2.trans e.symm)
  omega
theorem row_no {Q : List Pr} {G : Pr → Nat} {x : Pr} (hx : x ∉ Q) : ∀ i (hi : i < (rowP Q G x.1).length), (rowP Q G x.1)[i].1 ≠ x.2 := by
  intro i hi h
  have hi' : i < (rowOf Q x.1).length := by rw [rowP_len] at hi; exact hi
  have h2 : (rowOf Q x.1)[i] = x.2 := by simpa [rowP] using h
  exact hx (rowOf_mem.1 (h2 ▸ List.getElem_mem hi'))

/-- a pair as it stands on the stack -/
def tA (x : Pr) : Arc := (x.2, (x.1 : Int))
/-- the search: Q found, T on the stack, the arcs of c are being put there -/
structure DF (n : Nat) (E : List Nat) (L : List (List Ar)) (S : Nat → Bool) (m : Nat) (Q : List Pr) (T : List Pr) (c : Option Pr) : Prop where
  nodup : Q.Nodup
  ok : ∀ y ∈ Q, PrOk n E S y
  tok : ∀ y ∈ T, PrOk n E S y
  ini : ∀ k, k < m → S k = false → (k, E.getD k 0) ∈ Q ∨ (k, E.getD k 0) ∈ T
  done : ∀ y ∈ Q, some y ≠ c → ∀ a ∈ L.getD y.1 [], S a.2.toNat = false → suc E y a ∈ Q ∨ suc E y a ∈ T
section
variable {n m : Nat} {E : List Nat} {L : List (List Ar)} {S : Nat → Bool} {Q T : List Pr} {x : Pr}
theorem DF.start : DF n E L S 0 [] [] none := ⟨List.nodup_nil, fun y h => (by cases h), fun y h => (by cases h), fun k h => absurd h (Nat.not_lt_zero k), fun y h => (by cases h)⟩
theorem DF.skip (h : DF n E L S m Q T none) (hs : S m = true) : DF n E L S (m + 1) Q T none :=
  ⟨h.nodup, h.ok, h.tok, fun k hk hsk => by
    rcases Nat.lt_or_ge k m with h1 | h1
    · exact h.ini k h1 hsk
    · obtain rfl : k = m := by omega
      rw [hs] at hsk
      exact absurd hsk (by simp), h.done⟩
theorem DF.first (h : DF n E L S m Q T none) (hp : PrOk n E S (m, E.getD m 0)) : DF n E L S (m + 1) Q (T ++ [(m, E.getD m 0)]) none :=
  ⟨h.nodup, h.ok, fun y hy => by
    rcases List.mem_append.1 hy with h1 | h1
    · exact h.tok y h1
    · rw [List.mem_singleton] at h1; subst h1; exact hp, fun k hk hsk => by
    rcases Nat.lt_or_ge k m with h1 | h1
    · exact (h.ini k h1 hsk).imp id (List.mem_append_left _)
    · obtain rfl : k = m := by omega
      exact .inr (by simp), fun y hy hc a ha hsa => (h.done y hy hc a ha hsa).imp id (List.mem_append_left _)⟩
theorem snoc_or {P : Prop} {y x : Pr} {T : List Pr} (h : P ∨ y ∈ T ++ [x]) (hx : y = x → P) : P ∨ y ∈ T := by
  rcases h with h | h
  · exact .inl h
  · rcases List.mem_append.1 h with h | h
    · exact .inr h
    · rw [List.mem_singleton] at h; exact .inl (hx h)
theorem DF.pop (h : DF n E L S m Q (T ++ [x]) none) (hx : x ∈ Q) : DF n E L S m Q T none :=
  ⟨h.nodup, h.ok, fun y hy => h.tok y (List.mem_append_left _ hy), fun k hk hs => snoc_or (h.ini k hk hs) (fun e => e ▸ hx), fun y hy hc a ha hsa => snoc_or (h.done y hy hc a ha hsa) (fun e => e ▸ hx)⟩
theorem DF.new (h : DF n E L S m Q (T ++ [x]) none) (hx : x ∉ Q) : DF n E L S m (Q ++ [x]) T (some x) := by
  have hm : ∀ y, y ∈ Q → y ∈ Q ++ [x] := fun y hy => List.mem_append_left _ hy
  refine ⟨List.nodup_append.2 ⟨h.nodup, by simp, fun a ha b hb e => by rw [List.mem_singleton] at hb; subst hb; exact hx (e ▸ ha)⟩, fun y hy => ?_, fun y hy => h.tok y (List.mem_append_left _ hy), fun k hk hs => snoc_or ((h.ini k hk hs).imp (hm _) id) (fun e => List.mem_append_right _ (List.mem_singleton.2 e)), fun y hy hc a ha hsa => ?_⟩
  · rcases List.mem_append.1 hy with h1 | h1
    · exact h.ok y h1
    · rw [List.mem_singleton] at h1; subst h1; exact h.tok y (by simp)
  · rcases List.mem_append.1 hy with h1 | h1
    · exact snoc_or ((h.done y h1 (by simp) a ha hsa).imp (hm _) id) (fun e => List.mem_append_right _ (List.mem_singleton.2 e))
    · rw [List.mem_singleton] at h1; exact absurd (by rw [h1]) hc
theorem DF.push {c : Option Pr} (h : DF n E L S m Q T c) {y : Pr} (hy : PrOk n E S y) : DF n E L S m Q (T ++ [y]) c :=
  ⟨h.nodup, h.ok, fun z hz => by
    rcases List.mem_append.1 hz with h1 | h1
    · exact h.tok z h1
    · rw [List.mem_singleton] at h1; subst h1; exact hy, fun k hk hs => (h.ini k hk hs).imp id (List.mem_append_left _), fun z hz hc a ha hsa => (h.done z hz hc a ha hsa).imp id (List.mem_append_left _)⟩
theorem DF.fin (h : DF n E L S m Q T (some x)) (hd : ∀ a ∈ L.getD x.1 [], S a.2.toNat = false → suc E x a ∈ Q ∨ suc E x a ∈ T) : DF n E L S m Q T none :=
  ⟨h.nodup, h.ok, h.tok, h.ini, fun y hy _ a ha hsa => by
    by_cases e : y = x
    · subst e; exact hd a ha hsa
    · exact h.done y hy (fun h => e (Option.some.inj h)) a ha hsa⟩
theorem DF.bf (h : DF n E L S m Q [] none) : BF n E L S Q Q.length ∧ ∀ k, k < m → S k = false → (k, E.getD k 0) ∈ Q :=
  ⟨⟨h.nodup, h.ok, fun j hj y hy a ha hsa => ((h.done y (List.mem_of_getElem? hy) (by simp) a ha hsa).resolve_right (by simp))⟩, fun k hk hs => (h.ini k hk hs).resolve_right (by simp)⟩
end
/-- the rounds of an execution that begins with the arc a -/
def thr (E : List Nat) (S : Nat → Bool) (g : Pr → Nat) (P : Nat) (a : Ar) : Nat := if S a.2.toNat = true then 1 else rst E g P a
def SatP (E : List Nat) (L : List (List Ar)) (S : Nat → Bool) (g : Pr → Nat) (x : Pr) : Prop := ∀ a ∈ L.getD x.1 [], thr E S g x.2 a ≤ g x
def gapP (f g : Pr → Nat) (Q : List Pr) : Nat := (Q.map fun x => f x - g x).sum
theorem gapP_upd {f g : Pr → Nat} {x : Pr} {v : Nat} (hv : g x < v) (hf : v ≤ f x) : ∀ {Q : List Pr}, Q.Nodup → x ∈ Q → gapP f (updP g x v) Q < gapP f g Q
  | y :: Q, hn, hx => by
    rw [List.nodup_cons] at hn
    unfold gapP
    rw [List.map_cons, List.map_cons, List.sum_cons, List.sum_cons]
    by_cases e : y = x
    · subst e
      have e2 : (Q.map fun z => f z - updP g y v z) = Q.map fun z => f z - g z := List.map_congr_left fun z hz => by
        unfold updP
        rw [if_neg (fun (e : z = y) => hn.1 (e ▸ hz))]
      rw [e2]
      have : updP g y v y = v := by unfold updP; rw [if_pos rfl]
      rw [this]
      omega
    · have hx' : x ∈ Q := (List.mem_cons.1 hx).resolve_left (fun h => e h.symm)
      have := gapP_upd hv hf hn.2 hx'
      unfold gapP at this
      have e2 : updP g x v y = g y := by unfold updP; rw [if_neg e]
      rw [e2]
      omega
section
variable {n : Nat} {E : List Nat} {L : List (List Ar)} {S : Nat → Bool} {Q : List Pr} {r : Nat → Nat} {f g : Pr → Nat}
theorem thr_better (hf : IsRd n E L S f) (hQ : ∀ x ∈ Q, PrOk n E S x) (hcl : ∀ x ∈ Q, ∀ a ∈ L.getD x.1 [], S a.2.toNat = false → suc E x a ∈ Q) (hg : ∀ x ∈ Q, g x ≤ f x) {x : Pr} (hx : x ∈ Q) {a : Ar} (ha : a ∈ L.getD x.1 []) : thr E S g x.2 a ≤ f x := by
  obtain ⟨h1, h2, -, -⟩ := hQ x hx
  unfold thr
  cases hs : S a.2.toNat
  · rw [if_neg (by simp)]
    have h3 := mrf_mem (E := E) (S := S) (R := f) (P := x.2) 1 ha hs
    have h4 := hf x.1 h1 h2 x.2
    unfold mr at h4
    rw [← h4] at h3
    have h5 := hg _ (hcl x hx a ha hs)
    unfold suc at h5
    have h6 : rst E g x.2 a ≤ rst E f x.2 a := by unfold rst; omega
    exact Nat.le_trans h6 h3
  · rw [if_pos rfl]
    exact hf.pos h1 h2 x.2
theorem rd_done (h : Ranked n L S r) (hf : IsRd n E L S f) (hQ : ∀ x ∈ Q, PrOk n E S x) (hcl : ∀ x ∈ Q, ∀ a ∈ L.getD x.1 [], S a.2.toNat = false → suc E x a ∈ Q) (hg : ∀ x ∈ Q, g x ≤ f x) (hs : ∀ x ∈ Q, SatP E L S g x) : ∀ x ∈ Q, g x = f x := by
  have key : ∀ m, ∀ x ∈ Q, r x.1 < m → g x = f x := by
    intro m
    induction m with
    | zero => intro x _ h0; omega
    | succ m ih =>
      intro x hx hr
      obtain ⟨h1, h2, -, -⟩ := hQ x hx
      refine Nat.le_antisymm (hg x hx) ?_
      obtain ⟨hne, hall⟩ := h.down x.1 h1 h2
      have h4 := hf x.1 h1 h2 x.2
      have h4' : f x = mr E S f x.2 (L.getD x.1 []) := h4
      rw [h4']
      have hsuc : ∀ a ∈ L.getD x.1 [], S a.2.toNat = false → g (a.2.toNat, aft E x.2 a) = f (a.2.toNat, aft E x.2 a) := fun a ha hsa =>
        ih _ (hcl x hx a ha hsa) (by have := (hall a ha).2; show r a.2.toNat < m; omega)
      refine mrf_le _ _ ?_ fun a ha hsa => ?_
      · obtain ⟨a, ha⟩ := List.exists_mem_of_ne_nil _ hne
        refine Nat.le_trans ?_ (hs x hx a ha)
        unfold thr
        cases hsa : S a.2.toNat
        · rw [if_neg (by simp)]
          unfold rst
          rw [hsuc a ha hsa]
          have := hf.pos (hall a ha).1 hsa (aft E x.2 a)
          omega
        · rw [if_pos rfl]; exact Nat.le_refl _
      · refine Nat.le_trans ?_ (hs x hx a ha)
        unfold thr
        rw [if_neg (by rw [hsa]; simp)]
        unfold rst
        rw [hsuc a ha hsa]
        exact Nat.le_refl _
  exact fun x hx => key n x hx (h.lt _ (hQ x hx).1)
end
/-- the middle of a sweep -/
structure SwpP (E : List Nat) (L : List (List Ar)) (S : Nat → Bool) (Q : List Pr) (f g0 : Pr → Nat) (b : Bool) (g : Pr → Nat) (k j i : Nat) : Prop where
  le : ∀ x ∈ Q, g x ≤ f x
  no : b = false → g = g0 ∧ (∀ x ∈ Q, x.1 < k → SatP E L S g x) ∧ (∀ P ∈ (rowOf Q k).take j, SatP E L S g (k, P)) ∧ (∀ P, (rowOf Q k)[j]? = some P → ∀ a ∈ (L.getD k []).take i, thr E S g P a ≤ g (k, P))
  yes : b = true → gapP f g Q < gapP f g0 Q
section
variable {n : Nat} {E : List Nat} {L : List (List Ar)} {S : Nat → Bool} {Q : List Pr} {f g0 g : Pr → Nat} {b : Bool} {k j i : Nat}
theorem SwpP.start (h : ∀ x ∈ Q, g x ≤ f x) : SwpP E L S Q f g false g 0 0 0 := ⟨h, fun _ => ⟨rfl, fun x _ hx => absurd hx (Nat.not_lt_zero _), fun P hP => by simp at hP, fun P _ a ha => by simp at ha⟩, fun h => by cases h⟩
theorem SwpP.row (h : SwpP E L S Q f g0 b g k j i) (hj : (rowOf Q k).length ≤ j) : SwpP E L S Q f g0 b g (k + 1) 0 0 := by
  refine ⟨h.le, fun hb => ⟨(h.no hb).1, fun x hx hk => ?_, fun P hP => by simp at hP, fun P _ a ha => by simp at ha⟩, h.yes⟩
  rcases Nat.lt_or_ge x.1 k with h1 | h1
  · exact (h.no hb).2.1 x hx h1
  · have e : x.1 = k := by omega
    subst e
    exact (h.no hb).2.2.1 x.2 (by rw [List.take_of_length_le hj]; exact rowOf_mem.2 hx)
theorem SwpP.pair (h : SwpP E L S Q f g0 b g k j i) (hi : (L.getD k []).length ≤ i) : SwpP E L S Q f g0 b g k (j + 1) 0 := by
  refine ⟨h.le, fun hb => ⟨(h.no hb).1, (h.no hb).2.1, fun P hP => ?_, fun P _ a ha => by simp at ha⟩, h.yes⟩
  rw [List.take_add_one] at hP
  rcases List.mem_append.1 hP with h1 | h1
  · exact (h.no hb).2.2.1 P h1
  · intro a ha
    have hj : (rowOf Q k)[j]? = some P := by simpa using h1
    exact (h.no hb).2.2.2 P hj a (by rw [List.take_of_length_le hi]; exact ha)
theorem SwpP.keep (h : SwpP E L S Q f g0 b g k j i) {P : Nat} (hP : (rowOf Q k)[j]? = some P) (hi : i < (L.getD k []).length) (hle : thr E S g P (L.getD k [])[i] ≤ g (k, P)) : SwpP E L S Q f g0 b g k j (i + 1) := by
  refine ⟨h.le, fun hb => ⟨(h.no hb).1, (h.no hb).2.1, (h.no hb).2.2.1, fun P' hP' a ha => ?_⟩, h.yes⟩
  obtain rfl : P = P' := by rw [hP] at hP'; exact Option.some.inj hP'
  rw [List.take_add_one, List.getElem?_eq_getElem hi, Option.toList_some] at ha
  rcases List.mem_append.1 ha with h1 | h1
  · exact (h.no hb).2.2.2 P hP a h1
  · rw [List.mem_singleton] at h1; subst h1; exact hle
theorem SwpP.up (h : SwpP E L S Q f g0 b g k j i) (hn : Q.Nodup) (hf : IsRd n E L S f) (hQ : ∀ x ∈ Q, PrOk n E S x) (hcl : ∀ x ∈ Q, ∀ a ∈ L.getD x.1 [], S a.2.toNat = false → suc E x a ∈ Q) {P : Nat} (hP : (rowOf Q k)[j]? = some P) (hi : i < (L.getD k []).length) (hlt : g (k, P) < thr E S g P (L.getD k [])[i]) : SwpP E L S Q f g0 true (updP g (k, P) (thr E S g P (L.getD k [])[i])) k j (i + 1) := by
  have hx : (k, P) ∈ Q := rowOf_mem.1 (List.mem_of_getElem? hP)
  have hb := thr_better hf hQ hcl h.le hx (List.getElem_mem hi)
  have hd := gapP_upd hlt hb hn hx
  refine ⟨fun y hy => ?_, fun h => (by cases h), fun _ => Nat.lt_of_lt_of_le hd ?_⟩
  · unfold updP
    split
    · rename_i e; rw [e]; exact hb
    · exact h.le y hy
  · cases b
    · rw [(h.no rfl).1]; exact Nat.le_refl _
    · exact Nat.le_of_lt (h.yes rfl)
theorem SwpP.fin (h : SwpP E L S Q f g0 b g k j i) : gapP f g Q + (if b = true then 1 else 0) < gapP f g0 Q + 1 := by
  cases b
  · rw [(h.no rfl).1]; simp
  · have := h.yes rfl; simp; omega
end
end Go.Proofs.Ytbilciiffecdgaa
