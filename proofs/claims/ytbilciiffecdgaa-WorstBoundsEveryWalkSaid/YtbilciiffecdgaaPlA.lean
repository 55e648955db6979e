/- Plain: rounds, steps and moves, one below the other; the sets of a valid system. -/
import Derived.Test.YtbilciiffecdgaaPlP
import Derived.Test.YtbilciiffecdgaaNM
import Derived.Test.YtbilciiffecdgaaPlJ
namespace Go.Proofs.Ytbilciiffecdgaa
open PlS PlG

theorem rowOk_asc (en n b : Nat) (l : List (Nat × Int)) (h : rowOk en n b l = true) : (∀ x ∈ l, b < x.1) ∧ (l.map (·.1)).Nodup := by
  induction l generalizing b with
  | nil => simp
  | cons y l ih =>
    simp only [rowOk, Bool.and_eq_true, decide_eq_true_eq] at h
    obtain ⟨h1, h2⟩ := ih _ h.2
    refine ⟨fun x hx => ?_, ?_⟩
    · rcases List.mem_cons.1 hx with rfl | hx
      · exact h.1.1
      · have := h1 x hx; omega
    · rw [List.map_cons, List.nodup_cons]
      refine ⟨fun hm => ?_, h2⟩
      obtain ⟨x, hx, e⟩ := List.mem_map.1 hm
      have := h1 x hx
      omega
theorem ok_row {E : List Nat} {L : List (List (Nat × Int))} (h : spaceOk E L = true) (k : Nat) (hk : k < L.length) : (∀ x ∈ L[k], 0 < x.1 ∧ x.1 &&& (4294967295 - E.getD k 0) = 0) ∧ (L[k].map (·.1)).Nodup := by
  obtain ⟨_, _, h3, _⟩ := ok_parts h
  simp only [spaceOk, Bool.and_eq_true, decide_eq_true_eq] at h
  have h4 := allOk_at _ _ E L h3 h.2 k (by omega)
  simp only [stateOk, Bool.and_eq_true, decide_eq_true_eq] at h4
  have hr := rowOk_all _ _ _ _ h4.2
  refine ⟨fun x hx => ⟨(hr x hx).1, ?_⟩, (rowOk_asc _ _ _ _ h4.2).2⟩
  rw [getD_l 0 (by omega)]
  exact (hr x hx).2.1
namespace PlL
section
variable {n : Nat} {E : List Nat} {L : List (List Ar)} {S : Nat → Bool} {r : Nat → Nat}
theorem rd_le_val (h : Ranked n L S r) {c : Ar → Nat} (hc : ∀ k, k < n → ∀ a ∈ L.getD k [], 1 ≤ c a) {R : Pr → Nat} {f : Nat → Nat} (hR : IsRd n E L S R) (hf : IsVal n L S c f) : ∀ m k, k < n → S k = false → r k < m → ∀ P, R (k, P) ≤ f k := by
  intro m
  induction m with
  | zero => intro k _ _ h0; omega
  | succ m ih =>
    intro k hk hs hr P
    rw [hR k hk hs, (hf k hk).2 hs]
    obtain ⟨h1, h2⟩ := h.down k hk hs
    refine mrf_le _ _ ?_ fun a ha hsa => ?_
    · obtain ⟨a, ha⟩ := List.exists_mem_of_ne_nil _ h1
      have := mx_mem (c := c) (f := f) ha
      have := hc k hk a ha
      omega
    · have h3 := ih _ (h2 a ha).1 hsa (by have := (h2 a ha).2; omega) (aft E P a)
      have h4 := mx_mem (c := c) (f := f) ha
      have h5 := hc k hk a ha
      unfold rst
      split <;> omega
theorem val_mono (h : Ranked n L S r) {c d : Ar → Nat} (hc : ∀ k, k < n → ∀ a ∈ L.getD k [], c a ≤ d a) {f g : Nat → Nat} (hf : IsVal n L S c f) (hg : IsVal n L S d g) : ∀ m k, k < n → r k < m → f k ≤ g k := by
  intro m
  induction m with
  | zero => intro k _ h0; omega
  | succ m ih =>
    intro k hk hr
    cases hs : S k
    · rw [(hf k hk).2 hs, (hg k hk).2 hs]
      refine mx_le fun a ha => ?_
      have h1 := (h.down k hk hs).2 a ha
      have h2 := ih _ h1.1 (by omega)
      have h3 := mx_mem (c := d) (f := g) ha
      have h4 := hc k hk a ha
      omega
    · rw [(hf k hk).1 hs]; exact Nat.zero_le _
theorem rnd_facts (h : Ranked n L S r) {c d : Ar → Nat} (hc1 : ∀ k, k < n → ∀ a ∈ L.getD k [], 1 ≤ c a) (hc : ∀ k, k < n → ∀ a ∈ L.getD k [], c a ≤ d a) {R : Pr → Nat} {f g : Nat → Nat} (hR : IsRd n E L S R) (hf : IsVal n L S c f) (hg : IsVal n L S d g) {k : Nat} (hk : k < n) :
    (S k = true → rnd E S R k = 0 ∧ f k = 0 ∧ g k = 0) ∧ (S k = false → 1 ≤ rnd E S R k ∧ rnd E S R k ≤ f k ∧ f k ≤ g k) := by
  refine ⟨fun hs => ⟨by unfold rnd; rw [if_pos hs], (hf k hk).1 hs, (hg k hk).1 hs⟩, fun hs => ?_⟩
  have e : rnd E S R k = R (k, E.getD k 0) := by unfold rnd; rw [if_neg (by rw [hs]; simp)]
  rw [e]
  exact ⟨hR.pos hk hs _, rd_le_val h hc1 hR hf n k hk hs (h.lt k hk) _, val_mono h hc hf hg n k hk (h.lt k hk)⟩
end
end PlL
end Go.Proofs.Ytbilciiffecdgaa
