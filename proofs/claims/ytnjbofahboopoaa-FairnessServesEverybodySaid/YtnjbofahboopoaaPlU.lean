/- Plain: how far the walk has still to go; frames. -/
import Derived.Test.YtnjbofahboopoaaPlT
namespace Go.Proofs.Ytnjbofahboopoaa.PlT

def unseen (n : Nat) (G : Nat → List Nat) (ix : Nat → Nat) : Nat := ((List.range n).map fun k => if ix k = 0 then (G k).length + 1 else 0).sum
def onWay (G : Nat → List Nat) (W : List (Nat × Nat)) : Nat := (W.map fun w => (G w.1).length + 1 - w.2).sum
def mu (n : Nat) (G : Nat → List Nat) (ix : Nat → Nat) (W : List (Nat × Nat)) : Nat := unseen n G ix + onWay G W
theorem sum_upd (n t : Nat) (f g : Nat → Nat) (h : ∀ j, j ≠ t → f j = g j) (ht : t < n) : ((List.range n).map f).sum + g t = ((List.range n).map g).sum + f t := by
  induction n with
  | zero => omega
  | succ n ih =>
    rw [List.range_succ, List.map_append, List.map_append, List.sum_append, List.sum_append]
    simp only [List.map_cons, List.map_nil, List.sum_cons, List.sum_nil, Nat.add_zero]
    by_cases e : t = n
    · subst e
      have : (List.range t).map f = (List.range t).map g := List.map_congr_left fun j hj => h j (by have := List.mem_range.1 hj; omega)
      rw [this]
      omega
    · have := ih (by omega)
      rw [h n (Ne.symm e)]
      omega
theorem unseen_enter {n : Nat} {G : Nat → List Nat} {ix : Nat → Nat} {t v : Nat} (ht : t < n) (h0 : ix t = 0) (hv : v ≠ 0) : unseen n G (upd ix t v) + ((G t).length + 1) = unseen n G ix := by
  have := sum_upd n t (fun k => if upd ix t v k = 0 then (G k).length + 1 else 0) (fun k => if ix k = 0 then (G k).length + 1 else 0) (fun j hj => by rw [upd_ne _ _ hj]) ht
  rw [upd_same, if_neg hv, if_pos h0] at this
  unfold unseen
  omega
/-- how many states are not yet discovered -/
def cnt (n : Nat) (ix : Nat → Nat) : Nat := ((List.range n).map fun k => if ix k = 0 then 1 else 0).sum
theorem cnt_enter {n : Nat} {ix : Nat → Nat} {t v : Nat} (ht : t < n) (h0 : ix t = 0) (hv : v ≠ 0) : cnt n (upd ix t v) + 1 = cnt n ix := by
  have := sum_upd n t (fun k => if upd ix t v k = 0 then 1 else 0) (fun k => if ix k = 0 then 1 else 0) (fun j hj => by rw [upd_ne _ _ hj]) ht
  rw [upd_same, if_neg hv, if_pos h0] at this
  unfold cnt
  omega
theorem cnt_start (n : Nat) : cnt n (fun _ => 0) = n := by
  unfold cnt
  induction n with
  | zero => rfl
  | succ n ih =>
    rw [List.range_succ, List.map_append, List.sum_append, ih]
    simp
theorem onWay_snoc (G : Nat → List Nat) (W : List (Nat × Nat)) (k a : Nat) : onWay G (W ++ [(k, a)]) = onWay G W + ((G k).length + 1 - a) := by
  unfold onWay; simp
theorem mu_next {n : Nat} {G : Nat → List Nat} {ix : Nat → Nat} {W : List (Nat × Nat)} {k a : Nat} (h : a < (G k).length) : mu n G ix (W ++ [(k, a + 1)]) + 1 = mu n G ix (W ++ [(k, a)]) := by
  unfold mu; rw [onWay_snoc, onWay_snoc]; omega
theorem mu_enter {n : Nat} {G : Nat → List Nat} {ix : Nat → Nat} {W : List (Nat × Nat)} {t v : Nat} (ht : t < n) (h0 : ix t = 0) (hv : v ≠ 0) : mu n G (upd ix t v) (W ++ [(t, 0)]) = mu n G ix W := by
  unfold mu
  rw [onWay_snoc]
  have := unseen_enter (G := G) ht h0 hv
  omega
theorem mu_pop {n : Nat} {G : Nat → List Nat} {ix : Nat → Nat} {W : List (Nat × Nat)} {k a : Nat} (h : a ≤ (G k).length) : mu n G ix W < mu n G ix (W ++ [(k, a)]) := by
  unfold mu; rw [onWay_snoc]; omega

/-- what a search leaves -/
structure Found (n : Nat) (G : Nat → List Nat) (S : Nat → Bool) (s0 : St) (k0 : Nat) (s : St) (W : List (Nat × Nat)) : Prop where
  inv : Inv n G S s (W.map (·.1))
  arcs : Arcs G S s W
  more : ∀ x, s0.ix x ≠ 0 → s.ix x ≠ 0
  first : s.ix k0 ≠ 0
  le : ∀ w, w ∈ W → w.2 ≤ (G w.1).length
section
variable {n : Nat} {G : Nat → List Nat} {S : Nat → Bool} {s0 s : St} {k0 : Nat} {W : List (Nat × Nat)}
theorem Found.begin (h : Inv n G S s []) (hk : k0 < n) (hS : S k0 = false) (h0 : s.ix k0 = 0) : Found n G S s k0 (enter s k0) [(k0, 0)] := by
  refine ⟨h.enter hk hS h0 (fun w hw => by cases hw), ?_, fun x hx => ?_, ?_, fun w hw => ?_⟩
  · exact Arcs.enter (W := []) (fun w hw => by cases hw) (fun w hw => by cases hw) (h.fresh h0).1
  · show upd s.ix k0 (s.fd + 1) x ≠ 0
    unfold upd
    split
    · omega
    · exact hx
  · show upd s.ix k0 (s.fd + 1) k0 ≠ 0
    rw [upd_same]; omega
  · rw [List.mem_singleton] at hw; subst hw; exact Nat.zero_le _
theorem map_snoc (W : List (Nat × Nat)) (k a : Nat) : (W ++ [(k, a)]).map (·.1) = W.map (·.1) ++ [k] := by simp
/-- an arc that leads to nothing new -/
theorem Found.pass {k a t : Nat} (h : Found n G S s0 k0 s (W ++ [(k, a)])) (ht : (G k)[a]? = some t) (hs : S t = true ∨ s.rt t ≠ none) : Found n G S s0 k0 s (W ++ [(k, a + 1)]) := by
  have hl := (List.getElem?_eq_some_iff.1 ht).1
  refine ⟨by rw [map_snoc, ← map_snoc W k a]; exact h.inv, h.arcs.next ht (hs.imp id .inl), h.more, h.first, fun w hw => ?_⟩
  rcases List.mem_append.1 hw with h1 | h1
  · exact h.le w (List.mem_append_left _ h1)
  · rw [List.mem_singleton] at h1; subst h1; exact hl
/-- an arc to a pending state -/
theorem Found.low {k a t : Nat} (h : Found n G S s0 k0 s (W ++ [(k, a)])) (ht : (G k)[a]? = some t) (hT : t < n) (hS : S t = false) (hr : s.rt t = none) (hi : s.ix t ≠ 0) : Found n G S s0 k0 (lower s k (s.ix t)) (W ++ [(k, a + 1)]) := by
  have hl := (List.getElem?_eq_some_iff.1 ht).1
  have hp : t ∈ s.pd := (h.inv.pd_iff t).2 ⟨hT, hS, hi, hr⟩
  have hk : k ∈ (W ++ [(k, a)]).map (·.1) := by simp
  have hinv := h.inv.lower hk ⟨t, hp, rfl, .one (List.mem_of_getElem? ht) hS⟩
  refine ⟨by rw [map_snoc, ← map_snoc W k a]; exact hinv, (h.arcs.lower k (s.ix t)).next ht ?_, h.more, h.first, fun w hw => ?_⟩
  · refine .inr (.inr ⟨hp, ?_⟩)
    rw [lower_same]
    exact Nat.min_le_right _ _
  · rcases List.mem_append.1 hw with h1 | h1
    · exact h.le w (List.mem_append_left _ h1)
    · rw [List.mem_singleton] at h1; subst h1; exact hl
/-- an arc to a new state -/
theorem Found.enter {k a t : Nat} (h : Found n G S s0 k0 s (W ++ [(k, a)])) (ht : (G k)[a]? = some t) (hT : t < n) (hS : S t = false) (hi : s.ix t = 0) : Found n G S s0 k0 (enter s t) (W ++ [(k, a + 1)] ++ [(t, 0)]) := by
  have hl := (List.getElem?_eq_some_iff.1 ht).1
  obtain ⟨hf, hr⟩ := h.inv.fresh hi
  have hk : k ∈ s.pd := h.inv.way_pd k (by simp)
  have hmax : ∀ w, w ∈ (W ++ [(k, a)]).map (·.1) → s.ix w ≤ s.ix k := fun w hw => by
    have hasc := h.inv.way_asc
    rw [map_snoc] at hw hasc
    rcases List.mem_append.1 hw with h1 | h1
    · exact Nat.le_of_lt (asc_last hasc h1)
    · rw [List.mem_singleton.1 h1]; exact Nat.le_refl _
  have hV : ∀ w, w ∈ (W ++ [(k, a)]).map (·.1) → Rch G S w t := fun w hw => (h.inv.desc w hw k hk (hmax w hw)).step (List.mem_of_getElem? ht) hS
  have hinv := h.inv.enter hT hS hi hV
  have hne : ∀ w, w ∈ W ++ [(k, a)] → w.1 ≠ t := fun w hw e => hf (by rw [← e]; exact h.inv.way_pd w.1 (List.mem_map_of_mem hw))
  have harcs := h.arcs.enter hne hf
  rw [List.append_assoc] at harcs
  refine ⟨by rw [map_snoc, map_snoc, ← map_snoc W k a]; exact hinv, ?_, fun x hx => ?_, ?_, fun w hw => ?_⟩
  · rw [List.append_assoc]
    refine Arcs.next (W1 := [(t, 0)]) harcs ht (.inr (.inr ⟨List.mem_append_right _ (List.mem_singleton.2 rfl), ?_⟩))
    show upd s.lo t (s.fd + 1) k ≤ upd s.ix t (s.fd + 1) t
    rw [upd_same, upd_ne _ _ (show k ≠ t from hne (k, a) (by simp))]
    have := (h.inv.low k hk).1
    have := h.inv.ix_le k
    omega
  · show upd s.ix t (s.fd + 1) x ≠ 0
    unfold upd
    split
    · omega
    · exact h.more x hx
  · show upd s.ix t (s.fd + 1) k0 ≠ 0
    unfold upd
    split
    · omega
    · exact h.first
  · rcases List.mem_append.1 hw with h1 | h1
    · rcases List.mem_append.1 h1 with h2 | h2
      · exact h.le w (List.mem_append_left _ h2)
      · rw [List.mem_singleton] at h2; subst h2; exact hl
    · rw [List.mem_singleton] at h1; subst h1; exact Nat.zero_le _
theorem Found.doneArcs {k a : Nat} (h : Found n G S s0 k0 s (W ++ [(k, a)])) (ha : (G k).length ≤ a) : ∀ t, t ∈ G k → Seen S s (s.lo k) t := fun t ht =>
  h.arcs (k, a) (by simp) t (by rw [List.take_of_length_le ha]; exact ht)
/-- the way goes back; no root -/
theorem Found.back {k a u b : Nat} (h : Found n G S s0 k0 s (W ++ [(u, b)] ++ [(k, a)])) (ha : (G k).length ≤ a) (hlt : s.lo k < s.ix k) : Found n G S s0 k0 (lower s u (s.lo k)) (W ++ [(u, b)]) := by
  have hinv := h.inv
  rw [map_snoc, map_snoc] at hinv
  have hk : k ∈ s.pd := hinv.way_pd k (by simp)
  have hu : u ∈ s.pd := hinv.way_pd u (by simp)
  have huk : s.ix u < s.ix k := asc_last hinv.way_asc (by simp)
  obtain ⟨l1, y, l2, l3, l4⟩ := hinv.low k hk
  have h1 := hinv.lower (k := u) (v := s.lo k) (by simp) ⟨y, l2, l3, (hinv.desc u (by simp) k hk (Nat.le_of_lt huk)).trans l4⟩
  have hne : k ≠ u := fun e => by rw [e] at huk; omega
  have h2 := h1.pop (by rw [lower_ne s _ hne]; exact hlt) (fun t ht => by rw [lower_ne s _ hne]; exact h.doneArcs ha t ht) (by rw [lower_same, lower_ne s _ hne]; exact Nat.min_le_right _ _)
  exact ⟨by rw [map_snoc]; exact h2, (fun w hw => (h.arcs.lower u (s.lo k)) w (List.mem_append_left _ hw)), h.more, h.first, fun w hw => h.le w (List.mem_append_left _ hw)⟩
/-- the way goes back; a root -/
theorem Found.root {k a : Nat} {P1 P2 : List Nat} (h : Found n G S s0 k0 s (W ++ [(k, a)])) (ha : (G k).length ≤ a) (hroot : s.lo k = s.ix k) (hpd : s.pd = P1 ++ k :: P2) : Found n G S s0 k0 (complete s P1 (k :: P2) k) W := by
  have hinv := h.inv
  rw [map_snoc] at hinv
  refine ⟨hinv.complete hpd hroot (h.doneArcs ha), ?_, h.more, h.first, fun w hw => h.le w (List.mem_append_left _ hw)⟩
  exact Arcs.complete (fun w hw => h.arcs w (List.mem_append_left _ hw)) hpd
/-- the only state of the way is a root -/
theorem Found.only {k a : Nat} (h : Found n G S s0 k0 s [(k, a)]) : s.lo k = s.ix k := by
  have hinv := h.inv
  have hk : k ∈ s.pd := hinv.way_pd k (by simp)
  obtain ⟨l1, y, l2, l3, l4⟩ := hinv.low k hk
  obtain ⟨w, hw, hle⟩ := hinv.base y l2
  simp at hw
  subst hw
  omega
theorem lower_self (s : St) {k v : Nat} (h : s.lo k ≤ v) : lower s k v = s := by
  unfold lower
  have : upd s.lo k (min (s.lo k) v) = s.lo := by
    funext x
    unfold upd
    split
    · rename_i e; subst e; exact Nat.min_eq_left h
    · rfl
  rw [this]
end
end Go.Proofs.Ytnjbofahboopoaa.PlT
