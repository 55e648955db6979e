/- Plain: attractors of transition systems, and the order in which their states are found. -/
import Derived.Test.YtbilciiffecdgaaPl
namespace Go.Proofs.Ytbilciiffecdgaa.PlC

/-- the states from which every execution comes to S: the least set that holds S and each state whose arcs (one at least) all lead into it -/
def Att (G : Nat → List Nat) (S : Nat → Bool) (k : Nat) : Prop :=
  ∀ P : Nat → Prop, (∀ j, S j = true → P j) → (∀ j, G j ≠ [] → (∀ t, t ∈ G j → P t) → P j) → P k

theorem Att.base {G : Nat → List Nat} {S : Nat → Bool} {k : Nat} (h : S k = true) : Att G S k := fun _ h1 _ => h1 k h
theorem Att.step {G : Nat → List Nat} {S : Nat → Bool} {k : Nat} (h : G k ≠ []) (h' : ∀ t, t ∈ G k → Att G S t) : Att G S k :=
  fun P h1 h2 => h2 k h fun t ht => h' t ht P h1 h2
theorem Att.cases {G : Nat → List Nat} {S : Nat → Bool} {k : Nat} (h : Att G S k) : S k = true ∨ (G k ≠ [] ∧ ∀ t, t ∈ G k → Att G S t) := by
  refine (h (fun j => Att G S j ∧ (S j = true ∨ (G j ≠ [] ∧ ∀ t, t ∈ G j → Att G S t))) ?_ ?_).2
  · exact fun j hj => ⟨.base hj, .inl hj⟩
  · exact fun j hj hg => ⟨.step hj fun t ht => (hg t ht).1, .inr ⟨hj, fun t ht => (hg t ht).1⟩⟩
theorem Att.mono {G : Nat → List Nat} {S S' : Nat → Bool} {k : Nat} (hs : ∀ j, S j = true → S' j = true) (h : Att G S k) : Att G S' k :=
  h _ (fun j hj => .base (hs j hj)) fun _ h1 h2 => .step h1 h2
theorem Att.lt {G : Nat → List Nat} {S : Nat → Bool} {n : Nat} (hS : ∀ j, S j = true → j < n) (hG : ∀ j, G j ≠ [] → j < n) {k : Nat} (h : Att G S k) : k < n :=
  h (fun j => j < n) hS fun j hj _ => hG j hj

/-- an order of the attractor's states: each state of S or behind all targets of its arcs -/
structure Order (n : Nat) (G : Nat → List Nat) (S : Nat → Bool) (O : List Nat) : Prop where
  nodup : O.Nodup
  lt : ∀ k, k ∈ O → k < n
  topo : ∀ (p x : Nat), O[p]? = some x → S x = true ∨ (G x ≠ [] ∧ ∀ t, t ∈ G x → t ∈ O.take p)
  all : ∀ k, k < n → (k ∈ O ↔ Att G S k)

theorem nodup_length_le {n : Nat} {O : List Nat} (h : O.Nodup) (hl : ∀ k, k ∈ O → k < n) : O.length ≤ n := by
  have h1 : O ⊆ List.range n := fun x hx => List.mem_range.2 (hl x hx)
  simpa using h.length_le_of_subset h1

/-- what holds while the states behind x = O[i] are looked at, those of pre have been -/
structure Mid (n : Nat) (G : Nat → List Nat) (S : Nat → Bool) (O : List Nat) (i x : Nat) (pre : List Nat) (ent : Nat → Nat) : Prop where
  nodup : O.Nodup
  lt : ∀ k, k ∈ O → k < n
  at_ : O[i]? = some x
  ent_ : ∀ k, k < n → ent k = (G k).countP (fun t => decide (t ∈ O.take i)) + pre.count k
  pre_ : ∀ k, k < n → pre.count k ≤ (G k).count x
  mem : ∀ k, k < n → (k ∈ O ↔ S k = true ∨ (0 < ent k ∧ ent k = (G k).length))
  topo : ∀ (p y : Nat), O[p]? = some y → S y = true ∨ (G y ≠ [] ∧ ∀ t, t ∈ G y → t ∈ O.take p)

/-- what holds when the states behind the first i of O have been looked at -/
structure Inv (n : Nat) (G : Nat → List Nat) (S : Nat → Bool) (O : List Nat) (i : Nat) (ent : Nat → Nat) : Prop where
  nodup : O.Nodup
  lt : ∀ k, k ∈ O → k < n
  le : i ≤ O.length
  ent_ : ∀ k, k < n → ent k = (G k).countP (fun t => decide (t ∈ O.take i))
  mem : ∀ k, k < n → (k ∈ O ↔ S k = true ∨ (0 < ent k ∧ ent k = (G k).length))
  topo : ∀ (p y : Nat), O[p]? = some y → S y = true ∨ (G y ≠ [] ∧ ∀ t, t ∈ G y → t ∈ O.take p)

theorem not_mem_take {O : List Nat} {i x : Nat} (h : O.Nodup) (hx : O[i]? = some x) : x ∉ O.take i := by
  intro hm
  obtain ⟨j, hj, e⟩ := List.mem_take_iff_getElem.1 hm
  obtain ⟨hi, e'⟩ := List.getElem?_eq_some_iff.1 hx
  have := (List.getElem_inj (xs := O) h (h₀ := by omega) (h₁ := hi)).1 (e.trans e'.symm)
  omega

theorem mem_take_succ {O : List Nat} {i x : Nat} (hx : O[i]? = some x) (t : Nat) : t ∈ O.take (i + 1) ↔ t ∈ O.take i ∨ t = x := by
  rw [List.take_add_one, hx]
  simp

theorem countP_succ {O : List Nat} {i x : Nat} (h : O.Nodup) (hx : O[i]? = some x) (l : List Nat) :
    l.countP (fun t => decide (t ∈ O.take (i + 1))) = l.countP (fun t => decide (t ∈ O.take i)) + l.count x := by
  have hn := not_mem_take h hx
  induction l with
  | nil => rfl
  | cons t l ih =>
    rw [List.countP_cons, List.countP_cons, List.count_cons, ih]
    by_cases ht : t = x
    · subst ht
      have h1 : t ∈ O.take (i + 1) := (mem_take_succ hx t).2 (.inr rfl)
      simp [h1, hn]
      omega
    · have h1 : (t ∈ O.take (i + 1)) = (t ∈ O.take i) := propext ((mem_take_succ hx t).trans ⟨fun h => h.resolve_right ht, .inl⟩)
      simp only [h1, beq_iff_eq, ht, if_false]
      omega

theorem Inv.start {n : Nat} {G : Nat → List Nat} {S : Nat → Bool} {O : List Nat} (h1 : O.Nodup) (h2 : ∀ k, k ∈ O → k < n) (h3 : ∀ k, k < n → (k ∈ O ↔ S k = true)) : Inv n G S O 0 (fun _ => 0) :=
  ⟨h1, h2, Nat.zero_le _, fun k _ => by simp, fun k hk => (h3 k hk).trans ⟨.inl, fun h => h.elim id fun h => absurd h.1 (by omega)⟩,
    fun p y hp => .inl ((h3 y (h2 y (List.mem_of_getElem? hp))).1 (List.mem_of_getElem? hp))⟩

theorem Inv.mid {n : Nat} {G : Nat → List Nat} {S : Nat → Bool} {O : List Nat} {i : Nat} {ent : Nat → Nat} (h : Inv n G S O i ent) {x : Nat} (hx : O[i]? = some x) : Mid n G S O i x [] ent :=
  ⟨h.nodup, h.lt, hx, fun k hk => by rw [h.ent_ k hk]; simp, fun _ _ => by simp, h.mem, h.topo⟩

theorem Mid.done {n : Nat} {G : Nat → List Nat} {S : Nat → Bool} {O : List Nat} {i x : Nat} {pre : List Nat} {ent : Nat → Nat} (h : Mid n G S O i x pre ent)
    (hp : ∀ k, k < n → pre.count k = (G k).count x) : Inv n G S O (i + 1) ent :=
  ⟨h.nodup, h.lt, (List.getElem?_eq_some_iff.1 h.at_).1, fun k hk => by rw [countP_succ h.nodup h.at_, h.ent_ k hk, hp k hk], h.mem, h.topo⟩

theorem getElem?_snoc {O : List Nat} {p y k : Nat} (h : (O ++ [k])[p]? = some y) : O[p]? = some y ∨ (p = O.length ∧ y = k) := by
  rcases Nat.lt_trichotomy p O.length with hp | hp | hp
  · rw [List.getElem?_append_left hp] at h; exact .inl h
  · subst hp
    rw [List.getElem?_append_right (Nat.le_refl _)] at h
    simp at h
    exact .inr ⟨rfl, h.symm⟩
  · rw [List.getElem?_eq_none (by simp; omega)] at h; cases h

theorem take_snoc {O : List Nat} {p : Nat} (k : Nat) (h : p ≤ O.length) : (O ++ [k]).take p = O.take p := by
  rw [List.take_append_of_le_length h]

/-- one more state k with an arc to x -/
theorem Mid.next {n : Nat} {G : Nat → List Nat} {S : Nat → Bool} {O : List Nat} {i x : Nat} {pre : List Nat} {ent : Nat → Nat} (h : Mid n G S O i x pre ent) {k : Nat} (hk : k < n)
    (hc : pre.count k < (G k).count x) :
    Mid n G S (if S k = false ∧ ent k + 1 = (G k).length then O ++ [k] else O) i x (pre ++ [k]) (fun j => if j = k then ent k + 1 else ent j) := by
  have hi : i < O.length := (List.getElem?_eq_some_iff.1 h.at_).1
  have hle : (G k).countP (fun t => decide (t ∈ O.take i)) + (G k).count x ≤ (G k).length := by
    rw [← countP_succ h.nodup h.at_]; exact List.countP_le_length
  have he := h.ent_ k hk
  have hcnt : ∀ j, (pre ++ [k]).count j = pre.count j + if j = k then 1 else 0 := fun j => by
    rw [List.count_append]
    by_cases hj : j = k
    · subst hj; simp
    · rw [if_neg hj, List.count_eq_zero (l := [k]) |>.2 (by simpa using hj)]
  have hpre : ∀ j, j < n → (pre ++ [k]).count j ≤ (G j).count x := fun j hj => by
    rw [hcnt]
    by_cases e : j = k
    · subst e; rw [if_pos rfl]; omega
    · rw [if_neg e]; exact h.pre_ j hj
  by_cases hd : S k = false ∧ ent k + 1 = (G k).length
  · rw [if_pos hd]
    have hnk : k ∉ O := fun hm => by
      rcases (h.mem k hk).1 hm with h1 | ⟨_, h2⟩
      · rw [hd.1] at h1; cases h1
      · omega
    have hall : ∀ t, t ∈ G k → t ∈ O.take (i + 1) := by
      have hcp := countP_succ h.nodup h.at_ (G k)
      have : (G k).countP (fun t => decide (t ∈ O.take (i + 1))) = (G k).length := by
        have := hd.2; have := List.countP_le_length (p := fun t => decide (t ∈ O.take (i + 1))) (l := G k); omega
      intro t ht
      simpa using List.countP_eq_length.1 this t ht
    refine ⟨?_, ?_, ?_, ?_, hpre, ?_, ?_⟩
    · rw [List.nodup_append]
      exact ⟨h.nodup, by simp, fun a ha b hb => by simp at hb; subst hb; intro e; subst e; exact hnk ha⟩
    · intro j hj
      rw [List.mem_append] at hj
      rcases hj with hj | hj
      · exact h.lt j hj
      · simp at hj; subst hj; exact hk
    · rw [List.getElem?_append_left hi]; exact h.at_
    · intro j hj
      rw [take_snoc k (Nat.le_of_lt hi), hcnt]
      by_cases e : j = k
      · subst e; simp only [if_true]; omega
      · simp only [if_neg e]; rw [h.ent_ j hj]; rfl
    · intro j hj
      by_cases e : j = k
      · subst e
        simp only [if_true]
        exact ⟨fun _ => .inr ⟨by omega, hd.2⟩, fun _ => by simp⟩
      · simp only [if_neg e]
        rw [← h.mem j hj]
        simp [e]
    · intro p y hp
      rcases getElem?_snoc hp with hp | ⟨rfl, rfl⟩
      · have hpl := (List.getElem?_eq_some_iff.1 hp).1
        rw [take_snoc k (Nat.le_of_lt hpl)]
        exact h.topo p y hp
      · right
        refine ⟨fun e => by have := hd.2; rw [e] at this; simp at this, fun t ht => ?_⟩
        rw [take_snoc _ (Nat.le_refl _)]
        exact List.mem_of_mem_take (by rw [List.take_length]; exact List.mem_of_mem_take (hall t ht)) |> fun hm => by rw [List.take_length]; exact hm
  · rw [if_neg hd]
    refine ⟨h.nodup, h.lt, h.at_, ?_, hpre, ?_, h.topo⟩
    · intro j hj
      rw [hcnt]
      by_cases e : j = k
      · subst e; simp only [if_true]; omega
      · simp only [if_neg e]; rw [h.ent_ j hj]; rfl
    · intro j hj
      by_cases e : j = k
      · subst e
        simp only [if_true]
        rw [h.mem j hk]
        constructor
        · rintro (h1 | ⟨_, h2⟩)
          · exact .inl h1
          · omega
        · rintro (h1 | ⟨_, h2⟩)
          · exact .inl h1
          · left
            cases hs : S j
            · exact absurd ⟨hs, h2⟩ hd
            · rfl
      · simp only [if_neg e]; exact h.mem j hj

theorem Inv.end_ {n : Nat} {G : Nat → List Nat} {S : Nat → Bool} {O : List Nat} {ent : Nat → Nat} (h : Inv n G S O O.length ent) (hS : ∀ j, S j = true → j < n) (hG : ∀ j, G j ≠ [] → j < n) : Order n G S O := by
  have hin : ∀ m x : Nat, O[m]? = some x → Att G S x := by
    intro m
    induction m using Nat.strongRecOn with
    | _ m ih =>
      intro x hx
      rcases h.topo m x hx with h1 | ⟨h1, h2⟩
      · exact .base h1
      · refine .step h1 fun t ht => ?_
        obtain ⟨j, hj, e⟩ := List.mem_take_iff_getElem.1 (h2 t ht)
        exact ih j (by omega) t (by rw [List.getElem?_eq_getElem (by omega), e])
  refine ⟨h.nodup, h.lt, h.topo, fun k hk => ⟨fun hm => ?_, fun ha => ?_⟩⟩
  · obtain ⟨m, hm⟩ := List.mem_iff_getElem?.1 hm
    exact hin m k hm
  · refine (ha (fun j => j < n ∧ j ∈ O) ?_ ?_).2
    · exact fun j hj => ⟨hS j hj, (h.mem j (hS j hj)).2 (.inl hj)⟩
    · intro j hj hg
      have hjn := hG j hj
      refine ⟨hjn, (h.mem j hjn).2 (.inr ?_)⟩
      have he : ent j = (G j).length := by
        rw [h.ent_ j hjn, List.take_length]
        exact List.countP_eq_length.2 fun t ht => by simpa using (hg t ht).2
      refine ⟨?_, he⟩
      rw [he]
      exact List.length_pos_iff.2 hj

/-- a rank: along an arc of a state outside S it falls -/
theorem Order.rank {n : Nat} {G : Nat → List Nat} {S : Nat → Bool} {O : List Nat} (h : Order n G S O) :
    ∃ r : Nat → Nat, ∀ k, k < n → Att G S k → r k < n ∧ (S k = true ∨ (G k ≠ [] ∧ ∀ t, t ∈ G k → r t < r k)) := by
  have hlen := nodup_length_le h.nodup h.lt
  refine ⟨fun k => O.idxOf k, fun k hk ha => ?_⟩
  have hm := (h.all k hk).2 ha
  have hlt := List.idxOf_lt_length_iff.2 hm
  refine ⟨Nat.lt_of_lt_of_le hlt hlen, ?_⟩
  rcases h.topo (O.idxOf k) k (by rw [List.getElem?_eq_getElem hlt, List.getElem_idxOf hlt]) with h1 | ⟨h1, h2⟩
  · exact .inl h1
  · refine .inr ⟨h1, fun t ht => ?_⟩
    obtain ⟨j, hj, e⟩ := List.mem_take_iff_getElem.1 (h2 t ht)
    have hjl : j < O.length := by omega
    have : O.idxOf t ≤ j := by
      rw [← e]
      rw [(h.nodup).idxOf_getElem]
      exact Nat.le_refl _
    show O.idxOf t < O.idxOf k
    omega
end Go.Proofs.Ytbilciiffecdgaa.PlC
