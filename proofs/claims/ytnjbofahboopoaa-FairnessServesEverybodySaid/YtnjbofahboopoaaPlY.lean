/- Plain: the laws of the core of fair executions. -/
import Derived.Test.YtnjbofahboopoaaPlW
namespace Go.Proofs.Ytnjbofahboopoaa.PlT
open PlG

noncomputable def goodB (n : Nat) (E : List Nat) (L : List (List (Nat × Int))) (S : Nat → Bool) (y : Nat) : Bool := (tg L y).isEmpty || keptN n E L S (num n (tg L) S y).toNat
def FCore (n : Nat) (E : List Nat) (L : List (List (Nat × Int))) (S : Nat → Bool) (k : Nat) : Prop := FC (tg L) S (goodB n E L S) k
/-- a transition system of n states -/
structure Sys (n : Nat) (E : List Nat) (L : List (List (Nat × Int))) : Prop where
  en : ∀ x, E.getD x 0 < 4294967296
  dom : ∀ x, tg L x ≠ [] → x < n
  to : ∀ x t, t ∈ tg L x → t < n
theorem mem_tg {L : List (List (Nat × Int))} {x : Nat} {a : Nat × Int} (h : a ∈ L.getD x []) : a.2.toNat ∈ tg L x := by
  unfold tg
  exact List.mem_map.2 ⟨a, h, rfl⟩
theorem tg_mem {L : List (List (Nat × Int))} {x t : Nat} (h : t ∈ tg L x) : ∃ a ∈ L.getD x [], a.2.toNat = t := by
  unfold tg at h
  exact List.mem_map.1 h
section
variable {n : Nat} {E : List Nat} {L : List (List (Nat × Int))} {S : Nat → Bool}
theorem Sys.kept (h : Sys n E L) {y : Nat} (hy : y < n) (sy : S y = false) : keptN n E L S (num n (tg L) S y).toNat = true ↔ KeptAt n E L S y :=
  kept_iff h.en (fun x _ _ ha => h.to x _ (mem_tg ha)) hy sy
theorem Sys.good (h : Sys n E L) {y : Nat} (hy : y < n) (sy : S y = false) : goodB n E L S y = true ↔ tg L y = [] ∨ KeptAt n E L S y := by
  unfold goodB
  rw [Bool.or_eq_true, List.isEmpty_iff, h.kept hy sy]
theorem KeptAt.of {x y : Nat} (h : KeptAt n E L S y) (hm : Mut (tg L) S x y) : KeptAt n E L S x := by
  obtain ⟨⟨z, h1, h2, h3, a, h4, h5, h6⟩, hs⟩ := h
  refine ⟨⟨z, h1, h2, hm.trans h3, a, h4, h5, hm.trans h6⟩, fun v hv => ?_⟩
  obtain ⟨z, h1, h2, h3, h4⟩ := hs v hv
  exact ⟨z, h1, h2, hm.trans h3, h4.imp id fun ⟨a, b1, b2, b3, b4⟩ => ⟨a, b1, b2, hm.trans b3, b4⟩⟩
/-- the core of fair executions is a part of the core -/
theorem FCore.not_att (h : Sys n E L) {k : Nat} (hf : FCore n E L S k) (hk : k < n) : ¬ PlC.Att (tg L) S k := by
  intro ha
  refine ha (fun k => ¬ (k < n ∧ FCore n E L S k)) ?_ ?_ ⟨hk, hf⟩
  · intro k hs ⟨_, h1, _⟩
    rw [hs] at h1; cases h1
  · rintro k hne hall ⟨hk, hs, y, hr, hg⟩
    have fwd : ∀ z, Rch (tg L) S k z → z ≠ k → goodB n E L S z = true → False := by
      intro z hz hzk hg
      rcases hz.cases' with rfl | ⟨t, h1, h2, h3⟩
      · exact hzk rfl
      · exact hall t h1 ⟨h.to k t h1, h2, z, h3, hg⟩
    by_cases e : y = k
    · subst e
      rcases (h.good hk hs).1 hg with h1 | h1
      · exact hne h1
      · obtain ⟨x, hx, sx, mx, a, ha, sa, ma⟩ := h1.ins
        by_cases ex : x = y
        · subst ex
          have ht := mem_tg ha
          refine hall _ ht ⟨h.to x _ ht, sa, _, .refl _, ?_⟩
          exact (h.good (h.to x _ ht) sa).2 (.inr (h1.of ma.symm))
        · exact fwd x mx.1 ex ((h.good hx sx).2 (.inr (h1.of mx.symm)))
    · exact fwd y hr e hg
theorem count_lt {p q : Nat → Bool} {l : List Nat} (h : ∀ x ∈ l, p x = true → q x = true) {y : Nat} (hy : y ∈ l) (h1 : p y = false) (h2 : q y = true) : l.countP p < l.countP q := by
  induction l with
  | nil => cases hy
  | cons a l ih =>
    have hle : l.countP p ≤ l.countP q := List.countP_mono_left fun x hx => h x (List.mem_cons_of_mem _ hx)
    rw [List.countP_cons, List.countP_cons]
    rcases List.mem_cons.1 hy with rfl | hy
    · rw [h1, h2]; simp; omega
    · have := ih (fun x hx => h x (List.mem_cons_of_mem _ hx)) hy
      have := h a (List.mem_cons_self ..)
      cases hp : p a
      · simp; split <;> omega
      · rw [this hp]; simp; omega
/-- in synchronous systems they are equal -/
theorem sync_core (h : Sys n E L) (hsync : ∀ x, x < n → ∀ a ∈ L.getD x [], a.1 = E.getD x 0) {k : Nat} (hk : k < n) (hna : ¬ PlC.Att (tg L) S k) : FCore n E L S k := by
  classical
  have key : ∀ m k, (List.range n).countP (fun x => decide (Rch (tg L) S k x)) ≤ m → k < n → S k = false → ¬ FCore n E L S k → PlC.Att (tg L) S k := by
    intro m
    induction m with
    | zero =>
      intro k hm hk hs _
      have : 0 < (List.range n).countP (fun x => decide (Rch (tg L) S k x)) := List.countP_pos_iff.2 ⟨k, List.mem_range.2 hk, decide_eq_true (.refl _)⟩
      omega
    | succ m ih =>
      intro k hm hk hs hf
      have hne : tg L k ≠ [] := fun e => hf ⟨hs, k, .refl _, (h.good hk hs).2 (.inl e)⟩
      refine .step hne fun t ht => ?_
      cases st : S t
      · have htn := h.to k t ht
        have hft : ¬ FCore n E L S t := fun hft => hf (hft.back hs (.one ht st))
        have hnb : ¬ Rch (tg L) S t k := by
          intro hb
          refine hf ⟨hs, k, .refl _, (h.good hk hs).2 (.inr ?_)⟩
          obtain ⟨a, ha, e⟩ := tg_mem ht
          subst e
          have hm : Mut (tg L) S k a.2.toNat := ⟨.one ht st, hb⟩
          refine ⟨⟨k, hk, hs, .refl _, a, ha, st, hm⟩, fun v _ => ⟨k, hk, hs, .refl _, ?_⟩⟩
          cases hv : (E.getD k 0).testBit v
          · exact .inl rfl
          · exact .inr ⟨a, ha, st, hm, by rw [hsync k hk a ha]; exact hv⟩
        refine ih t ?_ htn st hft
        have := count_lt (p := fun x => decide (Rch (tg L) S t x)) (q := fun x => decide (Rch (tg L) S k x)) (l := List.range n) (fun x _ hx => decide_eq_true ((Rch.one ht st).trans (of_decide_eq_true hx))) (List.mem_range.2 hk) (decide_eq_false hnb) (decide_eq_true (.refl _))
        omega
      · exact .base st
  cases hs : S k
  · exact Classical.byContradiction fun hf => hna (key _ k (Nat.le_refl _) hk hs hf)
  · exact absurd (PlC.Att.base hs) hna
theorem Rch.less {G : Nat → List Nat} {S' : Nat → Bool} (hle : ∀ x, S' x = false → S x = false) {x y : Nat} (h : Rch G S' x y) : Rch G S x y := by
  induction h with
  | refl => exact .refl _
  | step _ h1 h2 ih => exact ih.step h1 (hle _ h2)
theorem FCore.less (h : Sys n E L) {S' : Nat → Bool} (hle : ∀ x, S' x = false → S x = false) {k : Nat} (hk : k < n) (hf : FCore n E L S' k) : FCore n E L S k := by
  obtain ⟨hs, y, hr, hg⟩ := hf
  have hy := hr.lt hk h.to
  have sy := hr.out hs
  refine ⟨hle k hs, y, hr.less hle, (h.good hy (hle y sy)).2 (((h.good hy sy).1 hg).imp id ?_)⟩
  rintro ⟨⟨x, h1, h2, h3, a, h4, h5, h6⟩, hsv⟩
  refine ⟨⟨x, h1, hle x h2, ⟨h3.1.less hle, h3.2.less hle⟩, a, h4, hle _ h5, ⟨h6.1.less hle, h6.2.less hle⟩⟩, fun v hv => ?_⟩
  obtain ⟨x, h1, h2, h3, h4⟩ := hsv v hv
  exact ⟨x, h1, hle x h2, ⟨h3.1.less hle, h3.2.less hle⟩, h4.imp id fun ⟨a, b1, b2, b3, b4⟩ => ⟨a, b1, hle _ b2, ⟨b3.1.less hle, b3.2.less hle⟩, b4⟩⟩

/-- a way by arcs outside of S: its states with the sets of their arcs, and where it has come to -/
inductive Way (L : List (List (Nat × Int))) (S : Nat → Bool) (x0 : Nat) : List (Nat × Nat) → Nat → Prop
  | nil : Way L S x0 [] x0
  | snoc {l : List (Nat × Nat)} {x : Nat} {a : Nat × Int} : Way L S x0 l x → S x = false → a ∈ L.getD x [] → Way L S x0 (l ++ [(x, a.1)]) a.2.toNat
theorem Way.fst' {x0 y : Nat} {l : List (Nat × Nat)} (h : Way L S x0 l y) : (l = [] → y = x0) ∧ ∀ b, l[0]? = some b → b.1 = x0 := by
  induction h with
  | nil => exact ⟨fun _ => rfl, fun b hb => by cases hb⟩
  | snoc h0 h1 h2 ih =>
    rename_i l x a
    refine ⟨fun e => absurd e (by simp), fun b hb => ?_⟩
    cases l with
    | nil =>
      rw [List.nil_append, List.getElem?_cons_zero] at hb
      injection hb with hb
      subst hb
      exact ih.1 rfl
    | cons c l => exact ih.2 b (by simpa using hb)
theorem Way.fst {x0 y : Nat} {l : List (Nat × Nat)} (h : Way L S x0 l y) (hl : 0 < l.length) : l[0].1 = x0 := h.fst'.2 _ (List.getElem?_eq_getElem hl)
theorem Way.facts {x0 y : Nat} {l : List (Nat × Nat)} (h : Way L S x0 l y) (hy : S y = false) : ∀ k (hk : k < l.length), S l[k].1 = false ∧ (∃ a ∈ L.getD l[k].1 [], a.1 = l[k].2 ∧ S a.2.toNat = false ∧ Rch (tg L) S a.2.toNat y) ∧ ∀ i (hi : i ≤ k), Rch (tg L) S (l[i]'(by omega)).1 l[k].1 := by
  induction h with
  | nil => intro k hk; simp at hk
  | snoc h0 h1 h2 ih =>
    rename_i l x a
    have ih := ih h1
    have hone : Rch (tg L) S x a.2.toNat := .one (mem_tg h2) hy
    intro k hk
    by_cases e : k < l.length
    · obtain ⟨f1, ⟨b, f2, f3, f4, f5⟩, f6⟩ := ih k e
      rw [List.getElem_append_left e]
      refine ⟨f1, ⟨b, f2, f3, f4, f5.trans hone⟩, fun i hi => ?_⟩
      rw [List.getElem_append_left (by omega)]
      exact f6 i hi
    · have hk' : k = l.length := by simp at hk; omega
      subst hk'
      rw [List.getElem_append_right (Nat.le_refl _)]
      simp only [Nat.sub_self, List.getElem_singleton]
      refine ⟨h1, ⟨a, h2, rfl, hy, .refl _⟩, fun i hi => ?_⟩
      by_cases e' : i < l.length
      · rw [List.getElem_append_left e']
        obtain ⟨_, ⟨b, f2, _, f4, f5⟩, _⟩ := ih i e'
        exact (Rch.one (mem_tg f2) f4).trans f5
      · have : i = l.length := by omega
        subst this
        rw [List.getElem_append_right (Nat.le_refl _)]
        simp only [Nat.sub_self, List.getElem_singleton]
        exact .refl _
theorem Way.kept (hS : Sys n E L) {x0 y : Nat} {l : List (Nat × Nat)} (h : Way L S x0 l y) (hy : S y = false) {i : Nat} (hi : i < l.length) (e : l[i].1 = y)
    (hsv : ∀ v, v < 24 → ∃ k, ∃ hk : k < l.length, i ≤ k ∧ ((E.getD l[k].1 0).testBit v = false ∨ l[k].2.testBit v = true)) : KeptAt n E L S y := by
  have mut_ : ∀ k (hk : k < l.length), i ≤ k → Mut (tg L) S y l[k].1 ∧ l[k].1 < n ∧ S l[k].1 = false ∧ ∃ a ∈ L.getD l[k].1 [], a.1 = l[k].2 ∧ S a.2.toNat = false ∧ Mut (tg L) S y a.2.toNat := by
    intro k hk hik
    obtain ⟨f1, ⟨a, f2, f3, f4, f5⟩, f6⟩ := h.facts hy k hk
    have h6 := f6 i hik
    rw [e] at h6
    have hone : Rch (tg L) S l[k].1 a.2.toNat := .one (mem_tg f2) f4
    exact ⟨⟨h6, hone.trans f5⟩, hS.dom _ (fun h0 => by have := mem_tg f2; rw [h0] at this; cases this), f1, a, f2, f3, f4, ⟨h6.trans hone, f5⟩⟩
  refine ⟨?_, fun v hv => ?_⟩
  · obtain ⟨m1, m2, m3, a, m4, _, m5, m6⟩ := mut_ i hi (Nat.le_refl _)
    exact ⟨_, m2, m3, m1, a, m4, m5, m6⟩
  · obtain ⟨k, hk, hik, hb⟩ := hsv v hv
    obtain ⟨m1, m2, m3, a, m4, m4', m5, m6⟩ := mut_ k hk hik
    exact ⟨_, m2, m3, m1, hb.imp id fun hb => ⟨a, m4, m5, m6, by rw [m4']; exact hb⟩⟩
theorem Way.core (hS : Sys n E L) {x0 y : Nat} {l : List (Nat × Nat)} (h : Way L S x0 l y) (hy : S y = false) (hyn : y < n) (hl : 0 < l.length) (hg : tg L y = [] ∨ KeptAt n E L S y) : FCore n E L S y ∧ FCore n E L S x0 := by
  have h1 : FCore n E L S y := ⟨hy, y, .refl _, (hS.good hyn hy).2 hg⟩
  obtain ⟨f1, ⟨a, f2, _, f4, f5⟩, _⟩ := h.facts hy 0 hl
  rw [h.fst hl] at f1 f2
  exact ⟨h1, h1.back f1 ((Rch.one (mem_tg f2) f4).trans f5)⟩
end
end Go.Proofs.Ytnjbofahboopoaa.PlT
