/- Plain: parts found by an order of finishing and a search backwards. -/
import Derived.Test.YtnjbofahboopoaaPlV
namespace Go.Proofs.Ytnjbofahboopoaa.PlT

/-- an arc leads to a state that was finished before, or to one that reaches all that were finished in between -/
def Fin (G : Nat → List Nat) (S : Nat → Bool) (O : List Nat) : Prop :=
  ∀ (i u : Nat), O[i]? = some u → ∀ t, t ∈ G u → S t = false → (∃ j : Nat, j < i ∧ O[j]? = some t) ∨ (∃ j : Nat, i ≤ j ∧ O[j]? = some t ∧ ∀ m : Nat, i ≤ m → m ≤ j → ∀ w, O[m]? = some w → Rch G S t w)
structure FI (n : Nat) (G : Nat → List Nat) (S : Nat → Bool) (O W : List Nat) (fo : Nat → Bool) (nx : Nat → Nat) : Prop where
  nodup : (O ++ W).Nodup
  mem : ∀ x, fo x = true ↔ x ∈ O ++ W
  ok : ∀ x, x ∈ O ++ W → x < n ∧ S x = false
  chain : W.Pairwise (fun a b => Rch G S a b)
  arcs : ∀ (i u : Nat), O[i]? = some u → ∀ t, t ∈ G u → S t = false → (∃ j : Nat, j < i ∧ O[j]? = some t) ∨ (∃ j : Nat, i ≤ j ∧ O[j]? = some t ∧ ∀ m : Nat, i ≤ m → m ≤ j → ∀ w, O[m]? = some w → Rch G S t w) ∨ (t ∈ W ∧ ∀ m : Nat, i ≤ m → ∀ w, O[m]? = some w → Rch G S t w)
  look : ∀ x, x ∈ W → nx x ≤ (G x).length ∧ ∀ t, t ∈ (G x).take (nx x) → S t = false → fo t = true
  zero : ∀ x, fo x = false → nx x = 0
section
variable {n : Nat} {G : Nat → List Nat} {S : Nat → Bool} {O W : List Nat} {fo : Nat → Bool} {nx : Nat → Nat}
theorem FI.start (n : Nat) (G : Nat → List Nat) (S : Nat → Bool) : FI n G S [] [] (fun _ => false) (fun _ => 0) :=
  ⟨List.nodup_nil, fun x => ⟨fun h => (by cases h), fun h => (by cases h)⟩, fun x h => (by cases h), List.Pairwise.nil, fun i u h => (by simp at h), fun x h => (by cases h), fun _ _ => rfl⟩
theorem FI.root (h : FI n G S O [] fo nx) {k : Nat} (hk : k < n) (hs : S k = false) (hf : fo k = false) : FI n G S O [k] (upd fo k true) nx := by
  have hO : k ∉ O := fun hm => by have := (h.mem k).2 (List.mem_append_left _ hm); rw [hf] at this; cases this
  refine ⟨?_, fun x => ?_, fun x hx => ?_, List.pairwise_singleton _ _, fun i u hu t ht hst => ?_, fun x hx => ?_, fun x hx => ?_⟩
  · have := h.nodup
    rw [List.append_nil] at this
    exact List.nodup_append.2 ⟨this, by simp, fun a ha b hb => by rw [List.mem_singleton] at hb; subst hb; exact fun e => hO (e ▸ ha)⟩
  · unfold upd
    by_cases e : x = k
    · subst e; simp
    · rw [if_neg e, h.mem x]; simp [e]
  · rcases List.mem_append.1 hx with h1 | h1
    · exact h.ok x (List.mem_append_left _ h1)
    · rw [List.mem_singleton] at h1; subst h1; exact ⟨hk, hs⟩
  · rcases h.arcs i u hu t ht hst with h1 | h1 | ⟨h1, _⟩
    · exact .inl h1
    · exact .inr (.inl h1)
    · cases h1
  · rw [List.mem_singleton] at hx
    subst hx
    rw [h.zero x hf]
    exact ⟨Nat.zero_le _, fun t ht => by simp at ht⟩
  · unfold upd at hx
    split at hx
    · cases hx
    · exact h.zero x hx
theorem get_snoc {O : List Nat} {x i u : Nat} (h : (O ++ [x])[i]? = some u) : O[i]? = some u ∨ (i = O.length ∧ u = x) := PlC.getElem?_snoc h
theorem get_lt {O : List Nat} {i u : Nat} (h : O[i]? = some u) : i < O.length := (List.getElem?_eq_some_iff.1 h).1
theorem get_left {O X : List Nat} {i u : Nat} (h : O[i]? = some u) : (O ++ X)[i]? = some u := by rw [List.getElem?_append_left (get_lt h)]; exact h
theorem get_last (O : List Nat) (x : Nat) : (O ++ [x])[O.length]? = some x := by simp
theorem FI.fin {W0 : List Nat} {x : Nat} (h : FI n G S O (W0 ++ [x]) fo nx) (hx : nx x = (G x).length) : FI n G S (O ++ [x]) W0 fo nx := by
  have hch : ∀ v, v ∈ W0 → Rch G S v x := fun v hv => (List.pairwise_append.1 h.chain).2.2 v hv x (List.mem_singleton.2 rfl)
  have hp : ((O ++ [x]) ++ W0).Perm (O ++ (W0 ++ [x])) := by
    rw [List.append_assoc]
    exact List.Perm.append_left O (List.perm_append_comm)
  have hmv : ∀ y, y ∈ (O ++ [x]) ++ W0 ↔ y ∈ O ++ (W0 ++ [x]) := fun y => hp.mem_iff
  refine ⟨?_, fun y => (h.mem y).trans (hmv y).symm, fun y hy => h.ok y ((hmv y).1 hy), (List.pairwise_append.1 h.chain).1, fun i u hu t ht hst => ?_, fun y hy => h.look y (List.mem_append_left _ hy), h.zero⟩
  · exact hp.nodup_iff.2 h.nodup
  · rcases get_snoc hu with hu | ⟨rfl, rfl⟩
    · have hil := get_lt hu
      rcases h.arcs i u hu t ht hst with ⟨j, h1, h2⟩ | ⟨j, h1, h2, h3⟩ | ⟨h1, h2⟩
      · exact .inl ⟨j, h1, get_left h2⟩
      · refine .inr (.inl ⟨j, h1, get_left h2, fun m m1 m2 w hw => ?_⟩)
        rcases get_snoc hw with hw | ⟨rfl, _⟩
        · exact h3 m m1 m2 w hw
        · have := get_lt h2; omega
      · have hall : ∀ m : Nat, i ≤ m → ∀ w, (O ++ [x])[m]? = some w → (t ∈ W0 ∨ t = x) → Rch G S t w := fun m m1 w hw htt => by
          rcases get_snoc hw with hw | ⟨_, rfl⟩
          · exact h2 m m1 w hw
          · rcases htt with htt | rfl
            · exact hch t htt
            · exact .refl _
        rcases List.mem_append.1 h1 with h4 | h4
        · exact .inr (.inr ⟨h4, fun m m1 w hw => hall m m1 w hw (.inl h4)⟩)
        · rw [List.mem_singleton] at h4
          subst h4
          exact .inr (.inl ⟨O.length, Nat.le_of_lt hil, get_last O t, fun m m1 _ w hw => hall m m1 w hw (.inr rfl)⟩)
    · have hfo : fo t = true := (h.look u (by simp)).2 t (by rw [hx, List.take_length]; exact ht) hst
      rcases List.mem_append.1 ((h.mem t).1 hfo) with h1 | h1
      · obtain ⟨j, hj, e⟩ := List.getElem_of_mem h1
        exact .inl ⟨j, hj, get_left (by rw [List.getElem?_eq_getElem hj, e])⟩
      · rcases List.mem_append.1 h1 with h2 | h2
        · refine .inr (.inr ⟨h2, fun m m1 w hw => ?_⟩)
          rcases get_snoc hw with hw | ⟨_, rfl⟩
          · have := get_lt hw; omega
          · exact hch t h2
        · rw [List.mem_singleton] at h2
          subst h2
          refine .inr (.inl ⟨O.length, Nat.le_refl _, get_last O t, fun m m1 m2 w hw => ?_⟩)
          rcases get_snoc hw with hw | ⟨_, rfl⟩
          · have := get_lt hw; omega
          · exact .refl _
theorem FI.skip {W0 : List Nat} {x t : Nat} (h : FI n G S O (W0 ++ [x]) fo nx) (ht : (G x)[nx x]? = some t) (hs : S t = true ∨ fo t = true) : FI n G S O (W0 ++ [x]) fo (upd nx x (nx x + 1)) := by
  have hl := get_lt ht
  have hfx : fo x = true := (h.mem x).2 (by simp)
  refine ⟨h.nodup, h.mem, h.ok, h.chain, h.arcs, fun y hy => ?_, fun y hy => ?_⟩
  · by_cases e : y = x
    · subst e
      rw [upd_same]
      refine ⟨hl, fun u hu hsu => ?_⟩
      rcases (PlC.mem_take_succ ht u).1 hu with h1 | rfl
      · exact (h.look y hy).2 u h1 hsu
      · rcases hs with hs | hs
        · rw [hs] at hsu; cases hsu
        · exact hs
    · rw [upd_ne _ _ e]; exact h.look y hy
  · rw [upd_ne _ _ (fun e => by rw [e, hfx] at hy; cases hy)]; exact h.zero y hy
theorem FI.push {W0 : List Nat} {x t : Nat} (h : FI n G S O (W0 ++ [x]) fo nx) (ht : (G x)[nx x]? = some t) (hs : S t = false) (hf : fo t = false) (htn : t < n) : FI n G S O (W0 ++ [x] ++ [t]) (upd fo t true) (upd nx x (nx x + 1)) := by
  have hl := get_lt ht
  have hmem : t ∉ O ++ (W0 ++ [x]) := fun hm => by have := (h.mem t).2 hm; rw [hf] at this; cases this
  have hne : ∀ y, y ∈ W0 ++ [x] → y ≠ t := fun y hy e => hmem (List.mem_append_right _ (e ▸ hy))
  have hx : x ∈ W0 ++ [x] := by simp
  have mono : ∀ y, fo y = true → upd fo t true y = true := fun y hy => by unfold upd; split; rfl; exact hy
  refine ⟨?_, fun y => ?_, fun y hy => ?_, ?_, fun i u hu v hv hsv => ?_, fun y hy => ?_, fun y hy => ?_⟩
  · rw [← List.append_assoc]
    exact List.nodup_append.2 ⟨h.nodup, by simp, fun a ha b hb => by rw [List.mem_singleton] at hb; subst hb; exact fun e => hmem (e ▸ ha)⟩
  · unfold upd
    by_cases e : y = t
    · subst e; simp
    · rw [if_neg e, h.mem y, ← List.append_assoc O]; simp [e]
  · rw [← List.append_assoc] at hy
    rcases List.mem_append.1 hy with h1 | h1
    · exact h.ok y h1
    · rw [List.mem_singleton] at h1; subst h1; exact ⟨htn, hs⟩
  · refine List.pairwise_append.2 ⟨h.chain, List.pairwise_singleton _ _, fun a ha b hb => ?_⟩
    rw [List.mem_singleton] at hb
    subst hb
    have hxt : Rch G S x b := .one (List.mem_of_getElem? ht) hs
    rcases List.mem_append.1 ha with h1 | h1
    · exact ((List.pairwise_append.1 h.chain).2.2 a h1 x (List.mem_singleton.2 rfl)).trans hxt
    · rw [List.mem_singleton] at h1; subst h1; exact hxt
  · rcases h.arcs i u hu v hv hsv with h1 | h1 | ⟨h1, h2⟩
    · exact .inl h1
    · exact .inr (.inl h1)
    · exact .inr (.inr ⟨List.mem_append_left _ h1, h2⟩)
  · rcases List.mem_append.1 hy with h1 | h1
    · by_cases e : y = x
      · subst e
        rw [upd_same]
        refine ⟨hl, fun u hu hsu => ?_⟩
        rcases (PlC.mem_take_succ ht u).1 hu with h2 | rfl
        · exact mono u ((h.look y h1).2 u h2 hsu)
        · exact upd_same ..
      · rw [upd_ne _ _ e]
        exact ⟨(h.look y h1).1, fun u hu hsu => mono u ((h.look y h1).2 u hu hsu)⟩
    · rw [List.mem_singleton] at h1
      subst h1
      rw [upd_ne _ _ (Ne.symm (hne x hx)), h.zero y hf]
      exact ⟨Nat.zero_le _, fun u hu => by simp at hu⟩
  · have hyt : y ≠ t := fun e => by rw [e, upd_same] at hy; cases hy
    rw [upd_ne _ _ hyt] at hy
    rw [upd_ne _ _ (fun e => by rw [e, (h.mem x).2 (List.mem_append_right _ hx)] at hy; cases hy)]
    exact h.zero y hy
theorem FI.fin_ (h : FI n G S O [] fo nx) : Fin G S O := fun i u hu t ht hs => by
  rcases h.arcs i u hu t ht hs with h1 | h1 | ⟨h1, _⟩
  · exact .inl h1
  · exact .inr h1
  · cases h1
/-- what is finished later and has an arc into the part of x, is reached from x -/
theorem Fin.back (h : Fin G S O) (hnd : O.Nodup) {i p x k y : Nat} (hx : O[i]? = some x) (hk : O[p]? = some k) (hp : p ≤ i) (hy : y ∈ G k) (sy : S y = false) (hm : Mut G S y x) : Rch G S x k := by
  refine hm.2.trans ?_
  rcases h p k hk y hy sy with ⟨j, hj, hyj⟩ | ⟨j, hj, hyj, hall⟩
  · have key : ∀ z, Rch G S y z → (∃ q : Nat, O[q]? = some z ∧ q < p) ∨ Rch G S y k := by
      intro z hz
      induction hz with
      | refl => exact .inl ⟨j, hyj, hj⟩
      | step h0 h1 h2 ih =>
        rename_i z z'
        rcases ih with ⟨q, hq, hqp⟩ | ih
        · rcases h q z hq z' h1 h2 with ⟨j', hj', e⟩ | ⟨j', hj', e, hall⟩
          · exact .inl ⟨j', e, by omega⟩
          · by_cases hjp : j' < p
            · exact .inl ⟨j', e, hjp⟩
            · exact .inr ((h0.step h1 h2).trans (hall p (by omega) (by omega) k hk))
        · exact .inr ih
    rcases key x hm.1 with ⟨q, hq, hqp⟩ | h1
    · have : q = i := by
        obtain ⟨l1, e1⟩ := List.getElem?_eq_some_iff.1 hq
        obtain ⟨l2, e2⟩ := List.getElem?_eq_some_iff.1 hx
        rcases Nat.lt_trichotomy q i with h5 | h5 | h5
        · exact absurd (e1.trans e2.symm) (List.pairwise_iff_getElem.1 hnd q i l1 l2 h5)
        · exact h5
        · exact absurd (e2.trans e1.symm) (List.pairwise_iff_getElem.1 hnd i q l2 l1 h5)
      omega
    · exact h1
  · exact hall p (Nat.le_refl _) hj k hk

/-- the positions from i on have been looked at; r tells the parts found -/
structure KI (n : Nat) (G : Nat → List Nat) (S : Nat → Bool) (O : List Nat) (i : Nat) (r : Nat → Option Nat) : Prop where
  done : ∀ j : Nat, i ≤ j → ∀ x, O[j]? = some x → r x ≠ none
  root : ∀ (x j : Nat), r x = some j → x < n ∧ S x = false ∧ ∃ y, O[j]? = some y ∧ Mut G S x y
  clo : ∀ x y j, r x = some j → Mut G S x y → r y = some j
structure KM (n : Nat) (G : Nat → List Nat) (S : Nat → Bool) (i x : Nat) (r0 r : Nat → Option Nat) (T : Nat → Prop) : Prop where
  old : ∀ y, r0 y ≠ none → r y = r0 y
  new : ∀ y, r0 y = none → r y ≠ none → r y = some i ∧ y < n ∧ S y = false ∧ Mut G S y x
  self : r x = some i
  clo : ∀ y, r0 y = none → r y ≠ none → T y ∨ ∀ k, k < n → S k = false → y ∈ G k → r k ≠ none
theorem KI.start : KI n G S O O.length (fun _ => none) :=
  ⟨fun j hj x hx => by have := get_lt hx; omega, fun x j h => (by cases h), fun x y j h => (by cases h)⟩
theorem KI.skip {i x : Nat} {r : Nat → Option Nat} (h : KI n G S O (i + 1) r) (hx : O[i]? = some x) (hr : r x ≠ none) : KI n G S O i r := by
  refine ⟨fun j hj y hy => ?_, h.root, h.clo⟩
  rcases Nat.lt_or_ge i j with h1 | h1
  · exact h.done j h1 y hy
  · obtain rfl : j = i := by omega
    rw [hx] at hy
    injection hy with hy
    subst hy
    exact hr
theorem KM.start {i x : Nat} {r : Nat → Option Nat} (hr : r x = none) (hxn : x < n) (hxs : S x = false) : KM n G S i x r (upd r x (some i)) (fun y => y = x) := by
  refine ⟨fun y hy => ?_, fun y h0 h1 => ?_, upd_same .., fun y h0 h1 => ?_⟩
  · by_cases e : y = x
    · subst e; exact absurd hr hy
    · exact upd_ne _ _ e
  · by_cases e : y = x
    · subst e; exact ⟨upd_same .., hxn, hxs, .refl _⟩
    · rw [upd_ne _ _ e] at h1; exact absurd h0 h1
  · by_cases e : y = x
    · exact .inl e
    · rw [upd_ne _ _ e] at h1; exact absurd h0 h1
theorem KM.mark {i x : Nat} {r0 r : Nat → Option Nat} {T : Nat → Prop} (h : KM n G S i x r0 r T) (hI : KI n G S O (i + 1) r0) (hF : Fin G S O) (hnd : O.Nodup) (hx : O[i]? = some x) (hO : ∀ k, k < n → S k = false → ∃ p : Nat, O[p]? = some k)
    {k y : Nat} (hk : k < n) (hs : S k = false) (hy : y ∈ G k) (h0 : r0 y = none) (h1 : r y ≠ none) (hr : r k = none) : KM n G S i x r0 (upd r k (some i)) (fun z => T z ∨ z = k) := by
  obtain ⟨-, -, sy, my⟩ := h.new y h0 h1
  have hk0 : r0 k = none := by
    cases e : r0 k with
    | none => rfl
    | some j => have := h.old k (by rw [e]; simp); rw [this, e] at hr; cases hr
  have hmk : Mut G S k x := by
    obtain ⟨p, hp⟩ := hO k hk hs
    have hpi : p ≤ i := by
      rcases Nat.lt_or_ge i p with h2 | h2
      · exact absurd hk0 (hI.done p h2 k hp)
      · exact h2
    exact ⟨(Rch.one hy sy).trans my.1, hF.back hnd hx hp hpi hy sy my⟩
  have mono : ∀ z, r z ≠ none → upd r k (some i) z ≠ none := fun z hz => by unfold upd; split; simp; exact hz
  refine ⟨fun z hz => ?_, fun z z0 z1 => ?_, ?_, fun z z0 z1 => ?_⟩
  · by_cases e : z = k
    · subst e; exact absurd hk0 hz
    · rw [upd_ne _ _ e]; exact h.old z hz
  · by_cases e : z = k
    · subst e; exact ⟨upd_same .., hk, hs, hmk⟩
    · rw [upd_ne _ _ e] at z1 ⊢; exact h.new z z0 z1
  · by_cases e : x = k
    · subst e; exact upd_same ..
    · rw [upd_ne _ _ e]; exact h.self
  · by_cases e : z = k
    · exact .inl (.inr e)
    · rw [upd_ne _ _ e] at z1
      rcases h.clo z z0 z1 with h2 | h2
      · exact .inl (.inl h2)
      · exact .inr fun j hj hsj hz => mono j (h2 j hj hsj hz)
theorem KM.done {i x : Nat} {r0 r : Nat → Option Nat} {T T' : Nat → Prop} (h : KM n G S i x r0 r T) {y : Nat} (hy : ∀ k, k < n → S k = false → y ∈ G k → r k ≠ none) (hT : ∀ z, T z → T' z ∨ z = y) : KM n G S i x r0 r T' := by
  refine ⟨h.old, h.new, h.self, fun z z0 z1 => ?_⟩
  rcases h.clo z z0 z1 with h1 | h1
  · rcases hT z h1 with h2 | rfl
    · exact .inl h2
    · exact .inr hy
  · exact .inr h1
theorem KM.congr {i x : Nat} {r0 r : Nat → Option Nat} {T T' : Nat → Prop} (h : KM n G S i x r0 r T) (hT : ∀ z, T z → T' z) : KM n G S i x r0 r T' :=
  ⟨h.old, h.new, h.self, fun z z0 z1 => (h.clo z z0 z1).imp (hT z) id⟩
theorem KM.end_ {i x : Nat} {r0 r : Nat → Option Nat} {T : Nat → Prop} (h : KM n G S i x r0 r T) (hI : KI n G S O (i + 1) r0) (hx : O[i]? = some x) (h0 : r0 x = none) (hxn : x < n) (hxs : S x = false) (hT : ∀ y, ¬ T y) (hG : ∀ k t, t ∈ G k → t < n) : KI n G S O i r := by
  have hfull : ∀ y, Mut G S y x → r y = some i := by
    intro y hy
    have key : ∀ a b, Rch G S a b → Mut G S a x → Mut G S b x → r0 b = none ∧ r b = some i → r0 a = none ∧ r a = some i := by
      intro a b hab
      induction hab with
      | refl => intro _ _ h1; exact h1
      | step g0 g1 g2 ih =>
        rename_i b c
        intro ha hc hrc
        have hb : Mut G S b x := ⟨(Rch.one g1 g2).trans hc.1, ha.2.trans g0⟩
        have hbs : S b = false ∧ b < n := by
          have : Rch G S x b := hb.2
          cases this with
          | refl => exact ⟨hxs, hxn⟩
          | step _ q1 q2 => exact ⟨q2, hG _ _ q1⟩
        refine ih ha hb ?_
        have hrb : r b ≠ none := by
          rcases h.clo c hrc.1 (by rw [hrc.2]; simp) with h1 | h1
          · exact absurd h1 (hT c)
          · exact h1 b hbs.2 hbs.1 g1
        cases e : r0 b with
        | none => exact ⟨rfl, (h.new b e hrb).1⟩
        | some j => have := hI.clo b x j e hb; rw [h0] at this; cases this
    exact (key y x hy.1 hy (.refl _) ⟨h0, h.self⟩).2
  refine ⟨fun j hj y hy => ?_, fun y j hj => ?_, fun y z j hj hm => ?_⟩
  · rcases Nat.lt_or_ge i j with h1 | h1
    · rw [h.old y (hI.done j h1 y hy)]; exact hI.done j h1 y hy
    · obtain rfl : j = i := by omega
      rw [hx] at hy
      injection hy with hy
      subst hy
      rw [h.self]; simp
  · cases e : r0 y with
    | none =>
      obtain ⟨h1, h2, h3, h4⟩ := h.new y e (by rw [hj]; simp)
      rw [hj] at h1
      injection h1 with h1
      subst h1
      exact ⟨h2, h3, x, hx, h4⟩
    | some j' =>
      have := h.old y (by rw [e]; simp)
      rw [hj, e] at this
      injection this with this
      subst this
      exact hI.root y j e
  · cases e : r0 y with
    | none =>
      obtain ⟨h1, _, _, h4⟩ := h.new y e (by rw [hj]; simp)
      rw [hj] at h1
      injection h1 with h1
      subst h1
      exact hfull z (hm.symm.trans h4)
    | some j' =>
      have := h.old y (by rw [e]; simp)
      rw [hj, e] at this
      injection this with this
      subst this
      have hz := hI.clo y z j e hm
      rw [h.old z (by rw [hz]; simp)]
      exact hz
theorem KI.parts {r : Nat → Option Nat} (h : KI n G S O 0 r) (hO : ∀ k, k < n → S k = false → ∃ p : Nat, O[p]? = some k) :
    (∀ x, x < n → S x = false → r x = some ((r x).getD 0)) ∧ Parts n G S (fun x => (r x).getD 0) := by
  have hs : ∀ x, x < n → S x = false → r x = some ((r x).getD 0) := fun x hx sx => by
    obtain ⟨p, hp⟩ := hO x hx sx
    cases e : r x with
    | none => exact absurd e (h.done p (Nat.zero_le _) x hp)
    | some j => rfl
  refine ⟨hs, fun x y hx hy sx sy => ⟨fun e => ?_, fun hm => ?_⟩⟩
  · obtain ⟨-, -, a, ha, ma⟩ := h.root x _ (hs x hx sx)
    obtain ⟨-, -, b, hb, mb⟩ := h.root y _ (hs y hy sy)
    dsimp only at e
    rw [e, hb] at ha
    injection ha with ha
    subst ha
    exact ma.trans mb.symm
  · have := h.clo x y _ (hs x hx sx) hm
    show (r x).getD 0 = (r y).getD 0
    rw [this]; rfl
end
/-- how many arcs are still to be looked at -/
def left (n : Nat) (G : Nat → List Nat) (nx : Nat → Nat) : Nat := ((List.range n).map fun k => (G k).length - nx k).sum
theorem left_next {n : Nat} {G : Nat → List Nat} {nx : Nat → Nat} {x : Nat} (hx : x < n) (h : nx x < (G x).length) : left n G (upd nx x (nx x + 1)) + 1 = left n G nx := by
  have := sum_upd n x (fun k => (G k).length - upd nx x (nx x + 1) k) (fun k => (G k).length - nx k) (fun j hj => by rw [upd_ne _ _ hj]) hx
  rw [upd_same] at this
  unfold left
  omega
/-- an order of finishing of all states outside of S -/
structure FinO (n : Nat) (G : Nat → List Nat) (S : Nat → Bool) (O : List Nat) : Prop where
  fin : Fin G S O
  nodup : O.Nodup
  ok : ∀ x, x ∈ O → x < n ∧ S x = false
  all : ∀ x, x < n → S x = false → ∃ p : Nat, O[p]? = some x
theorem FI.finO {n : Nat} {G : Nat → List Nat} {S : Nat → Bool} {O : List Nat} {fo : Nat → Bool} {nx : Nat → Nat} (h : FI n G S O [] fo nx) (hall : ∀ x, x < n → S x = false → fo x = true) : FinO n G S O := by
  have hn := h.nodup
  rw [List.append_nil] at hn
  refine ⟨h.fin_, hn, fun x hx => h.ok x (List.mem_append_left _ hx), fun x hx hs => ?_⟩
  have hm := (h.mem x).1 (hall x hx hs)
  rw [List.append_nil] at hm
  obtain ⟨p, hp, e⟩ := List.getElem_of_mem hm
  exact ⟨p, by rw [List.getElem?_eq_getElem hp, e]⟩
end Go.Proofs.Ytnjbofahboopoaa.PlT
