/- Plain: parts that can be kept; the core of fair executions. -/
import Derived.Test.YtnjbofahboopoaaPlV
import Derived.Test.YtnjbofahboopoaaPlG
namespace Go.Proofs.Ytnjbofahboopoaa.PlT
open PlG

/-- what is found of the parts: an arc inside, the nodes that are served -/
structure Kp where
  ins : Nat → Bool
  srv : Nat → Nat
def arcStep (c : Nat → Int) (j : Nat) (s : Kp) (a : Nat × Int) : Kp := if c a.2.toNat = (j : Int) then ⟨upd s.ins j true, upd s.srv j (s.srv j ||| a.1)⟩ else s
def own (e : Nat) (j : Nat) (s : Kp) : Kp := ⟨s.ins, upd s.srv j (s.srv j ||| (4294967295 - e))⟩
def stStep (c : Nat → Int) (E : List Nat) (L : List (List (Nat × Int))) (s : Kp) (k : Nat) : Kp :=
  if c k < 0 then s else (L.getD k []).foldl (arcStep c (c k).toNat) (own (E.getD k 0) (c k).toNat s)
def kpTo (c : Nat → Int) (E : List Nat) (L : List (List (Nat × Int))) : Nat → Kp
  | 0 => ⟨fun _ => false, fun _ => 0⟩
  | k + 1 => stStep c E L (kpTo c E L k) k
def allTo (x : Nat) : Nat → Bool
  | 0 => true
  | v + 1 => allTo x v && x.testBit v
theorem allTo_iff (x v : Nat) : allTo x v = true ↔ ∀ i, i < v → x.testBit i = true := by
  induction v with
  | zero => exact ⟨fun _ i hi => absurd hi (Nat.not_lt_zero i), fun _ => rfl⟩
  | succ v ih =>
    rw [allTo, Bool.and_eq_true, ih]
    constructor
    · rintro ⟨h1, h2⟩ i hi
      rcases Nat.lt_or_ge i v with h | h
      · exact h1 i h
      · obtain rfl : i = v := by omega
        exact h2
    · intro h
      exact ⟨fun i hi => h i (by omega), h v (by omega)⟩
theorem allTo24 (x : Nat) : x % 16777216 = 16777215 ↔ allTo x 24 = true := by
  rw [allTo_iff]
  constructor
  · intro h i hi
    have h1 : (x % 2 ^ 24).testBit i = (2 ^ 24 - 1).testBit i := by rw [show x % 2 ^ 24 = 2 ^ 24 - 1 from h]
    rw [Nat.testBit_mod_two_pow, Nat.testBit_two_pow_sub_one] at h1
    simpa [hi] using h1
  · intro h
    have : x % 2 ^ 24 = 2 ^ 24 - 1 := by
      apply Nat.eq_of_testBit_eq
      intro i
      rw [Nat.testBit_mod_two_pow, Nat.testBit_two_pow_sub_one]
      by_cases hi : i < 24
      · simp [hi, h i hi]
      · simp [hi]
    exact this
def keptB (c : Nat → Int) (E : List Nat) (L : List (List (Nat × Int))) (n j : Nat) : Bool := (kpTo c E L n).ins j && allTo ((kpTo c E L n).srv j) 24

section
variable {c : Nat → Int} {E : List Nat} {L : List (List (Nat × Int))}
theorem fold_ins (j i : Nat) (l : List (Nat × Int)) (s : Kp) : (l.foldl (arcStep c j) s).ins i = true ↔ s.ins i = true ∨ (i = j ∧ ∃ a ∈ l, c a.2.toNat = (j : Int)) := by
  induction l generalizing s with
  | nil => simp
  | cons a l ih =>
    rw [List.foldl_cons, ih]
    unfold arcStep
    by_cases h : c a.2.toNat = (j : Int)
    · rw [if_pos h]
      dsimp only
      by_cases e : i = j
      · subst e
        rw [upd_same]
        simp [h]
      · rw [upd_ne _ _ e]
        simp [e]
    · rw [if_neg h]
      simp [h]
theorem fold_srv (j i v : Nat) (l : List (Nat × Int)) (s : Kp) : ((l.foldl (arcStep c j) s).srv i).testBit v = true ↔ (s.srv i).testBit v = true ∨ (i = j ∧ ∃ a ∈ l, c a.2.toNat = (j : Int) ∧ a.1.testBit v = true) := by
  induction l generalizing s with
  | nil => simp
  | cons a l ih =>
    rw [List.foldl_cons, ih]
    unfold arcStep
    by_cases h : c a.2.toNat = (j : Int)
    · rw [if_pos h]
      dsimp only
      by_cases e : i = j
      · subst e
        rw [upd_same, Nat.testBit_or]
        simp [h, or_assoc]
      · rw [upd_ne _ _ e]
        simp [e]
    · rw [if_neg h]
      simp [h]
theorem kp_ins (n j : Nat) : (kpTo c E L n).ins j = true ↔ ∃ x, x < n ∧ c x = (j : Int) ∧ ∃ a ∈ L.getD x [], c a.2.toNat = (j : Int) := by
  induction n with
  | zero =>
    constructor
    · intro h; cases h
    · rintro ⟨x, hx, _⟩; omega
  | succ n ih =>
    rw [kpTo]
    unfold stStep
    constructor
    · intro h
      by_cases hc : c n < 0
      · rw [if_pos hc] at h
        obtain ⟨x, hx, h1⟩ := ih.1 h
        exact ⟨x, by omega, h1⟩
      · rw [if_neg hc, fold_ins] at h
        rcases h with h | ⟨e, h⟩
        · obtain ⟨x, hx, h1⟩ := ih.1 h
          exact ⟨x, by omega, h1⟩
        · have e' : ((c n).toNat : Int) = c n := Int.toNat_of_nonneg (by omega)
          rw [e] at *
          exact ⟨n, by omega, e'.symm, h⟩
    · rintro ⟨x, hx, h1, h2⟩
      by_cases hc : c n < 0
      · rw [if_pos hc]
        have : x ≠ n := fun e => by subst e; omega
        exact ih.2 ⟨x, by omega, h1, h2⟩
      · rw [if_neg hc, fold_ins]
        by_cases e : x = n
        · subst e
          have ej : j = (c x).toNat := by omega
          refine .inr ⟨ej, ?_⟩
          rw [← ej]; exact h2
        · exact .inl (ih.2 ⟨x, by omega, h1, h2⟩)
theorem bit_not {e v : Nat} (he : e < 4294967296) (hv : v < 32) : (4294967295 - e).testBit v = !e.testBit v := by
  have := Nat.testBit_two_pow_sub_succ (n := 32) (x := e) he v
  rw [show 2 ^ 32 - (e + 1) = 4294967295 - e by omega] at this
  simpa [hv] using this
theorem kp_srv (hE : ∀ x, E.getD x 0 < 4294967296) (n j v : Nat) (hv : v < 32) : ((kpTo c E L n).srv j).testBit v = true ↔ ∃ x, x < n ∧ c x = (j : Int) ∧ ((E.getD x 0).testBit v = false ∨ ∃ a ∈ L.getD x [], c a.2.toNat = (j : Int) ∧ a.1.testBit v = true) := by
  induction n with
  | zero =>
    constructor
    · intro h; rw [kpTo, Nat.zero_testBit] at h; cases h
    · rintro ⟨x, hx, _⟩; omega
  | succ n ih =>
    rw [kpTo]
    unfold stStep
    by_cases hc : c n < 0
    · rw [if_pos hc, ih]
      constructor
      · rintro ⟨x, hx, h⟩; exact ⟨x, by omega, h⟩
      · rintro ⟨x, hx, h1, h⟩
        have : x ≠ n := fun e => by subst e; omega
        exact ⟨x, by omega, h1, h⟩
    · have e' : ((c n).toNat : Int) = c n := Int.toNat_of_nonneg (by omega)
      rw [if_neg hc, fold_srv]
      by_cases e : j = (c n).toNat
      · have hs : ((own (E.getD n 0) (c n).toNat (kpTo c E L n)).srv j).testBit v = true ↔ ((kpTo c E L n).srv j).testBit v = true ∨ (E.getD n 0).testBit v = false := by
          unfold own
          rw [e]
          dsimp only
          rw [upd_same, Nat.testBit_or, bit_not (hE n) hv]
          simp
        rw [hs, ih]
        constructor
        · rintro ((⟨x, hx, h⟩ | h) | ⟨_, h⟩)
          · exact ⟨x, by omega, h⟩
          · exact ⟨n, by omega, by omega, .inl h⟩
          · exact ⟨n, by omega, by omega, .inr (by rw [e]; exact h)⟩
        · rintro ⟨x, hx, h1, h⟩
          by_cases ex : x = n
          · subst ex
            rcases h with h | h
            · exact .inl (.inr h)
            · exact .inr ⟨e, by rw [← e]; exact h⟩
          · exact .inl (.inl ⟨x, by omega, h1, h⟩)
      · have hs : (own (E.getD n 0) (c n).toNat (kpTo c E L n)).srv j = (kpTo c E L n).srv j := upd_ne _ _ e
        rw [hs, ih]
        constructor
        · rintro (⟨x, hx, h⟩ | ⟨h, _⟩)
          · exact ⟨x, by omega, h⟩
          · exact absurd h e
        · rintro ⟨x, hx, h1, h⟩
          have : x ≠ n := fun ex => by subst ex; omega
          exact .inl ⟨x, by omega, h1, h⟩
theorem fold_lt (j i : Nat) (l : List (Nat × Int)) (s : Kp) (hs : s.srv i < 4294967296) (hl : ∀ a ∈ l, a.1 < 4294967296) : (l.foldl (arcStep c j) s).srv i < 4294967296 := by
  induction l generalizing s with
  | nil => exact hs
  | cons a l ih =>
    rw [List.foldl_cons]
    refine ih _ ?_ fun b hb => hl b (List.mem_cons_of_mem _ hb)
    unfold arcStep
    split
    · show upd _ _ _ _ < _
      by_cases e : i = j
      · subst e; rw [upd_same]; exact Nat.or_lt_two_pow (n := 32) hs (hl a (List.mem_cons_self ..))
      · rw [upd_ne _ _ e]; exact hs
    · exact hs
theorem own_lt (e j i : Nat) (s : Kp) (hs : s.srv i < 4294967296) : (own e j s).srv i < 4294967296 := by
  unfold own
  show upd _ _ _ _ < _
  by_cases h : i = j
  · subst h; rw [upd_same]; exact Nat.or_lt_two_pow (n := 32) hs (show 4294967295 - e < 2 ^ 32 by omega)
  · rw [upd_ne _ _ h]; exact hs
theorem kp_lt (hL : ∀ x, ∀ a ∈ L.getD x [], a.1 < 4294967296) (n j : Nat) : (kpTo c E L n).srv j < 4294967296 := by
  induction n with
  | zero => exact (by decide : 0 < 4294967296)
  | succ n ih =>
    rw [kpTo]
    unfold stStep
    split
    · exact ih
    · exact fold_lt _ _ _ _ (own_lt _ _ _ _ ih) (hL n)
end

/-- the part of y has an arc inside, and serves every node -/
structure KeptAt (n : Nat) (E : List Nat) (L : List (List (Nat × Int))) (S : Nat → Bool) (y : Nat) : Prop where
  ins : ∃ x, x < n ∧ S x = false ∧ Mut (tg L) S y x ∧ ∃ a ∈ L.getD x [], S a.2.toNat = false ∧ Mut (tg L) S y a.2.toNat
  srv : ∀ v, v < 24 → ∃ x, x < n ∧ S x = false ∧ Mut (tg L) S y x ∧ ((E.getD x 0).testBit v = false ∨ ∃ a ∈ L.getD x [], S a.2.toNat = false ∧ Mut (tg L) S y a.2.toNat ∧ a.1.testBit v = true)
/-- the number of part of y is kept -/
noncomputable def keptN (n : Nat) (E : List Nat) (L : List (List (Nat × Int))) (S : Nat → Bool) (j : Nat) : Bool := keptB (num n (tg L) S) E L n j
theorem num_is {n : Nat} {G : Nat → List Nat} {S : Nat → Bool} {y : Nat} (hy : y < n) (sy : S y = false) {x : Nat} (hx : x < n) : num n G S x = ((num n G S y).toNat : Int) ↔ S x = false ∧ Mut G S y x := by
  have h := (num_lt (G := G) hy sy).1
  rw [Int.toNat_of_nonneg h]
  cases hs : S x
  · rw [num_eq hx hy hs sy]
    exact ⟨fun h => ⟨rfl, h.symm⟩, fun h => h.2.symm⟩
  · rw [num_mem n G S hs]
    constructor
    · intro h1; omega
    · rintro ⟨h1, _⟩; cases h1
theorem kept_iff {n : Nat} {E : List Nat} {L : List (List (Nat × Int))} {S : Nat → Bool} (hE : ∀ x, E.getD x 0 < 4294967296) (hG : ∀ x, x < n → ∀ a ∈ L.getD x [], a.2.toNat < n) {y : Nat} (hy : y < n) (sy : S y = false) :
    keptN n E L S (num n (tg L) S y).toNat = true ↔ KeptAt n E L S y := by
  unfold keptN keptB
  rw [Bool.and_eq_true, allTo_iff, kp_ins]
  constructor
  · rintro ⟨⟨x, hx, h1, a, ha, h2⟩, hs⟩
    have m1 := (num_is hy sy hx).1 h1
    refine ⟨⟨x, hx, m1.1, m1.2, a, ha, (num_is hy sy (hG x hx a ha)).1 h2⟩, fun v hv => ?_⟩
    obtain ⟨x, hx, h1, h2⟩ := (kp_srv hE n _ v (by omega)).1 (hs v hv)
    have m1 := (num_is hy sy hx).1 h1
    refine ⟨x, hx, m1.1, m1.2, h2.imp id ?_⟩
    rintro ⟨a, ha, h3, h4⟩
    have m2 := (num_is hy sy (hG x hx a ha)).1 h3
    exact ⟨a, ha, m2.1, m2.2, h4⟩
  · rintro ⟨⟨x, hx, h1, h2, a, ha, h3⟩, hs⟩
    refine ⟨⟨x, hx, (num_is hy sy hx).2 ⟨h1, h2⟩, a, ha, (num_is hy sy (hG x hx a ha)).2 h3⟩, fun v hv => (kp_srv hE n _ v (by omega)).2 ?_⟩
    obtain ⟨x, hx, h1, h2, h3⟩ := hs v hv
    refine ⟨x, hx, (num_is hy sy hx).2 ⟨h1, h2⟩, h3.imp id ?_⟩
    rintro ⟨a, ha, h4, h5, h6⟩
    exact ⟨a, ha, (num_is hy sy (hG x hx a ha)).2 ⟨h4, h5⟩, h6⟩

/-- a state from which a state of a kind can be reached -/
def FC (G : Nat → List Nat) (S good : Nat → Bool) (k : Nat) : Prop := S k = false ∧ ∃ y, Rch G S k y ∧ good y = true
section
variable {n : Nat} {G : Nat → List Nat} {S good : Nat → Bool}
theorem Rch.out {x y : Nat} (h : Rch G S x y) (hx : S x = false) : S y = false := by
  induction h with
  | refl => exact hx
  | step _ _ h2 _ => exact h2
theorem Rch.lt {x y : Nat} (h : Rch G S x y) (hx : x < n) (hG : ∀ k t, t ∈ G k → t < n) : y < n := by
  cases h with
  | refl => exact hx
  | step _ h2 _ => exact hG _ _ h2
theorem Rch.head {x y z : Nat} (h : y ∈ G x) (hs : S y = false) (h' : Rch G S y z) : Rch G S x z := (Rch.one h hs).trans h'
theorem Rch.cases' {x y : Nat} (h : Rch G S x y) : x = y ∨ ∃ t, t ∈ G x ∧ S t = false ∧ Rch G S t y := by
  induction h with
  | refl => exact .inl rfl
  | step h0 h1 h2 ih =>
    rcases ih with rfl | ⟨t, h3, h4, h5⟩
    · exact .inr ⟨_, h1, h2, .refl _⟩
    · exact .inr ⟨t, h3, h4, h5.step h1 h2⟩
theorem FC.back {x y : Nat} (h : FC G S good y) (hx : S x = false) (hr : Rch G S x y) : FC G S good x :=
  ⟨hx, let ⟨_, z, h1, h2⟩ := h; ⟨z, hr.trans h1, h2⟩⟩

/-- a search backwards: M are the states found so far, those of T are still to be looked at -/
structure Bk (n : Nat) (G : Nat → List Nat) (S good : Nat → Bool) (M : Nat → Bool) (T : Nat → Prop) : Prop where
  sound : ∀ k, M k = true → k < n ∧ FC G S good k
  seed : ∀ k, k < n → S k = false → good k = true → M k = true
  clo : ∀ x, M x = true → T x ∨ ∀ k, k < n → S k = false → x ∈ G k → M k = true
theorem Bk.mark {M : Nat → Bool} {T : Nat → Prop} (h : Bk n G S good M T) {k y : Nat} (hk : k < n) (hs : S k = false) (hy : y ∈ G k) (hm : M y = true) : Bk n G S good (upd M k true) (fun x => T x ∨ x = k) := by
  have mono : ∀ x, M x = true → upd M k true x = true := fun x hx => by unfold upd; split; rfl; exact hx
  refine ⟨fun x hx => ?_, fun x h1 h2 h3 => mono x (h.seed x h1 h2 h3), fun x hx => ?_⟩
  · by_cases e : x = k
    · subst e
      obtain ⟨_, hf⟩ := h.sound y hm
      exact ⟨hk, hf.back hs (.one hy hf.1)⟩
    · rw [upd_ne _ _ e] at hx; exact h.sound x hx
  · by_cases e : x = k
    · exact .inl (.inr e)
    · rw [upd_ne _ _ e] at hx
      rcases h.clo x hx with h1 | h1
      · exact .inl (.inl h1)
      · exact .inr fun j hj hs' hx' => mono j (h1 j hj hs' hx')
theorem Bk.done {M : Nat → Bool} {T T' : Nat → Prop} (h : Bk n G S good M T) {x : Nat} (hx : ∀ k, k < n → S k = false → x ∈ G k → M k = true) (hT : ∀ y, T y → T' y ∨ y = x) : Bk n G S good M T' := by
  refine ⟨h.sound, h.seed, fun y hy => ?_⟩
  rcases h.clo y hy with h1 | h1
  · rcases hT y h1 with h2 | rfl
    · exact .inl h2
    · exact .inr hx
  · exact .inr h1
theorem Bk.congr {M : Nat → Bool} {T T' : Nat → Prop} (h : Bk n G S good M T) (hT : ∀ y, T y → T' y) : Bk n G S good M T' :=
  ⟨h.sound, h.seed, fun y hy => (h.clo y hy).imp (hT y) id⟩
theorem Bk.end_ {M : Nat → Bool} {T : Nat → Prop} (h : Bk n G S good M T) (hT : ∀ y, ¬ T y) (hG : ∀ k t, t ∈ G k → t < n) (k : Nat) (hk : k < n) : M k = true ↔ FC G S good k := by
  refine ⟨fun hm => (h.sound k hm).2, ?_⟩
  rintro ⟨hs, y, hr, hg⟩
  have key : ∀ x y, Rch G S x y → x < n → S x = false → M y = true → M x = true := by
    intro x y hr
    induction hr with
    | refl => intro _ _ hm; exact hm
    | step h0 h1 h2 ih =>
      intro hx hs hm
      refine ih hx hs ?_
      rcases h.clo _ hm with h3 | h3
      · exact absurd h3 (hT _)
      · exact h3 _ (h0.lt hx hG) (h0.out hs) h1
  exact key k y hr hk hs (h.seed y (hr.lt hk hG) (hr.out hs) hg)
end
/-- rows of sources: states outside of S with an arc to t, where p t -/
structure SrcS (L : List (List (Nat × Int))) (n : Nat) (S p : Nat → Bool) (R : List (List Nat)) (k j : Nat) : Prop where
  len : R.length = n
  mem : ∀ t x, t < n → (x ∈ R.getD t [] ↔ p t = true ∧ S x = false ∧ ((x < k ∧ t ∈ tg L x) ∨ (x = k ∧ t ∈ (tg L k).take j)))
  size : ∀ t, (R.getD t []).length ≤ k * 1000000 + j
section
variable {L : List (List (Nat × Int))} {n : Nat} {S p : Nat → Bool} {R : List (List Nat)} {k j t : Nat}
theorem SrcS.start (L : List (List (Nat × Int))) (n : Nat) (S p : Nat → Bool) : SrcS L n S p (List.replicate n []) 0 0 := by
  have e : ∀ t, (List.replicate n ([] : List Nat)).getD t [] = [] := fun t => by
    rw [List.getD_eq_getElem?_getD, List.getElem?_replicate]; split <;> rfl
  refine ⟨by simp, fun t x _ => ?_, fun t => by rw [e]; simp⟩
  rw [e]
  simp
theorem SrcS.next (h : SrcS L n S p R k j) (hs : S k = false) (hj : (tg L k)[j]? = some t) (ht : t < n) (hp : p t = true) (htr : t < R.length) : SrcS L n S p (R.set t (R[t] ++ [k])) k (j + 1) := by
  have hR : R[t] = R.getD t [] := by rw [List.getD_eq_getElem?_getD, List.getElem?_eq_getElem htr]; rfl
  have htake : ∀ u, u ∈ (tg L k).take (j + 1) ↔ u ∈ (tg L k).take j ∨ u = t := fun u => PlC.mem_take_succ hj u
  refine ⟨by simpa using h.len, fun u x hu => ?_, fun u => ?_⟩
  · rw [getD_set R t u _ htr]
    by_cases e : u = t
    · subst e
      rw [if_pos rfl, List.mem_append, hR, h.mem u x hu, htake, List.mem_singleton]
      constructor
      · rintro (⟨h1, h2, h3⟩ | rfl)
        · exact ⟨h1, h2, h3.imp id fun h4 => ⟨h4.1, .inl h4.2⟩⟩
        · exact ⟨hp, hs, .inr ⟨rfl, .inr rfl⟩⟩
      · rintro ⟨h1, h2, h3 | ⟨h3, h4⟩⟩
        · exact .inl ⟨h1, h2, .inl h3⟩
        · exact .inr h3
    · rw [if_neg e, h.mem u x hu, htake]
      simp [e]
  · rw [getD_set R t u _ htr]
    split
    · rw [hR, List.length_append]; have := h.size t; have e1 : [k].length = 1 := rfl; omega
    · have := h.size u; omega
theorem SrcS.skip (h : SrcS L n S p R k j) (hj : (tg L k)[j]? = some t) (hp : p t = false) : SrcS L n S p R k (j + 1) := by
  have htake : ∀ u, u ∈ (tg L k).take (j + 1) ↔ u ∈ (tg L k).take j ∨ u = t := fun u => PlC.mem_take_succ hj u
  refine ⟨h.len, fun u x hu => ?_, fun u => by have := h.size u; omega⟩
  rw [h.mem u x hu, htake]
  by_cases e : u = t
  · subst e; simp [hp]
  · simp [e]
theorem row_le {a k j : Nat} (h : a ≤ k * 1000000 + j) (hj : j ≤ 1000000) : a ≤ (k + 1) * 1000000 + 0 := by
  rw [Nat.add_mul, Nat.one_mul, Nat.add_zero]; exact Nat.le_trans h (Nat.add_le_add_left hj _)
theorem SrcS.row (h : SrcS L n S p R k j) (hj : j = (tg L k).length) (hb : j ≤ 1000000) : SrcS L n S p R (k + 1) 0 := by
  subst hj
  refine ⟨h.len, fun u x hu => ?_, fun u => row_le (h.size u) hb⟩
  rw [h.mem u x hu, List.take_length, List.take_zero]
  constructor
  · rintro ⟨h1, h2, ⟨h3, h4⟩ | ⟨rfl, h4⟩⟩
    · exact ⟨h1, h2, .inl ⟨by omega, h4⟩⟩
    · exact ⟨h1, h2, .inl ⟨by omega, h4⟩⟩
  · rintro ⟨h1, h2, ⟨h3, h4⟩ | ⟨_, h4⟩⟩
    · refine ⟨h1, h2, ?_⟩
      rcases Nat.lt_or_ge x k with h5 | h5
      · exact .inl ⟨h5, h4⟩
      · obtain rfl : x = k := by omega
        exact .inr ⟨rfl, h4⟩
    · cases h4
theorem SrcS.legit (h : SrcS L n S p R k 0) (hs : S k = true) : SrcS L n S p R (k + 1) 0 := by
  refine ⟨h.len, fun u x hu => ?_, fun u => row_le (h.size u) (Nat.zero_le _)⟩
  rw [h.mem u x hu]
  constructor
  · rintro ⟨h1, h2, ⟨h3, h4⟩ | ⟨_, h4⟩⟩
    · exact ⟨h1, h2, .inl ⟨by omega, h4⟩⟩
    · cases h4
  · rintro ⟨h1, h2, ⟨h3, h4⟩ | ⟨_, h4⟩⟩
    · refine ⟨h1, h2, .inl ⟨?_, h4⟩⟩
      rcases Nat.lt_or_ge x k with h5 | h5
      · exact h5
      · obtain rfl : x = k := by omega
        rw [hs] at h2; cases h2
    · cases h4
theorem SrcS.fin (h : SrcS L n S p R n 0) {t x : Nat} (ht : t < n) : x ∈ R.getD t [] ↔ p t = true ∧ S x = false ∧ x < n ∧ t ∈ tg L x := by
  rw [h.mem t x ht]
  simp
end
end Go.Proofs.Ytnjbofahboopoaa.PlT
