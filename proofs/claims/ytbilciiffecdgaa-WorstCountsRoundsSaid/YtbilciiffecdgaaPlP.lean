/- Plain: pairs of a state and its pending nodes; the rounds of executions. -/
import Derived.Test.YtbilciiffecdgaaPlL
namespace Go.Proofs.Ytbilciiffecdgaa.PlL
open PlG PlC

abbrev Pr := Nat × Nat
def lft (E : List Nat) (P : Nat) (a : Ar) : Nat := Pl.rest P a.1 (E.getD a.2.toNat 0)
def aft (E : List Nat) (P : Nat) (a : Ar) : Nat := if lft E P a = 0 then E.getD a.2.toNat 0 else lft E P a
def suc (E : List Nat) (x : Pr) (a : Ar) : Pr := (a.2.toNat, aft E x.2 a)
theorem aft_sub (E : List Nat) (P : Nat) (a : Ar) : aft E P a &&& E.getD a.2.toNat 0 = aft E P a := by
  unfold aft
  split
  · exact Nat.and_self _
  · unfold lft Pl.rest; rw [Nat.and_assoc, Nat.and_self]
theorem aft_lt {E : List Nat} (hE : ∀ x, E.getD x 0 < 4294967296) (P : Nat) (a : Ar) : aft E P a < 4294967296 := by
  unfold aft
  split
  · exact hE _
  · exact Nat.lt_of_le_of_lt (Pl.rest_le _ _ _) (hE _)
def rst (E : List Nat) (R : Pr → Nat) (P : Nat) (a : Ar) : Nat := (if lft E P a = 0 then 1 else 0) + R (a.2.toNat, aft E P a)
def mrS (E : List Nat) (S : Nat → Bool) (R : Pr → Nat) (P m : Nat) (a : Ar) : Nat := if S a.2.toNat = true then m else max m (rst E R P a)
def mr (E : List Nat) (S : Nat → Bool) (R : Pr → Nat) (P : Nat) (l : List Ar) : Nat := l.foldl (mrS E S R P) 1
theorem mr_take {E : List Nat} {S : Nat → Bool} {R : Pr → Nat} {P : Nat} {l : List Ar} {j : Nat} (h : j < l.length) : mr E S R P (l.take (j + 1)) = mrS E S R P (mr E S R P (l.take j)) l[j] := by
  unfold mr; rw [List.take_add_one, List.getElem?_eq_getElem h, Option.toList_some, List.foldl_append]; rfl
theorem mrf_congr {E : List Nat} {S : Nat → Bool} {R R' : Pr → Nat} {P : Nat} (l : List Ar) (m : Nat) (h : ∀ a ∈ l, S a.2.toNat = false → R (a.2.toNat, aft E P a) = R' (a.2.toNat, aft E P a)) : l.foldl (mrS E S R P) m = l.foldl (mrS E S R' P) m := by
  induction l generalizing m with
  | nil => rfl
  | cons a l ih =>
    rw [List.foldl_cons, List.foldl_cons]
    have e : mrS E S R P m a = mrS E S R' P m a := by
      unfold mrS rst
      cases hs : S a.2.toNat
      · rw [h a (List.mem_cons_self ..) hs]
      · rfl
    rw [e]
    exact ih _ fun b hb => h b (List.mem_cons_of_mem _ hb)
theorem mr_congr {E : List Nat} {S : Nat → Bool} {R R' : Pr → Nat} {P : Nat} {l : List Ar} (h : ∀ a ∈ l, S a.2.toNat = false → R (a.2.toNat, aft E P a) = R' (a.2.toNat, aft E P a)) : mr E S R P l = mr E S R' P l := mrf_congr l 1 h
theorem mrf_le {E : List Nat} {S : Nat → Bool} {R : Pr → Nat} {P b : Nat} (l : List Ar) (m : Nat) (hm : m ≤ b) (h : ∀ a ∈ l, S a.2.toNat = false → rst E R P a ≤ b) : l.foldl (mrS E S R P) m ≤ b := by
  induction l generalizing m with
  | nil => exact hm
  | cons a l ih =>
    rw [List.foldl_cons]
    refine ih _ ?_ fun x hx => h x (List.mem_cons_of_mem _ hx)
    unfold mrS
    split
    · exact hm
    · exact Nat.max_le.2 ⟨hm, h a (List.mem_cons_self ..) (by simpa using ‹¬ S a.2.toNat = true›)⟩
theorem mrf_ge {E : List Nat} {S : Nat → Bool} {R : Pr → Nat} {P : Nat} (l : List Ar) (m : Nat) : m ≤ l.foldl (mrS E S R P) m := by
  induction l generalizing m with
  | nil => exact Nat.le_refl _
  | cons a l ih =>
    rw [List.foldl_cons]
    refine Nat.le_trans ?_ (ih _)
    unfold mrS
    split
    · exact Nat.le_refl _
    · exact Nat.le_max_left _ _
theorem mrf_mem {E : List Nat} {S : Nat → Bool} {R : Pr → Nat} {P : Nat} {l : List Ar} (m : Nat) {a : Ar} (h : a ∈ l) (hs : S a.2.toNat = false) : rst E R P a ≤ l.foldl (mrS E S R P) m := by
  induction l generalizing m with
  | nil => cases h
  | cons b l ih =>
    rw [List.foldl_cons]
    rcases List.mem_cons.1 h with rfl | h
    · refine Nat.le_trans ?_ (mrf_ge ..)
      unfold mrS
      rw [if_neg (by rw [hs]; simp)]
      exact Nat.le_max_right _ _
    · exact ih _ h
/-- R tells the greatest numbers of rounds -/
def IsRd (n : Nat) (E : List Nat) (L : List (List Ar)) (S : Nat → Bool) (R : Pr → Nat) : Prop := ∀ k, k < n → S k = false → ∀ P, R (k, P) = mr E S R P (L.getD k [])
def rdF (E : List Nat) (L : List (List Ar)) (S : Nat → Bool) : Nat → Pr → Nat
  | 0, _ => 0
  | m + 1, x => mr E S (rdF E L S m) x.2 (L.getD x.1 [])
section
variable {n : Nat} {E : List Nat} {L : List (List Ar)} {S : Nat → Bool} {r : Nat → Nat}
theorem rdF_stab (h : Ranked n L S r) : ∀ m k, k < n → S k = false → r k < m → ∀ P, rdF E L S m (k, P) = rdF E L S (m + 1) (k, P) := by
  intro m
  induction m with
  | zero => intro k _ _ h0; omega
  | succ m ih =>
    intro k hk hs hr P
    rw [rdF, rdF]
    exact mr_congr fun a ha hsa => ih _ ((h.down k hk hs).2 a ha).1 hsa (by have := ((h.down k hk hs).2 a ha).2; omega) _
theorem rdF_is (h : Ranked n L S r) : IsRd n E L S (rdF E L S n) := by
  intro k hk hs P
  rw [rdF_stab h n k hk hs (h.lt k hk), rdF]
theorem IsRd.unique (h : Ranked n L S r) {R R' : Pr → Nat} (hR : IsRd n E L S R) (hR' : IsRd n E L S R') : ∀ m k, k < n → S k = false → r k < m → ∀ P, R (k, P) = R' (k, P) := by
  intro m
  induction m with
  | zero => intro k _ _ h0; omega
  | succ m ih =>
    intro k hk hs hr P
    rw [hR k hk hs, hR' k hk hs]
    exact mr_congr fun a ha hsa => ih _ ((h.down k hk hs).2 a ha).1 hsa (by have := ((h.down k hk hs).2 a ha).2; omega) _
theorem IsRd.le (h : Ranked n L S r) {R : Pr → Nat} (hR : IsRd n E L S R) : ∀ m k, k < n → S k = false → r k ≤ m → ∀ P, R (k, P) ≤ m + 1 := by
  intro m
  induction m with
  | zero =>
    intro k hk hs hr P
    obtain ⟨h1, h2⟩ := h.down k hk hs
    obtain ⟨a, ha, _⟩ := mx_att (c := fun _ => 0) (f := fun _ => 0) h1
    have := (h2 a ha).2
    omega
  | succ m ih =>
    intro k hk hs hr P
    rw [hR k hk hs]
    refine mrf_le _ _ (by omega) fun a ha hsa => ?_
    obtain ⟨h1, h2⟩ := (h.down k hk hs).2 a ha
    have := ih _ h1 hsa (by omega) (aft E P a)
    unfold rst
    split <;> omega
theorem IsRd.pos {R : Pr → Nat} (hR : IsRd n E L S R) {k : Nat} (hk : k < n) (hs : S k = false) (P : Nat) : 1 ≤ R (k, P) := by
  rw [hR k hk hs]; exact mrf_ge ..
end
/-- the sets of e's first b nodes -/
def subs (e : Nat) : Nat → List Nat
  | 0 => [0]
  | b + 1 => subs e b ++ (if e.testBit b = true then (subs e b).map (· + 2 ^ b) else [])
theorem subs_len (e b : Nat) : (subs e b).length = 2 ^ Pl.popTo e b := by
  induction b with
  | zero => rfl
  | succ b ih =>
    rw [subs, List.length_append, ih, Pl.popTo]
    cases hb : e.testBit b
    · simp
    · simp [ih, Nat.pow_succ]; omega
theorem subs_mem {e : Nat} (b : Nat) {p : Nat} (hp : p < 2 ^ b) (hs : p &&& e = p) : p ∈ subs e b := by
  induction b generalizing p with
  | zero => simp at hp; subst hp; simp [subs]
  | succ b ih =>
    rw [subs, List.mem_append]
    by_cases h : p < 2 ^ b
    · exact .inl (ih h hs)
    · right
      have hb : p.testBit b = true := by
        rw [Nat.testBit_eq_decide_div_mod_eq, decide_eq_true_iff]
        have h1 : p / 2 ^ b = 1 := by
          rw [Nat.pow_succ] at hp
          exact Nat.div_eq_of_lt_le (by omega) (by omega)
        rw [h1]
      have he : e.testBit b = true := by
        have h2 : (p &&& e).testBit b = true := by rw [hs]; exact hb
        rw [Nat.testBit_and, Bool.and_eq_true] at h2
        exact h2.2
      rw [if_pos he]
      refine List.mem_map.2 ⟨p % 2 ^ b, ih (Nat.mod_lt _ (Nat.two_pow_pos b)) ?_, ?_⟩
      · apply Nat.eq_of_testBit_eq
        intro i
        have h3 : (p &&& e).testBit i = p.testBit i := by rw [hs]
        rw [Nat.testBit_and] at h3 ⊢
        rw [Nat.testBit_mod_two_pow]
        by_cases hi : i < b
        · simp [hi, h3]
        · simp [hi]
      · have h1 : p / 2 ^ b = 1 := by
          rw [Nat.pow_succ] at hp
          exact Nat.div_eq_of_lt_le (by omega) (by omega)
        have := Nat.div_add_mod p (2 ^ b)
        rw [h1] at this
        omega
/-- a pair that can come up -/
def PrOk (n : Nat) (E : List Nat) (S : Nat → Bool) (x : Pr) : Prop := x.1 < n ∧ S x.1 = false ∧ x.2 < 4294967296 ∧ x.2 &&& E.getD x.1 0 = x.2
theorem sum_bd (l : List Nat) (f : Nat → Nat) (b : Nat) (h : ∀ x ∈ l, f x ≤ b) : (l.map f).sum ≤ l.length * b := by
  induction l with
  | nil => simp
  | cons a l ih =>
    rw [List.map_cons, List.sum_cons, List.length_cons, Nat.succ_mul]
    have := h a (List.mem_cons_self ..)
    have := ih fun x hx => h x (List.mem_cons_of_mem _ hx)
    omega
theorem pairs_few {n : Nat} {E : List Nat} {S : Nat → Bool} (hfew : ∀ k, k < n → Pl.pop (E.getD k 0) ≤ 8) {Q : List Pr} (hn : Q.Nodup) (hQ : ∀ x ∈ Q, PrOk n E S x) : Q.length ≤ n * 256 := by
  have hsub : Q ⊆ (List.range n).flatMap fun k => (subs (E.getD k 0) 32).map fun p => (k, p) := by
    intro x hx
    obtain ⟨h1, _, h3, h4⟩ := hQ x hx
    exact List.mem_flatMap.2 ⟨x.1, List.mem_range.2 h1, List.mem_map.2 ⟨x.2, subs_mem 32 h3 h4, rfl⟩⟩
  refine Nat.le_trans (hn.length_le_of_subset hsub) ?_
  rw [List.length_flatMap]
  have := sum_bd (List.range n) (fun k => ((subs (E.getD k 0) 32).map fun p => ((k, p) : Pr)).length) 256 (fun k hk => by
    rw [List.length_map, subs_len]
    exact Nat.pow_le_pow_right (n := 2) (by decide) (hfew k (List.mem_range.1 hk)))
  rwa [List.length_range] at this
end Go.Proofs.Ytbilciiffecdgaa.PlL
