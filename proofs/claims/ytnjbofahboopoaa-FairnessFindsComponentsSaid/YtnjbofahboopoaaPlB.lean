/- Plain: the search backwards with a stack, and numbers given anew by a list. -/
import Derived.Test.YtnjbofahboopoaaPlZ
import Derived.Test.YtnjbofahboopoaaPlV
import Derived.Test.YtnjbofahboopoaaPlQ
namespace Go.Proofs.Ytnjbofahboopoaa.PlT
section
variable {n : Nat} {G : Nat → List Nat} {S : Nat → Bool} {O : List Nat} {i x : Nat} {r0 r : Nat → Option Nat} {T : List Nat}

def noneC (n : Nat) (r : Nat → Option Nat) : Nat := ((List.range n).map fun k => if r k = none then 1 else 0).sum
theorem noneC_upd {t : Nat} (ht : t < n) (h0 : r t = none) (j : Nat) : noneC n (upd r t (some j)) + 1 = noneC n r := by
  have := sum_upd n t (fun k => if upd r t (some j) k = none then 1 else 0) (fun k => if r k = none then 1 else 0) (fun k hk => by rw [upd_ne _ _ hk]) ht
  simp only [upd_same, h0, if_true] at this
  unfold noneC
  simp at this
  omega
theorem sum_le_one (l : List Nat) (f : Nat → Nat) (h : ∀ x, f x ≤ 1) : (l.map f).sum ≤ l.length := by
  induction l with
  | nil => simp
  | cons a l ih => rw [List.map_cons, List.sum_cons, List.length_cons]; have := h a; omega
theorem noneC_le (n : Nat) (r : Nat → Option Nat) : noneC n r ≤ n := by
  have := sum_le_one (List.range n) (fun k => if r k = none then 1 else 0) (fun x => by split <;> omega)
  rw [List.length_range] at this
  exact this
structure SBI (n : Nat) (G : Nat → List Nat) (S : Nat → Bool) (i x : Nat) (r0 r : Nat → Option Nat) (T : List Nat) : Prop where
  km : KM n G S i x r0 r (fun y => y ∈ T)
  ok : ∀ y, y ∈ T → r0 y = none ∧ r y ≠ none
structure SBJ (n : Nat) (G : Nat → List Nat) (S : Nat → Bool) (i x : Nat) (r0 r : Nat → Option Nat) (T : List Nat) (k : Nat) (row : List Nat) (j : Nat) : Prop where
  km : KM n G S i x r0 r (fun y => y ∈ T ∨ y = k)
  ok : ∀ y, y ∈ T → r0 y = none ∧ r y ≠ none
  me : r0 k = none ∧ r k ≠ none
  done : ∀ y, y ∈ row.take j → r y ≠ none
theorem SBI.start (hr : r0 x = none) (hxn : x < n) (hxs : S x = false) : SBI n G S i x r0 (upd r0 x (some i)) [x] :=
  ⟨(KM.start hr hxn hxs).congr (fun z hz => by rw [hz]; simp), fun y hy => by rw [List.mem_singleton] at hy; subst hy; exact ⟨hr, by rw [upd_same]; simp⟩⟩
theorem SBI.lt (h : SBI n G S i x r0 r T) {y : Nat} (hy : y ∈ T) : y < n ∧ S y = false := by
  obtain ⟨h1, h2⟩ := h.ok y hy
  obtain ⟨-, h3, h4, -⟩ := h.km.new y h1 h2
  exact ⟨h3, h4⟩
theorem SBI.pop {k : Nat} (h : SBI n G S i x r0 r (T ++ [k])) (row : List Nat) : SBJ n G S i x r0 r T k row 0 :=
  ⟨h.km.congr (fun z hz => by simpa using hz), fun y hy => h.ok y (List.mem_append_left _ hy), h.ok k (by simp), fun y hy => by simp at hy⟩
theorem SBJ.skip {k j t : Nat} {row : List Nat} (h : SBJ n G S i x r0 r T k row j) (ht : row[j]? = some t) (hr : r t ≠ none) : SBJ n G S i x r0 r T k row (j + 1) := by
  refine ⟨h.km, h.ok, h.me, fun y hy => ?_⟩
  rw [List.take_add_one, ht] at hy
  rcases List.mem_append.1 hy with h1 | h1
  · exact h.done y h1
  · simp at h1; subst h1; exact hr
theorem SBJ.mark {k j t : Nat} {row : List Nat} (h : SBJ n G S i x r0 r T k row j) (hI : KI n G S O (i + 1) r0) (hF : FinO n G S O) (hx : O[i]? = some x) (ht : row[j]? = some t) (hr : r t = none) (htn : t < n) (hs : S t = false) (hk : k ∈ G t) :
    SBJ n G S i x r0 (upd r t (some i)) (T ++ [t]) k row (j + 1) := by
  have km := h.km.mark hI hF.fin hF.nodup hx (fun k hk hs => hF.all k hk hs) htn hs hk h.me.1 h.me.2 hr
  have h0 : r0 t = none := by
    cases e : r0 t with
    | none => rfl
    | some j => have := h.km.old t (by rw [e]; simp); rw [this, e] at hr; cases hr
  have mono : ∀ y, r y ≠ none → upd r t (some i) y ≠ none := fun y hy => by unfold upd; split; simp; exact hy
  refine ⟨km.congr fun z hz => ?_, fun y hy => ?_, ⟨h.me.1, mono _ h.me.2⟩, fun y hy => ?_⟩
  · rcases hz with (h1 | h1) | h1
    · exact .inl (List.mem_append_left _ h1)
    · exact .inr h1
    · exact .inl (by simp [h1])
  · rcases List.mem_append.1 hy with h1 | h1
    · exact ⟨(h.ok y h1).1, mono y (h.ok y h1).2⟩
    · rw [List.mem_singleton] at h1; subst h1; exact ⟨h0, by rw [upd_same]; simp⟩
  · rw [List.take_add_one, ht] at hy
    rcases List.mem_append.1 hy with h1 | h1
    · exact mono y (h.done y h1)
    · simp at h1; subst h1; rw [upd_same]; simp
theorem SBJ.end_ {k j : Nat} {row : List Nat} (h : SBJ n G S i x r0 r T k row j) (hj : row.length ≤ j) (hrow : ∀ y, y < n → S y = false → k ∈ G y → y ∈ row) : SBI n G S i x r0 r T :=
  ⟨h.km.done (fun y hy hs hk => h.done y (by rw [List.take_of_length_le hj]; exact hrow y hy hs hk)) (fun z hz => hz), h.ok⟩
theorem SBI.end_ (h : SBI n G S i x r0 r []) (hI : KI n G S O (i + 1) r0) (hx : O[i]? = some x) (h0 : r0 x = none) (hxn : x < n) (hxs : S x = false) (hG : ∀ k t, t ∈ G k → t < n) : KI n G S O i r :=
  h.km.end_ hI hx h0 hxn hxs (fun y hy => by cases hy) hG
end
/-- the numbers that have been given to the roots of the first k states -/
def numF (S : Nat → Bool) (r : Nat → Nat) (k q : Nat) : Int := if q ∈ roots S r k then ((roots S r k).idxOf q : Int) + 1 else 0
theorem numF_zero (S : Nat → Bool) (r : Nat → Nat) (q : Nat) : numF S r 0 q = 0 := rfl
theorem numF_next {S : Nat → Bool} {r : Nat → Nat} {n k : Nat} (hk : k < n) :
    (S k = true ∧ numOf S r n k = -1 ∧ (∀ q, numF S r (k + 1) q = numF S r k q) ∧ (roots S r (k + 1)).length = (roots S r k).length) ∨
    (S k = false ∧ numF S r k (r k) ≠ 0 ∧ numOf S r n k = numF S r k (r k) - 1 ∧ (∀ q, numF S r (k + 1) q = numF S r k q) ∧ (roots S r (k + 1)).length = (roots S r k).length) ∨
    (S k = false ∧ numF S r k (r k) = 0 ∧ numOf S r n k = ((roots S r k).length : Nat) ∧ (∀ q, numF S r (k + 1) q = upd (numF S r k) (r k) (((roots S r k).length : Int) + 1) q) ∧ (roots S r (k + 1)).length = (roots S r k).length + 1) := by
  rcases numOf_next (S := S) (r := r) hk with ⟨h1, h2, h3⟩ | ⟨h1, hm, h3, h4, h5⟩ | ⟨h1, hm, h3, h4⟩
  · exact .inl ⟨h1, h2, fun q => by unfold numF; rw [h3], by rw [h3]⟩
  · refine .inr (.inl ⟨h1, ?_, ?_, fun q => by unfold numF; rw [h5], by rw [h5]⟩)
    · unfold numF; rw [if_pos hm]; omega
    · unfold numF; rw [if_pos hm, h3]; omega
  · refine .inr (.inr ⟨h1, ?_, h3, fun q => ?_, by rw [h4]; simp⟩)
    · unfold numF; rw [if_neg hm]
    · unfold numF upd
      rw [h4]
      by_cases e : q = r k
      · subst e
        rw [if_pos (by simp), if_pos rfl, List.idxOf_append, if_neg hm]
        simp
      · rw [if_neg e]
        dsimp only
        by_cases hq : q ∈ roots S r k
        · rw [if_pos (List.mem_append_left _ hq), if_pos hq, List.idxOf_append, if_pos hq]
        · rw [if_neg (by simp [hq, e]), if_neg hq]
theorem numF_le {S : Nat → Bool} {r : Nat → Nat} {k q : Nat} : 0 ≤ numF S r k q ∧ numF S r k q ≤ ((roots S r k).length : Int) := by
  unfold numF
  split
  · rename_i h
    have := List.idxOf_lt_length_of_mem h
    omega
  · omega
end Go.Proofs.Ytnjbofahboopoaa.PlT
namespace Go.Proofs.Ytnjbofahboopoaa.PlT
section
variable {n : Nat} {G : Nat → List Nat} {S good M : Nat → Bool} {T : List Nat}
def falseC (n : Nat) (M : Nat → Bool) : Nat := ((List.range n).map fun k => if M k = true then 0 else 1).sum
theorem falseC_upd {t : Nat} (ht : t < n) (h0 : M t = false) : falseC n (upd M t true) + 1 = falseC n M := by
  have := sum_upd n t (fun k => if upd M t true k = true then 0 else 1) (fun k => if M k = true then 0 else 1) (fun k hk => by rw [upd_ne _ _ hk]) ht
  simp only [upd_same, h0, if_true] at this
  unfold falseC
  simp at this
  omega
theorem falseC_le (n : Nat) (M : Nat → Bool) : falseC n M ≤ n := by
  have := sum_le_one (List.range n) (fun k => if M k = true then 0 else 1) (fun x => by split <;> omega)
  rw [List.length_range] at this
  exact this
structure CI (n : Nat) (G : Nat → List Nat) (S good M : Nat → Bool) (T : List Nat) : Prop where
  bk : Bk n G S good M (fun y => y ∈ T)
  ok : ∀ y, y ∈ T → M y = true
structure CJ (n : Nat) (G : Nat → List Nat) (S good M : Nat → Bool) (T : List Nat) (k : Nat) (row : List Nat) (j : Nat) : Prop where
  bk : Bk n G S good M (fun y => y ∈ T ∨ y = k)
  ok : ∀ y, y ∈ T → M y = true
  me : M k = true
  done : ∀ y, y ∈ row.take j → M y = true
theorem CI.start : CI n G S good (fun j => decide (j ∈ q0 S good n)) (q0 S good n) := by
  refine ⟨⟨fun k hk => ?_, fun k h1 h2 h3 => decide_eq_true (q0_mem.2 ⟨h1, h2, h3⟩), fun x hx => .inl (of_decide_eq_true hx)⟩, fun y hy => decide_eq_true hy⟩
  have h := q0_mem.1 (of_decide_eq_true hk)
  exact ⟨h.1, h.2.1, k, .refl _, h.2.2⟩
theorem CI.lt (h : CI n G S good M T) {y : Nat} (hy : y ∈ T) : y < n ∧ S y = false := by
  obtain ⟨h1, h2⟩ := h.bk.sound y (h.ok y hy)
  exact ⟨h1, h2.1⟩
theorem CI.pop {k : Nat} (h : CI n G S good M (T ++ [k])) (row : List Nat) : CJ n G S good M T k row 0 :=
  ⟨h.bk.congr (fun z hz => by simpa using hz), fun y hy => h.ok y (List.mem_append_left _ hy), h.ok k (by simp), fun y hy => by simp at hy⟩
theorem CJ.skip {k j t : Nat} {row : List Nat} (h : CJ n G S good M T k row j) (ht : row[j]? = some t) (hr : M t = true) : CJ n G S good M T k row (j + 1) := by
  refine ⟨h.bk, h.ok, h.me, fun y hy => ?_⟩
  rw [List.take_add_one, ht] at hy
  rcases List.mem_append.1 hy with h1 | h1
  · exact h.done y h1
  · simp at h1; subst h1; exact hr
theorem CJ.mark {k j t : Nat} {row : List Nat} (h : CJ n G S good M T k row j) (ht : row[j]? = some t) (htn : t < n) (hs : S t = false) (hk : k ∈ G t) :
    CJ n G S good (upd M t true) (T ++ [t]) k row (j + 1) := by
  have bk := h.bk.mark htn hs hk h.me
  have mono : ∀ y, M y = true → upd M t true y = true := fun y hy => by unfold upd; split; rfl; exact hy
  refine ⟨bk.congr fun z hz => ?_, fun y hy => ?_, mono _ h.me, fun y hy => ?_⟩
  · rcases hz with (h1 | h1) | h1
    · exact .inl (List.mem_append_left _ h1)
    · exact .inr h1
    · exact .inl (by simp [h1])
  · rcases List.mem_append.1 hy with h1 | h1
    · exact mono y (h.ok y h1)
    · rw [List.mem_singleton] at h1; subst h1; exact upd_same ..
  · rw [List.take_add_one, ht] at hy
    rcases List.mem_append.1 hy with h1 | h1
    · exact mono y (h.done y h1)
    · simp at h1; subst h1; exact upd_same ..
theorem CJ.end_ {k j : Nat} {row : List Nat} (h : CJ n G S good M T k row j) (hj : row.length ≤ j) (hrow : ∀ y, y < n → S y = false → k ∈ G y → y ∈ row) : CI n G S good M T :=
  ⟨h.bk.done (fun y hy hs hk => h.done y (by rw [List.take_of_length_le hj]; exact hrow y hy hs hk)) (fun z hz => hz), h.ok⟩
theorem CI.end_ (h : CI n G S good M []) (hG : ∀ k t, t ∈ G k → t < n) (k : Nat) (hk : k < n) : M k = true ↔ FC G S good k := h.bk.end_ (fun y hy => by cases hy) hG k hk
end
end Go.Proofs.Ytnjbofahboopoaa.PlT
