/- Plain: the greatest weights of executions up to S. -/
import Derived.Test.YtbilciiffecdgaaPlG
import Derived.Test.YtbilciiffecdgaaPl
namespace Go.Proofs.Ytbilciiffecdgaa.PlL
open PlG PlC

def upd {α : Type} (f : Nat → α) (k : Nat) (v : α) (j : Nat) : α := if j = k then v else f j
theorem upd_same {α : Type} (f : Nat → α) (k : Nat) (v : α) : upd f k v k = v := if_pos rfl
theorem upd_ne {α : Type} (f : Nat → α) {k j : Nat} (v : α) (h : j ≠ k) : upd f k v j = f j := if_neg h
abbrev Ar := Nat × Int
def mx (c : Ar → Nat) (f : Nat → Nat) (l : List Ar) : Nat := l.foldl (fun m a => max m (c a + f a.2.toNat)) 0
theorem mx_snoc (c : Ar → Nat) (f : Nat → Nat) (l : List Ar) (a : Ar) : mx c f (l ++ [a]) = max (mx c f l) (c a + f a.2.toNat) := by
  unfold mx; rw [List.foldl_append]; rfl
theorem mx_take {c : Ar → Nat} {f : Nat → Nat} {l : List Ar} {j : Nat} (h : j < l.length) : mx c f (l.take (j + 1)) = max (mx c f (l.take j)) (c l[j] + f l[j].2.toNat) := by
  rw [List.take_add_one, List.getElem?_eq_getElem h, Option.toList_some, mx_snoc]
theorem fold_congr {c : Ar → Nat} {f g : Nat → Nat} (l : List Ar) (m : Nat) (h : ∀ a ∈ l, f a.2.toNat = g a.2.toNat) : l.foldl (fun m a => max m (c a + f a.2.toNat)) m = l.foldl (fun m a => max m (c a + g a.2.toNat)) m := by
  induction l generalizing m with
  | nil => rfl
  | cons a l ih =>
    rw [List.foldl_cons, List.foldl_cons, h a (List.mem_cons_self ..)]
    exact ih _ fun b hb => h b (List.mem_cons_of_mem _ hb)
theorem mx_congr {c : Ar → Nat} {f g : Nat → Nat} {l : List Ar} (h : ∀ a ∈ l, f a.2.toNat = g a.2.toNat) : mx c f l = mx c g l := fold_congr l 0 h
theorem fold_ge (c : Ar → Nat) (f : Nat → Nat) (l : List Ar) (m : Nat) : m ≤ l.foldl (fun m a => max m (c a + f a.2.toNat)) m := by
  induction l generalizing m with
  | nil => exact Nat.le_refl _
  | cons a l ih => rw [List.foldl_cons]; exact Nat.le_trans (Nat.le_max_left _ _) (ih _)
theorem fold_mem {c : Ar → Nat} {f : Nat → Nat} {l : List Ar} (m : Nat) {a : Ar} (h : a ∈ l) : c a + f a.2.toNat ≤ l.foldl (fun m a => max m (c a + f a.2.toNat)) m := by
  induction l generalizing m with
  | nil => cases h
  | cons b l ih =>
    rw [List.foldl_cons]
    rcases List.mem_cons.1 h with rfl | h
    · exact Nat.le_trans (Nat.le_max_right _ _) (fold_ge ..)
    · exact ih _ h
theorem mx_mem {c : Ar → Nat} {f : Nat → Nat} {l : List Ar} {a : Ar} (h : a ∈ l) : c a + f a.2.toNat ≤ mx c f l := fold_mem 0 h
theorem fold_le {c : Ar → Nat} {f : Nat → Nat} {l : List Ar} {m b : Nat} (hm : m ≤ b) (h : ∀ a ∈ l, c a + f a.2.toNat ≤ b) : l.foldl (fun m a => max m (c a + f a.2.toNat)) m ≤ b := by
  induction l generalizing m with
  | nil => exact hm
  | cons a l ih =>
    rw [List.foldl_cons]
    exact ih (Nat.max_le.2 ⟨hm, h a (List.mem_cons_self ..)⟩) fun x hx => h x (List.mem_cons_of_mem _ hx)
theorem mx_le {c : Ar → Nat} {f : Nat → Nat} {l : List Ar} {b : Nat} (h : ∀ a ∈ l, c a + f a.2.toNat ≤ b) : mx c f l ≤ b := fold_le (Nat.zero_le _) h
theorem fold_att {c : Ar → Nat} {f : Nat → Nat} (l : List Ar) (m : Nat) : l.foldl (fun m a => max m (c a + f a.2.toNat)) m = m ∨ ∃ a ∈ l, c a + f a.2.toNat = l.foldl (fun m a => max m (c a + f a.2.toNat)) m := by
  induction l generalizing m with
  | nil => exact .inl rfl
  | cons a l ih =>
    rw [List.foldl_cons]
    rcases ih (max m (c a + f a.2.toNat)) with h | ⟨b, hb, h⟩
    · rcases Nat.le_total m (c a + f a.2.toNat) with h1 | h1
      · exact .inr ⟨a, List.mem_cons_self .., by rw [h, Nat.max_eq_right h1]⟩
      · exact .inl (by rw [h, Nat.max_eq_left h1])
    · exact .inr ⟨b, List.mem_cons_of_mem _ hb, h⟩
/-- attained by an arc, if there is one -/
theorem mx_att {c : Ar → Nat} {f : Nat → Nat} {l : List Ar} (hl : l ≠ []) : ∃ a ∈ l, c a + f a.2.toNat = mx c f l := by
  rcases fold_att (c := c) (f := f) l 0 with h | h
  · obtain ⟨a, l', rfl⟩ := List.exists_cons_of_ne_nil hl
    refine ⟨a, List.mem_cons_self .., ?_⟩
    have := mx_mem (c := c) (f := f) (List.mem_cons_self (a := a) (l := l'))
    unfold mx at this ⊢
    omega
  · exact h
/-- f has the greatest weights -/
def IsVal (n : Nat) (L : List (List Ar)) (S : Nat → Bool) (c : Ar → Nat) (f : Nat → Nat) : Prop := ∀ k, k < n → (S k = true → f k = 0) ∧ (S k = false → f k = mx c f (L.getD k []))
def valF (L : List (List Ar)) (S : Nat → Bool) (c : Ar → Nat) : Nat → Nat → Nat
  | 0, _ => 0
  | m + 1, k => if S k = true then 0 else mx c (valF L S c m) (L.getD k [])
theorem tg_mem' {L : List (List Ar)} {x : Nat} {a : Ar} (h : a ∈ L.getD x []) : a.2.toNat ∈ tg L x := List.mem_map.2 ⟨a, h, rfl⟩
/-- every state comes to S, by a rank -/
structure Ranked (n : Nat) (L : List (List Ar)) (S : Nat → Bool) (r : Nat → Nat) : Prop where
  lt : ∀ k, k < n → r k < n
  down : ∀ k, k < n → S k = false → L.getD k [] ≠ [] ∧ ∀ a ∈ L.getD k [], a.2.toNat < n ∧ r a.2.toNat < r k
section
variable {n : Nat} {L : List (List Ar)} {S : Nat → Bool} {c : Ar → Nat} {r : Nat → Nat}
theorem valF_stab (h : Ranked n L S r) : ∀ m k, k < n → r k < m → valF L S c m k = valF L S c (m + 1) k := by
  intro m
  induction m with
  | zero => intro k _ h0; omega
  | succ m ih =>
    intro k hk hr
    rw [valF, valF]
    cases hs : S k
    · rw [if_neg (by simp), if_neg (by simp)]
      exact mx_congr fun a ha => ih _ ((h.down k hk hs).2 a ha).1 (by have := ((h.down k hk hs).2 a ha).2; omega)
    · rfl
theorem valF_is (h : Ranked n L S r) : IsVal n L S c (valF L S c n) := by
  intro k hk
  obtain ⟨m, rfl⟩ : ∃ m, n = m + 1 := ⟨n - 1, by omega⟩
  refine ⟨fun hs => by rw [valF, if_pos hs], fun hs => ?_⟩
  rw [valF_stab h (m + 1) k hk (h.lt k hk)]
  rw [valF, if_neg (by rw [hs]; simp)]
theorem IsVal.unique (h : Ranked n L S r) {f g : Nat → Nat} (hf : IsVal n L S c f) (hg : IsVal n L S c g) : ∀ m k, k < n → r k < m → f k = g k := by
  intro m
  induction m with
  | zero => intro k _ h0; omega
  | succ m ih =>
    intro k hk hr
    cases hs : S k
    · rw [(hf k hk).2 hs, (hg k hk).2 hs]
      exact mx_congr fun a ha => ih _ ((h.down k hk hs).2 a ha).1 (by have := ((h.down k hk hs).2 a ha).2; omega)
    · rw [(hf k hk).1 hs, (hg k hk).1 hs]
theorem IsVal.le (h : Ranked n L S r) (hc : ∀ k, k < n → ∀ a ∈ L.getD k [], c a ≤ 32) {f : Nat → Nat} (hf : IsVal n L S c f) : ∀ m k, k < n → r k ≤ m → f k ≤ 32 * m := by
  intro m
  induction m with
  | zero =>
    intro k hk hr
    cases hs : S k
    · obtain ⟨h1, h2⟩ := h.down k hk hs
      obtain ⟨a, ha, _⟩ := mx_att (c := c) (f := f) h1
      have := (h2 a ha).2
      omega
    · rw [(hf k hk).1 hs]; exact Nat.zero_le _
  | succ m ih =>
    intro k hk hr
    cases hs : S k
    · rw [(hf k hk).2 hs]
      refine mx_le fun a ha => ?_
      obtain ⟨h1, h2⟩ := (h.down k hk hs).2 a ha
      have := ih _ h1 (by omega)
      have := hc k hk a ha
      omega
    · rw [(hf k hk).1 hs]; exact Nat.zero_le _
end
end Go.Proofs.Ytbilciiffecdgaa.PlL
