/- Plain: a queue of the search backwards. -/
import Derived.Test.YtnjbofahboopoaaPlY
namespace Go.Proofs.Ytnjbofahboopoaa.PlT
open PlG

/-- the first states of the queue -/
def q0 (S good : Nat → Bool) (k : Nat) : List Nat := (List.range k).filter fun x => !S x && good x
theorem q0_succ (S good : Nat → Bool) (k : Nat) : q0 S good (k + 1) = q0 S good k ++ if !S k && good k then [k] else [] := by
  unfold q0
  rw [List.range_succ, List.filter_append]
  congr 1
  rw [List.filter_cons]
  split <;> rfl
theorem q0_mem {S good : Nat → Bool} {k x : Nat} : x ∈ q0 S good k ↔ x < k ∧ S x = false ∧ good x = true := by
  unfold q0
  rw [List.mem_filter, List.mem_range]
  simp
theorem q0_len (S good : Nat → Bool) (k : Nat) : (q0 S good k).length ≤ k := by
  have := List.length_filter_le (fun x => !S x && good x) (List.range k)
  simpa [q0] using this
structure QI (n : Nat) (G : Nat → List Nat) (S good : Nat → Bool) (Q : List Nat) (i : Nat) : Prop where
  nodup : Q.Nodup
  lt : ∀ x, x ∈ Q → x < n
  bk : Bk n G S good (fun j => decide (j ∈ Q)) (fun x => x ∈ Q.drop i)
  le : i ≤ Q.length
section
variable {n : Nat} {G : Nat → List Nat} {S good : Nat → Bool} {Q : List Nat} {i : Nat}
theorem QI.start : QI n G S good (q0 S good n) 0 := by
  refine ⟨(List.nodup_range).filter _, fun x hx => (q0_mem.1 hx).1, ⟨fun k hk => ?_, fun k h1 h2 h3 => ?_, fun x hx => ?_⟩, Nat.zero_le _⟩
  · have h := q0_mem.1 (of_decide_eq_true hk)
    exact ⟨h.1, h.2.1, k, .refl _, h.2.2⟩
  · exact decide_eq_true (q0_mem.2 ⟨h1, h2, h3⟩)
  · rw [List.drop_zero]; exact .inl (of_decide_eq_true hx)
theorem QI.len (h : QI n G S good Q i) : Q.length ≤ n := PlC.nodup_length_le h.nodup h.lt
/-- a source of the current state is appended -/
theorem QI.push (h : QI n G S good Q i) {k y : Nat} (hi : i < Q.length) (hk : k < n) (hs : S k = false) (hy : y ∈ G k) (hm : y ∈ Q) (hn : k ∉ Q) : QI n G S good (Q ++ [k]) i := by
  refine ⟨List.nodup_append.2 ⟨h.nodup, by simp, fun a ha b hb => by rw [List.mem_singleton] at hb; subst hb; exact fun e => hn (e ▸ ha)⟩, fun x hx => ?_, ?_, by simp; omega⟩
  · rcases List.mem_append.1 hx with h1 | h1
    · exact h.lt x h1
    · rw [List.mem_singleton] at h1; subst h1; exact hk
  · have h1 := h.bk.mark hk hs hy (decide_eq_true hm)
    have e : upd (fun j => decide (j ∈ Q)) k true = fun j => decide (j ∈ Q ++ [k]) := by
      funext j
      unfold upd
      by_cases ej : j = k
      · subst ej; simp
      · rw [if_neg ej]; simp [ej]
    rw [e] at h1
    refine h1.congr fun y hy => ?_
    rw [List.drop_append_of_le_length (by omega)]
    rcases hy with hy | rfl
    · exact List.mem_append_left _ hy
    · exact List.mem_append_right _ (List.mem_singleton.2 rfl)
theorem QI.next (h : QI n G S good Q i) {x : Nat} (hx : Q[i]? = some x) (hall : ∀ k, k < n → S k = false → x ∈ G k → k ∈ Q) : QI n G S good Q (i + 1) := by
  obtain ⟨hl, e⟩ := List.getElem?_eq_some_iff.1 hx
  refine ⟨h.nodup, h.lt, h.bk.done (x := x) (fun k h1 h2 h3 => decide_eq_true (hall k h1 h2 h3)) fun y hy => ?_, hl⟩
  rw [List.drop_eq_getElem_cons hl, e] at hy
  rcases List.mem_cons.1 hy with h1 | h1
  · exact .inr h1
  · exact .inl h1
theorem QI.end_ (h : QI n G S good Q Q.length) (hG : ∀ k t, t ∈ G k → t < n) (k : Nat) (hk : k < n) : decide (k ∈ Q) = true ↔ FC G S good k :=
  h.bk.end_ (fun y hy => by rw [List.drop_length] at hy; cases hy) hG k hk
end
end Go.Proofs.Ytnjbofahboopoaa.PlT
