/- Plain: numbered items come out in their order. -/
import Derived.Test.YtpfhnpmcfjfmiaaPlK
namespace Go.Proofs.Ytpfhnpmcfjfmiaa

def kdO (k : Int) : Int := 1 + k.tmod 3 % 3
def ordOp (n : Nat) (c : Int × Int) : COp := (kdO c.1, c.2.tmod 10, if kdO c.1 = 1 then [(n : Int)] else [])
def ordStep (s : List COp × Nat) (c : Int × Int) : List COp × Nat := (s.1 ++ [ordOp s.2 c], if kdO c.1 = 1 then s.2 + 1 else s.2)
def ordOps (l : List (Int × Int)) : List COp × Nat := l.foldl ordStep ([], 0)
theorem ord_snoc (l : List (Int × Int)) (c : Int × Int) : ordOps (l ++ [c]) = ordStep (ordOps l) c := by unfold ordOps; rw [List.foldl_append]; rfl
theorem ord_len (l : List (Int × Int)) : (ordOps l).1.length = l.length ∧ (ordOps l).2 ≤ l.length := by
  have key : ∀ (l : List (Int × Int)) (s : List COp × Nat), (l.foldl ordStep s).1.length = s.1.length + l.length ∧ (l.foldl ordStep s).2 ≤ s.2 + l.length := by
    intro l
    induction l with
    | nil => intro s; simp
    | cons c l ih =>
      intro s
      obtain ⟨h1, h2⟩ := ih (ordStep s c)
      simp only [List.foldl_cons, List.length_cons]
      have h3 : (ordStep s c).1.length = s.1.length + 1 := by simp [ordStep]
      have h4 : (ordStep s c).2 ≤ s.2 + 1 := by unfold ordStep; dsimp only; split <;> omega
      omega
  simpa [ordOps] using key l ([], 0)

structure OrdInv (cap : Int) (n : Nat) (s : Int × List (List Int) × List (List Int) × Nat) (xs : List Nat) : Prop where
  cp : s.1 = cap
  vld : vldC cap s.2.1 = true
  eq : s.2.2.1 ++ s.2.1 = xs.map fun x : Nat => [(x : Int)]
  asc : xs.Pairwise (· < ·)
  lt : ∀ x ∈ xs, x < n
  cnt : xs.length + s.2.2.2 = n

theorem eraseIdx_right {α : Type} (R Q : List α) (a : Nat) : (R ++ Q).eraseIdx (R.length + a) = R ++ Q.eraseIdx a := by
  rw [List.eraseIdx_append_of_length_le (by omega)]
  congr 2
  omega
theorem eraseIdx_map' {α β : Type} (f : α → β) (l : List α) (i : Nat) : (l.map f).eraseIdx i = (l.eraseIdx i).map f := by
  rw [List.eraseIdx_eq_take_drop_succ, List.eraseIdx_eq_take_drop_succ, List.map_append, List.map_take, List.map_drop]
theorem ord_step {cap : Int} {n : Nat} {s : Int × List (List Int) × List (List Int) × Nat} {xs : List Nat} (h : OrdInv cap n s xs) (c : Int × Int) :
    ∃ xs', OrdInv cap (if kdO c.1 = 1 then n + 1 else n) (opQ s (ordOp n c)) xs' := by
  obtain ⟨cp, Q, R, lost⟩ := s
  obtain ⟨rfl, hv, he, ha, hl, hc⟩ := h
  dsimp only at hv he ha hl hc
  obtain ⟨v1, v2, v3, v4⟩ := vld_mem hv
  have hvn : ¬ vldC cp Q = false := by rw [hv]; simp
  unfold opQ ordOp
  dsimp only
  by_cases h1 : kdO c.1 = 1
  · rw [if_pos h1, if_pos h1, if_pos h1]
    unfold sendQ
    rw [if_neg hvn]
    by_cases hf : (Q.length : Int) = cp
    · rw [if_pos (.inl hf)]
      refine ⟨xs, rfl, hv, he, ha, fun x hx => Nat.lt_succ_of_lt (hl x hx), ?_⟩
      simp
      omega
    · rw [if_neg (by rintro (h | h); exact hf h; simp at h)]
      refine ⟨xs ++ [n], rfl, ?_, ?_, ?_, fun x hx => ?_, ?_⟩
      · refine vld_mk v1 v2 (by simp; omega) fun q hq => ?_
        rcases List.mem_append.1 hq with h | h
        · exact v4 q h
        · rw [List.mem_singleton] at h; subst h; simp
      · show R ++ (Q ++ [[(n : Int)]]) = _
        rw [← List.append_assoc, he, List.map_append]; rfl
      · rw [List.pairwise_append]
        exact ⟨ha, by simp, fun a h b hb => by rw [List.mem_singleton] at hb; subst hb; exact hl a h⟩
      · rcases List.mem_append.1 hx with h | h
        · exact Nat.lt_succ_of_lt (hl x h)
        · rw [List.mem_singleton] at h; subst h; exact Nat.lt_succ_self _
      · simp
        omega
  · rw [if_neg h1, if_neg h1, if_neg h1]
    by_cases h2 : kdO c.1 = 2
    · rw [if_pos h2]
      unfold recvQ
      rw [if_neg hvn]
      match Q, hv, he, v3, v4 with
      | [], hv, he, _, _ => exact ⟨xs, rfl, hv, he, ha, hl, hc⟩
      | q :: Q', hv, he, v3, v4 =>
        refine ⟨xs, rfl, vld_mk v1 v2 ?_ fun x hx => v4 x (List.mem_cons_of_mem _ hx), ?_, ha, hl, hc⟩
        · simp only [List.length_cons] at v3
          show (Q'.length : Int) ≤ cp
          omega
        · simp only [if_true]
          rw [← he]; simp
    · rw [if_neg h2]
      by_cases h3 : kdO c.1 = 3
      · rw [if_pos h3]
        unfold loseQ
        rw [if_neg hvn]
        by_cases hr : c.2.tmod 10 < 0 ∨ (Q.length : Int) ≤ c.2.tmod 10
        · rw [if_pos hr]
          exact ⟨xs, rfl, hv, he, ha, hl, hc⟩
        · rw [if_neg hr]
          have hlt : (c.2.tmod 10).toNat < Q.length := by omega
          generalize (c.2.tmod 10).toNat = a at *
          have hsub : (xs.eraseIdx (R.length + a)).Sublist xs := List.eraseIdx_sublist ..
          have hxl : xs.length = R.length + Q.length := by have := congrArg List.length he; simp at this; omega
          refine ⟨xs.eraseIdx (R.length + a), rfl, vld_mk v1 v2 ?_ fun x hx => v4 x (List.mem_of_mem_eraseIdx hx), ?_, ha.sublist hsub, fun x hx => hl x (hsub.subset hx), ?_⟩
          · have := List.length_eraseIdx_le Q a
            show ((Q.eraseIdx a).length : Int) ≤ cp
            omega
          · show R ++ Q.eraseIdx a = _
            rw [← eraseIdx_right, he, eraseIdx_map']
          · simp only [if_true]
            rw [List.length_eraseIdx, if_pos (by omega)]
            omega
      · rw [if_neg h3]
        exact ⟨xs, rfl, hv, he, ha, hl, hc⟩
theorem ord_fold {cap : Int} : ∀ (l : List (Int × Int)) (s : List COp × Nat) (xs : List Nat), OrdInv cap s.2 (playQ cap [] s.1) xs → ∃ xs', OrdInv cap (l.foldl ordStep s).2 (playQ cap [] (l.foldl ordStep s).1) xs'
  | [], _, xs, h => ⟨xs, h⟩
  | c :: l, s, xs, h => by
    rw [List.foldl_cons]
    obtain ⟨xs1, h1⟩ := ord_step h c
    refine ord_fold l (ordStep s c) xs1 ?_
    show OrdInv cap (if kdO c.1 = 1 then s.2 + 1 else s.2) (playQ cap [] (s.1 ++ [ordOp s.2 c])) xs1
    rw [playQ_snoc]
    exact h1
theorem ord_play {cap : Int} (h1 : 1 ≤ cap) (h2 : cap ≤ 8) (l : List (Int × Int)) : ∃ xs, OrdInv cap (ordOps l).2 (playQ cap [] (ordOps l).1) xs :=
  ord_fold l ([], 0) [] ⟨rfl, vld_mk (Q := []) h1 h2 (by simp; omega) (by simp), rfl, by simp, by simp, rfl⟩
/-- the last of the first k numbers -/
def lst (xs : List Nat) (k : Nat) : Int := if k = 0 then -1 else (xs.getD (k - 1) 0 : Nat)
theorem lst_step {xs : List Nat} (h : xs.Pairwise (· < ·)) {k : Nat} (hk : k < xs.length) : lst xs k < (xs[k] : Nat) ∧ lst xs (k + 1) = (xs[k] : Nat) := by
  refine ⟨?_, ?_⟩
  · unfold lst
    split
    · omega
    · have h1 : k - 1 < xs.length := by omega
      rw [List.getD_eq_getElem?_getD, List.getElem?_eq_getElem h1, Option.getD_some]
      have := List.pairwise_iff_getElem.1 h (k - 1) k h1 hk (by omega)
      omega
  · unfold lst
    rw [if_neg (by omega), Nat.add_sub_cancel, List.getD_eq_getElem?_getD, List.getElem?_eq_getElem hk, Option.getD_some]
theorem lst_lt {xs : List Nat} {n : Nat} (h : ∀ x ∈ xs, x < n) : lst xs xs.length < (n : Int) := by
  unfold lst
  split
  · omega
  · have h1 : xs.length - 1 < xs.length := by omega
    rw [List.getD_eq_getElem?_getD, List.getElem?_eq_getElem h1, Option.getD_some]
    have := h _ (List.getElem_mem h1)
    omega
end Go.Proofs.Ytpfhnpmcfjfmiaa
