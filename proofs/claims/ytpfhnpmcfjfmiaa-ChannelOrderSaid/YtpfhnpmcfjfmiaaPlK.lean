/- Plain: puts each followed by a get lose nothing. -/
import Derived.Test.YtpfhnpmcfjfmiaaV1
namespace Go.Proofs.Ytpfhnpmcfjfmiaa

def keepOps (l : List Int) : List COp := l.flatMap fun z => [(1, 0, [z]), (2, 0, [])]
theorem keep_snoc (l : List Int) (z : Int) : keepOps (l ++ [z]) = keepOps l ++ [(1, 0, [z]), (2, 0, [])] := by unfold keepOps; rw [List.flatMap_append]; rfl
theorem keep_len (l : List Int) : (keepOps l).length = 2 * l.length := by
  induction l with
  | nil => rfl
  | cons z l ih =>
    have : keepOps (z :: l) = (1, 0, [z]) :: (2, 0, []) :: keepOps l := rfl
    rw [this]
    simp only [List.length_cons, ih]
    omega
theorem vld_mk {cap : Int} {Q : List (List Int)} (h1 : 1 ≤ cap) (h2 : cap ≤ 8) (h3 : (Q.length : Int) ≤ cap) (h4 : ∀ q ∈ Q, q.length ≤ 6) : vldC cap Q = true := by
  simp only [vldC, Bool.and_eq_true, decide_eq_true_eq, List.all_eq_true]
  exact ⟨⟨h1, h2, h3⟩, h4⟩
theorem vld_mem {cap : Int} {Q : List (List Int)} (h : vldC cap Q = true) : 1 ≤ cap ∧ cap ≤ 8 ∧ (Q.length : Int) ≤ cap ∧ ∀ q ∈ Q, q.length ≤ 6 := by
  simp only [vldC, Bool.and_eq_true, decide_eq_true_eq, List.all_eq_true] at h
  exact ⟨h.1.1, h.1.2.1, h.1.2.2, h.2⟩
theorem op_put {cap : Int} {Q R : List (List Int)} {n : Nat} {a : Int} {q : List Int} (hv : vldC cap Q = true) (hq : q.length ≤ 6) (hc : (Q.length : Int) ≠ cap) : opQ (cap, Q, R, n) (1, a, q) = (cap, Q ++ [q], R, n) := by
  have e : sendQ cap Q q = (cap, Q ++ [q], true) := by
    unfold sendQ
    rw [if_neg (by rw [hv]; simp), if_neg (by rintro (h | h); exact hc h; omega)]
  unfold opQ
  simp [e]
theorem op_get {cap : Int} {q : List Int} {Q R : List (List Int)} {n : Nat} {a : Int} {x : List Int} (hv : vldC cap (q :: Q) = true) : opQ (cap, q :: Q, R, n) (2, a, x) = (cap, Q, R ++ [q], n) := by
  have e : recvQ cap (q :: Q) = (cap, Q, q, true) := by
    unfold recvQ
    rw [if_neg (by rw [hv]; simp)]
  unfold opQ
  simp [e]
theorem keep_fold {cap : Int} : ∀ (l : List Int) (Q R : List (List Int)), vldC cap Q = true → (Q.length : Int) ≠ cap → (∀ q ∈ R, q.length ≤ 6) →
    ∃ Q' R', (keepOps l).foldl opQ (cap, Q, R, 0) = (cap, Q', R', 0) ∧ R'.length = R.length + l.length ∧ R' ++ Q' = R ++ Q ++ l.map (fun z => [z]) ∧ (Q'.length : Int) ≤ cap ∧ (∀ q ∈ Q', q.length ≤ 6) ∧ ∀ q ∈ R', q.length ≤ 6
  | [], Q, R, hv, hc, hR => ⟨Q, R, rfl, rfl, by simp, (vld_mem hv).2.2.1, (vld_mem hv).2.2.2, hR⟩
  | z :: l, Q, R, hv, hc, hR => by
    obtain ⟨v1, v2, v3, v4⟩ := vld_mem hv
    have hv1 : vldC cap (Q ++ [[z]]) = true := vld_mk v1 v2 (by simp; omega) fun q hq => by
      rcases List.mem_append.1 hq with h | h
      · exact v4 q h
      · rw [List.mem_singleton] at h; subst h; simp
    have e0 : keepOps (z :: l) = (1, 0, [z]) :: (2, 0, []) :: keepOps l := rfl
    rw [e0, List.foldl_cons, List.foldl_cons, op_put hv (by simp) hc]
    obtain ⟨q, Q1, hQ1⟩ : ∃ q Q1, Q ++ [[z]] = q :: Q1 := by
      cases Q with
      | nil => exact ⟨_, _, rfl⟩
      | cons q Q => exact ⟨q, Q ++ [[z]], rfl⟩
    rw [hQ1] at hv1 ⊢
    rw [op_get hv1]
    obtain ⟨w1, w2, w3, w4⟩ := vld_mem hv1
    have hlen : Q1.length = Q.length := by have := congrArg List.length hQ1; simp at this; omega
    obtain ⟨Q', R', h1, h2, h3, h4, h5, h6⟩ := keep_fold l Q1 (R ++ [q]) (vld_mk v1 v2 (by omega) fun x hx => w4 x (List.mem_cons_of_mem _ hx)) (by omega) fun x hx => by
      rcases List.mem_append.1 hx with h | h
      · exact hR x h
      · rw [List.mem_singleton] at h; subst h; exact w4 _ (List.mem_cons_self ..)
    refine ⟨Q', R', h1, by rw [h2]; simp; omega, ?_, h4, h5, h6⟩
    rw [h3]
    have : R ++ [q] ++ Q1 = R ++ (Q ++ [[z]]) := by rw [hQ1]; simp
    rw [this]
    simp
end Go.Proofs.Ytpfhnpmcfjfmiaa
