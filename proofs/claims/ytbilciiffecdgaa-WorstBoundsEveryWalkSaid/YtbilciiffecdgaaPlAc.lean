/- Plain: an execution by any choices, and the account of it. -/
import Derived.Test.YtbilciiffecdgaaPlA
import Derived.Test.YtbilciiffecdgaaE2
import Derived.Test.YtbilciiffecdgaaPlJ
namespace Go.Proofs.Ytbilciiffecdgaa
open PlS PlG

theorem ok_en {E : List Nat} {L : List (List (Nat × Int))} (h : spaceOk E L = true) (k : Nat) : E.getD k 0 < 16777216 := by
  by_cases hk : k < E.length
  · obtain ⟨_, _, h3, _⟩ := ok_parts h
    simp only [spaceOk, Bool.and_eq_true, decide_eq_true_eq] at h
    have h4 := allOk_at _ _ E L h3 h.2 k hk
    simp only [stateOk, Bool.and_eq_true, decide_eq_true_eq] at h4
    rw [getD_l 0 hk]
    exact h4.1.1
  · rw [List.getD_eq_getElem?_getD, List.getElem?_eq_none (by omega)]; exact (by decide : 0 < 16777216)
theorem sub_24 {x e : Nat} (hx : x < 4294967296) (he : e < 16777216) (h : x &&& (4294967295 - e) = 0) : x < 16777216 := by
  apply Nat.lt_pow_two_of_testBit (n := 24) x
  intro i hi
  by_cases h32 : i < 32
  · have h1 : (x &&& (4294967295 - e)).testBit i = false := by rw [h]; exact Nat.zero_testBit i
    rw [Nat.testBit_and, show 4294967295 - e = 2 ^ 32 - (e + 1) by omega, Nat.testBit_two_pow_sub_succ (by omega)] at h1
    have h2 : e.testBit i = false := Nat.testBit_lt_two_pow (Nat.lt_of_lt_of_le he (Nat.pow_le_pow_right (n := 2) (by decide) hi))
    rw [h2] at h1
    simpa [h32] using h1
  · exact Nat.testBit_lt_two_pow (Nat.lt_of_lt_of_le hx (Nat.pow_le_pow_right (n := 2) (by decide) (show 32 ≤ i by omega)))
theorem ok_arc {E : List Nat} {L : List (List (Nat × Int))} (h : spaceOk E L = true) (hL : WfL L) {k : Nat} {a : Nat × Int} (ha : a ∈ L.getD k []) : 0 < a.1 ∧ a.1 < 16777216 ∧ a.2.toNat < E.length := by
  by_cases hk : k < L.length
  · rw [getD_l [] hk] at ha
    obtain ⟨j, hj, e⟩ := List.getElem_of_mem ha
    have h1 := (ok_row h k hk).1 a ha
    have h2 := (hL k hk).2 j hj
    rw [e] at h2
    have h3 := (ok_parts h).2.2.2 k hk a ha
    exact ⟨h1.1, sub_24 h2 (ok_en h k) h1.2, by omega⟩
  · rw [List.getD_eq_getElem?_getD, List.getElem?_eq_none (by omega)] at ha
    cases ha
/-- the account of an execution from k0 that has come to q -/
structure Acc (n : Nat) (S : Nat → Bool) (f1 f2 : Nat → Nat) (R : Nat × Nat → Nat) (z : Nat) (k0 q s m r b p : Nat) : Prop where
  lt : q < n
  st : s + f1 q ≤ f1 k0
  mv : m + f2 q ≤ f2 k0
  bz : b ≤ z
  rd : S q = false → r + R (q, p) ≤ z
  rb : r ≤ b
  br : b ≤ r + 1
  bs : b ≤ s
  sm : s ≤ m
  ms : m ≤ 24 * s
  pl : p < 16777216
section
variable {n : Nat} {E : List Nat} {L : List (List Arc)} {S : Nat → Bool} {f1 f2 : Nat → Nat} {R : Nat × Nat → Nat} {k0 q s m r b p : Nat}
theorem Acc.start (hk : k0 < n) (he : ∀ k, E.getD k 0 < 16777216) : Acc n S f1 f2 R (rnd E S R k0) k0 k0 0 0 0 0 (E.getD k0 0) :=
  ⟨hk, by omega, by omega, Nat.zero_le _, fun hs => by unfold rnd; rw [if_neg (by rw [hs]; simp)]; omega, Nat.le_refl _, by omega, Nat.le_refl _, Nat.le_refl _, by omega, he k0⟩
theorem Acc.next {z : Nat} (h : Acc n S f1 f2 R z k0 q s m r b p) (h1 : PlL.IsVal n L S cOne f1) (h2 : PlL.IsVal n L S cPop f2) (h3 : PlL.IsRd n E L S R) (hs : S q = false) {a : Arc} (ha : a ∈ L.getD q []) (hp1 : 1 ≤ Pl.pop a.1) (hp24 : Pl.pop a.1 ≤ 24) (ht : a.2.toNat < n) (he : ∀ k, E.getD k 0 < 16777216) :
    Acc n S f1 f2 R z k0 a.2.toNat (s + 1) (m + Pl.pop a.1) (r + if PlL.lft E p a = 0 then 1 else 0) (r + 1) (PlL.aft E p a) := by
  have q1 := PlL.mx_mem (c := cOne) (f := f1) ha
  have q2 := PlL.mx_mem (c := cPop) (f := f2) ha
  rw [← (h1 q h.lt).2 hs] at q1
  rw [← (h2 q h.lt).2 hs] at q2
  unfold cOne at q1
  unfold cPop at q2
  have hr := h.rd hs
  have hpos := h3.pos h.lt hs p
  have hst := h.st
  have hmv := h.mv
  have hrb := h.rb
  have hbr := h.br
  have hbs := h.bs
  have hsm := h.sm
  have hms := h.ms
  refine ⟨ht, by omega, by omega, by omega, fun hst2 => ?_, ?_, ?_, by omega, by omega, by omega, ?_⟩
  · have hm := PlL.mrf_mem (E := E) (S := S) (R := R) (P := p) 1 ha hst2
    have e := h3 q h.lt hs p
    unfold PlL.mr at e
    rw [← e] at hm
    unfold PlL.rst at hm
    omega
  · split <;> omega
  · split <;> omega
  · unfold PlL.aft
    split
    · exact he _
    · unfold PlL.lft; exact Nat.lt_of_le_of_lt (Pl.rest_le _ _ _) (he _)
end
end Go.Proofs.Ytbilciiffecdgaa
