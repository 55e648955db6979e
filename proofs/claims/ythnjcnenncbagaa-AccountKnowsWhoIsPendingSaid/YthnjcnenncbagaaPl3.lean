/- Plain facts for the runs of law 16: what Add counts along a run is what the definitions of rounds and of pending nodes say. -/
import Derived.Test.YthnjcnenncbagaaPl
namespace Go.Proofs.Ythnjcnenncbagaa.Pl3
open Pl

/-- the counts (rounds, begun, pending) of the first i steps of a run: C the chosen sets, E the enabled ones -/
def acc (C E : List Nat) : Nat → Nat × Nat × Nat
  | 0 => (0, 0, E.getD 0 0)
  | i + 1 =>
    let a := acc C E i
    let p := rest a.2.2 (C.getD i 0) (E.getD (i + 1) 0)
    if p = 0 then (a.1 + 1, a.1 + 1, E.getD (i + 1) 0) else (a.1, a.1 + 1, p)

/-- pending nodes of a round that began before step f, behind step i - 1 (d = i - f steps) -/
def pend (C E : List Nat) (f : Nat) : Nat → Nat
  | 0 => E.getD f 0
  | d + 1 => rest (pend C E f d) (C.getD (f + d) 0) (E.getD (f + d + 1) 0)

/-- the law's own loop: (from, rounds, begun) behind i steps -/
def st (C E : List Nat) : Nat → Nat × Nat × Nat
  | 0 => (0, 0, 0)
  | i + 1 =>
    let a := st C E i
    let b := if i = a.1 then a.2.2 + 1 else a.2.2
    if pend C E a.1 (i + 1 - a.1) = 0 then (i + 1, a.2.1 + 1, b) else (a.1, a.2.1, b)

theorem st_le (C E : List Nat) (i : Nat) : (st C E i).1 ≤ i ∧ (st C E i).2.1 ≤ i ∧ (st C E i).2.2 ≤ i := by
  induction i with
  | zero => simp [st]
  | succ i ih =>
    simp only [st]
    split <;> split <;> simp <;> omega

theorem acc_st (C E : List Nat) (i : Nat) :
    (acc C E i).1 = (st C E i).2.1 ∧ (acc C E i).2.1 = (st C E i).2.2 ∧ (acc C E i).2.2 = pend C E (st C E i).1 (i - (st C E i).1) ∧
      (st C E i).2.2 = (st C E i).2.1 + (if (st C E i).1 < i then 1 else 0) := by
  induction i with
  | zero => simp [acc, st, pend]
  | succ i ih =>
    obtain ⟨h1, h2, h3, h4⟩ := ih
    have hle := (st_le C E i).1
    have hp : pend C E (st C E i).1 (i + 1 - (st C E i).1) = rest (acc C E i).2.2 (C.getD i 0) (E.getD (i + 1) 0) := by
      rw [show i + 1 - (st C E i).1 = (i - (st C E i).1) + 1 from by omega, pend, ← h3, show (st C E i).1 + (i - (st C E i).1) = i from by omega]
    simp only [acc, st, hp]
    by_cases hz : rest (acc C E i).2.2 (C.getD i 0) (E.getD (i + 1) 0) = 0
    · simp only [hz, if_true]
      refine ⟨by rw [h1], ?_, ?_, ?_⟩
      · by_cases hi : i = (st C E i).1
        · rw [if_pos hi, h4, if_neg (by omega), h1]
        · rw [if_neg hi, h4, if_pos (by omega), h1]
      · simp [pend]
      · by_cases hi : i = (st C E i).1
        · rw [if_pos hi, h4, if_neg (by omega)]; simp
        · rw [if_neg hi, h4, if_pos (by omega)]; simp
    · simp only [hz, if_false]
      refine ⟨h1, ?_, hp.symm, ?_⟩
      · by_cases hi : i = (st C E i).1
        · rw [if_pos hi, h4, if_neg (by omega), h1]
        · rw [if_neg hi, h4, if_pos (by omega), h1]
      · rw [if_pos (show (st C E i).1 < i + 1 by omega)]
        by_cases hi : i = (st C E i).1
        · rw [if_pos hi, h4, if_neg (by omega)]
        · rw [if_neg hi, h4, if_pos (by omega)]

theorem getD_snoc (l : List Nat) (x i : Nat) (h : i < l.length) : (l ++ [x]).getD i 0 = l.getD i 0 := by
  rw [List.getD_eq_getElem?_getD, List.getD_eq_getElem?_getD, List.getElem?_append_left h]

/-- more steps behind do not change what was counted before -/
theorem acc_snoc (C E : List Nat) (c e : Nat) (h : E.length = C.length + 1) : ∀ i, i ≤ C.length → acc (C ++ [c]) (E ++ [e]) i = acc C E i := by
  intro i
  induction i with
  | zero => intro _; simp only [acc]; rw [getD_snoc _ _ _ (by omega)]
  | succ i ih =>
    intro hi
    simp only [acc]
    rw [ih (by omega), getD_snoc _ _ _ (by omega), getD_snoc _ _ _ (by omega)]

/-- the served nodes of the law's inner loop -/
def served (C E : List Nat) (f : Nat) : Nat → Nat
  | 0 => 0
  | d + 1 => served C E f d ||| (C.getD (f + d) 0 ||| (4294967295 - E.getD (f + d + 1) 0))

theorem testBit_not (n i : Nat) (hn : n < 4294967296) : (4294967295 - n).testBit i = (decide (i < 32) && !n.testBit i) := by
  have := Nat.testBit_two_pow_sub_succ (n := 32) (x := n) (by simpa using hn) i
  simpa using this
theorem lt32 (n i : Nat) (h : n < 4294967296) (hb : n.testBit i = true) : i < 32 := by
  rcases Nat.lt_or_ge i 32 with h' | h'
  · exact h'
  · rw [Nat.testBit_lt_two_pow (Nat.lt_of_lt_of_le h (Nat.pow_le_pow_right (n := 2) (by decide) h'))] at hb; cases hb
theorem served_lt (C E : List Nat) (hC : ∀ i, C.getD i 0 < 4294967296) (f d : Nat) : served C E f d < 4294967296 := by
  induction d with
  | zero => simp [served]
  | succ d ih =>
    simp only [served]
    exact Nat.or_lt_two_pow (n := 32) ih (Nat.or_lt_two_pow (n := 32) (hC _) (by omega))
theorem pend_served (C E : List Nat) (hC : ∀ i, C.getD i 0 < 4294967296) (hE : ∀ i, E.getD i 0 < 4294967296) (f d : Nat) :
    pend C E f d = E.getD f 0 &&& (4294967295 - served C E f d) := by
  induction d with
  | zero =>
    simp only [pend, served]
    apply Nat.eq_of_testBit_eq
    intro i
    rw [Nat.testBit_and, testBit_not 0 i (by decide)]
    cases hb : (E.getD f 0).testBit i
    · simp
    · have := lt32 _ _ (hE f) hb; simp [this]
  | succ d ih =>
    simp only [pend, served, rest]
    rw [ih]
    apply Nat.eq_of_testBit_eq
    intro i
    have hs := served_lt C E hC f d
    have h1 := hC (f + d)
    have h2 := hE (f + d + 1)
    rw [Nat.testBit_and, Nat.testBit_and, Nat.testBit_and, Nat.testBit_and, testBit_not _ i hs, testBit_not _ i h1,
      testBit_not _ i (Nat.or_lt_two_pow (n := 32) hs (Nat.or_lt_two_pow (n := 32) h1 (by omega))), Nat.testBit_or, Nat.testBit_or, testBit_not _ i h2]
    by_cases hi : i < 32
    · simp only [hi, decide_true, Bool.true_and]
      cases (E.getD f 0).testBit i <;> cases (served C E f d).testBit i <;> cases (C.getD (f + d) 0).testBit i <;> cases (E.getD (f + d + 1) 0).testBit i <;> rfl
    · simp [hi]
/-- pending nodes are enabled -/
theorem pend_sub (C E : List Nat) (hE : ∀ i, E.getD i 0 < 4294967296) (f d : Nat) : pend C E f d &&& (4294967295 - E.getD (f + d) 0) = 0 := by
  apply Nat.eq_of_testBit_eq
  intro i
  rw [Nat.zero_testBit, Nat.testBit_and, testBit_not _ i (hE _)]
  cases d with
  | zero => simp only [pend, Nat.add_zero]; cases (E.getD f 0).testBit i <;> simp
  | succ d =>
    simp only [pend, rest]
    rw [Nat.testBit_and, show f + (d + 1) = f + d + 1 from rfl]
    cases (E.getD (f + d + 1) 0).testBit i <;> simp
end Go.Proofs.Ythnjcnenncbagaa.Pl3
