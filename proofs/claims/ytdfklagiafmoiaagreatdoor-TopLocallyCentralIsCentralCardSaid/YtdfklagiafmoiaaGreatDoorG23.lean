/- Lemmas of this seat, laid together out of 3 texts: no statement of the seat is proved here. -/
import Derived.Laws.BitsAllLaws
/- Plain facts on uint32 sets as natural numbers: no program in sight. -/
namespace Go.Proofs.YtdfklagiafmoiaaGreatDoor.Pl

/-- how many of the bits 0 .. k - 1 of n are set -/
def popTo (n : Nat) : Nat → Nat
  | 0 => 0
  | k + 1 => popTo n k + (n.testBit k).toNat
def pop (n : Nat) : Nat := popTo n 32

theorem popTo_le (n k : Nat) : popTo n k ≤ k := by
  induction k with
  | zero => exact Nat.le_refl _
  | succ k ih => simp only [popTo]; have := Bool.toNat_le (n.testBit k); omega
theorem pop_le (n : Nat) : pop n ≤ 32 := popTo_le n 32

theorem popTo_zero (n k : Nat) (h : ∀ i, i < k → n.testBit i = false) : popTo n k = 0 := by
  induction k with
  | zero => rfl
  | succ k ih => simp only [popTo]; rw [ih (fun i hi => h i (by omega)), h k (by omega)]; rfl

theorem popTo_add (n a b : Nat) : popTo n (a + b) = popTo n a + popTo (n >>> a) b := by
  induction b with
  | zero => rfl
  | succ b ih => rw [← Nat.add_assoc]; simp only [popTo]; rw [ih, Nat.testBit_shiftRight]; omega

theorem popTo_congr {n m k : Nat} (h : ∀ i, i < k → n.testBit i = m.testBit i) : popTo n k = popTo m k := by
  induction k with
  | zero => rfl
  | succ k ih => simp only [popTo]; rw [ih (fun i hi => h i (by omega)), h k (by omega)]

theorem popTo_mod (n k : Nat) : popTo (n % 2 ^ k) k = popTo n k :=
  popTo_congr fun i hi => by rw [Nat.testBit_mod_two_pow]; simp [hi]

/-- a set with no bits from 24 on has at most 24 elements -/
theorem pop_le24 (n : Nat) (h : n < 16777216) : pop n ≤ 24 := by
  have e : pop n = popTo n 24 + popTo (n >>> 24) 8 := popTo_add n 24 8
  have : popTo (n >>> 24) 8 = 0 := by
    rw [show n >>> 24 = 0 from by rw [Nat.shiftRight_eq_div_pow]; exact Nat.div_eq_of_lt h]
    exact popTo_zero 0 8 fun i _ => Nat.zero_testBit i
  have := popTo_le n 24
  omega

theorem pop_pos (n : Nat) (h0 : n ≠ 0) (h : n < 4294967296) : 1 ≤ pop n := by
  rcases Nat.eq_zero_or_pos (pop n) with h1 | h1
  · exfalso
    apply h0
    apply Nat.eq_of_testBit_eq
    intro i
    rw [Nat.zero_testBit]
    by_cases hi : i < 32
    · have key : ∀ k, popTo n k = 0 → ∀ i, i < k → n.testBit i = false := by
        intro k
        induction k with
        | zero => intro _ i hi; omega
        | succ k ih =>
          intro hz i hi
          simp only [popTo] at hz
          rcases Nat.lt_or_ge i k with hk | hk
          · exact ih (by omega) i hk
          · obtain rfl : i = k := by omega
            have : (n.testBit i).toNat = 0 := by omega
            cases hb : n.testBit i
            · rfl
            · rw [hb] at this; cases this
      exact key 32 h1 i hi
    · exact Nat.testBit_lt_two_pow (Nat.lt_of_lt_of_le h (Nat.pow_le_pow_right (n := 2) (by decide) (show 32 ≤ i by omega)))
  · exact h1

theorem or_step (k : Nat) (h : k < 24) : bits .or .u32 (2 ^ k - 1) (2 ^ k % 4294967296) = 2 ^ (k + 1) - 1 := by
  have key : ∀ k, k < 24 → bits .or .u32 (2 ^ k - 1) (2 ^ k % 4294967296) = 2 ^ (k + 1) - 1 := by decide +kernel
  exact key k h
theorem has_bit (n k : Nat) (hn : n < 4294967296) : (bits .and .u32 ((n : Int) / 2 ^ k) 1 == 1) = n.testBit k := by
  have e : ((n : Int) / 2 ^ k) = ((n / 2 ^ k : Nat) : Int) := by simp
  have hlt : n / 2 ^ k < 4294967296 := Nat.lt_of_le_of_lt (Nat.div_le_self _ _) hn
  rw [e, show (1 : Int) = ((1 : Nat) : Int) from rfl, u32_and_nat _ 1 hlt (by decide), nat_mask1, Nat.testBit_eq_decide_div_mod_eq]
  rcases Nat.mod_two_eq_zero_or_one (n / 2 ^ k) with h | h <;> rw [h] <;> rfl
theorem and255 (m : Nat) (h : m < 4294967296) : bits .and .u32 (m : Int) 255 = ((m % 256 : Nat) : Int) := by
  rw [show (255 : Int) = ((255 : Nat) : Int) from rfl, u32_and_nat _ 255 h (by decide), nat_mask8]
theorem popTo8 (n a : Nat) : popTo (n / 2 ^ a % 256) 8 = popTo (n >>> a) 8 := by
  rw [Nat.shiftRight_eq_div_pow, show 256 = 2 ^ 8 from rfl, popTo_mod]
theorem pop_parts (n : Nat) : pop n = popTo (n / 16777216 % 256) 8 + popTo (n / 65536 % 256) 8 + popTo (n / 256 % 256) 8 + popTo (n % 256) 8 := by
  have e1 : pop n = popTo n (8 + 8 + 8 + 8) := rfl
  have e2 := popTo8 n 24
  have e3 := popTo8 n 16
  have e4 := popTo8 n 8
  have e5 := popTo8 n 0
  simp only [Nat.reducePow, Nat.div_one, Nat.shiftRight_zero] at e2 e3 e4 e5
  rw [e1, popTo_add, popTo_add, popTo_add, e2, e3, e4, e5]
  simp only [Nat.reduceAdd]
  omega
theorem and_mul_pow (z m k : Nat) : z &&& (m * 2 ^ k) = (z / 2 ^ k &&& m) * 2 ^ k := by
  apply Nat.eq_of_testBit_eq
  intro i
  rw [Nat.testBit_and, Nat.testBit_mul_two_pow, Nat.testBit_mul_two_pow, Nat.testBit_and, Nat.testBit_div_two_pow]
  by_cases h : k ≤ i
  · rw [show i - k + k = i from by omega]; simp [h]
  · simp [h]
theorem andNot24 (z : Nat) (h : z < 4294967296) : bits .andNot .u32 (z : Int) 16777215 = ((z / 16777216 * 16777216 : Nat) : Int) := by
  rw [show (16777215 : Int) = ((16777215 : Nat) : Int) from rfl, u32_andNot_nat _ _ h (by decide)]
  have e := and_mul_pow z 255 24
  rw [show 4294967295 - 16777215 = 255 * 2 ^ 24 from by decide, e, nat_mask8, show 2 ^ 24 = 16777216 from rfl, Nat.mod_eq_of_lt (by omega)]
theorem and24 (z : Nat) (h : z < 4294967296) : bits .and .u32 (z : Int) 16777215 = ((z % 16777216 : Nat) : Int) := by
  rw [show (16777215 : Int) = ((16777215 : Nat) : Int) from rfl, u32_and_nat _ _ h (by decide), nat_mask24]
/-- what makes a count valid -/
def valid (s m r b : Int) (p : Nat) : Bool :=
  decide (0 ≤ r ∧ r ≤ b ∧ b ≤ r + 1 ∧ b ≤ s ∧ s ≤ 4096 ∧ s ≤ m ∧ m ≤ 24 * s ∧ p < 16777216)
theorem valid_true {s m r b : Int} {p : Nat} (h : valid s m r b p = true) : 0 ≤ r ∧ r ≤ b ∧ b ≤ r + 1 ∧ b ≤ s ∧ s ≤ 4096 ∧ s ≤ m ∧ m ≤ 24 * s ∧ p < 16777216 := of_decide_eq_true h
theorem valid_false {s m r b : Int} {p : Nat} (h : valid s m r b p = false) : ¬ (0 ≤ r ∧ r ≤ b ∧ b ≤ r + 1 ∧ b ≤ s ∧ s ≤ 4096 ∧ s ≤ m ∧ m ≤ 24 * s ∧ p < 16777216) := of_decide_eq_false h
/-- what is left pending behind a step -/
def rest (p ch af : Nat) : Nat := (p &&& (4294967295 - ch)) &&& af
theorem rest_eq (p ch af : Nat) (hp : p < 4294967296) (hc : ch < 4294967296) (ha : af < 4294967296) :
    bits .and .u32 (bits .andNot .u32 (p : Int) (ch : Int)) (af : Int) = (rest p ch af : Int) := by
  rw [u32_andNot_nat _ _ hp hc, u32_and_nat _ _ (Nat.lt_of_le_of_lt Nat.and_le_left hp) ha]; rfl
theorem rest_le (p ch af : Nat) : rest p ch af ≤ af := Nat.and_le_right
end Go.Proofs.YtdfklagiafmoiaaGreatDoor.Pl

/- Plain facts for the runs of law 16: what Add counts along a run is what the definitions of rounds and of pending nodes say. -/
namespace Go.Proofs.YtdfklagiafmoiaaGreatDoor.Pl3
open Pl

/-- the counts (rounds, begun, pending) of the first i steps of a run: C the chosen sets, E the enabled ones -/
def acc (C E : List Nat) : Nat → Nat × Nat × Nat
  | 0 => (0, 0, E.getD 0 0)
  | i + 1 =>
    let a := acc C E i
    let p := rest a.2.2 (C.getD i 0) (E.getD (i + 1) 0)
    if p = 0 then (a.1 + 1, a.1 + 1, E.getD (i + 1) 0) else (a.1, a.1 + 1, p)

/-- pending nodes of a round that began before step f, behind step i - 1 (d = i - f steps) -/
def pend (C E : List Nat) (f : Nat) : Nat → Nat
  | 0 => E.getD f 0
  | d + 1 => rest (pend C E f d) (C.getD (f + d) 0) (E.getD (f + d + 1) 0)

/-- the law's own loop: (from, rounds, begun) behind i steps -/
def st (C E : List Nat) : Nat → Nat × Nat × Nat
  | 0 => (0, 0, 0)
  | i + 1 =>
    let a := st C E i
    let b := if i = a.1 then a.2.2 + 1 else a.2.2
    if pend C E a.1 (i + 1 - a.1) = 0 then (i + 1, a.2.1 + 1, b) else (a.1, a.2.1, b)

theorem st_le (C E : List Nat) (i : Nat) : (st C E i).1 ≤ i ∧ (st C E i).2.1 ≤ i ∧ (st C E i).2.2 ≤ i := by
  induction i with
  | zero => simp [st]
  | succ i ih =>
    simp only [st]
    split <;> split <;> simp <;> omega

theorem acc_st (C E : List Nat) (i : Nat) :
    (acc C E i).1 = (st C E i).2.1 ∧ (acc C E i).2.1 = (st C E i).2.2 ∧ (acc C E i).2.2 = pend C E (st C E i).1 (i - (st C E i).1) ∧
      (st C E i).2.2 = (st C E i).2.1 + (if (st C E i).1 < i then 1 else 0) := by
  induction i with
  | zero => simp [acc, st, pend]
  | succ i ih =>
    obtain ⟨h1, h2, h3, h4⟩ := ih
    have hle := (st_le C E i).1
    have hp : pend C E (st C E i).1 (i + 1 - (st C E i).1) = rest (acc C E i).2.2 (C.getD i 0) (E.getD (i + 1) 0) := by
      rw [show i + 1 - (st C E i).1 = (i - (st C E i).1) + 1 from by omega, pend, ← h3, show (st C E i).1 + (i - (st C E i).1) = i from by omega]
    simp only [acc, st, hp]
    by_cases hz : rest (acc C E i).2.2 (C.getD i 0) (E.getD (i + 1) 0) = 0
    · simp only [hz, if_true]
      refine ⟨by rw [h1], ?_, ?_, ?_⟩
      · by_cases hi : i = (st C E i).1
        · rw [if_pos hi, h4, if_neg (by omega), h1]
        · rw [if_neg hi, h4, if_pos (by omega), h1]
      · simp [pend]
      · by_cases hi : i = (st C E i).1
        · rw [if_pos hi, h4, if_neg (by omega)]; simp
        · rw [if_neg hi, h4, if_pos (by omega)]; simp
    · simp only [hz, if_false]
      refine ⟨h1, ?_, hp.symm, ?_⟩
      · by_cases hi : i = (st C E i).1
        · rw [if_pos hi, h4, if_neg (by omega), h1]
        · rw [if_neg hi, h4, if_pos (by omega), h1]
      · rw [if_pos (show (st C E i).1 < i + 1 by omega)]
        by_cases hi : i = (st C E i).1
        · rw [if_pos hi, h4, if_neg (by omega)]
        · rw [if_neg hi, h4, if_pos (by omega)]

theorem getD_snoc (l : List Nat) (x i : Nat) (h : i < l.length) : (l ++ [x]).getD i 0 = l.getD i 0 := by
  rw [List.getD_eq_getElem?_getD, List.getD_eq_getElem?_getD, List.getElem?_append_left h]

/-- more steps behind do not change what was counted before -/
theorem acc_snoc (C E : List Nat) (c e : Nat) (h : E.length = C.length + 1) : ∀ i, i ≤ C.length → acc (C ++ [c]) (E ++ [e]) i = acc C E i := by
  intro i
  induction i with
  | zero => intro _; simp only [acc]; rw [getD_snoc _ _ _ (by omega)]
  | succ i ih =>
    intro hi
    simp only [acc]
    rw [ih (by omega), getD_snoc _ _ _ (by omega), getD_snoc _ _ _ (by omega)]

/-- the served nodes of the law's inner loop -/
def served (C E : List Nat) (f : Nat) : Nat → Nat
  | 0 => 0
  | d + 1 => served C E f d ||| (C.getD (f + d) 0 ||| (4294967295 - E.getD (f + d + 1) 0))

theorem testBit_not (n i : Nat) (hn : n < 4294967296) : (4294967295 - n).testBit i = (decide (i < 32) && !n.testBit i) := by
  have := Nat.testBit_two_pow_sub_succ (n := 32) (x := n) (by simpa using hn) i
  simpa using this
theorem lt32 (n i : Nat) (h : n < 4294967296) (hb : n.testBit i = true) : i < 32 := by
  rcases Nat.lt_or_ge i 32 with h' | h'
  · exact h'
  · rw [Nat.testBit_lt_two_pow (Nat.lt_of_lt_of_le h (Nat.pow_le_pow_right (n := 2) (by decide) h'))] at hb; cases hb
theorem served_lt (C E : List Nat) (hC : ∀ i, C.getD i 0 < 4294967296) (f d : Nat) : served C E f d < 4294967296 := by
  induction d with
  | zero => simp [served]
  | succ d ih =>
    simp only [served]
    exact Nat.or_lt_two_pow (n := 32) ih (Nat.or_lt_two_pow (n := 32) (hC _) (by omega))
theorem pend_served (C E : List Nat) (hC : ∀ i, C.getD i 0 < 4294967296) (hE : ∀ i, E.getD i 0 < 4294967296) (f d : Nat) :
    pend C E f d = E.getD f 0 &&& (4294967295 - served C E f d) := by
  induction d with
  | zero =>
    simp only [pend, served]
    apply Nat.eq_of_testBit_eq
    intro i
    rw [Nat.testBit_and, testBit_not 0 i (by decide)]
    cases hb : (E.getD f 0).testBit i
    · simp
    · have := lt32 _ _ (hE f) hb; simp [this]
  | succ d ih =>
    simp only [pend, served, rest]
    rw [ih]
    apply Nat.eq_of_testBit_eq
    intro i
    have hs := served_lt C E hC f d
    have h1 := hC (f + d)
    have h2 := hE (f + d + 1)
    rw [Nat.testBit_and, Nat.testBit_and, Nat.testBit_and, Nat.testBit_and, testBit_not _ i hs, testBit_not _ i h1,
      testBit_not _ i (Nat.or_lt_two_pow (n := 32) hs (Nat.or_lt_two_pow (n := 32) h1 (by omega))), Nat.testBit_or, Nat.testBit_or, testBit_not _ i h2]
    by_cases hi : i < 32
    · simp only [hi, decide_true, Bool.true_and]
      cases (E.getD f 0).testBit i <;> cases (served C E f d).testBit i <;> cases (C.getD (f + d) 0).testBit i <;> cases (E.getD (f + d + 1) 0).testBit i <;> rfl
    · simp [hi]
/-- pending nodes are enabled -/
theorem pend_sub (C E : List Nat) (hE : ∀ i, E.getD i 0 < 4294967296) (f d : Nat) : pend C E f d &&& (4294967295 - E.getD (f + d) 0) = 0 := by
  apply Nat.eq_of_testBit_eq
  intro i
  rw [Nat.zero_testBit, Nat.testBit_and, testBit_not _ i (hE _)]
  cases d with
  | zero => simp only [pend, Nat.add_zero]; cases (E.getD f 0).testBit i <;> simp
  | succ d =>
    simp only [pend, rest]
    rw [Nat.testBit_and, show f + (d + 1) = f + d + 1 from rfl]
    cases (E.getD (f + d + 1) 0).testBit i <;> simp
end Go.Proofs.YtdfklagiafmoiaaGreatDoor.Pl3

/- Plain facts for the runs of law 16: bounds along a run, one step of it. -/
namespace Go.Proofs.YtdfklagiafmoiaaGreatDoor.Pl4
open Pl Pl3

theorem acc_bounds (C E : List Nat) (hE : ∀ i, E.getD i 0 < 16777216) (i : Nat) :
    (acc C E i).1 ≤ (acc C E i).2.1 ∧ (acc C E i).2.1 ≤ (acc C E i).1 + 1 ∧ (acc C E i).2.1 ≤ i ∧ (acc C E i).2.2 < 16777216 := by
  induction i with
  | zero => simpa [acc] using hE 0
  | succ i ih =>
    obtain ⟨h1, h2, h3, h4⟩ := ih
    simp only [acc]
    split
    · exact ⟨Nat.le_refl _, Nat.le_succ _, by dsimp only; omega, hE _⟩
    · exact ⟨Nat.le_succ _, Nat.le_refl _, by dsimp only; omega, Nat.lt_of_le_of_lt (rest_le _ _ _) (hE _)⟩

theorem getD_last (l : List Nat) (x : Nat) : (l ++ [x]).getD l.length 0 = x := by
  rw [List.getD_eq_getElem?_getD, List.getElem?_append_right (Nat.le_refl _)]
  simp
theorem getD_snoc_lt (l : List Nat) (x b : Nat) (h : ∀ i, l.getD i 0 < b) (hx : x < b) : ∀ i, (l ++ [x]).getD i 0 < b := by
  intro i
  rcases Nat.lt_trichotomy i l.length with hi | hi | hi
  · rw [getD_snoc l x i hi]; exact h i
  · subst hi; rw [getD_last]; exact hx
  · rw [List.getD_eq_getElem?_getD, List.getElem?_eq_none (by simp; omega)]
    have := h 0
    simp; omega

theorem acc_succ (C E : List Nat) (c e : Nat) (h : E.length = C.length + 1) :
    acc (C ++ [c]) (E ++ [e]) (C.length + 1) =
      (if rest (acc C E C.length).2.2 c e = 0 then ((acc C E C.length).1 + 1, (acc C E C.length).1 + 1, e) else ((acc C E C.length).1, (acc C E C.length).1 + 1, rest (acc C E C.length).2.2 c e)) := by
  simp only [acc]
  rw [acc_snoc C E c e h C.length (Nat.le_refl _), getD_last, ← h, getD_last]
end Go.Proofs.YtdfklagiafmoiaaGreatDoor.Pl4
