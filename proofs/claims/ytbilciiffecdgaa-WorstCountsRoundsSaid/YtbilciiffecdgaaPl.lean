/- Plain facts on uint32 sets as natural numbers: no program in sight. -/
import Derived.Laws.BitsAllLaws
namespace Go.Proofs.Ytbilciiffecdgaa.Pl

/-- how many of the bits 0 .. k - 1 of n are set -/
def popTo (n : Nat) : Nat → Nat
  | 0 => 0
  | k + 1 => popTo n k + (n.testBit k).toNat
def pop (n : Nat) : Nat := popTo n 32

theorem popTo_le (n k : Nat) : popTo n k ≤ k := by
  induction k with
  | zero => exact Nat.le_refl _
  | succ k ih => simp only [popTo]; have := Bool.toNat_le (n.testBit k); omega
theorem pop_le (n : Nat) : pop n ≤ 32 := popTo_le n 32

theorem popTo_zero (n k : Nat) (h : ∀ i, i < k → n.testBit i = false) : popTo n k = 0 := by
  induction k with
  | zero => rfl
  | succ k ih => simp only [popTo]; rw [ih (fun i hi => h i (by omega)), h k (by omega)]; rfl

theorem popTo_add (n a b : Nat) : popTo n (a + b) = popTo n a + popTo (n >>> a) b := by
  induction b with
  | zero => rfl
  | succ b ih => rw [← Nat.add_assoc]; simp only [popTo]; rw [ih, Nat.testBit_shiftRight]; omega

theorem popTo_congr {n m k : Nat} (h : ∀ i, i < k → n.testBit i = m.testBit i) : popTo n k = popTo m k := by
  induction k with
  | zero => rfl
  | succ k ih => simp only [popTo]; rw [ih (fun i hi => h i (by omega)), h k (by omega)]

theorem popTo_mod (n k : Nat) : popTo (n % 2 ^ k) k = popTo n k :=
  popTo_congr fun i hi => by rw [Nat.testBit_mod_two_pow]; simp [hi]

/-- a set with no bits from 24 on has at most 24 elements -/
theorem pop_le24 (n : Nat) (h : n < 16777216) : pop n ≤ 24 := by
  have e : pop n = popTo n 24 + popTo (n >>> 24) 8 := popTo_add n 24 8
  have : popTo (n >>> 24) 8 = 0 := by
    rw [show n >>> 24 = 0 from by rw [Nat.shiftRight_eq_div_pow]; exact Nat.div_eq_of_lt h]
    exact popTo_zero 0 8 fun i _ => Nat.zero_testBit i
  have := popTo_le n 24
  omega

theorem pop_pos (n : Nat) (h0 : n ≠ 0) (h : n < 4294967296) : 1 ≤ pop n := by
  rcases Nat.eq_zero_or_pos (pop n) with h1 | h1
  · exfalso
    apply h0
    apply Nat.eq_of_testBit_eq
    intro i
    rw [Nat.zero_testBit]
    by_cases hi : i < 32
    · have key : ∀ k, popTo n k = 0 → ∀ i, i < k → n.testBit i = false := by
        intro k
        induction k with
        | zero => intro _ i hi; omega
        | succ k ih =>
          intro hz i hi
          simp only [popTo] at hz
          rcases Nat.lt_or_ge i k with hk | hk
          · exact ih (by omega) i hk
          · obtain rfl : i = k := by omega
            have : (n.testBit i).toNat = 0 := by omega
            cases hb : n.testBit i
            · rfl
            · rw [hb] at this; cases this
      exact key 32 h1 i hi
    · exact Nat.testBit_lt_two_pow (Nat.lt_of_lt_of_le h (Nat.pow_le_pow_right (n := 2) (by decide) (show 32 ≤ i by omega)))
  · exact h1

theorem or_step (k : Nat) (h : k < 24) : bits .or .u32 (2 ^ k - 1) (2 ^ k % 4294967296) = 2 ^ (k + 1) - 1 := by
  have key : ∀ k, k < 24 → bits .or .u32 (2 ^ k - 1) (2 ^ k % 4294967296) = 2 ^ (k + 1) - 1 := by decide +kernel
  exact key k h
theorem has_bit (n k : Nat) (hn : n < 4294967296) : (bits .and .u32 ((n : Int) / 2 ^ k) 1 == 1) = n.testBit k := by
  have e : ((n : Int) / 2 ^ k) = ((n / 2 ^ k : Nat) : Int) := by simp
  have hlt : n / 2 ^ k < 4294967296 := Nat.lt_of_le_of_lt (Nat.div_le_self _ _) hn
  rw [e, show (1 : Int) = ((1 : Nat) : Int) from rfl, u32_and_nat _ 1 hlt (by decide), nat_mask1, Nat.testBit_eq_decide_div_mod_eq]
  rcases Nat.mod_two_eq_zero_or_one (n / 2 ^ k) with h | h <;> rw [h] <;> rfl
theorem and255 (m : Nat) (h : m < 4294967296) : bits .and .u32 (m : Int) 255 = ((m % 256 : Nat) : Int) := by
  rw [show (255 : Int) = ((255 : Nat) : Int) from rfl, u32_and_nat _ 255 h (by decide), nat_mask8]
theorem popTo8 (n a : Nat) : popTo (n / 2 ^ a % 256) 8 = popTo (n >>> a) 8 := by
  rw [Nat.shiftRight_eq_div_pow, show 256 = 2 ^ 8 from rfl, popTo_mod]
theorem pop_parts (n : Nat) : pop n = popTo (n / 16777216 % 256) 8 + popTo (n / 65536 % 256) 8 + popTo (n / 256 % 256) 8 + popTo (n % 256) 8 := by
  have e1 : pop n = popTo n (8 + 8 + 8 + 8) := rfl
  have e2 := popTo8 n 24
  have e3 := popTo8 n 16
  have e4 := popTo8 n 8
  have e5 := popTo8 n 0
  simp only [Nat.reducePow, Nat.div_one, Nat.shiftRight_zero] at e2 e3 e4 e5
  rw [e1, popTo_add, popTo_add, popTo_add, e2, e3, e4, e5]
  simp only [Nat.reduceAdd]
  omega
theorem and_mul_pow (z m k : Nat) : z &&& (m * 2 ^ k) = (z / 2 ^ k &&& m) * 2 ^ k := by
  apply Nat.eq_of_testBit_eq
  intro i
  rw [Nat.testBit_and, Nat.testBit_mul_two_pow, Nat.testBit_mul_two_pow, Nat.testBit_and, Nat.testBit_div_two_pow]
  by_cases h : k ≤ i
  · rw [show i - k + k = i from by omega]; simp [h]
  · simp [h]
theorem andNot24 (z : Nat) (h : z < 4294967296) : bits .andNot .u32 (z : Int) 16777215 = ((z / 16777216 * 16777216 : Nat) : Int) := by
  rw [show (16777215 : Int) = ((16777215 : Nat) : Int) from rfl, u32_andNot_nat _ _ h (by decide)]
  have e := and_mul_pow z 255 24
  rw [show 4294967295 - 16777215 = 255 * 2 ^ 24 from by decide, e, nat_mask8, show 2 ^ 24 = 16777216 from rfl, Nat.mod_eq_of_lt (by omega)]
theorem and24 (z : Nat) (h : z < 4294967296) : bits .and .u32 (z : Int) 16777215 = ((z % 16777216 : Nat) : Int) := by
  rw [show (16777215 : Int) = ((16777215 : Nat) : Int) from rfl, u32_and_nat _ _ h (by decide), nat_mask24]
/-- what makes a count valid -/
def valid (s m r b : Int) (p : Nat) : Bool :=
  decide (0 ≤ r ∧ r ≤ b ∧ b ≤ r + 1 ∧ b ≤ s ∧ s ≤ 4096 ∧ s ≤ m ∧ m ≤ 24 * s ∧ p < 16777216)
theorem valid_true {s m r b : Int} {p : Nat} (h : valid s m r b p = true) : 0 ≤ r ∧ r ≤ b ∧ b ≤ r + 1 ∧ b ≤ s ∧ s ≤ 4096 ∧ s ≤ m ∧ m ≤ 24 * s ∧ p < 16777216 := of_decide_eq_true h
theorem valid_false {s m r b : Int} {p : Nat} (h : valid s m r b p = false) : ¬ (0 ≤ r ∧ r ≤ b ∧ b ≤ r + 1 ∧ b ≤ s ∧ s ≤ 4096 ∧ s ≤ m ∧ m ≤ 24 * s ∧ p < 16777216) := of_decide_eq_false h
/-- what is left pending behind a step -/
def rest (p ch af : Nat) : Nat := (p &&& (4294967295 - ch)) &&& af
theorem rest_eq (p ch af : Nat) (hp : p < 4294967296) (hc : ch < 4294967296) (ha : af < 4294967296) :
    bits .and .u32 (bits .andNot .u32 (p : Int) (ch : Int)) (af : Int) = (rest p ch af : Int) := by
  rw [u32_andNot_nat _ _ hp hc, u32_and_nat _ _ (Nat.lt_of_le_of_lt Nat.and_le_left hp) ha]; rfl
theorem rest_le (p ch af : Nat) : rest p ch af ≤ af := Nat.and_le_right
end Go.Proofs.Ytbilciiffecdgaa.Pl
