/- The lowest element of a set. -/
import Derived.Test.YtdfklagiafmoiaaGreatDoorG23
import Derived.Test.YtdfklagiafmoiaaGreatDoorG03
namespace Go.Proofs.YtdfklagiafmoiaaGreatDoor
open Go.RowKit

theorem odd_part : ∀ (f n : Nat), n ≤ f → 0 < n → ∃ k m, n = 2 ^ k * (2 * m + 1)
  | 0, n, h, h0 => by omega
  | f + 1, n, h, h0 => by
    rcases Nat.mod_two_eq_zero_or_one n with h2 | h2
    · obtain ⟨k, m, e⟩ := odd_part f (n / 2) (by omega) (by omega)
      refine ⟨k + 1, m, ?_⟩
      have : n = 2 * (n / 2) := by omega
      rw [this, e, Nat.pow_succ]
      rw [Nat.mul_comm (2 ^ k) 2, Nat.mul_assoc]
    · exact ⟨0, n / 2, by omega⟩
/-- the lowest element -/
def tz (n : Nat) : Nat := ((List.range 32).find? fun i => n.testBit i).getD 32
structure Low (n k : Nat) : Prop where
  lt : k < 32
  at_ : n.testBit k = true
  below : ∀ i, i < k → n.testBit i = false
  pred : ∀ i, (n - 1).testBit i = if i < k then true else if i = k then false else n.testBit i
theorem low_of {n : Nat} (h0 : 0 < n) (h : n < 4294967296) : Low n (tz n) := by
  obtain ⟨k, m, e⟩ := odd_part n n (Nat.le_refl _) h0
  have hp : 0 < 2 ^ k := Nat.two_pow_pos k
  have hk : k < 32 := by
    rcases Nat.lt_or_ge k 32 with h1 | h1
    · exact h1
    · have h2 : 2 ^ 32 ≤ 2 ^ k := Nat.pow_le_pow_right (by decide) h1
      have h3 : 2 ^ k * 1 ≤ 2 ^ k * (2 * m + 1) := Nat.mul_le_mul_left _ (by omega)
      rw [Nat.mul_one] at h3
      have h4 : (2 : Nat) ^ 32 = 4294967296 := by decide
      omega
  have b1 : ∀ i, n.testBit i = if i < k then false else (2 * m + 1).testBit (i - k) := by
    intro i
    have := Nat.testBit_two_pow_mul_add (2 * m + 1) hp i
    rw [Nat.add_zero, ← e] at this
    rw [this]
    split <;> simp
  have b2 : ∀ i, (n - 1).testBit i = if i < k then true else (2 * m).testBit (i - k) := by
    intro i
    have e2 : n - 1 = 2 ^ k * (2 * m) + (2 ^ k - 1) := by rw [e, Nat.mul_add, Nat.mul_one]; omega
    have := Nat.testBit_two_pow_mul_add (2 * m) (show 2 ^ k - 1 < 2 ^ k by omega) i
    rw [← e2] at this
    rw [this]
    split
    · rename_i hi; rw [Nat.testBit_two_pow_sub_one]; simp [hi]
    · rfl
  have hat : n.testBit k = true := by rw [b1, if_neg (Nat.lt_irrefl _), Nat.sub_self]; simp
  have hbe : ∀ i, i < k → n.testBit i = false := fun i hi => by rw [b1, if_pos hi]
  have etz : tz n = k := by
    unfold tz
    have : (List.range 32).find? (fun i => n.testBit i) = some k := by
      rw [List.find?_eq_some_iff_getElem]
      refine ⟨hat, k, by simpa using hk, by simp, fun j hj => ?_⟩
      simp [hbe j hj]
    rw [this]; rfl
  rw [etz]
  refine ⟨hk, hat, hbe, fun i => ?_⟩
  rw [b2]
  by_cases h1 : i < k
  · rw [if_pos h1, if_pos h1]
  · rw [if_neg h1, if_neg h1]
    by_cases h2 : i = k
    · subst h2; rw [if_pos rfl, Nat.sub_self]; simp
    · rw [if_neg h2, b1, if_neg h1]
      obtain ⟨j, hj⟩ : ∃ j, i - k = j + 1 := ⟨i - k - 1, by omega⟩
      rw [hj, Nat.testBit_succ, Nat.testBit_succ]
      congr 1
      omega
theorem low_and {n : Nat} (h0 : 0 < n) (h : n < 4294967296) : n &&& (4294967296 - n) = 2 ^ tz n := by
  have hl := low_of h0 h
  apply Nat.eq_of_testBit_eq
  intro i
  have e : 4294967296 - n = 2 ^ 32 - ((n - 1) + 1) := by omega
  rw [Nat.testBit_and, e, Nat.testBit_two_pow_sub_succ (by omega), hl.pred, Nat.testBit_two_pow]
  by_cases h1 : i < tz n
  · have := hl.below i h1
    simp [h1, this]
    omega
  · by_cases h2 : i = tz n
    · subst h2
      simp [hl.at_, hl.lt]
    · have h3 : ¬ tz n = i := fun e => h2 e.symm
      simp [h1, h2, h3]
      intro a _; exact a
theorem low_bits {n : Nat} (h0 : 0 < n) (h : n < 4294967296) : bits .and .u32 (n : Int) (-(n : Int) % 4294967296) = ((2 ^ tz n : Nat) : Int) := by
  have e : -(n : Int) % 4294967296 = ((4294967296 - n : Nat) : Int) := by omega
  rw [e, u32_and_nat _ _ h (by omega), low_and h0 h]
/-- .. taken out -/
def drop1 (n : Nat) : Nat := n &&& (n - 1)
theorem drop1_bit {n : Nat} (h0 : 0 < n) (h : n < 4294967296) (i : Nat) : (drop1 n).testBit i = (n.testBit i && decide (i ≠ tz n)) := by
  have hl := low_of h0 h
  unfold drop1
  rw [Nat.testBit_and, hl.pred]
  by_cases h1 : i < tz n
  · simp [hl.below i h1]
  · by_cases h2 : i = tz n
    · subst h2; simp
    · simp [h1, h2]
theorem drop1_bits {n : Nat} (h0 : 0 < n) (h : n < 4294967296) : bits .and .u32 (n : Int) (((n : Int) - 1) % 4294967296) = ((drop1 n : Nat) : Int) := by
  have e : ((n : Int) - 1) % 4294967296 = ((n - 1 : Nat) : Int) := by omega
  rw [e, u32_and_nat _ _ h (by omega)]; rfl
theorem drop1_lt {n : Nat} (h : n < 4294967296) : drop1 n < 4294967296 := Nat.lt_of_le_of_lt Nat.and_le_left h
/-- the table of Go's library -/
def tzT : List Nat := [0, 1, 28, 2, 29, 14, 24, 3, 30, 22, 20, 15, 25, 17, 4, 8, 31, 27, 13, 23, 21, 19, 16, 7, 26, 12, 18, 6, 11, 5, 10, 9]
theorem tzT_at {k : Nat} (h : k < 32) : tzT.getD (2 ^ k * 125613361 % 4294967296 / 134217728) 0 = k ∧ 2 ^ k * 125613361 % 4294967296 / 134217728 < 32 := by
  have key : ∀ k, k < 32 → tzT.getD (2 ^ k * 125613361 % 4294967296 / 134217728) 0 = k ∧ 2 ^ k * 125613361 % 4294967296 / 134217728 < 32 := by decide +kernel
  exact key k h
def TzAt (w : World) : Prop := 0 < w.heap.size ∧ ∀ i, i < 32 → w.cell? ⟨0, i, none⟩ = some (.int .u8 (tzT.getD i 0 : Nat))
theorem TzAt.below {w w' : World} {B : Nat} (h : TzAt w) (hb : Below B w w') (hB : 0 < B) : TzAt w' := ⟨Nat.lt_of_lt_of_le h.1 hb.size, fun i hi => (hb.cell (p := ⟨0, i, none⟩) hB).trans (h.2 i hi)⟩
theorem tz_ix {k : Nat} (h : k < 32) : ∃ ix : Nat, ix < 32 ∧ tzT.getD ix 0 = k ∧ ((2 ^ k : Nat) : Int) * 125613361 % 4294967296 / 134217728 = (ix : Int) := by
  obtain ⟨t1, t2⟩ := tzT_at h
  exact ⟨_, t2, t1, by simp⟩
theorem tz_arg {n : Nat} (h0 : 0 < n) (h : n < 4294967296) (w : World) (ht : TzAt w) : ∃ q ix : Nat, bits .and .u32 (n : Int) (-(n : Int) % 4294967296) = (q : Int) ∧ (q : Int) * 125613361 % 4294967296 / 134217728 = (ix : Int) ∧ ix < 32 ∧ w.cell? ⟨0, ix, none⟩ = some (.int .u8 (tz n : Nat)) := by
  obtain ⟨ix, h1, h2, h3⟩ := tz_ix (low_of h0 h).lt
  refine ⟨2 ^ tz n, ix, low_bits h0 h, h3, h1, ?_⟩
  rw [ht.2 ix h1, h2]
set_option maxRecDepth 100000 in
set_option maxHeartbeats 4000000 in
theorem tz_p (n : Nat) (h0 : 0 < n) (h : n < 4294967296) (w : World) (ht : TzAt w) : Calls Tryz.prog 114 #[.int .u32 (n : Int)] w fun e w' => e = .returned (.int .i64 (tz n : Int)) ∧ w = w' := by
  obtain ⟨q, ix, e1, e3, i1', c⟩ := tz_arg h0 h w ht
  have hl := (low_of h0 h).lt
  have e0 : ((n : Int) == 0) = false := beq_eq_false_iff_ne.2 (by omega)
  generalize tz n = k at *
  have w1 := IntWalk.i64_in (k : Int) (by omega)
  have i0 : (0 : Int) ≤ (ix : Int) := by omega
  have i1 : (ix : Int) < 32 := by omega
  clear ht h0 h
  go_enter Tryz.func114, Tryz.ntmps114
  go_wp2
  go_ret
  exact ⟨rfl, rfl⟩
end Go.Proofs.YtdfklagiafmoiaaGreatDoor
