/- Plain facts on sets of nodes: bits from 24 on. -/
import Derived.Test.YthnjcnenncbagaaPl
namespace Go.Proofs.Ythnjcnenncbagaa.Pl2
theorem or_lt (a b k : Nat) : a ||| b < 2 ^ k ↔ a < 2 ^ k ∧ b < 2 ^ k := by
  constructor
  · intro h
    exact ⟨Nat.lt_of_le_of_lt Nat.left_le_or h, Nat.lt_of_le_of_lt Nat.right_le_or h⟩
  · intro h
    exact Nat.or_lt_two_pow h.1 h.2
theorem or_andNot (ch af : Nat) (hc : ch < 4294967296) (ha : af < 4294967296) :
    bits .andNot .u32 (bits .or .u32 (ch : Int) (af : Int)) 16777215 = (((ch ||| af) / 16777216 * 16777216 : Nat) : Int) := by
  rw [u32_or_nat _ _ hc ha, Pl.andNot24 _ ((or_lt ch af 32).2 ⟨hc, ha⟩)]
theorem or_high (ch af : Nat) (hc : ch < 4294967296) (ha : af < 4294967296) (hx : ¬ (ch < 16777216 ∧ af < 16777216)) :
    (bits .andNot .u32 (bits .or .u32 (ch : Int) (af : Int)) 16777215 != 0) = true := by
  rw [or_andNot ch af hc ha, bne_iff_ne]
  have := or_lt ch af 24
  simp only [Nat.reducePow] at this
  omega
theorem or_low (ch af : Nat) (hc : ch < 16777216) (ha : af < 16777216) :
    (bits .andNot .u32 (bits .or .u32 (ch : Int) (af : Int)) 16777215 != 0) = false := by
  rw [or_andNot ch af (by omega) (by omega)]
  have := (or_lt ch af 24).2 ⟨hc, ha⟩
  simp only [Nat.reducePow] at this
  rw [Nat.div_eq_of_lt this]
  rfl
end Go.Proofs.Ythnjcnenncbagaa.Pl2
