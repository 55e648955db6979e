/- The functions of account and their references: contracts of possible, Valid, Begin. -/
import Derived.Test.YthnjcnenncbagaaW1
namespace Go.Proofs.Ythnjcnenncbagaa
open Go.RowKit

/-- a count as a value -/
def cnt (s m r b : Int) (p : Nat) : Value := .agg #[.int .i64 s, .int .i64 m, .int .i64 r, .int .i64 b, .int .u32 p]

set_option maxHeartbeats 400000 in
theorem possible_any (b : Nat) (zs : List Nat) (w : World) (hl : zs.length ≤ 2) (hz : ∀ i (h : i < zs.length), zs[i] < 4294967296)
    (hc : ∀ i (h : i < zs.length), w.cell? ⟨b, i, none⟩ = some (.int .u32 zs[i])) :
    Calls Try.prog 18 #[.slice (some ⟨b, 0, none⟩) zs.length zs.length] w fun e w' => e = .returned (.bool (zs.all (· < 16777216))) ∧ w = w' := by
  go_enter Try.func18, Try.ntmps18
  go_wp2
  go_loop [4, 7] (fun _ i => ∃ k : Nat, k ≤ zs.length ∧ i = .int .i64 k ∧ (zs.take k).all (· < 16777216) = true) (fun _ i => zs.length - (intOf i).toNat)
  case atStart => exact ⟨0, by omega, rfl, rfl⟩
  case round =>
    obtain ⟨k, hk, rfl, ha⟩ := hrel
    have HA := Lib.hid ha
    clear ha
    have HC := Lib.hid hc
    have HZ := Lib.hid hz
    clear hc hz
    by_cases hlt : k < zs.length
    · have c := HC.out k hlt
      have z := HZ.out k hlt
      have HT := Lib.hid (List.take_succ_eq_append_getElem hlt)
      have HM := Lib.hid (List.getElem_mem hlt)
      generalize zs[k] = y at *
      have e := Pl.andNot24 y z
      by_cases hy : y < 16777216
      · have e0 : y / 16777216 * 16777216 = 0 := by omega
        rw [e0] at e
        clear e0
        go_wp2
        go_round
        case rel => exact ⟨k + 1, by omega, by go_num, by rw [HT.out]; simp [HA.out, hy]⟩
        case measure => simp [intOf]; omega
      · have e0 : (bits .andNot .u32 (y : Int) 16777215 != 0) = true := by rw [e, bne_iff_ne]; omega
        clear e
        go_wp2
        go_ret
        exact ⟨ret_bool (List.all_eq_false.2 ⟨y, HM.out, by simpa using hy⟩).symm, rfl⟩
    · go_wp2
      go_ret
      obtain rfl : k = zs.length := by omega
      exact ⟨ret_bool (by rw [← HA.out, List.take_length]), rfl⟩

set_option maxHeartbeats 400000 in
theorem valid_yes (s m r b : Int) (p : Nat) (hp : p < 4294967296) (h : Pl.valid s m r b p = true) (w : World) :
    Calls Try.prog 11 #[cnt s m r b p] w fun e w' => e = .returned (.bool true) ∧ Below w.heap.size w w' := by
  unfold cnt
  obtain ⟨h1, h2, h3, h4, h5, h6, h7, h8⟩ := Pl.valid_true h
  clear h
  go_enter Try.func11, Try.ntmps11
  go_wp2_with (go_at_call 18; refine (possible_any _ [p] _ (by simp) (by simpa using hp) (by simp [go_sem])).mono ?_; rintro e w' ⟨rfl, rfl⟩)
  go_ret
  exact ⟨rfl, ((Below.refl _ _).alloc (Nat.le_refl _) _).alloc (by simp) _⟩

end Go.Proofs.Ythnjcnenncbagaa
