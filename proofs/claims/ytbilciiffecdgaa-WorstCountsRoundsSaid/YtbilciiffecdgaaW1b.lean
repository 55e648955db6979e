/- The leaf functions: contracts of Has, Count, OnesCount32. -/
import Derived.Test.YtbilciiffecdgaaRows
import Derived.Test.YtbilciiffecdgaaPl
import Derived.Test.YtbilciiffecdgaaK
import Derived.Test.YtbilciiffecdgaaA24
namespace Go.Proofs.Ytbilciiffecdgaa
open Go.RowKit

set_option maxHeartbeats 400000 in
theorem has_any (n k : Nat) (hn : n < 4294967296) (hk : k < 32) (w : World) :
    Calls Try.prog 45 #[.int .u32 n, .int .i64 k] w fun e w' => e = .returned (.bool (n.testBit k)) ∧ w = w' := by
  go_enter Try.func45, Try.ntmps45
  go_wp2
  go_ret
  exact ⟨ret_bool (Pl.has_bit n k hn), rfl⟩

set_option maxHeartbeats 400000 in
theorem count_any (n : Nat) (hn : n < 4294967296) (w : World) :
    Calls Try.prog 25 #[.int .u32 n] w fun e w' => e = .returned (.int .i64 (Pl.pop n)) ∧ w = w' := by
  go_enter Try.func25, Try.ntmps25
  go_wp2
  go_loop [3, 4] (fun o v => ∃ k : Nat, k ≤ 32 ∧ v = .int .i64 k ∧ o = .int .i64 (Pl.popTo n k)) (fun _ v => 32 - (intOf v).toNat)
  case atStart => exact ⟨0, by omega, rfl, rfl⟩
  case round =>
    obtain ⟨k, hk, rfl, rfl⟩ := hrel
    have hp := Pl.popTo_le n k
    by_cases hlt : k < 32
    · have HS := Lib.hid (show Pl.popTo n (k + 1) = Pl.popTo n k + (n.testBit k).toNat from rfl)
      cases hb : n.testBit k <;> have HB := Lib.hid hb <;> clear hb
      · go_wp2_with (go_at_call 45; refine (has_any n k hn hlt _).mono ?_; rintro e w' ⟨rfl, rfl⟩; rw [HB.out])
        exact ⟨⟨k + 1, by omega, by go_num, val_int (by rw [HS.out, HB.out]; simp)⟩, by simp [intOf]; omega⟩
      · go_wp2_with (go_at_call 45; refine (has_any n k hn hlt _).mono ?_; rintro e w' ⟨rfl, rfl⟩; rw [HB.out])
        exact ⟨⟨k + 1, by omega, by go_num, val_int (by rw [HS.out, HB.out]; simp)⟩, by simp [intOf]; omega⟩
    · go_wp2
      go_ret
      obtain rfl : k = 32 := by omega
      exact ⟨rfl, rfl⟩

set_option maxRecDepth 100000 in
set_option maxHeartbeats 400000 in
theorem ones_any (n : Nat) (hn : n < 4294967296) (w : World) :
    Calls Try.prog 52 #[.int .u32 n] w fun e w' => e = .returned (.int .i64 (Pl.pop n)) ∧ ∃ d, w' = w.drewN d := by
  go_enter Try.func52, Try.ntmps52
  generalize hT : ByteArray.mk (List.toArray (List.append (List.append _ _) (List.append _ _))) = T
  have HT := Lib.hid hT
  clear hT
  have hix : ∀ (i : Int) (j : Nat) (w : World), i = j → j < 256 → (Instr.index 9 (.string T) (.int .u32 i)).run Try.prog w = .ok (.int .u8 (Pl.popTo j 8)) w := by
    intro i j w hi hj
    have hb : T[j]? = some (UInt8.ofNat (Pl.popTo j 8)) := by
      have key : ∀ j, j < 256 → T[j]? = some (UInt8.ofNat (Pl.popTo j 8)) := by rw [← HT.out]; decide +kernel
      exact key j hj
    have hp := Pl.popTo_le j 8
    subst hi
    simp [Instr.index, asIntOf, run_underlying Try.underlying9, hb, go_sem]
    omega
  have m2 := Pl.and255 (n / 65536) (by omega)
  have m3 := Pl.and255 (n / 256) (by omega)
  have m4 := Pl.and255 n hn
  simp only [Int.natCast_ediv, Int.natCast_emod, Int.cast_ofNat_Int] at m2 m3 m4
  have x1 := fun w => hix ((n : Int) / 16777216) (n / 16777216 % 256) w (by omega) (by omega)
  have x2 := fun w => hix ((n : Int) / 65536 % 256) (n / 65536 % 256) w (by omega) (by omega)
  have x3 := fun w => hix ((n : Int) / 256 % 256) (n / 256 % 256) w (by omega) (by omega)
  have x4 := fun w => hix ((n : Int) % 256) (n % 256) w (by omega) (by omega)
  have p1 := Pl.popTo_le (n / 16777216 % 256) 8
  have p2 := Pl.popTo_le (n / 65536 % 256) 8
  have p3 := Pl.popTo_le (n / 256 % 256) 8
  have p4 := Pl.popTo_le (n % 256) 8
  have HP := Lib.hid (Pl.pop_parts n)
  clear hix
  generalize Pl.popTo (n / 16777216 % 256) 8 = q1 at *
  generalize Pl.popTo (n / 65536 % 256) 8 = q2 at *
  generalize Pl.popTo (n / 256 % 256) 8 = q3 at *
  generalize Pl.popTo (n % 256) 8 = q4 at *
  go_wp2
  go_quiet (fail)
  go_wp2
  go_ret
  exact ⟨ret_int (by rw [HP.out]; omega), nq, rfl⟩
end Go.Proofs.Ytbilciiffecdgaa
