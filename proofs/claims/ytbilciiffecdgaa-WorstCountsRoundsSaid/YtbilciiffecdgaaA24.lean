/- ref01.All at 24; quiet calls behind other draws; small words. -/
import Derived.Test.YtbilciiffecdgaaRows
import Derived.Test.YtbilciiffecdgaaPl
import Derived.Test.YtbilciiffecdgaaK
namespace Go.Proofs.Ytbilciiffecdgaa
open Go.RowKit

set_option maxHeartbeats 400000 in
theorem all24 (w : World) :
    Calls Try.prog 46 #[.int .i64 24] w fun e w' => e = .returned (.int .u32 16777215) ∧ w = w' := by
  go_enter Try.func46, Try.ntmps46
  go_wp2
  go_loop [3, 4] (fun o v => ∃ k : Nat, k ≤ 24 ∧ v = .int .i64 k ∧ o = .int .u32 (2 ^ k - 1)) (fun _ v => 24 - (intOf v).toNat)
  case atStart => exact ⟨0, by omega, rfl, rfl⟩
  case round =>
    obtain ⟨k, hk, rfl, rfl⟩ := hrel
    by_cases hlt : k < 24
    · go_wp2
      exact ⟨⟨k + 1, by omega, by go_num, val_int (Pl.or_step k hlt)⟩, by simp [intOf]; omega⟩
    · go_wp2
      go_ret
      obtain rfl : k = 24 := by omega
      exact ⟨rfl, rfl⟩

theorem quiet_add {P : Program} {f : FuncId} {args : Array Value} {w : World} {a n : Nat} {v : Value}
    (h : Calls P f args (w.drewN (a + n)) fun e w' => e = .returned v ∧ ∃ m, w' = (w.drewN (a + n)).drewN m) :
    Calls P f args (w.drewN (a + n)) fun e w'' => e = .returned v ∧ ∃ m, w'' = w.drewN (a + m) :=
  h.mono fun _ _ ⟨he, m, hm⟩ => ⟨he, n + m, by rw [hm, World.drewN_drewN, Nat.add_assoc]⟩
theorem below_step {W0 W w' : World} (h2 : Below W.heap.size W w') (h1 : Below W0.heap.size W0 W) : Below W0.heap.size W0 w' := h1.trans (h2.mono h1.size)
theorem below_end {w W0 w' : World} (h : Below W0.heap.size W0 w') (h0 : Below w.heap.size w W0) : Below w.heap.size w w' := h0.trans (h.mono h0.size)
theorem below_rule (W0 : World) : ∀ x, Below W0.heap.size W0 x → ∀ b o, b < W0.heap.size → x.cell? ⟨b, o, none⟩ = W0.cell? ⟨b, o, none⟩ :=
  fun _ h b o hb => h.cell (p := ⟨b, o, none⟩) hb
theorem below_addr (W0 : World) : ∀ x, Below W0.heap.size W0 x → ∀ a : Addr, a.block < W0.heap.size → x.cell? a = W0.cell? a :=
  fun _ h _ hb => h.cell hb
end Go.Proofs.Ytbilciiffecdgaa
