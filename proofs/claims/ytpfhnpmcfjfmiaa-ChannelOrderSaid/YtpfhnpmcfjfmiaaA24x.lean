/- Small words on worlds. -/
import Derived.Test.YtpfhnpmcfjfmiaaRows
import Derived.Test.YtpfhnpmcfjfmiaaK
namespace Go.Proofs.Ytpfhnpmcfjfmiaa
open Go.RowKit
theorem quiet_add {P : Program} {f : FuncId} {args : Array Value} {w : World} {a n : Nat} {v : Value}
    (h : Calls P f args (w.drewN (a + n)) fun e w' => e = .returned v ∧ ∃ m, w' = (w.drewN (a + n)).drewN m) :
    Calls P f args (w.drewN (a + n)) fun e w'' => e = .returned v ∧ ∃ m, w'' = w.drewN (a + m) :=
  h.mono fun _ _ ⟨he, m, hm⟩ => ⟨he, n + m, by rw [hm, World.drewN_drewN, Nat.add_assoc]⟩
theorem below_step {W0 W w' : World} (h2 : Below W.heap.size W w') (h1 : Below W0.heap.size W0 W) : Below W0.heap.size W0 w' := h1.trans (h2.mono h1.size)
theorem below_end {w W0 w' : World} (h : Below W0.heap.size W0 w') (h0 : Below w.heap.size w W0) : Below w.heap.size w w' := h0.trans (h.mono h0.size)
theorem below_rule (W0 : World) : ∀ x, Below W0.heap.size W0 x → ∀ b o, b < W0.heap.size → x.cell? ⟨b, o, none⟩ = W0.cell? ⟨b, o, none⟩ :=
  fun _ h b o hb => h.cell (p := ⟨b, o, none⟩) hb
theorem below_addr (W0 : World) : ∀ x, Below W0.heap.size W0 x → ∀ a : Addr, a.block < W0.heap.size → x.cell? a = W0.cell? a :=
  fun _ h _ hb => h.cell hb
end Go.Proofs.Ytpfhnpmcfjfmiaa
