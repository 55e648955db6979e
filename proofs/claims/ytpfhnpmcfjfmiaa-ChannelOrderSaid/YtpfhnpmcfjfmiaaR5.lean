/- The three reference functions for every channel. -/
import Derived.Test.YtpfhnpmcfjfmiaaR4
namespace Go.Proofs.Ytpfhnpmcfjfmiaa
open Go.RowKit

theorem rsend_any (N : Nat → Prop) (cap : Int) (Q : List (List Int)) (q : List Int) (v : Value) (Ai : Option Addr) (ci : Nat) (w : World) (hN : ∀ b, N b → b < w.heap.size) (hC : ChanOff N w v cap Q) (hcp : CapOk v) (hi : ReadsOff N w Ai q.length (q.map Iz)) :
    Calls Try.prog 10 #[v, .slice Ai q.length ci] w (RefPost N w (sendQ cap Q q).1 (sendQ cap Q q).2.1 (sendQ cap Q q).2.2) := by
  unfold sendQ
  cases hv : vldC cap Q
  · exact rsend_bad N cap Q hv v _ w hC
  · rw [if_neg (by simp)]
    split
    · exact rsend_full N cap Q hv q ‹_› v Ai ci w hC hcp
    · rename_i h
      exact rsend_ok N cap Q hv q (fun e => h (.inl e)) (by have : ¬ 6 < q.length := fun e => h (.inr e); omega) v Ai ci w hN hC hi
theorem rlose_any (N : Nat → Prop) (cap : Int) (Q : List (List Int)) (a : Int) (v : Value) (w : World) (hN : ∀ b, N b → b < w.heap.size) (hC : ChanOff N w v cap Q) (hcp : CapOk v) :
    Calls Try.prog 14 #[v, .int .i64 a] w (RefPost N w (loseQ cap Q a).1 (loseQ cap Q a).2.1 (loseQ cap Q a).2.2) := by
  unfold loseQ
  cases hv : vldC cap Q
  · exact rlose_bad N cap Q hv v a w hC
  · rw [if_neg (by simp)]
    split
    · exact rlose_out N cap Q hv a ‹_› v w hC hcp
    · rename_i h
      have h1 : 0 ≤ a := by have : ¬ a < 0 := fun e => h (.inl e); omega
      have h2 : a < (Q.length : Int) := by have : ¬ (Q.length : Int) ≤ a := fun e => h (.inr e); omega
      obtain ⟨a, rfl⟩ := Int.eq_ofNat_of_zero_le h1
      exact rlose_ok N cap Q hv a (by omega) v w hN hC hcp
theorem rrecv_any (N : Nat → Prop) (cap : Int) (Q : List (List Int)) (v : Value) (w : World) (hN : ∀ b, N b → b < w.heap.size) (hC : ChanOff N w v cap Q) (hcp : CapOk v) :
    Calls Try.prog 12 #[v] w (RefRecv N w (recvQ cap Q).1 (recvQ cap Q).2.1 (recvQ cap Q).2.2.1 (recvQ cap Q).2.2.2) := by
  unfold recvQ
  cases hv : vldC cap Q
  · exact rrecv_bad N cap Q hv v w hC
  · rw [if_neg (by simp)]
    match Q, hv, hC with
    | [], hv, hC => exact rrecv_none N cap hv v w hC hcp
    | q :: Q', hv, hC => exact rrecv_some N cap q Q' hv v w hN hC hcp
end Go.Proofs.Ytpfhnpmcfjfmiaa
