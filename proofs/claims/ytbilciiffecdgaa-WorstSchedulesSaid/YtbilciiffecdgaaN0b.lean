/- Comparisons of equal lists of integers. -/
import Derived.Test.YtbilciiffecdgaaS
import Derived.Test.YtbilciiffecdgaaA24
namespace Go.Proofs.Ytbilciiffecdgaa
open Go.RowKit


set_option maxHeartbeats 400000 in
theorem sameInts_eq (l : List Int) (hl : l.length ≤ 1000000) (A B : Option Addr) (ca cb B1 B2 : Nat) (w : World) (hA : Reads w B1 1 A l.length (l.map (fun z => Value.int .i64 z))) (hB : Reads w B2 1 B l.length (l.map (fun z => Value.int .i64 z))) :
    Calls Try.prog 17 #[.slice A l.length ca, .slice B l.length cb] w fun e w' => e = .returned (.bool true) ∧ ∃ d, w' = w.drewN d := by
  have RA := Lib.hid hA
  have RB := Lib.hid hB
  clear hA hB
  go_enter Try.func17, Try.ntmps17
  go_wp2
  go_loopw [5] (fun i wr => ∃ k d : Nat, k ≤ l.length ∧ i = .int .i64 k ∧ wr = w.drewN d) (fun i _ => l.length - (intOf i).toNat)
  case atStart => exact ⟨0, 0, Nat.zero_le _, rfl, rfl⟩
  case round =>
    obtain ⟨k, d, hk, rfl, rfl⟩ := hrel
    by_cases hlt : k < l.length
    · obtain ⟨a1, rfl, -, c1⟩ := int_at RA.out hlt
      obtain ⟨a2, rfl, -, c2⟩ := int_at RB.out hlt
      generalize l[k] = x at *
      have k0 : (0 : Int) ≤ (k : Int) := by omega
      have k1 : (k : Int) < (l.length : Int) := by omega
      have x1 : (x != x) = false := by simp
      go_wp2_with fail
      go_quiet (fail)
      go_wp2
      refine ⟨⟨k + 1, d + nq, by omega, by go_num, by first | rfl | rw [World.drewN_drewN]⟩, by simp [intOf]; omega⟩
    · go_wp2
      go_ret
      exact ⟨rfl, d, rfl⟩

theorem sameInts_n (l : List Int) (n : Nat) (hn : l.length = n) (hl : n ≤ 1000000) (A B : Option Addr) (ca cb B1 B2 : Nat) (w : World) (hA : Reads w B1 1 A n (l.map (fun z => Value.int .i64 z))) (hB : Reads w B2 1 B n (l.map (fun z => Value.int .i64 z))) :
    Calls Try.prog 17 #[.slice A n ca, .slice B n cb] w fun e w' => e = .returned (.bool true) ∧ ∃ d, w' = w.drewN d := by
  subst hn
  exact sameInts_eq l hl A B ca cb B1 B2 w hA hB
end Go.Proofs.Ytbilciiffecdgaa
