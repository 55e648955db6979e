/- The references of account: Valid, Begin. -/
import Derived.Test.YthnjcnenncbagaaW2
import Derived.Deep.RegionHeld3
namespace Go.Proofs.Ythnjcnenncbagaa
open Go.RowKit

set_option maxHeartbeats 4000000 in
theorem rvalid_yes (s m r b : Int) (p : Nat) (hp : p < 4294967296) (h : Pl.valid s m r b p = true) (w : World) :
    Calls Try.prog 12 #[cnt s m r b p] w fun e w' => e = .returned (.bool true) ∧ Below w.heap.size w w' := by
  unfold cnt
  obtain ⟨h1, h2, h3, h4, h5, h6, h7, h8⟩ := Pl.valid_true h
  have e := Pl.andNot24 p hp
  rw [show p / 16777216 * 16777216 = 0 from by omega] at e
  have hw := IntWalk.i64_in (24 * s) (by omega)
  clear h
  go_enter Try.func12, Try.ntmps12
  go_wp2
  go_quiet ((go_at_call 15; exact quiet_left (all24 _)))
  go_wp2
  go_ret
  exact ⟨rfl, below_drewN ((Below.refl _ _).alloc (Nat.le_refl _) _) _⟩

set_option maxHeartbeats 4000000 in
theorem begin_any (n : Nat) (hn : n < 4294967296) (w : World) :
    Calls Try.prog 13 #[.int .u32 n] w fun e w' => e = .returned (cnt 0 0 0 0 (n % 16777216)) ∧ Below w.heap.size w w' := by
  have e := Pl.and24 n hn
  go_enter Try.func13, Try.ntmps13
  go_wp2
  exact bodyPost_ret (v := cnt 0 0 0 0 (n % 16777216)) (by simp [results, Try.results13, go_sem, cnt]) rfl ⟨rfl, (Below.refl _ _).alloc (Nat.le_refl _) _⟩
set_option maxHeartbeats 4000000 in
theorem rbegin_any (n : Nat) (hn : n < 4294967296) (w : World) :
    Calls Try.prog 14 #[.int .u32 n] w fun e w' => e = .returned (cnt 0 0 0 0 (n % 16777216)) ∧ Below w.heap.size w w' := by
  have e := Pl.and24 n hn
  go_enter Try.func14, Try.ntmps14
  go_wp2_with (go_at_call 15; refine (all24 _).mono ?_; rintro e w' ⟨rfl, rfl⟩)
  exact bodyPost_ret (v := cnt 0 0 0 0 (n % 16777216)) (by simp [results, Try.results14, go_sem, cnt]) rfl ⟨rfl, (Below.refl _ _).alloc (Nat.le_refl _) _⟩
end Go.Proofs.Ythnjcnenncbagaa
