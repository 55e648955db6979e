/- The program's types: a leaf's, an operation's. -/
import Derived.Test.YtdfklagiafmoiaaGreatDoorG13
namespace Go.Proofs.YtdfklagiafmoiaaGreatDoor
open Go.RowKit

set_option maxRecDepth 100000 in
set_option maxHeartbeats 4000000 in
theorem leaf_p (ve : Value) (t : Tm) (ks : List Int) (ht : argIn ks.length t) (A : Option Addr) (c : Nat) (w : World) (h : IntsAt w w.heap.size (.slice A ks.length c) ks) :
    Calls Tryz.prog 158 #[.agg #[ve, .slice A ks.length c], .agg #[.int .i64 t.1, .int .i64 t.2]] w fun e w' => e = .returned (.int .i64 (leafTy0 (ks.getD t.2.toNat 0) t.1)) ∧ Below w.heap.size w w' := by
  by_cases h5 : t.1 = 5 ∨ t.1 = 12
  · obtain ⟨a0, a1⟩ := ht h5
    obtain ⟨k, hk⟩ : ∃ k : Nat, t.2 = k := ⟨t.2.toNat, by omega⟩
    have hkl : k < ks.length := by omega
    obtain ⟨ad, rfl, hb, c0⟩ := int_at h hkl
    have hg : ks.getD t.2.toNat 0 = ks[k]'hkl := by rw [hk, Int.toNat_natCast, List.getD_eq_getElem?_getD, List.getElem?_eq_getElem hkl, Option.getD_some]
    obtain ⟨op, arg⟩ := t
    dsimp only at *
    subst hk
    have HG := Lib.hid hg
    clear h ht hg
    generalize ks[k]'hkl = z at *
    have k0 : (0 : Int) ≤ (k : Int) := by omega
    have k1 : (k : Int) < (ks.length : Int) := by omega
    have hb' : (ad.add k).block < w.heap.size := by rw [block_of_add]; exact hb
    rcases h5 with rfl | rfl
    · go_enter Tryz.func158, Tryz.ntmps158
      go_wp2
      go_ret
      exact ⟨ret_int (by rw [HG.out]; simp [leafTy0]), by (repeat (with_reducible first | exact Below.refl _ _ | refine Below.setCell ?_ (by first | exact Nat.le_refl _ | (simp only [World.size_alloc]; omega)) _ | refine below_drewN ?_ _ | refine Below.drew ?_ | refine Below.alloc ?_ (by first | exact Nat.le_refl _ | (simp only [World.size_alloc]; omega)) _ | assumption))⟩
    · go_enter Tryz.func158, Tryz.ntmps158
      go_wp2
      go_ret
      exact ⟨ret_int (by rw [HG.out]; simp [leafTy0]), by (repeat (with_reducible first | exact Below.refl _ _ | refine Below.setCell ?_ (by first | exact Nat.le_refl _ | (simp only [World.size_alloc]; omega)) _ | refine below_drewN ?_ _ | refine Below.drew ?_ | refine Below.alloc ?_ (by first | exact Nat.le_refl _ | (simp only [World.size_alloc]; omega)) _ | assumption))⟩
  · have e5 : (t.1 == 5) = false := beq_eq_false_iff_ne.2 (by omega)
    have e12 : (t.1 == 12) = false := beq_eq_false_iff_ne.2 (by omega)
    go_enter Tryz.func158, Tryz.ntmps158
    go_wp2
    all_goals ((go_ret; refine ⟨ret_int ?_, ?_⟩; ((try simp only [beq_iff_eq, beq_eq_false_iff_ne, ne_eq] at *); (try unfold leafTy0); (try dsimp only); (try simp only [eq_self, reduceCtorEq, true_and, false_and, and_true, and_false, if_true, if_false]); (repeat' split) <;> first | rfl | (exfalso; omega) | omega | (simp; done) | (simp_all; done))); (repeat (with_reducible first | exact Below.refl _ _ | refine Below.setCell ?_ (by first | exact Nat.le_refl _ | (simp only [World.size_alloc]; omega)) _ | refine below_drewN ?_ _ | refine Below.drew ?_ | refine Below.alloc ?_ (by first | exact Nat.le_refl _ | (simp only [World.size_alloc]; omega)) _ | assumption)))
def resT (op a b c : Int) : Int := if op ≤ 29 then single op a else if op ≤ 42 then double op a b else triple a b c
set_option maxRecDepth 100000 in
set_option maxHeartbeats 16000000 in
theorem result_p (op a b c : Int) (h0 : 18 ≤ op) (h1 : op ≤ 43) (w : World) : Calls Tryz.prog 159 #[.int .i64 op, .agg #[.int .i64 a, .int .i64 b, .int .i64 c]] w fun e w' => e = .returned (.int .i64 (resT op a b c)) ∧ Below w.heap.size w w' := by
  have hM := (Mem.start w).new 207 #[.int .i64 a, .int .i64 b, .int .i64 c]
  go_enter Tryz.func159, Tryz.ntmps159
  go_upto_region 1 with fail
  generalize hW : World.alloc _ _ = W at *
  have HM := Lib.hid hM
  obtain ⟨p0, p1, p2, pf⟩ := blk3 (hM.get 0 rfl).2
  clear hM hW
  go_quiet (fail)
  have HB := Lib.hid (HM.out.drewN nq).bel
  clear p0 p1 p2 pf HM
  go_wp2_with (go_at_call 169; refine (ift_p _ _ _).mono ?_; rintro e w' ⟨rfl, rfl⟩)
  all_goals ((go_ret; refine ⟨ret_int ?_, ?_⟩; ((try simp only [beq_iff_eq, beq_eq_false_iff_ne, ne_eq] at *); (try unfold resT single double triple wants gives); (try dsimp only); (try simp only [eq_self]); (repeat' split) <;> first | rfl | (exfalso; omega) | omega | (simp; done) | (simp_all; done))); exact HB.out)
end Go.Proofs.YtdfklagiafmoiaaGreatDoor
