/- A reading that throws nothing; the parsing of a program. -/
import Derived.Test.YtdfklagiafmoiaaGreatDoorG21
import Derived.Defers
import Derived.Recover
import Derived.Laws.Pointers
namespace Go.Proofs.YtdfklagiafmoiaaGreatDoor
open Go.RowKit

theorem recovered_nil (X : World) : Calls Tryz.prog 53 #[.nilIface] X fun e w' => e = .returned (.tuple #[.agg #[.int .i64 0, .int .i64 0], .bool false]) ∧ Below X.heap.size X w' := by
  go_enter Tryz.func53, Tryz.ntmps53
  go_wp2
  refine bodyPost_ret (v := .tuple #[.agg #[.int .i64 0, .int .i64 0], .bool false]) ?_ rfl ⟨rfl, balloc (Below.refl _ _) _⟩
  simp [results, Tryz.results53, go_sem]
theorem catch_idle (p e : Addr) (w : World) :
    CallsD Tryz.prog 52 #[.pointer (some p), .pointer (some e)] .returning w fun en u' w' => (∃ v, en = .returned v) ∧ u' = .returning ∧ Below w.heap.size w w' := by
  refine callsD_of_wpS Tryz.func52 rfl fun c₀ cs hu => ?_
  apply wpS_seq
  apply wpS_region
  simp [wpOpsS, go_sem, recoverD, hu, Tryz.ntmps52, Exit.thenS]
  refine (recovered_nil w).mono ?_
  rintro en w1 ⟨rfl, hb⟩
  simp [go_sem, Oper.upon]
  apply wpS_seq
  apply wpS_region
  simp [wpOpsS, go_sem, Oper.upon, Region.wanted, Exit.thenS]
  refine wpS_cond (t := false) (by simp [Act.eval, Array.replicate]) ?_
  simp only [Bool.false_eq_true, if_false]
  refine wpS_of_wp (wp_skip ?_)
  cases c₀
  simp_all [bodyPostS, results, Tryz.results52]
  exact balloc hb _
set_option maxRecDepth 100000 in
set_option maxHeartbeats 8000000 in
theorem catch_r {w0 : World} {cs : List (Ch w0.heap.size)} {X : World} (h : Mem w0 (cD w0 colL nilV (.string ⟨#[]⟩) nilV nilV nilV :: cs) X) :
    Calls Tryz.prog 32 #[.func (.func 33) #[.pointer (some ⟨w0.heap.size, 0, none⟩)] #[]] X fun e w' => e = .returned (.tuple #[.int .i64 0, .int .i64 0]) ∧ ∃ nm x4 x5 x6 vg vs vv, Mem w0 (allL w0 nm x4 x5 x6 vg vs vv cs) w' := by
  have hM := (h.new 3 #[.int .i64 0]).new 39 #[.int .i64 0]
  simp only [World.size_alloc] at hM
  have HM := Lib.hid (hM.perm ((List.Perm.swap _ _ _).trans ((List.perm_middle (l₁ := [_, _])))))
  clear h hM
  have hmf : ∀ (fn : Fn) (first cap : Array Value) (w : World), (Instr.makeFunc fn first cap).run Tryz.prog w = .ok (.func fn first cap) w := fun _ _ _ _ => rfl
  go_enter_defers Tryz.func32, Tryz.ntmps32
  go_wp2_with fail
  refine (all_r HM.out).mono ?_
  rintro e w1 ⟨⟨v1, rfl⟩, nm, x4, x5, x6, vg, vs, vv, hM⟩
  have HM1 := Lib.hid hM
  clear hM HM
  have q0 : w1.cell? ⟨X.heap.size, 0, none⟩ = some (.int .i64 0) := (HM1.out.get 8 rfl).2.cell 0
  have q1 : w1.cell? ⟨X.heap.size + 1, 0, none⟩ = some (.int .i64 0) := (HM1.out.get 9 rfl).2.cell 0
  have f0 := (HM1.out.get 8 rfl).2.frozen
  have f1 := (HM1.out.get 9 rfl).2.frozen
  have n0 : X.heap.size < w1.heap.size := (HM1.out.get 8 rfl).2.lt
  have n1 : X.heap.size + 1 < w1.heap.size := (HM1.out.get 9 rfl).2.lt
  have HM2 := Lib.hid (((HM1.out.set_ 8 rfl 0 (.int .i64 0) rfl).set_ 9 rfl 0 (.int .i64 0) rfl))
  go_wp2
  refine leaves_cons (f := 52) (args := #[.pointer (some ⟨X.heap.size, 0, none⟩), .pointer (some ⟨X.heap.size + 1, 0, none⟩)]) (by simp) (by simp [go_sem]) ?_
  refine (catch_idle _ _ _).mono ?_
  rintro e u' w2 ⟨⟨v2, rfl⟩, rfl, hb⟩
  have HM3 := Lib.hid (HM2.out.below hb)
  have e0 : w2.cell? ⟨X.heap.size, 0, none⟩ = some (.int .i64 0) := (HM3.out.get 8 rfl).2.cell 0
  have e1 : w2.cell? ⟨X.heap.size + 1, 0, none⟩ = some (.int .i64 0) := (HM3.out.get 9 rfl).2.cell 0
  have hF : Mem w0 (allL w0 nm x4 x5 x6 vg vs vv cs) w2 := (HM3.out.erase 8).erase 8
  clear HM1 HM2 HM3 q0 q1 f0 f1 n0 n1 hb
  simp [Leaves, Go.settle, results, Tryz.results32, go_sem, e0, e1]
  exact ⟨nm, x4, x5, x6, vg, vs, vv, hF⟩
end Go.Proofs.YtdfklagiafmoiaaGreatDoor
