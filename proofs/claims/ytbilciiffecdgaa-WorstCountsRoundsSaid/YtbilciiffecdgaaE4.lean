/- worst.after. -/
import Derived.Test.YtbilciiffecdgaaE3
import Derived.Test.YtbilciiffecdgaaPlP
import Derived.Test.YtbilciiffecdgaaPM
import Derived.BigQuiet
import Derived.StillTailTactics
namespace Go.Proofs.Ytbilciiffecdgaa
open Go.RowKit

def vArc (a : Nat × Int) : Value := .agg #[.int .u32 (a.1 : Int), .int .i64 a.2]
def AftPost (w : World) (E : List Nat) (P s t : Nat) (e : Ending) (w' : World) : Prop :=
  e = .returned (.tuple #[pK (t, PlL.aft E P (s, (t : Int))), .bool (decide (PlL.lft E P (s, (t : Int)) = 0))]) ∧ Below w.heap.size w w'

set_option maxRecDepth 100000 in
set_option maxHeartbeats 2000000 in
theorem after_any (E : List Nat) (L : List (List Arc)) (v : Value) (hE : WfE E) (k P s t : Nat) (hP : P < 4294967296) (hs : s < 4294967296) (ht : t < E.length) (_hEl : E.length ≤ 32768) (w : World) (hS : SpaceAt w w.heap.size v E L) :
    Calls Try.prog 40 #[v, pK (k, P), .agg #[.int .u32 (s : Int), .int .i64 (t : Int)]] w (AftPost w E P s t) := by
  obtain ⟨ve, va, rfl, ⟨Ae, ce, rfl, re⟩, ⟨Aa, ca, rows, rfl, ra, hk⟩⟩ := hS
  obtain ⟨ae, hA, hbe, ce0⟩ := set_at re ht
  subst hA
  have het := hE t ht
  have HRS := Lib.hid (show ∀ q, PlL.lft E P (s, (t : Int)) = q → Pl.rest P s E[t] = q from fun q h => by rw [← h]; unfold PlL.lft; simp only [Int.toNat_natCast]; rw [getD_l 0 ht])
  have HAF := Lib.hid (show PlL.aft E P (s, (t : Int)) = if PlL.lft E P (s, (t : Int)) = 0 then E[t] else PlL.lft E P (s, (t : Int)) from by unfold PlL.aft; simp only [Int.toNat_natCast]; rw [getD_l 0 ht])
  have hrest := Pl.rest_eq P s E[t] hP hs het
  rw [HRS.out _ rfl] at hrest
  have hlq : PlL.lft E P (s, (t : Int)) < 4294967296 := by rw [← HRS.out _ rfl]; exact Nat.lt_of_le_of_lt (Pl.rest_le _ _ _) het
  generalize E[t] = et at *
  have t0 : (0 : Int) ≤ (t : Int) := by omega
  have t1 : (t : Int) < (E.length : Int) := by omega
  have cE := fun (X : World) (hX : Below w.heap.size w X) => (hX.cell (p := ae.add t) (by rw [block_of_add]; exact hbe)).trans ce0
  have HCE := Lib.hid cE
  unfold pK
  unfold AftPost pK
  rw [HAF.out]
  generalize PlL.lft E P (s, (t : Int)) = q at *
  clear re ra hk cE HRS HAF
  go_enter Try.func40, Try.ntmps40
  go_upto_region 1 with fail
  have hM := ((((Mem.start w).new 25 #[.slice (some ae) E.length ce, .slice Aa L.length ca]).new 65 #[.int .i64 (k : Int), .int .u32 (P : Int)]).new 42 #[.int .u32 (s : Int), .int .i64 (t : Int)]).new 65 #[.int .i64 0, .int .u32 0]
  simp only [World.size_alloc] at hM
  generalize hW : World.alloc _ _ = W at *
  obtain ⟨r0, r1, rf⟩ := blk2 (hM.get 0 rfl).2
  obtain ⟨a0, a1, af⟩ := blk2 (hM.get 1 rfl).2
  obtain ⟨q0, q1, qf⟩ := blk2 (hM.get 2 rfl).2
  obtain ⟨p0, p1, pf⟩ := blk2 (hM.get 3 rfl).2
  have lr := (hM.get 0 rfl).2.lt
  have cEW := HCE.out W hM.bel
  have HM := Lib.hid hM
  clear hW hM
  by_cases hq : q = 0
  · subst hq
    have te : (((0 : Nat) : Int) == 0) = true := rfl
    go_quiet (fail)
    go_upto_region 3 with fail
    have hM2 := HM.out.drewN nq
    have cE2 := HCE.out _ hM2.bel
    generalize W.drewN nq = W2 at *
    clear r0 r1 rf a0 a1 af q0 q1 qf p0 p1 pf lr cEW HM
    obtain ⟨r0, r1, rf⟩ := blk2 (hM2.get 0 rfl).2
    obtain ⟨a0, a1, af⟩ := blk2 (hM2.get 1 rfl).2
    obtain ⟨q0, q1, qf⟩ := blk2 (hM2.get 2 rfl).2
    obtain ⟨p0, p1, pf⟩ := blk2 (hM2.get 3 rfl).2
    have lr := (hM2.get 0 rfl).2.lt
    have HF := Lib.hid (((hM2.drew.set_ 0 rfl 0 (.int .i64 (t : Int)) rfl).set_ 0 rfl 1 (.int .u32 (et : Int)) rfl))
    clear hM2 hrest hlq te
    go_still_tail 9, (by kernel_rfl)
    change wpList _ _ _ _ _ W2.drew
    go_wp2
    generalize hWW : World.drew _ = W7
    have hz : Blk W7 (w.heap.size + 1 + 1 + 1) 65 #[.int .i64 (t : Int), .int .u32 (et : Int)] ∧ Below w.heap.size w W7 := by
      rw [← hWW]
      exact ⟨(HF.out.get 0 rfl).2, HF.out.bel⟩
    obtain ⟨z0, z1, zf⟩ := blk2 hz.1
    have hbel := hz.2
    clear hWW hz r0 r1 rf lr
    refine bodyPost_ret (v := .tuple #[.agg #[.int .i64 (t : Int), .int .u32 (et : Int)], .bool true]) ?_ rfl ⟨rfl, ?_⟩
    · simp [results, Try.results40, go_sem, z0, z1]
    · exact hbel
  · have te : ((q : Int) == 0) = false := beq_eq_false_iff_ne.2 (by omega)
    go_quiet (fail)
    go_upto_region 4 with fail
    have hM2 := HM.out.drewN nq
    generalize W.drewN nq = W2 at *
    clear r0 r1 rf a0 a1 af q0 q1 qf p0 p1 pf lr cEW HM
    obtain ⟨r0, r1, rf⟩ := blk2 (hM2.get 0 rfl).2
    obtain ⟨a0, a1, af⟩ := blk2 (hM2.get 1 rfl).2
    have lr := (hM2.get 0 rfl).2.lt
    have HF := Lib.hid (((hM2.set_ 0 rfl 0 (.int .i64 (t : Int)) rfl).set_ 0 rfl 1 (.int .u32 (q : Int)) rfl))
    clear hM2 hrest hlq te
    go_wp2
    generalize hWW : World.setCell _ _ _ = W7
    have hz : Blk W7 (w.heap.size + 1 + 1 + 1) 65 #[.int .i64 (t : Int), .int .u32 (q : Int)] ∧ Below w.heap.size w W7 := by
      rw [← hWW]
      exact ⟨(HF.out.get 0 rfl).2, HF.out.bel⟩
    obtain ⟨z0, z1, zf⟩ := blk2 hz.1
    have hbel := hz.2
    clear hWW hz r0 r1 rf lr
    refine bodyPost_ret (v := .tuple #[.agg #[.int .i64 (t : Int), .int .u32 (q : Int)], .bool false]) ?_ rfl ⟨rfl, ?_⟩
    · simp [results, Try.results40, go_sem, z0, z1]
    · exact hbel
end Go.Proofs.Ytbilciiffecdgaa
