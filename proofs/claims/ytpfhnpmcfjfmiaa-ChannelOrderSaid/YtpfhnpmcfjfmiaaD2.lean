/- channel.copied. -/
import Derived.Test.YtpfhnpmcfjfmiaaD1
namespace Go.Proofs.Ytpfhnpmcfjfmiaa
open Go.RowKit

theorem Try.infoInt : (Try.prog.info? 3).map (fun i => (i.zero, i.size, i.bytes)) = some (some (.int .i64 0), 1, 8) := by kernel_rfl
theorem Try.infoInts : (Try.prog.info? 25).map (fun i => (i.zero, i.size, i.bytes)) = some (some (.slice none 0 0), 1, 24) := by kernel_rfl
theorem Try.sizeInt : (Try.prog.info? 3).map (·.size) = some 1 := by kernel_rfl
theorem Try.sizeInts : (Try.prog.info? 25).map (·.size) = some 1 := by kernel_rfl
theorem one_Iz (q : List Int) : ∀ u ∈ q.map Iz, u.oneCell' = true := by
  intro u hu
  obtain ⟨z, _, rfl⟩ := List.mem_map.1 hu
  rfl

/-- a copy of q in a new block -/
def CopPost (w : World) (q : List Int) (e : Ending) (w' : World) : Prop :=
  e = .returned (.slice (some ⟨w.heap.size, 0, none⟩) q.length q.length) ∧ Blk w' w.heap.size 3 (q.map Iz).toArray ∧ Below w.heap.size w w'

set_option maxHeartbeats 400000 in
theorem copied_any (q : List Int) (hq : q.length ≤ 1000000) (A : Option Addr) (c : Nat) (w : World) (hr : Reads w w.heap.size 1 A q.length (q.map Iz)) :
    Calls Try.prog 23 #[.slice A q.length c] w (CopPost w q) := by
  have hmk := run_make_row' (P := Try.prog) 25 3 (.int .i64 0) 8 Try.underlying25 Try.infoInt rfl .i64 .i64 q.length (by omega) (by omega)
  have hB0 := (Below.refl w.heap.size w).alloc (Nat.le_refl _) (.cells (madeCells #[.int .i64 0] q.length) 3)
  have hcp := fun ty => run_copy_all (P := Try.prog) (w.alloc (.cells (madeCells #[.int .i64 0] q.length) 3)) 25 ty 3 w.heap.size w.heap.size Try.underlying25 Try.sizeInt A q.length c (q.map Iz) (hr.below hB0) (one_Iz q) _ (Blk.new _ _ _) (size_madeCells _ _)
  clear hr
  obtain ⟨W', hc, hblk, hbel, hsz⟩ := hcp 3
  have HP := Lib.hid (show CopPost w q (.returned (.slice (some ⟨w.heap.size, 0, none⟩) q.length q.length)) W' from ⟨rfl, hblk, hB0.trans hbel⟩)
  clear hcp hblk hbel hB0
  go_enter Try.func23, Try.ntmps23
  go_wp2
  go_ret
  exact HP.out
end Go.Proofs.Ytpfhnpmcfjfmiaa
