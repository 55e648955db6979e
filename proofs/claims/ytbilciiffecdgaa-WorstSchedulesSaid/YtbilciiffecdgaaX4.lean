/- The functions of worst and of the reference, by what their lists are. -/
import Derived.Test.YtbilciiffecdgaaX3
import Derived.Test.YtbilciiffecdgaaRA
import Derived.Test.YtbilciiffecdgaaN0b
namespace Go.Proofs.Ytbilciiffecdgaa
open Go.RowKit

def ints (n : Nat) (f : Nat → Nat) : List Int := (List.range n).map fun k => (f k : Int)
theorem ints_len (n : Nat) (f : Nat → Nat) : (ints n f).length = n := by simp [ints]
theorem ints_nums (n : Nat) (f : Nat → Nat) : (ints n f).map (fun z => Value.int .i64 z) = nums n f := by
  unfold ints nums; rw [List.map_map]; rfl
/-- a list of integers that reads as l, and the error z -/
def LsPost (w : World) (z : Int) (P : List Int → Prop) (e : Ending) (w' : World) : Prop :=
  ∃ (A : Option Addr) (c : Nat) (l : List Int), e = .returned (.tuple #[.slice A l.length c, .int .i64 z]) ∧ Reads w' w'.heap.size 1 A l.length (l.map fun z => Value.int .i64 z) ∧ P l ∧ Below w.heap.size w w'
/-- what the list is -/
def IsWorst (L : List (List Arc)) (S : List Bool) (c : Nat × Int → Nat) (z : Int) (l : List Int) : Prop := (z ≠ 0 → l = []) ∧ (z = 0 → ∃ f, PlL.IsVal S.length L (isIn S) c f ∧ l = ints S.length f)
theorem IsWorst.one {E : List Nat} {L : List (List Arc)} {S : List Bool} {c : Nat × Int → Nat} {z : Int} (h : wchk E L S = z) {l l' : List Int} (hl : IsWorst L S c z l) (hl' : IsWorst L S c z l') : l = l' := by
  by_cases hz : z = 0
  · obtain ⟨f, hf, rfl⟩ := hl.2 hz
    obtain ⟨f', hf', rfl⟩ := hl'.2 hz
    obtain ⟨r, hr⟩ := conv_rank (h.trans hz)
    unfold ints
    refine List.map_congr_left fun k hk => ?_
    rw [PlL.IsVal.unique hr hf hf' S.length k (List.mem_range.1 hk) (hr.lt k (List.mem_range.1 hk))]
  · rw [hl.1 hz, hl'.1 hz]
theorem IsWorst.len {L : List (List Arc)} {S : List Bool} {c : Nat × Int → Nat} {z : Int} {l : List Int} (hl : IsWorst L S c z l) : l.length ≤ S.length := by
  by_cases hz : z = 0
  · obtain ⟨f, hf, rfl⟩ := hl.2 hz
    rw [ints_len]; exact Nat.le_refl _
  · rw [hl.1 hz]; exact Nat.zero_le _
theorem reads_none (w : World) (B : Nat) : Reads w B 1 none 0 (([] : List Int).map fun z => Value.int .i64 z) := ⟨rfl, fun h => absurd h (by decide)⟩
theorem ls_err {w w' : World} {z : Int} (hz : z ≠ 0) {L : List (List Arc)} {S : List Bool} {c : Nat × Int → Nat} {e : Ending} (he : e = .returned (.tuple #[.slice none 0 0, .int .i64 z])) (hb : Below w.heap.size w w') : LsPost w z (IsWorst L S c z) e w' :=
  ⟨none, 0, [], he, reads_none _ _, ⟨fun _ => rfl, fun h => absurd h hz⟩, hb⟩
theorem ls_ok {w w' : World} {L : List (List Arc)} {S : List Bool} {c : Nat × Int → Nat} {e : Ending} {g : Nat} {f : Nat → Nat} (he : e = .returned (.tuple #[.slice (some ⟨g, 0, none⟩) S.length S.length, .int .i64 0])) (bk : Blk w' g 3 (nums S.length f).toArray) (hv : PlL.IsVal S.length L (isIn S) c f) (hb : Below w.heap.size w w') : LsPost w 0 (IsWorst L S c 0) e w' := by
  refine ⟨some ⟨g, 0, none⟩, S.length, ints S.length f, by rw [ints_len]; exact he, ?_, ⟨fun h => absurd rfl h, fun _ => ⟨f, hv, rfl⟩⟩, hb⟩
  rw [ints_nums, ints_len]
  exact reads_blk bk bk.lt (by rw [nums_len, Nat.mul_one])
section
variable (E : List Nat) (L : List (List Arc)) (v : Value) (hE : WfE E) (hL : WfL L) (S : List Bool) (A : Option Addr) (c : Nat) (z : Int) (h : wchk E L S = z) (w : World) (hS : SpaceAt w w.heap.size v E L) (hSr : Reads w w.heap.size 1 A S.length (S.map Value.bool))
include hE hL h hS hSr
theorem wsteps_r : Calls Try.prog 13 #[v, .slice A S.length c] w (LsPost w z (IsWorst L S cOne z)) := by
  by_cases hz : z = 0
  · subst hz
    exact (wsteps_ok E L v hE hL S A c h w hS hSr).mono fun e w' ⟨g, f, he, _, bk, hv, _, _, hb⟩ => ls_ok he bk hv hb
  · exact (wsteps_err E L v hE hL S A c z hz h w hS hSr).mono fun e w' ⟨he, hb⟩ => ls_err hz he hb
theorem wmoves_r : Calls Try.prog 15 #[v, .slice A S.length c] w (LsPost w z (IsWorst L S cPop z)) := by
  by_cases hz : z = 0
  · subst hz
    exact (wmoves_ok E L v hE hL S A c h w hS hSr).mono fun e w' ⟨g, f, he, _, bk, hv, _, _, hb⟩ => ls_ok he bk hv hb
  · exact (wmoves_err E L v hE hL S A c z hz h w hS hSr).mono fun e w' ⟨he, hb⟩ => ls_err hz he hb
theorem rsteps_r : Calls Try.prog 14 #[v, .slice A S.length c] w (LsPost w z (IsWorst L S cOne z)) := by
  by_cases hz : z = 0
  · subst hz
    exact (rsteps_ok E L v hE hL S A c h w hS hSr).mono fun e w' ⟨g, f, he, _, bk, hv, hb⟩ => ls_ok he bk hv hb
  · exact (rsteps_err E L v hE hL S A c z hz h w hS hSr).mono fun e w' ⟨he, hb⟩ => ls_err hz he hb
theorem rmoves_r : Calls Try.prog 16 #[v, .slice A S.length c] w (LsPost w z (IsWorst L S cPop z)) := by
  by_cases hz : z = 0
  · subst hz
    exact (rmoves_ok E L v hE hL S A c h w hS hSr).mono fun e w' ⟨g, f, he, _, bk, hv, hb⟩ => ls_ok he bk hv hb
  · exact (rmoves_err E L v hE hL S A c z hz h w hS hSr).mono fun e w' ⟨he, hb⟩ => ls_err hz he hb
end
end Go.Proofs.Ytbilciiffecdgaa
