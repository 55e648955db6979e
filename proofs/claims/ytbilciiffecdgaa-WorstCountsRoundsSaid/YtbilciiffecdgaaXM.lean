/- Merged out of N0b, X3, X4. -/
import Derived.Test.YtbilciiffecdgaaS
import Derived.Test.YtbilciiffecdgaaA24
import Derived.Test.YtbilciiffecdgaaX2
import Derived.Test.YtbilciiffecdgaaRA
/- Comparisons of equal lists of integers. -/
namespace Go.Proofs.Ytbilciiffecdgaa
open Go.RowKit


set_option maxHeartbeats 400000 in
theorem sameInts_eq (l : List Int) (hl : l.length ≤ 1000000) (A B : Option Addr) (ca cb B1 B2 : Nat) (w : World) (hA : Reads w B1 1 A l.length (l.map (fun z => Value.int .i64 z))) (hB : Reads w B2 1 B l.length (l.map (fun z => Value.int .i64 z))) :
    Calls Try.prog 17 #[.slice A l.length ca, .slice B l.length cb] w fun e w' => e = .returned (.bool true) ∧ ∃ d, w' = w.drewN d := by
  have RA := Lib.hid hA
  have RB := Lib.hid hB
  clear hA hB
  go_enter Try.func17, Try.ntmps17
  go_wp2
  go_loopw [5] (fun i wr => ∃ k d : Nat, k ≤ l.length ∧ i = .int .i64 k ∧ wr = w.drewN d) (fun i _ => l.length - (intOf i).toNat)
  case atStart => exact ⟨0, 0, Nat.zero_le _, rfl, rfl⟩
  case round =>
    obtain ⟨k, d, hk, rfl, rfl⟩ := hrel
    by_cases hlt : k < l.length
    · obtain ⟨a1, rfl, -, c1⟩ := int_at RA.out hlt
      obtain ⟨a2, rfl, -, c2⟩ := int_at RB.out hlt
      generalize l[k] = x at *
      have k0 : (0 : Int) ≤ (k : Int) := by omega
      have k1 : (k : Int) < (l.length : Int) := by omega
      have x1 : (x != x) = false := by simp
      go_wp2_with fail
      go_quiet (fail)
      go_wp2
      refine ⟨⟨k + 1, d + nq, by omega, by go_num, by first | rfl | rw [World.drewN_drewN]⟩, by simp [intOf]; omega⟩
    · go_wp2
      go_ret
      exact ⟨rfl, d, rfl⟩

theorem sameInts_n (l : List Int) (n : Nat) (hn : l.length = n) (hl : n ≤ 1000000) (A B : Option Addr) (ca cb B1 B2 : Nat) (w : World) (hA : Reads w B1 1 A n (l.map (fun z => Value.int .i64 z))) (hB : Reads w B2 1 B n (l.map (fun z => Value.int .i64 z))) :
    Calls Try.prog 17 #[.slice A n ca, .slice B n cb] w fun e w' => e = .returned (.bool true) ∧ ∃ d, w' = w.drewN d := by
  subst hn
  exact sameInts_eq l hl A B ca cb B1 B2 w hA hB
end Go.Proofs.Ytbilciiffecdgaa

/- The functions of worst by their error alone. -/
namespace Go.Proofs.Ytbilciiffecdgaa
open Go.RowKit

theorem wchk_cyc {E : List Nat} {L : List (List Arc)} {S : List Bool} (h : PlS.spaceOk E L = true) (hm : S.length = E.length) (hc : ¬ Conv L S) : wchk E L S = 14 := by
  unfold wchk; rw [if_pos (chk_ok h hm), if_neg hc]
/-- some result with the error z -/
def Ret2 (w : World) (z : Int) (e : Ending) (w' : World) : Prop := ∃ v, e = .returned (.tuple #[v, .int .i64 z]) ∧ Below w.heap.size w w'

theorem wsteps_z (E : List Nat) (L : List (List Arc)) (v : Value) (hE : WfE E) (hL : WfL L) (S : List Bool) (A : Option Addr) (c : Nat) (z : Int) (h : wchk E L S = z) (w : World) (hS : SpaceAt w w.heap.size v E L) (hSr : Reads w w.heap.size 1 A S.length (S.map Value.bool)) :
    Calls Try.prog 13 #[v, .slice A S.length c] w (Ret2 w z) := by
  by_cases hz : z = 0
  · subst hz
    exact (wsteps_ok E L v hE hL S A c h w hS hSr).mono fun e w' ⟨g, f, he, _, _, _, _, _, hb⟩ => ⟨_, he, hb⟩
  · exact (wsteps_err E L v hE hL S A c z hz h w hS hSr).mono fun e w' ⟨he, hb⟩ => ⟨_, he, hb⟩
theorem wmoves_z (E : List Nat) (L : List (List Arc)) (v : Value) (hE : WfE E) (hL : WfL L) (S : List Bool) (A : Option Addr) (c : Nat) (z : Int) (h : wchk E L S = z) (w : World) (hS : SpaceAt w w.heap.size v E L) (hSr : Reads w w.heap.size 1 A S.length (S.map Value.bool)) :
    Calls Try.prog 15 #[v, .slice A S.length c] w (Ret2 w z) := by
  by_cases hz : z = 0
  · subst hz
    exact (wmoves_ok E L v hE hL S A c h w hS hSr).mono fun e w' ⟨g, f, he, _, _, _, _, _, hb⟩ => ⟨_, he, hb⟩
  · exact (wmoves_err E L v hE hL S A c z hz h w hS hSr).mono fun e w' ⟨he, hb⟩ => ⟨_, he, hb⟩
theorem wrounds_z (E : List Nat) (L : List (List Arc)) (v : Value) (hE : WfE E) (hL : WfL L) (S : List Bool) (A : Option Addr) (c : Nat) (z : Int) (h : wchk E L S = z) (hfew : fewB E = true) (hn : S.length ≤ 120) (w : World) (hS : SpaceAt w w.heap.size v E L) (hSr : Reads w w.heap.size 1 A S.length (S.map Value.bool)) :
    Calls Try.prog 19 #[v, .slice A S.length c] w (Ret2 w z) := by
  by_cases hz : z = 0
  · subst hz
    exact (wrounds_ok E L v hE hL S A c h (fun k _ => few_at hfew k) hn w hS hSr).mono fun e w' ⟨g, f, he, _, _, _, _, _, hb⟩ => ⟨_, he, hb⟩
  · exact (wrounds_err E L v hE hL S A c z hz h w hS hSr).mono fun e w' ⟨he, hb⟩ => ⟨_, he, hb⟩
theorem wsched_z (E : List Nat) (L : List (List Arc)) (v : Value) (hE : WfE E) (hL : WfL L) (S : List Bool) (A : Option Addr) (c : Nat) (x : Int) (hx : 0 ≤ x ∧ x < (S.length : Int)) (z : Int) (h : wchk E L S = z) (w : World) (hS : SpaceAt w w.heap.size v E L) (hSr : Reads w w.heap.size 1 A S.length (S.map Value.bool)) :
    Calls Try.prog 21 #[v, .slice A S.length c, .int .i64 x] w (Ret2 w z) := by
  by_cases hz : z = 0
  · subst hz
    exact (wsched_n E L v hE hL S A c S.length x.toNat x rfl (by omega) (by omega) h w hS hSr).mono fun e w' ⟨v, f, he, _, _, hb⟩ => ⟨_, he, hb⟩
  · exact (wsched_err E L v hE hL S A c x z hz h w hS hSr).mono fun e w' ⟨he, hb⟩ => ⟨_, he, hb⟩
end Go.Proofs.Ytbilciiffecdgaa

/- The functions of worst and of the reference, by what their lists are. -/
namespace Go.Proofs.Ytbilciiffecdgaa
open Go.RowKit

def ints (n : Nat) (f : Nat → Nat) : List Int := (List.range n).map fun k => (f k : Int)
theorem ints_len (n : Nat) (f : Nat → Nat) : (ints n f).length = n := by simp [ints]
theorem ints_nums (n : Nat) (f : Nat → Nat) : (ints n f).map (fun z => Value.int .i64 z) = nums n f := by
  unfold ints nums; rw [List.map_map]; rfl
/-- a list of integers that reads as l, and the error z -/
def LsPost (w : World) (z : Int) (P : List Int → Prop) (e : Ending) (w' : World) : Prop :=
  ∃ (A : Option Addr) (c : Nat) (l : List Int), e = .returned (.tuple #[.slice A l.length c, .int .i64 z]) ∧ Reads w' w'.heap.size 1 A l.length (l.map fun z => Value.int .i64 z) ∧ P l ∧ Below w.heap.size w w'
/-- what the list is -/
def IsWorst (L : List (List Arc)) (S : List Bool) (c : Nat × Int → Nat) (z : Int) (l : List Int) : Prop := (z ≠ 0 → l = []) ∧ (z = 0 → ∃ f, PlL.IsVal S.length L (isIn S) c f ∧ l = ints S.length f)
theorem IsWorst.one {E : List Nat} {L : List (List Arc)} {S : List Bool} {c : Nat × Int → Nat} {z : Int} (h : wchk E L S = z) {l l' : List Int} (hl : IsWorst L S c z l) (hl' : IsWorst L S c z l') : l = l' := by
  by_cases hz : z = 0
  · obtain ⟨f, hf, rfl⟩ := hl.2 hz
    obtain ⟨f', hf', rfl⟩ := hl'.2 hz
    obtain ⟨r, hr⟩ := conv_rank (h.trans hz)
    unfold ints
    refine List.map_congr_left fun k hk => ?_
    rw [PlL.IsVal.unique hr hf hf' S.length k (List.mem_range.1 hk) (hr.lt k (List.mem_range.1 hk))]
  · rw [hl.1 hz, hl'.1 hz]
theorem IsWorst.len {L : List (List Arc)} {S : List Bool} {c : Nat × Int → Nat} {z : Int} {l : List Int} (hl : IsWorst L S c z l) : l.length ≤ S.length := by
  by_cases hz : z = 0
  · obtain ⟨f, hf, rfl⟩ := hl.2 hz
    rw [ints_len]; exact Nat.le_refl _
  · rw [hl.1 hz]; exact Nat.zero_le _
theorem reads_none (w : World) (B : Nat) : Reads w B 1 none 0 (([] : List Int).map fun z => Value.int .i64 z) := ⟨rfl, fun h => absurd h (by decide)⟩
theorem ls_err {w w' : World} {z : Int} (hz : z ≠ 0) {L : List (List Arc)} {S : List Bool} {c : Nat × Int → Nat} {e : Ending} (he : e = .returned (.tuple #[.slice none 0 0, .int .i64 z])) (hb : Below w.heap.size w w') : LsPost w z (IsWorst L S c z) e w' :=
  ⟨none, 0, [], he, reads_none _ _, ⟨fun _ => rfl, fun h => absurd h hz⟩, hb⟩
theorem ls_ok {w w' : World} {L : List (List Arc)} {S : List Bool} {c : Nat × Int → Nat} {e : Ending} {g : Nat} {f : Nat → Nat} (he : e = .returned (.tuple #[.slice (some ⟨g, 0, none⟩) S.length S.length, .int .i64 0])) (bk : Blk w' g 3 (nums S.length f).toArray) (hv : PlL.IsVal S.length L (isIn S) c f) (hb : Below w.heap.size w w') : LsPost w 0 (IsWorst L S c 0) e w' := by
  refine ⟨some ⟨g, 0, none⟩, S.length, ints S.length f, by rw [ints_len]; exact he, ?_, ⟨fun h => absurd rfl h, fun _ => ⟨f, hv, rfl⟩⟩, hb⟩
  rw [ints_nums, ints_len]
  exact reads_blk bk bk.lt (by rw [nums_len, Nat.mul_one])
section
variable (E : List Nat) (L : List (List Arc)) (v : Value) (hE : WfE E) (hL : WfL L) (S : List Bool) (A : Option Addr) (c : Nat) (z : Int) (h : wchk E L S = z) (w : World) (hS : SpaceAt w w.heap.size v E L) (hSr : Reads w w.heap.size 1 A S.length (S.map Value.bool))
include hE hL h hS hSr
theorem wsteps_r : Calls Try.prog 13 #[v, .slice A S.length c] w (LsPost w z (IsWorst L S cOne z)) := by
  by_cases hz : z = 0
  · subst hz
    exact (wsteps_ok E L v hE hL S A c h w hS hSr).mono fun e w' ⟨g, f, he, _, bk, hv, _, _, hb⟩ => ls_ok he bk hv hb
  · exact (wsteps_err E L v hE hL S A c z hz h w hS hSr).mono fun e w' ⟨he, hb⟩ => ls_err hz he hb
theorem wmoves_r : Calls Try.prog 15 #[v, .slice A S.length c] w (LsPost w z (IsWorst L S cPop z)) := by
  by_cases hz : z = 0
  · subst hz
    exact (wmoves_ok E L v hE hL S A c h w hS hSr).mono fun e w' ⟨g, f, he, _, bk, hv, _, _, hb⟩ => ls_ok he bk hv hb
  · exact (wmoves_err E L v hE hL S A c z hz h w hS hSr).mono fun e w' ⟨he, hb⟩ => ls_err hz he hb
theorem rsteps_r : Calls Try.prog 14 #[v, .slice A S.length c] w (LsPost w z (IsWorst L S cOne z)) := by
  by_cases hz : z = 0
  · subst hz
    exact (rsteps_ok E L v hE hL S A c h w hS hSr).mono fun e w' ⟨g, f, he, _, bk, hv, hb⟩ => ls_ok he bk hv hb
  · exact (rsteps_err E L v hE hL S A c z hz h w hS hSr).mono fun e w' ⟨he, hb⟩ => ls_err hz he hb
theorem rmoves_r : Calls Try.prog 16 #[v, .slice A S.length c] w (LsPost w z (IsWorst L S cPop z)) := by
  by_cases hz : z = 0
  · subst hz
    exact (rmoves_ok E L v hE hL S A c h w hS hSr).mono fun e w' ⟨g, f, he, _, bk, hv, hb⟩ => ls_ok he bk hv hb
  · exact (rmoves_err E L v hE hL S A c z hz h w hS hSr).mono fun e w' ⟨he, hb⟩ => ls_err hz he hb
end
end Go.Proofs.Ytbilciiffecdgaa
