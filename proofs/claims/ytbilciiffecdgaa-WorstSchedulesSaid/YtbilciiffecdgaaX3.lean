/- The functions of worst by their error alone. -/
import Derived.Test.YtbilciiffecdgaaX2
namespace Go.Proofs.Ytbilciiffecdgaa
open Go.RowKit

theorem wchk_cyc {E : List Nat} {L : List (List Arc)} {S : List Bool} (h : PlS.spaceOk E L = true) (hm : S.length = E.length) (hc : ¬ Conv L S) : wchk E L S = 14 := by
  unfold wchk; rw [if_pos (chk_ok h hm), if_neg hc]
/-- some result with the error z -/
def Ret2 (w : World) (z : Int) (e : Ending) (w' : World) : Prop := ∃ v, e = .returned (.tuple #[v, .int .i64 z]) ∧ Below w.heap.size w w'

theorem wsteps_z (E : List Nat) (L : List (List Arc)) (v : Value) (hE : WfE E) (hL : WfL L) (S : List Bool) (A : Option Addr) (c : Nat) (z : Int) (h : wchk E L S = z) (w : World) (hS : SpaceAt w w.heap.size v E L) (hSr : Reads w w.heap.size 1 A S.length (S.map Value.bool)) :
    Calls Try.prog 13 #[v, .slice A S.length c] w (Ret2 w z) := by
  by_cases hz : z = 0
  · subst hz
    exact (wsteps_ok E L v hE hL S A c h w hS hSr).mono fun e w' ⟨g, f, he, _, _, _, _, _, hb⟩ => ⟨_, he, hb⟩
  · exact (wsteps_err E L v hE hL S A c z hz h w hS hSr).mono fun e w' ⟨he, hb⟩ => ⟨_, he, hb⟩
theorem wmoves_z (E : List Nat) (L : List (List Arc)) (v : Value) (hE : WfE E) (hL : WfL L) (S : List Bool) (A : Option Addr) (c : Nat) (z : Int) (h : wchk E L S = z) (w : World) (hS : SpaceAt w w.heap.size v E L) (hSr : Reads w w.heap.size 1 A S.length (S.map Value.bool)) :
    Calls Try.prog 15 #[v, .slice A S.length c] w (Ret2 w z) := by
  by_cases hz : z = 0
  · subst hz
    exact (wmoves_ok E L v hE hL S A c h w hS hSr).mono fun e w' ⟨g, f, he, _, _, _, _, _, hb⟩ => ⟨_, he, hb⟩
  · exact (wmoves_err E L v hE hL S A c z hz h w hS hSr).mono fun e w' ⟨he, hb⟩ => ⟨_, he, hb⟩
theorem wrounds_z (E : List Nat) (L : List (List Arc)) (v : Value) (hE : WfE E) (hL : WfL L) (S : List Bool) (A : Option Addr) (c : Nat) (z : Int) (h : wchk E L S = z) (hfew : fewB E = true) (hn : S.length ≤ 120) (w : World) (hS : SpaceAt w w.heap.size v E L) (hSr : Reads w w.heap.size 1 A S.length (S.map Value.bool)) :
    Calls Try.prog 19 #[v, .slice A S.length c] w (Ret2 w z) := by
  by_cases hz : z = 0
  · subst hz
    exact (wrounds_ok E L v hE hL S A c h (fun k _ => few_at hfew k) hn w hS hSr).mono fun e w' ⟨g, f, he, _, _, _, _, _, hb⟩ => ⟨_, he, hb⟩
  · exact (wrounds_err E L v hE hL S A c z hz h w hS hSr).mono fun e w' ⟨he, hb⟩ => ⟨_, he, hb⟩
theorem wsched_z (E : List Nat) (L : List (List Arc)) (v : Value) (hE : WfE E) (hL : WfL L) (S : List Bool) (A : Option Addr) (c : Nat) (x : Int) (hx : 0 ≤ x ∧ x < (S.length : Int)) (z : Int) (h : wchk E L S = z) (w : World) (hS : SpaceAt w w.heap.size v E L) (hSr : Reads w w.heap.size 1 A S.length (S.map Value.bool)) :
    Calls Try.prog 21 #[v, .slice A S.length c, .int .i64 x] w (Ret2 w z) := by
  by_cases hz : z = 0
  · subst hz
    exact (wsched_n E L v hE hL S A c S.length x.toNat x rfl (by omega) (by omega) h w hS hSr).mono fun e w' ⟨v, f, he, _, _, hb⟩ => ⟨_, he, hb⟩
  · exact (wsched_err E L v hE hL S A c x z hz h w hS hSr).mono fun e w' ⟨he, hb⟩ => ⟨_, he, hb⟩
end Go.Proofs.Ytbilciiffecdgaa
