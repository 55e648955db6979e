/- Lists of marks in memory. -/
import Derived.Test.YtbilciiffecdgaaC5
import Derived.Test.YtbilciiffecdgaaM1
import Derived.Test.YtbilciiffecdgaaPlM
namespace Go.Proofs.Ytbilciiffecdgaa
open Go.RowKit

/-- a new list of marks for which P holds, and no error -/
def MarksPost (w : World) (n : Nat) (P : (Nat → Bool) → Prop) (e : Ending) (w' : World) : Prop :=
  ∃ (g : Nat) (f : Nat → Bool), e = .returned (.tuple #[.slice (some ⟨g, 0, none⟩) n n, .int .i64 0]) ∧ w.heap.size ≤ g ∧ Blk w' g 4 ((marks n f).map Value.bool).toArray ∧ P f ∧ Below w.heap.size w w'

theorem Try.infoBool : (Try.prog.info? 4).map (fun i => (i.zero, i.size, i.bytes)) = some (some (.bool false), 1, 1) := by kernel_rfl

theorem mark_at {w : World} {g : Nat} {n : Nat} {f : Nat → Bool} (h : Blk w g 4 ((marks n f).map Value.bool).toArray) {k : Nat} (hk : k < n) : w.cell? ⟨g, k, none⟩ = some (.bool (f k)) := by
  have := h.get (k := k) (by simpa [marks_len] using hk)
  rw [this, List.getElem_map, marks_get]
theorem mark_set {w : World} {g : Nat} {n : Nat} {f : Nat → Bool} (h : Blk w g 4 ((marks n f).map Value.bool).toArray) (k : Nat) (b : Bool) :
    Blk (w.setCell ⟨g, k, none⟩ (.bool b)) g 4 ((marks n (fun j => if j = k then b else f j)).map Value.bool).toArray := by
  have := h.setL k (.bool b)
  rwa [← List.map_set, marks_set] at this
theorem marks_new (w : World) (n : Nat) : Blk (w.alloc (.cells (madeCells #[.bool false] n) 4)) w.heap.size 4 ((marks n (fun _ => false)).map Value.bool).toArray := by
  have e : (marks n (fun _ => false)).map Value.bool = List.replicate n (.bool false) := by
    rw [marks, List.map_map]
    apply List.ext_getElem
    · simp
    · intro i h1 h2; simp
  rw [e, made_list]
  exact Blk.new _ _ _

theorem check_is (E : List Nat) (L : List (List Arc)) (v : Value) (hE : WfE E) (hL : WfL L) (A : Option Addr) (m c : Nat) (z : Int) (h : chk E L m = z) (w : World) (hS : SpaceAt w w.heap.size v E L) :
    Calls Try.prog 53 #[v, .slice A m c] w fun e w' => e = .returned (.int .i64 z) ∧ Below w.heap.size w w' := by rw [← h]; exact check_any E L v hE hL A m c w hS
end Go.Proofs.Ytbilciiffecdgaa
