/- ref19.Attractor. -/
import Derived.Test.YtbilciiffecdgaaF1m
import Derived.Deep.LoopGhost
namespace Go.Proofs.Ytbilciiffecdgaa
open Go.RowKit

/-- a list of marks of the call's own for which P holds, and no error -/
def OwnMarks (w : World) (n : Nat) (P : (Nat → Bool) → Prop) (e : Ending) (w' : World) : Prop :=
  ∃ (v : Value) (f : Nat → Bool), e = .returned (.tuple #[v, .int .i64 0]) ∧ w'.ownsRow w.heap.size 4 1 v n ((marks n f).map Value.bool) ∧ P f ∧ Below w.heap.size w w'

theorem begin_is (E : List Nat) (L : List (List Arc)) (v : Value) (hE : WfE E) (hL : WfL L) (A : Option Addr) (m c : Nat) (z : Int) (h : chk E L m = z) (w : World) (hS : SpaceAt w w.heap.size v E L) :
    Calls Try.prog 48 #[v, .slice A m c] w fun e w' => e = .returned (.int .i64 z) ∧ Below w.heap.size w w' := by rw [← h]; exact begin_any E L v hE hL A m c w hS

theorem own_mark {w : World} {base g cap n : Nat} {f : Nat → Bool} (h : w.ownsRow base 4 1 (.slice (some ⟨g, 0, none⟩) n cap) n ((marks n f).map Value.bool)) {k : Nat} (hk : k < n) : w.cell? ⟨g, k, none⟩ = some (.bool (f k)) := by
  rw [h.cellAt k (by omega), List.getElem?_map, List.getElem?_eq_getElem (by rw [marks_len]; exact hk), marks_get]; rfl
theorem own_mark_set {w : World} {base g cap n : Nat} {f : Nat → Bool} (h : w.ownsRow base 4 1 (.slice (some ⟨g, 0, none⟩) n cap) n ((marks n f).map Value.bool)) (k : Nat) (b : Bool) :
    (w.setCell ⟨g, k, none⟩ (.bool b)).ownsRow base 4 1 (.slice (some ⟨g, 0, none⟩) n cap) n ((marks n (fun j => if j = k then b else f j)).map Value.bool) := by
  have := (h.stored k (.bool b)).1
  rwa [← List.map_set, marks_set] at this
theorem map_one (l : List Bool) : ∀ u ∈ l.map Value.bool, u.oneCell' = true := by
  intro u hu
  obtain ⟨b, _, rfl⟩ := List.mem_map.1 hu
  rfl

/-- what holds at the head of the outer loop -/
def FixRel (w : World) (sp : Array Value) (n g cap : Nat) (G : Nat → List Nat) (S : Nat → Bool) (gk : Nat) (ch : Value) (wr : World) : Prop :=
  ∃ (b : Bool) (f : Nat → Bool), ch = .bool b ∧ gk = PlF.cnt n f + (if b = true then 1 else 0) ∧ wr.ownsRow w.heap.size 4 1 (.slice (some ⟨g, 0, none⟩) n cap) n ((marks n f).map Value.bool) ∧ PlF.Fix n G S f ∧
    (b = false → ∀ k, k < n → ¬ PlF.Cond G f k) ∧ Blk wr w.heap.size 25 sp ∧ Below w.heap.size w wr
def FixMid (w : World) (sp : Array Value) (n g cap : Nat) (G : Nat → List Nat) (S f : Nat → Bool) (ch i : Value) (wr : World) : Prop :=
  ∃ (j : Nat) (b : Bool) (f' : Nat → Bool), j ≤ n ∧ i = .int .i64 j ∧ ch = .bool b ∧ wr.ownsRow w.heap.size 4 1 (.slice (some ⟨g, 0, none⟩) n cap) n ((marks n f').map Value.bool) ∧ PlF.Fix n G S f' ∧
    (b = false → f' = f ∧ ∀ k, k < j → ¬ PlF.Cond G f' k) ∧ (b = true → PlF.cnt n f' < PlF.cnt n f) ∧ Blk wr w.heap.size 25 sp ∧ Below w.heap.size w wr

theorem FixMid.drewN {w wr : World} {sp : Array Value} {n g cap : Nat} {G : Nat → List Nat} {S f : Nat → Bool} {ch i : Value} (h : FixMid w sp n g cap G S f ch i wr) (d : Nat) : FixMid w sp n g cap G S f ch i (wr.drewN d) := by
  obtain ⟨j, b, f', h1, h2, h3, h4, h5, h6, h7, h8, h9⟩ := h
  exact ⟨j, b, f', h1, h2, h3, h4, h5, h6, h7, h8.drewN d, below_drewN h9 d⟩
theorem fix_put {w wr : World} {sp : Array Value} {n g cap j d : Nat} {f : Nat → Bool} (ho : wr.ownsRow w.heap.size 4 1 (.slice (some ⟨g, 0, none⟩) n cap) n ((marks n f).map Value.bool)) (bs : Blk wr w.heap.size 25 sp) (hB : Below w.heap.size w wr) (b : Bool) :
    (((wr.drewN d).setCell ⟨g, j, none⟩ (.bool b)).ownsRow w.heap.size 4 1 (.slice (some ⟨g, 0, none⟩) n cap) n ((marks n (fun i => if i = j then b else f i)).map Value.bool)) ∧
    Blk ((wr.drewN d).setCell ⟨g, j, none⟩ (.bool b)) w.heap.size 25 sp ∧ Below w.heap.size w ((wr.drewN d).setCell ⟨g, j, none⟩ (.bool b)) := by
  have ho' : (wr.drewN d).ownsRow w.heap.size 4 1 (.slice (some ⟨g, 0, none⟩) n cap) n ((marks n f).map Value.bool) := ho
  have hne : w.heap.size ≠ g := fun e => own_blk_ne ho bs (by decide) (by rw [e]; rfl)
  exact ⟨own_mark_set ho' j b, (bs.drewN d).far hne _, (below_drewN hB d).setCell ((ho.lt g rfl).1) _⟩
end Go.Proofs.Ytbilciiffecdgaa
