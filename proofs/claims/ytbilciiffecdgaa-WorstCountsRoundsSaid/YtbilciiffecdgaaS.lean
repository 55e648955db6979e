/- How a transition system lies in memory, and what it reads as. -/
import Derived.Test.YtbilciiffecdgaaKM
import Derived.Test.YtbilciiffecdgaaPl
namespace Go.Proofs.Ytbilciiffecdgaa
open Go.RowKit

abbrev Arc := Nat × Int
def arcCells (x : Arc) : List Value := [.int .u32 (x.1 : Int), .int .i64 x.2]
def ArcsAt (w : World) (B : Nat) (v : Value) (l : List Arc) : Prop := ∃ (A : Option Addr) (c : Nat), v = .slice A l.length c ∧ Reads w B 2 A l.length (l.flatMap arcCells)
def BoolsAt (w : World) (B : Nat) (v : Value) (l : List Bool) : Prop := ∃ (A : Option Addr) (c : Nat), v = .slice A l.length c ∧ Reads w B 1 A l.length (l.map Value.bool)
def IntsAt (w : World) (B : Nat) (v : Value) (l : List Int) : Prop := ∃ (A : Option Addr) (c : Nat), v = .slice A l.length c ∧ Reads w B 1 A l.length (l.map fun z => Value.int .i64 z)
def SetsAt (w : World) (B : Nat) (v : Value) (l : List Nat) : Prop := ∃ (A : Option Addr) (c : Nat), v = .slice A l.length c ∧ Reads w B 1 A l.length (l.map fun z : Nat => Value.int .u32 (z : Int))
def RowsAt (w : World) (B : Nat) (v : Value) (L : List (List Arc)) : Prop :=
  ∃ (A : Option Addr) (c : Nat) (rows : List Value), v = .slice A L.length c ∧ Reads w B 1 A L.length rows ∧ ∀ (k : Nat) l, L[k]? = some l → ∃ u, rows[k]? = some u ∧ ArcsAt w B u l
def SpaceAt (w : World) (B : Nat) (v : Value) (E : List Nat) (L : List (List Arc)) : Prop := ∃ ve va, v = .agg #[ve, va] ∧ SetsAt w B ve E ∧ RowsAt w B va L

section
variable {w w' : World} {B B' : Nat} {v : Value}
theorem ArcsAt.below {l : List Arc} (h : ArcsAt w B v l) (hb : Below B w w') : ArcsAt w' B v l := let ⟨A, c, e, hr⟩ := h; ⟨A, c, e, hr.below hb⟩
theorem BoolsAt.below {l : List Bool} (h : BoolsAt w B v l) (hb : Below B w w') : BoolsAt w' B v l := let ⟨A, c, e, hr⟩ := h; ⟨A, c, e, hr.below hb⟩
theorem IntsAt.below {l : List Int} (h : IntsAt w B v l) (hb : Below B w w') : IntsAt w' B v l := let ⟨A, c, e, hr⟩ := h; ⟨A, c, e, hr.below hb⟩
theorem SetsAt.below {l : List Nat} (h : SetsAt w B v l) (hb : Below B w w') : SetsAt w' B v l := let ⟨A, c, e, hr⟩ := h; ⟨A, c, e, hr.below hb⟩
theorem RowsAt.below {L : List (List Arc)} (h : RowsAt w B v L) (hb : Below B w w') : RowsAt w' B v L :=
  let ⟨A, c, rows, e, hr, hk⟩ := h
  ⟨A, c, rows, e, hr.below hb, fun k l hl => let ⟨u, hu, ha⟩ := hk k l hl; ⟨u, hu, ha.below hb⟩⟩
theorem SpaceAt.below {E : List Nat} {L : List (List Arc)} (h : SpaceAt w B v E L) (hb : Below B w w') : SpaceAt w' B v E L :=
  let ⟨ve, va, e, h1, h2⟩ := h; ⟨ve, va, e, h1.below hb, h2.below hb⟩
theorem ArcsAt.more {l : List Arc} (h : ArcsAt w B v l) (hB : B ≤ B') : ArcsAt w B' v l := let ⟨A, c, e, hr⟩ := h; ⟨A, c, e, hr.more hB⟩
theorem BoolsAt.more {l : List Bool} (h : BoolsAt w B v l) (hB : B ≤ B') : BoolsAt w B' v l := let ⟨A, c, e, hr⟩ := h; ⟨A, c, e, hr.more hB⟩
theorem IntsAt.more {l : List Int} (h : IntsAt w B v l) (hB : B ≤ B') : IntsAt w B' v l := let ⟨A, c, e, hr⟩ := h; ⟨A, c, e, hr.more hB⟩
theorem SetsAt.more {l : List Nat} (h : SetsAt w B v l) (hB : B ≤ B') : SetsAt w B' v l := let ⟨A, c, e, hr⟩ := h; ⟨A, c, e, hr.more hB⟩
theorem RowsAt.more {L : List (List Arc)} (h : RowsAt w B v L) (hB : B ≤ B') : RowsAt w B' v L :=
  let ⟨A, c, rows, e, hr, hk⟩ := h
  ⟨A, c, rows, e, hr.more hB, fun k l hl => let ⟨u, hu, ha⟩ := hk k l hl; ⟨u, hu, ha.more hB⟩⟩
theorem SpaceAt.more {E : List Nat} {L : List (List Arc)} (h : SpaceAt w B v E L) (hB : B ≤ B') : SpaceAt w B' v E L :=
  let ⟨ve, va, e, h1, h2⟩ := h; ⟨ve, va, e, h1.more hB, h2.more hB⟩
end

theorem flat_get (l : List Arc) (k : Nat) (h : k < l.length) : (l.flatMap arcCells)[k * 2]? = some (.int .u32 (l[k].1 : Int)) ∧ (l.flatMap arcCells)[k * 2 + 1]? = some (.int .i64 l[k].2) := by
  induction l generalizing k with
  | nil => simp at h
  | cons x l ih =>
    rcases k with _ | k
    · simp [arcCells]
    · have := ih k (by simpa using h)
      have e : (k + 1) * 2 = k * 2 + 1 + 1 := by omega
      rw [e]
      simpa [arcCells] using this
theorem flat_len (l : List Arc) : (l.flatMap arcCells).length = l.length * 2 := by
  induction l with
  | nil => rfl
  | cons x l ih => simp only [List.flatMap_cons, List.length_append, ih, arcCells, List.length_cons, List.length_nil]; omega

/-- an arc's two cells -/
theorem arc_at {w : World} {B : Nat} {A : Option Addr} {l : List Arc} {k : Nat} (h : Reads w B 2 A l.length (l.flatMap arcCells)) (hk : k < l.length) :
    ∃ ad, A = some ad ∧ ad.block < B ∧ w.cell? (ad.add (k * 2)) = some (.int .u32 (l[k].1 : Int)) ∧ w.cell? ⟨(ad.add (k * 2)).block, (ad.add (k * 2)).off + 1, none⟩ = some (.int .i64 l[k].2) := by
  obtain ⟨ad, e, hb, hc⟩ := h.2 (by omega)
  obtain ⟨h1, h2⟩ := flat_get l k hk
  refine ⟨ad, e, hb, hc _ _ h1, ?_⟩
  have h3 := hc _ _ h2
  rw [← add_of_add] at h3
  exact h3
theorem bool_at {w : World} {B : Nat} {A : Option Addr} {l : List Bool} {k : Nat} (h : Reads w B 1 A l.length (l.map Value.bool)) (hk : k < l.length) :
    ∃ ad, A = some ad ∧ ad.block < B ∧ w.cell? (ad.add k) = some (.bool l[k]) := by
  obtain ⟨ad, e, hb, hc⟩ := h.2 (by omega)
  exact ⟨ad, e, hb, hc k _ (by rw [List.getElem?_map, List.getElem?_eq_getElem hk]; rfl)⟩
theorem int_at {w : World} {B : Nat} {A : Option Addr} {l : List Int} {k : Nat} (h : Reads w B 1 A l.length (l.map fun z => Value.int .i64 z)) (hk : k < l.length) :
    ∃ ad, A = some ad ∧ ad.block < B ∧ w.cell? (ad.add k) = some (.int .i64 l[k]) := by
  obtain ⟨ad, e, hb, hc⟩ := h.2 (by omega)
  exact ⟨ad, e, hb, hc k _ (by rw [List.getElem?_map, List.getElem?_eq_getElem hk]; rfl)⟩
theorem set_at {w : World} {B : Nat} {A : Option Addr} {l : List Nat} {k : Nat} (h : Reads w B 1 A l.length (l.map fun z : Nat => Value.int .u32 (z : Int))) (hk : k < l.length) :
    ∃ ad, A = some ad ∧ ad.block < B ∧ w.cell? (ad.add k) = some (.int .u32 (l[k] : Int)) := by
  obtain ⟨ad, e, hb, hc⟩ := h.2 (by omega)
  exact ⟨ad, e, hb, hc k _ (by rw [List.getElem?_map, List.getElem?_eq_getElem hk]; rfl)⟩
theorem row_at {w : World} {B : Nat} {A : Option Addr} {L : List (List Arc)} {rows : List Value} {k : Nat} (h : Reads w B 1 A L.length rows) (hr : ∀ (k : Nat) l, L[k]? = some l → ∃ u, rows[k]? = some u ∧ ArcsAt w B u l) (hk : k < L.length) :
    ∃ ad Ak c, A = some ad ∧ ad.block < B ∧ w.cell? (ad.add k) = some (.slice Ak L[k].length c) ∧ Reads w B 2 Ak L[k].length (L[k].flatMap arcCells) := by
  obtain ⟨ad, e, hb, hc⟩ := h.2 (by omega)
  obtain ⟨u, hu, Ak, c, rfl, ha⟩ := hr k _ (List.getElem?_eq_getElem hk)
  exact ⟨ad, Ak, c, e, hb, hc k _ hu, ha⟩
end Go.Proofs.Ytbilciiffecdgaa
