/- How a channel lies in memory; copies of items. -/
import Derived.Test.YtpfhnpmcfjfmiaaM1
import Derived.Test.YtpfhnpmcfjfmiaaA24x
import Derived.Laws.IdiomCopy
import Derived.Laws.CopyRow
namespace Go.Proofs.Ytpfhnpmcfjfmiaa
open Go.RowKit

def Iz (z : Int) : Value := .int .i64 z
def IntsAt (w : World) (B : Nat) (v : Value) (l : List Int) : Prop := ∃ (A : Option Addr) (c : Nat), v = .slice A l.length c ∧ Reads w B 1 A l.length (l.map Iz)
def ItemsAt (w : World) (B : Nat) (v : Value) (Q : List (List Int)) : Prop :=
  ∃ (A : Option Addr) (c : Nat) (rows : List Value), v = .slice A Q.length c ∧ Reads w B 1 A Q.length rows ∧ ∀ (k : Nat) q, Q[k]? = some q → ∃ u, rows[k]? = some u ∧ IntsAt w B u q
def ChanAt (w : World) (B : Nat) (v : Value) (cap : Int) (Q : List (List Int)) : Prop := ∃ vi, v = .agg #[.int .i64 cap, vi] ∧ ItemsAt w B vi Q

section
variable {w w' : World} {B B' : Nat} {v : Value}
theorem IntsAt.below {l : List Int} (h : IntsAt w B v l) (hb : Below B w w') : IntsAt w' B v l := let ⟨A, c, e, hr⟩ := h; ⟨A, c, e, hr.below hb⟩
theorem IntsAt.more {l : List Int} (h : IntsAt w B v l) (hB : B ≤ B') : IntsAt w B' v l := let ⟨A, c, e, hr⟩ := h; ⟨A, c, e, hr.more hB⟩
theorem ItemsAt.below {Q : List (List Int)} (h : ItemsAt w B v Q) (hb : Below B w w') : ItemsAt w' B v Q :=
  let ⟨A, c, rows, e, hr, hk⟩ := h
  ⟨A, c, rows, e, hr.below hb, fun k l hl => let ⟨u, hu, ha⟩ := hk k l hl; ⟨u, hu, ha.below hb⟩⟩
theorem ItemsAt.more {Q : List (List Int)} (h : ItemsAt w B v Q) (hB : B ≤ B') : ItemsAt w B' v Q :=
  let ⟨A, c, rows, e, hr, hk⟩ := h
  ⟨A, c, rows, e, hr.more hB, fun k l hl => let ⟨u, hu, ha⟩ := hk k l hl; ⟨u, hu, ha.more hB⟩⟩
theorem ChanAt.below {cap : Int} {Q : List (List Int)} (h : ChanAt w B v cap Q) (hb : Below B w w') : ChanAt w' B v cap Q := let ⟨vi, e, hi⟩ := h; ⟨vi, e, hi.below hb⟩
theorem ChanAt.more {cap : Int} {Q : List (List Int)} (h : ChanAt w B v cap Q) (hB : B ≤ B') : ChanAt w B' v cap Q := let ⟨vi, e, hi⟩ := h; ⟨vi, e, hi.more hB⟩
theorem IntsAt.go {l : List Int} (h : IntsAt w w.heap.size v l) (hb : Below w.heap.size w w') : IntsAt w' w'.heap.size v l := (h.below hb).more hb.size
theorem ItemsAt.go {Q : List (List Int)} (h : ItemsAt w w.heap.size v Q) (hb : Below w.heap.size w w') : ItemsAt w' w'.heap.size v Q := (h.below hb).more hb.size
theorem ChanAt.go {cap : Int} {Q : List (List Int)} (h : ChanAt w w.heap.size v cap Q) (hb : Below w.heap.size w w') : ChanAt w' w'.heap.size v cap Q := (h.below hb).more hb.size
theorem Reads.go {size : Nat} {A : Option Addr} {n : Nat} {xs : List Value} (h : Reads w w.heap.size size A n xs) (hb : Below w.heap.size w w') : Reads w' w'.heap.size size A n xs := (h.below hb).more hb.size
end

theorem reads_blk {w : World} {g t B size n : Nat} {l : List Value} (h : Blk w g t l.toArray) (hB : g < B) (hl : l.length = n * size) : Reads w B size (some ⟨g, 0, none⟩) n l :=
  ⟨hl, fun _ => ⟨_, rfl, hB, fun j u hu => by
    have := h.cell j
    rw [List.getElem?_toArray, hu] at this
    unfold Addr.add
    split
    · rename_i h0; subst h0; exact this
    · simpa using this⟩⟩
theorem item_at {w : World} {B : Nat} {A : Option Addr} {l : List Int} {k : Nat} (h : Reads w B 1 A l.length (l.map Iz)) (hk : k < l.length) :
    ∃ ad, A = some ad ∧ ad.block < B ∧ w.cell? (ad.add k) = some (.int .i64 l[k]) := by
  obtain ⟨ad, e, hb, hc⟩ := h.2 (by omega)
  exact ⟨ad, e, hb, hc k _ (by rw [List.getElem?_map, List.getElem?_eq_getElem hk]; rfl)⟩
theorem qrow_at {w : World} {B : Nat} {A : Option Addr} {Q : List (List Int)} {rows : List Value} {k : Nat} (h : Reads w B 1 A Q.length rows) (hr : ∀ (k : Nat) l, Q[k]? = some l → ∃ u, rows[k]? = some u ∧ IntsAt w B u l) (hk : k < Q.length) :
    ∃ ad Ak c, A = some ad ∧ ad.block < B ∧ w.cell? (ad.add k) = some (.slice Ak Q[k].length c) ∧ Reads w B 1 Ak Q[k].length (Q[k].map Iz) := by
  obtain ⟨ad, e, hb, hc⟩ := h.2 (by omega)
  obtain ⟨u, hu, Ak, c, rfl, ha⟩ := hr k _ (List.getElem?_eq_getElem hk)
  exact ⟨ad, Ak, c, e, hb, hc k _ hu, ha⟩

/-- copy of a whole slice into a new row of its length -/
theorem run_copy_all {P : Program} (W : World) (T ty elem g B : Nat) (hu : P.underlying T = some (.slice elem)) (hs : (P.info? elem).map (·.size) = some 1) (A : Option Addr) (n c : Nat) (xs : List Value) (hr : Reads W B 1 A n xs)
    (h1 : ∀ v ∈ xs, v.oneCell' = true) (cur : Array Value) (hg : Blk W g elem cur) (hc : cur.size = n) :
    ∃ W', (Builtin.copy_ #[T, T] ty #[.slice (some ⟨g, 0, none⟩) n n, .slice A n c]).run P W = .ok (goInt n) W' ∧ Blk W' g elem xs.toArray ∧ Below g W W' ∧ W'.heap.size = W.heap.size := by
  have hl : xs.length = n := by simpa using hr.1
  rcases Nat.eq_zero_or_pos n with h0 | h0
  · subst h0
    refine ⟨W, run_copy_none W T T ty elem _ A 0 0 0 c hu hs rfl, ?_, Below.refl _ _, rfl⟩
    have e1 : xs = [] := List.eq_nil_of_length_eq_zero hl
    have e2 : cur = #[] := Array.eq_empty_of_size_eq_zero hc
    rw [e1, ← e2]; exact hg
  · obtain ⟨ad, rfl, -, hcell⟩ := hr.2 h0
    have hrun := run_copy_row P W T T ty elem g 0 n n ad n c cur elem xs hu hs hg (by rw [hl]; exact (Nat.min_self n).symm) hcell (by omega) h1
    refine ⟨_, by rw [hl] at hrun; exact hrun, ?_, ?_, by simp⟩
    · have := setRow_heap W g cur (List.take 0 cur.toList ++ xs ++ List.drop (0 + n) cur.toList).toArray elem (0, 0) hg
      have e : List.take 0 cur.toList ++ xs ++ List.drop (0 + n) cur.toList = xs := by
        rw [List.drop_of_length_le (by simp; omega)]; simp
      rw [e] at this ⊢
      exact this
    · exact ⟨rfl, rfl, rfl, by simp, fun k hk => setRow_other W g k _ (by omega)⟩
end Go.Proofs.Ytpfhnpmcfjfmiaa
