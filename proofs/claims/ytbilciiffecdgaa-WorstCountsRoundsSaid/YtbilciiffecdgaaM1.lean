/- Memory words: blocks that hold a list; rows of rows that the call itself makes and appends to. -/
import Derived.Test.YtbilciiffecdgaaKM
import Derived.Deep.OwnRows
namespace Go.Proofs.Ytbilciiffecdgaa
open Go.RowKit

def I (z : Nat) : Value := .int .i64 (z : Int)

section
variable {w w' : World} {g : Nat} {t : TypeId}
theorem Blk.get {l : List Value} (h : Blk w g t l.toArray) {k : Nat} (hk : k < l.length) : w.cell? ⟨g, k, none⟩ = some l[k] := by
  rw [h.cell k, List.getElem?_toArray, List.getElem?_eq_getElem hk]
theorem Blk.setL {l : List Value} (h : Blk w g t l.toArray) (k : Nat) (u : Value) : Blk (w.setCell ⟨g, k, none⟩ u) g t (l.set k u).toArray := by
  have := h.set_ k u
  rwa [List.setIfInBounds_toArray] at this
end
theorem made_list (z : Value) (n : Nat) : madeCells #[z] n = (List.replicate n z).toArray := by
  rw [← toList_madeCells_one]

theorem own_below' {w w' : World} {base e size : Nat} {v : Value} {n : Nat} {xs : List Value} (h : w.ownsRow base e size v n xs) (hb : Below w.heap.size w w') : w'.ownsRow base e size v n xs := by
  have hg : w.grownBy w' none := ⟨hb.os, hb.tape, hb.output, hb.size, fun k hk _ => hb.block k hk⟩
  refine h.kept hg ?_
  cases v.ownBlock with
  | none => exact .inl rfl
  | some _ => exact .inr (by simp)
theorem grown_drew {W x1 : World} {row : Option Nat} (h : W.drew.grownBy x1 row) : W.grownBy x1 row := ⟨h.os, h.tape, h.output, h.size, h.block⟩
theorem grown_drewN {W x1 : World} {row : Option Nat} {n : Nat} (h : (W.drewN n).grownBy x1 row) : W.grownBy x1 row := ⟨h.os, h.tape, h.output, h.size, h.block⟩
theorem grown_pre {W x1 : World} {row : Option Nat} {o : Obj} (h : (W.alloc o).grownBy x1 row) : W.grownBy x1 row :=
  ⟨h.os, h.tape, h.output, by have := h.size; simp at this; omega, fun i hi hne => (h.block i (by simp; omega) hne).trans (Below.heap_alloc W o i hi)⟩
theorem reads_new1 (w : World) (t : TypeId) (u : Value) : Reads (w.alloc (.cells #[u] t)) (w.heap.size + 1) 1 (some ⟨w.heap.size, 0, none⟩) 1 [u] :=
  ⟨rfl, fun _ => ⟨_, rfl, Nat.lt_succ_self _, fun j x hx => by
    rcases j with _ | j
    · simp only [List.getElem?_cons_zero, Option.some.injEq] at hx
      subst hx
      exact (Blk.new w t #[u]).cell 0
    · simp at hx⟩⟩
theorem one_I (z : Nat) : ∀ u ∈ [I z], u.oneCell' = true := by simp [I, Value.oneCell']
theorem len_ok {n : Nat} (h : n ≤ 1099511627776) : n ≤ maxLen := by unfold maxLen; omega

/-- rows of numbers, each of the call's own, their slices in block g -/
structure Grid (w : World) (base g te e : Nat) (vs : List Value) (R : List (List Nat)) : Prop where
  len : vs.length = R.length
  blk : Blk w g te vs.toArray
  row : ∀ x (hv : x < vs.length) (hr : x < R.length), w.ownsRow base e 1 vs[x] R[x].length (R[x].map I)
  ne : ∀ x y (hx : x < vs.length) (hy : y < vs.length), x ≠ y → vs[x].ownBlock = none ∨ vs[x].ownBlock ≠ vs[y].ownBlock

section
variable {w w' : World} {base g te e : Nat} {vs : List Value} {R : List (List Nat)}
theorem Grid.start (w : World) (base te e n : Nat) : Grid (w.alloc (.cells (List.replicate n (.slice none 0 0)).toArray te)) base w.heap.size te e (List.replicate n (.slice none 0 0)) (List.replicate n []) :=
  ⟨by simp, Blk.new _ _ _, fun x hv hr => by simpa using World.ownsRow_nil _ _ _ _, fun x y hx hy _ => .inl (by simp [Value.ownBlock])⟩
theorem Grid.keep (h : Grid w base g te e vs R) {row : Option Nat} (hg : w.grownBy w' row) (hgr : some g ≠ row) (hr : ∀ x (hx : x < vs.length), vs[x].ownBlock = none ∨ vs[x].ownBlock ≠ row) : Grid w' base g te e vs R :=
  ⟨h.len, h.blk.grown hg hgr, fun x hv hx => (h.row x hv hx).kept hg (hr x hv), h.ne⟩
theorem Grid.below (h : Grid w base g te e vs R) (hb : Below w.heap.size w w') : Grid w' base g te e vs R :=
  ⟨h.len, h.blk.below hb h.blk.lt, fun x hv hx => own_below' (h.row x hv hx) hb, h.ne⟩
theorem Grid.alloc (h : Grid w base g te e vs R) (o : Obj) : Grid (w.alloc o) base g te e vs R :=
  ⟨h.len, h.blk.alloc o, fun x hv hx => (h.row x hv hx).alloc o, h.ne⟩
theorem Grid.drew (h : Grid w base g te e vs R) : Grid w.drew base g te e vs R := ⟨h.len, h.blk, fun x hv hx => h.row x hv hx, h.ne⟩
/-- a store into a block of another type -/
theorem Grid.far (h : Grid w base g te e vs R) {b t : Nat} {cs : Array Value} (hb : Blk w b t cs) (h1 : t ≠ te) (h2 : t ≠ e) (i : Nat) (u : Value) : Grid (w.setCell ⟨b, i, none⟩ u) base g te e vs R := by
  have hg : w.grownBy (w.setCell ⟨b, i, none⟩ u) (some b) := ⟨rfl, rfl, rfl, by simp [World.setCell], fun j _ hne => Below.heap_setCell w _ u j (by rintro rfl; exact hne rfl)⟩
  refine ⟨h.len, h.blk.far (Blk.ne_ h.blk hb (Ne.symm h1)) u, fun x hv hx => (h.row x hv hx).kept hg (.inr ?_), h.ne⟩
  exact own_blk_ne (h.row x hv hx) hb (Ne.symm h2)

/-- x[t] = append(x[t], k): what the append has made, then the store -/
theorem Grid.app (h : Grid w base g te e vs R) (hne : e ≠ te) {t k : Nat} {v' : Value} {x1 : World} {S : Nat} (hS : w.heap.size ≤ S) (ht : t < vs.length) (htr : t < R.length)
    (hg : w.grownBy x1 vs[t].ownBlock) (ho : x1.ownsRow base e 1 v' (R[t].length + 1) (R[t].map I ++ [I k])) (hv : v'.ownBlock = vs[t].ownBlock ∨ v'.ownBlock = some S) :
    Blk x1 g te vs.toArray ∧ Grid (x1.setCell ⟨g, t, none⟩ v') base g te e (vs.set t v') (R.set t (R[t] ++ [k])) := by
  have hgt : vs[t].ownBlock ≠ some g := own_blk_ne (h.row t ht htr) h.blk hne
  have hb1 : Blk x1 g te vs.toArray := h.blk.grown hg (Ne.symm hgt)
  have hset : x1.grownBy (x1.setCell ⟨g, t, none⟩ v') (some g) := ⟨rfl, rfl, rfl, by simp [World.setCell], fun j _ hne => Below.heap_setCell x1 _ v' j (by rintro rfl; exact hne rfl)⟩
  refine ⟨hb1, by simpa using h.len, hb1.setL t v', fun x hx hxr => ?_, fun x y hx hy hxy => ?_⟩
  · have hx0 : x < vs.length := by simpa using hx
    have hxr0 : x < R.length := by simpa using hxr
    by_cases e0 : x = t
    · subst e0
      simp only [List.getElem_set_self]
      rw [List.length_append, List.map_append]
      exact ho.kept hset (.inr (own_blk_ne ho hb1 hne))
    · rw [List.getElem_set_ne (Ne.symm e0), List.getElem_set_ne (Ne.symm e0)]
      have hk := (h.row x hx0 hxr0).kept hg (h.ne x t hx0 ht e0)
      exact hk.kept hset (.inr (own_blk_ne hk hb1 hne))
  · have hx0 : x < vs.length := by simpa using hx
    have hy0 : y < vs.length := by simpa using hy
    have hlt : ∀ z (hz : z < vs.length), ∀ b, vs[z].ownBlock = some b → b < w.heap.size := fun z hz b hb => ((h.row z hz (by have := h.len; omega)).lt b hb).2
    by_cases e1 : x = t
    · subst e1
      have e2 : y ≠ x := fun e => hxy e.symm
      simp only [List.getElem_set_self]
      rw [List.getElem_set_ne (Ne.symm e2)]
      right
      rcases hv with hv | hv
      · rw [hv]
        rcases h.ne y x hy0 hx0 e2 with h1 | h1
        · intro h2
          rcases h.ne x y hx0 hy0 hxy with h3 | h3
          · rw [h1] at h2; exact absurd (hv.trans h2) (by
              intro h4
              have := ho.form (by omega)
              obtain ⟨g', cap, hvv, _⟩ := this
              rw [hvv] at h4
              simp [Value.ownBlock] at h4)
          · exact h3 h2
        · exact fun h2 => h1 h2.symm
      · rw [hv]
        intro h2
        have := hlt y hy0 S h2.symm
        omega
    · rw [List.getElem_set_ne (Ne.symm e1)]
      by_cases e2 : y = t
      · subst e2
        simp only [List.getElem_set_self]
        rcases hv with hv | hv
        · rw [hv]; exact h.ne x y hx0 hy0 hxy
        · right
          rw [hv]
          intro h2
          have := hlt x hx0 S h2
          omega
      · rw [List.getElem_set_ne (Ne.symm e2)]
        exact h.ne x y hx0 hy0 hxy
end
end Go.Proofs.Ytbilciiffecdgaa
