/- The worlds in the walk of ref21.finished: marks, counters, the states finished, the way. -/
import Derived.Test.YtnjbofahboopoaaMK
import Derived.Test.YtnjbofahboopoaaG3
namespace Go.Proofs.Ytnjbofahboopoaa
open Go.RowKit

structure FinW (w wr : World) (sp : Array Value) (gf gn n : Nat) (fo : Nat → Bool) (nx : Nat → Nat) (vo vw : Value) (O W : List Nat) : Prop where
  sp_ : Blk wr w.heap.size 25 sp
  f_ : Blk wr gf 4 ((marks n fo).map Value.bool).toArray
  n_ : Blk wr gn 3 (nums n (nI nx)).toArray
  o_ : wr.ownsRow w.heap.size 3 1 vo O.length (O.map I)
  w_ : wr.ownsRow w.heap.size 3 1 vw W.length (W.map I)
  on : vo.ownBlock ≠ some gn
  wn : vw.ownBlock ≠ some gn
  ow : vo.ownBlock = none ∨ vo.ownBlock ≠ vw.ownBlock
  lo : w.heap.size ≤ gf ∧ w.heap.size ≤ gn
  bel : Below w.heap.size w wr
theorem sep {a b : Option Nat} (h : a = none ∨ a ≠ b) : b = none ∨ b ≠ a := by
  cases b with
  | none => exact .inl rfl
  | some y =>
    right
    rcases h with h | h
    · rw [h]; simp
    · exact Ne.symm h
theorem gset (w : World) (g i : Nat) (u : Value) : w.grownBy (w.setCell ⟨g, i, none⟩ u) (some g) :=
  ⟨rfl, rfl, rfl, by simp [World.setCell], fun j _ hne => Below.heap_setCell w _ u j (by rintro rfl; exact hne rfl)⟩
section
variable {w wr : World} {sp : Array Value} {gf gn n : Nat} {fo : Nat → Bool} {nx : Nat → Nat} {vo vw : Value} {O W : List Nat}
theorem FinW.drew (h : FinW w wr sp gf gn n fo nx vo vw O W) : FinW w wr.drew sp gf gn n fo nx vo vw O W := ⟨h.sp_, h.f_, h.n_, h.o_, h.w_, h.on, h.wn, h.ow, h.lo, h.bel.drew⟩
theorem FinW.drewN (h : FinW w wr sp gf gn n fo nx vo vw O W) (d : Nat) : FinW w (wr.drewN d) sp gf gn n fo nx vo vw O W := ⟨h.sp_.drewN d, h.f_.drewN d, h.n_.drewN d, h.o_, h.w_, h.on, h.wn, h.ow, h.lo, below_drewN h.bel d⟩
theorem FinW.alloc (h : FinW w wr sp gf gn n fo nx vo vw O W) (o : Obj) : FinW w (wr.alloc o) sp gf gn n fo nx vo vw O W :=
  ⟨h.sp_.alloc o, h.f_.alloc o, h.n_.alloc o, h.o_.alloc o, h.w_.alloc o, h.on, h.wn, h.ow, h.lo, h.bel.alloc h.bel.size o⟩
theorem FinW.setF (h : FinW w wr sp gf gn n fo nx vo vw O W) (k : Nat) (b : Bool) : FinW w (wr.setCell ⟨gf, k, none⟩ (.bool b)) sp gf gn n (PlT.upd fo k b) nx vo vw O W :=
  ⟨h.sp_.far (Blk.ne_ h.sp_ h.f_ (by decide)) _, mark_set h.f_ k b, h.n_.far (Blk.ne_ h.n_ h.f_ (by decide)) _, h.o_.kept (gset _ _ _ _) (.inr (own_blk_ne h.o_ h.f_ (by decide))), h.w_.kept (gset _ _ _ _) (.inr (own_blk_ne h.w_ h.f_ (by decide))), h.on, h.wn, h.ow, h.lo, h.bel.setCell h.lo.1 _⟩
theorem FinW.setN (h : FinW w wr sp gf gn n fo nx vo vw O W) (k v : Nat) : FinW w (wr.setCell ⟨gn, k, none⟩ (.int .i64 (v : Int))) sp gf gn n fo (PlT.upd nx k v) vo vw O W := by
  refine ⟨h.sp_.far (Blk.ne_ h.sp_ h.n_ (by decide)) _, h.f_.far (Blk.ne_ h.f_ h.n_ (by decide)) _, ?_, h.o_.kept (gset _ _ _ _) (.inr h.on), h.w_.kept (gset _ _ _ _) (.inr h.wn), h.on, h.wn, h.ow, h.lo, h.bel.setCell h.lo.2 _⟩
  rw [← nums_congr (nI_upd nx k v)]
  exact num_set h.n_ k v
/-- a new way -/
theorem FinW.newW (h : FinW w wr sp gf gn n fo nx vo vw O W) (k : Nat) : FinW w (wr.alloc (.cells #[I k] 3)) sp gf gn n fo nx vo (.slice (some ⟨wr.heap.size, 0, none⟩) 1 1) O [k] := by
  refine ⟨h.sp_.alloc _, h.f_.alloc _, h.n_.alloc _, h.o_.alloc _, ⟨rfl, .inr ⟨wr.heap.size, 1, #[I k], rfl, h.bel.size, Blk.new _ _ _, Nat.le_refl _, by unfold maxLen; omega, rfl, rfl⟩⟩, h.on, ?_, ?_, h.lo, h.bel.alloc h.bel.size _⟩
  · intro e0
    have h1 := h.n_.lt
    simp [Value.ownBlock] at e0
    omega
  · cases hv : vo.ownBlock with
    | none => exact .inl rfl
    | some b =>
      right
      have h1 := (h.o_.lt b hv).2
      simp [Value.ownBlock]
      omega
theorem FinW.appO (h : FinW w wr sp gf gn n fo nx vo vw O W) {x1 : World} {v' : Value} {k S : Nat} (hg : wr.grownBy x1 vo.ownBlock) (ho : x1.ownsRow w.heap.size 3 1 v' (O.length + 1) (O.map I ++ [I k])) (hv : v'.ownBlock = vo.ownBlock ∨ v'.ownBlock = some S) (hS : wr.heap.size ≤ S) :
    FinW w x1 sp gf gn n fo nx v' vw (O ++ [k]) W := by
  refine ⟨h.sp_.grown hg (Ne.symm (own_blk_ne h.o_ h.sp_ (by decide))), h.f_.grown hg (Ne.symm (own_blk_ne h.o_ h.f_ (by decide))), h.n_.grown hg (Ne.symm h.on), by simpa using ho, h.w_.kept hg (sep h.ow), ?_, h.wn, ?_, h.lo, h.bel.grown hg h.bel.size (fun b hb => (h.o_.lt b hb).1)⟩
  · rcases hv with hv | hv
    · rw [hv]; exact h.on
    · rw [hv]; intro e0; injection e0 with e0; have := h.n_.lt; omega
  · rcases hv with hv | hv
    · rw [hv]; exact h.ow
    · rw [hv]; right; intro e0; have := (h.w_.lt _ e0.symm).2; omega
theorem FinW.appW (h : FinW w wr sp gf gn n fo nx vo vw O W) {x1 : World} {v' : Value} {k S : Nat} (hg : wr.grownBy x1 vw.ownBlock) (ho : x1.ownsRow w.heap.size 3 1 v' (W.length + 1) (W.map I ++ [I k])) (hv : v'.ownBlock = vw.ownBlock ∨ v'.ownBlock = some S) (hS : wr.heap.size ≤ S) :
    FinW w x1 sp gf gn n fo nx vo v' O (W ++ [k]) := by
  refine ⟨h.sp_.grown hg (Ne.symm (own_blk_ne h.w_ h.sp_ (by decide))), h.f_.grown hg (Ne.symm (own_blk_ne h.w_ h.f_ (by decide))), h.n_.grown hg (Ne.symm h.wn), h.o_.kept hg h.ow, by simpa using ho, h.on, ?_, ?_, h.lo, h.bel.grown hg h.bel.size (fun b hb => (h.w_.lt b hb).1)⟩
  · rcases hv with hv | hv
    · rw [hv]; exact h.wn
    · rw [hv]; intro e0; injection e0 with e0; have := h.n_.lt; omega
  · rcases hv with hv | hv
    · rw [hv]; exact h.ow
    · rw [hv]
      cases hvo : vo.ownBlock with
      | none => exact .inl rfl
      | some b => right; intro e0; have := (h.o_.lt _ (hvo.trans e0)).2; omega
theorem FinW.popW {g c x : Nat} (h : FinW w wr sp gf gn n fo nx vo (.slice (some ⟨g, 0, none⟩) (W.length + 1) c) O (W ++ [x])) : FinW w wr sp gf gn n fo nx vo (.slice (some ⟨g, 0, none⟩) W.length c) O W := by
  refine ⟨h.sp_, h.f_, h.n_, h.o_, ?_, h.on, h.wn, h.ow, h.lo, h.bel⟩
  have h1 := h.w_
  rw [List.length_append, List.map_append] at h1
  have h2 := own_take (m := W.length) h1
  rw [List.take_left' (by simp)] at h2
  exact h2
end
end Go.Proofs.Ytnjbofahboopoaa
