/- The worlds in the walk of Core: rows of sources and a queue that grow side by side. -/
import Derived.Test.YtnjbofahboopoaaMK
namespace Go.Proofs.Ytnjbofahboopoaa
open Go.RowKit

structure CorW (w wr : World) (ts te e : TypeId) (sp : Array Value) (gk gs gb gc : Nat) (ck cs : Array Value) (vs : List Value) (R : List (List Nat)) (v : Value) (Q : List Nat) (n : Nat) (f : Nat → Bool) : Prop where
  sp_ : Blk wr w.heap.size ts sp
  k_ : Blk wr gk e ck
  s_ : Blk wr gs 4 cs
  gr : Grid wr w.heap.size gb te e vs R
  c_ : Blk wr gc 4 ((marks n f).map Value.bool).toArray
  own : wr.ownsRow w.heap.size e 1 v Q.length (Q.map I)
  vk : v.ownBlock ≠ some gk
  rk : ∀ x (hx : x < vs.length), vs[x].ownBlock ≠ some gk
  vr : ∀ x (hx : x < vs.length), vs[x].ownBlock = none ∨ vs[x].ownBlock ≠ v.ownBlock
  sc : gs ≠ gc
  lo : w.heap.size ≤ gc ∧ w.heap.size ≤ gb
  bel : Below w.heap.size w wr

section
variable {w wr : World} {ts te e : TypeId} {sp : Array Value} {gk gs gb gc : Nat} {ck cs : Array Value} {vs : List Value} {R : List (List Nat)} {v : Value} {Q : List Nat} {n : Nat} {f : Nat → Bool}
theorem CorW.drew (h : CorW w wr ts te e sp gk gs gb gc ck cs vs R v Q n f) : CorW w wr.drew ts te e sp gk gs gb gc ck cs vs R v Q n f :=
  ⟨h.sp_, h.k_, h.s_, h.gr.drew, h.c_, h.own, h.vk, h.rk, h.vr, h.sc, h.lo, h.bel.drew⟩
theorem CorW.alloc (h : CorW w wr ts te e sp gk gs gb gc ck cs vs R v Q n f) (o : Obj) : CorW w (wr.alloc o) ts te e sp gk gs gb gc ck cs vs R v Q n f :=
  ⟨h.sp_.alloc o, h.k_.alloc o, h.s_.alloc o, h.gr.alloc o, h.c_.alloc o, h.own.alloc o, h.vk, h.rk, h.vr, h.sc, h.lo, h.bel.alloc h.bel.size o⟩
theorem CorW.rowlt (h : CorW w wr ts te e sp gk gs gb gc ck cs vs R v Q n f) {x : Nat} (hx : x < vs.length) {b : Nat} (hb : vs[x].ownBlock = some b) : b < wr.heap.size :=
  ((h.gr.row x hx (by have := h.gr.len; omega)).lt b hb).2
/-- a mark is set -/
theorem CorW.mark (h : CorW w wr ts te e sp gk gs gb gc ck cs vs R v Q n f) (h1 : ts ≠ 4) (h2 : te ≠ 4) (h3 : e ≠ 4) (k : Nat) (b : Bool) :
    CorW w (wr.setCell ⟨gc, k, none⟩ (.bool b)) ts te e sp gk gs gb gc ck cs vs R v Q n (fun j => if j = k then b else f j) := by
  have hg : wr.grownBy (wr.setCell ⟨gc, k, none⟩ (.bool b)) (some gc) := ⟨rfl, rfl, rfl, by simp [World.setCell], fun j _ hne => Below.heap_setCell wr _ _ j (by rintro rfl; exact hne rfl)⟩
  exact ⟨h.sp_.far (Blk.ne_ h.sp_ h.c_ h1) _, h.k_.far (Blk.ne_ h.k_ h.c_ h3) _, h.s_.far (show gs ≠ gc from h.sc) _, h.gr.far h.c_ (Ne.symm h2) (Ne.symm h3) _ _, mark_set h.c_ k b, h.own.kept hg (.inr (own_blk_ne h.own h.c_ h3)), h.vk, h.rk, h.vr, h.sc, h.lo, h.bel.setCell h.lo.1 _⟩
/-- a state is appended to the queue -/
theorem CorW.app (h : CorW w wr ts te e sp gk gs gb gc ck cs vs R v Q n f) (h1 : ts ≠ e) (h2 : te ≠ e) (h3 : e ≠ 4) {x1 : World} {v' : Value} {k S : Nat} (hg : wr.grownBy x1 v.ownBlock) (ho : x1.ownsRow w.heap.size e 1 v' (Q.length + 1) (Q.map I ++ [I k]))
    (hv : v'.ownBlock = v.ownBlock ∨ v'.ownBlock = some S) (hS : wr.heap.size ≤ S) : CorW w x1 ts te e sp gk gs gb gc ck cs vs R v' (Q ++ [k]) n f := by
  refine ⟨h.sp_.grown hg (Ne.symm (own_blk_ne h.own h.sp_ (Ne.symm h1))), h.k_.grown hg (Ne.symm h.vk), h.s_.grown hg (Ne.symm (own_blk_ne h.own h.s_ h3)), h.gr.keep hg (Ne.symm (own_blk_ne h.own h.gr.blk (Ne.symm h2))) h.vr, h.c_.grown hg (Ne.symm (own_blk_ne h.own h.c_ h3)), by simpa using ho, ?_, h.rk, fun x hx => ?_, h.sc, h.lo,
    h.bel.grown hg h.bel.size (fun b hb => (h.own.lt b hb).1)⟩
  · rcases hv with hv | hv
    · rw [hv]; exact h.vk
    · rw [hv]; intro e0; injection e0 with e0; have := h.k_.lt; omega
  · rcases hv with hv | hv
    · rw [hv]; exact h.vr x hx
    · rw [hv]; right; intro e0; have := h.rowlt hx e0; omega
/-- a state is appended to a row -/
theorem CorW.row (h : CorW w wr ts te e sp gk gs gb gc ck cs vs R v Q n f) (h1 : ts ≠ e) (h2 : te ≠ e) (h3 : e ≠ 4) (h4 : te ≠ 4) (h5 : ts ≠ te) {x1 : World} {v' : Value} {t k S : Nat} (hS : wr.heap.size ≤ S) (ht : t < vs.length) (htr : t < R.length)
    (hg : wr.grownBy x1 vs[t].ownBlock) (ho : x1.ownsRow w.heap.size e 1 v' (R[t].length + 1) (R[t].map I ++ [I k])) (hv : v'.ownBlock = vs[t].ownBlock ∨ v'.ownBlock = some S) :
    CorW w (x1.setCell ⟨gb, t, none⟩ v') ts te e sp gk gs gb gc ck cs (vs.set t v') (R.set t (R[t] ++ [k])) v Q n f := by
  obtain ⟨hb1, hG⟩ := h.gr.app (Ne.symm h2) (k := k) hS ht htr hg ho hv
  have hrow := h.gr.row t ht htr
  have hset : x1.grownBy (x1.setCell ⟨gb, t, none⟩ v') (some gb) := ⟨rfl, rfl, rfl, by simp [World.setCell], fun j _ hne => Below.heap_setCell x1 _ v' j (by rintro rfl; exact hne rfl)⟩
  have hgb : vs[t].ownBlock ≠ some gb := own_blk_ne hrow h.gr.blk (Ne.symm h2)
  have s1 := h.sp_.grown hg (Ne.symm (own_blk_ne hrow h.sp_ (Ne.symm h1)))
  have k1 := h.k_.grown hg (Ne.symm (h.rk t ht))
  have b1 := h.s_.grown hg (Ne.symm (own_blk_ne hrow h.s_ h3))
  have c1 := h.c_.grown hg (Ne.symm (own_blk_ne hrow h.c_ h3))
  have o1 := h.own.kept hg (by
    cases hvb : v.ownBlock with
    | none => exact .inl rfl
    | some b =>
      right
      rcases h.vr t ht with h6 | h6
      · rw [h6]; simp
      · rw [hvb] at h6; exact Ne.symm h6)
  have hbel := h.bel.grown hg h.bel.size (fun b hb => (hrow.lt b hb).1)
  refine ⟨s1.far (Blk.ne_ s1 hb1 h5) _, k1.far (Blk.ne_ k1 hb1 (Ne.symm h2)) _, b1.far (Blk.ne_ b1 hb1 (Ne.symm h4)) _, hG, c1.far (Blk.ne_ c1 hb1 (Ne.symm h4)) _, o1.kept hset (.inr (own_blk_ne o1 hb1 (Ne.symm h2))), h.vk, fun x hx => ?_, fun x hx => ?_, h.sc, h.lo, hbel.setCell h.lo.2 _⟩
  · have hx0 : x < vs.length := by simpa using hx
    by_cases e0 : x = t
    · subst e0
      rw [List.getElem_set_self]
      rcases hv with hv | hv
      · rw [hv]; exact h.rk x hx0
      · rw [hv]; intro e1; injection e1 with e1; have := h.k_.lt; omega
    · rw [List.getElem_set_ne (Ne.symm e0)]; exact h.rk x hx0
  · have hx0 : x < vs.length := by simpa using hx
    by_cases e0 : x = t
    · subst e0
      rw [List.getElem_set_self]
      rcases hv with hv | hv
      · rw [hv]; exact h.vr x hx0
      · rw [hv]; right; intro e1; have := (h.own.lt _ e1.symm).2; omega
    · rw [List.getElem_set_ne (Ne.symm e0)]; exact h.vr x hx0
end
end Go.Proofs.Ytnjbofahboopoaa
