/- The worlds in the walk of Order: rows of sources, the order so far, the counts. -/
import Derived.Test.YtbilciiffecdgaaM1
namespace Go.Proofs.Ytbilciiffecdgaa
open Go.RowKit

structure OrdW (w wr : World) (ts te e : TypeId) (sp : Array Value) (Bs g ge : Nat) (vs : List Value) (R : List (List Nat)) (v : Value) (O D : List Nat) : Prop where
  sp_ : Blk wr w.heap.size ts sp
  gr : Grid wr Bs g te e vs R
  lo : w.heap.size < Bs ∧ Bs ≤ g ∧ g < ge
  hi : ∀ x (h : x < vs.length) b, vs[x].ownBlock = some b → b < ge
  own : wr.ownsRow w.heap.size e 1 v O.length (O.map I)
  vb : ∀ b, v.ownBlock = some b → b < Bs ∨ ge < b
  dd : Blk wr ge e (D.map I).toArray
  bel : Below w.heap.size w wr

section
variable {w wr : World} {ts te e : TypeId} {sp : Array Value} {Bs g ge : Nat} {vs : List Value} {R : List (List Nat)} {v : Value} {O D : List Nat}
theorem OrdW.drewN (h : OrdW w wr ts te e sp Bs g ge vs R v O D) (n : Nat) : OrdW w (wr.drewN n) ts te e sp Bs g ge vs R v O D :=
  ⟨h.sp_, ⟨h.gr.len, h.gr.blk, fun x hv hr => h.gr.row x hv hr, h.gr.ne⟩, h.lo, h.hi, h.own, h.vb, h.dd, ⟨h.bel.os, h.bel.tape, h.bel.output, h.bel.size, h.bel.block⟩⟩
theorem OrdW.keep {w' : World} {row : Option Nat} (h : OrdW w wr ts te e sp Bs g ge vs R v O D) (hg : wr.grownBy w' row) (h0 : ∀ b, row = some b → w.heap.size < b ∧ (b < Bs ∨ ge ≤ b)) :
    Blk w' w.heap.size ts sp ∧ Grid w' Bs g te e vs R ∧ Below w.heap.size w w' := by
  obtain ⟨l1, l2, l3⟩ := h.lo
  refine ⟨h.sp_.grown hg (fun e0 => ?_), h.gr.keep hg (fun e0 => ?_) (fun x hx => ?_), h.bel.grown hg h.bel.size (fun b hb => Nat.le_of_lt (h0 b hb).1)⟩
  · have := (h0 _ e0.symm).1; omega
  · have := (h0 _ e0.symm).2; omega
  · cases hv : vs[x].ownBlock with
    | none => exact .inl rfl
    | some b =>
      right
      intro e0
      have h1 := (h0 _ e0.symm).2
      have h2 := h.hi x hx b hv
      have h3 := ((h.gr.row x hx (by have := h.gr.len; omega)).lt b hv).1
      omega
theorem OrdW.store (h : OrdW w wr ts te e sp Bs g ge vs R v O D) (k d : Nat) : OrdW w (wr.setCell ⟨ge, k, none⟩ (I d)) ts te e sp Bs g ge vs R v O (D.set k d) := by
  obtain ⟨l1, l2, l3⟩ := h.lo
  have hg : wr.grownBy (wr.setCell ⟨ge, k, none⟩ (I d)) (some ge) := ⟨rfl, rfl, rfl, by simp [World.setCell], fun j _ hne => Below.heap_setCell wr _ _ j (by rintro rfl; exact hne rfl)⟩
  obtain ⟨k1, k2, k3⟩ := h.keep hg (fun b hb => by injection hb with hb; subst hb; omega)
  refine ⟨k1, k2, h.lo, h.hi, h.own.kept hg ?_, h.vb, ?_, k3⟩
  · cases hv : v.ownBlock with
    | none => exact .inl rfl
    | some b => exact .inr fun e0 => by injection e0 with e0; subst e0; have := h.vb _ hv; omega
  · have := h.dd.setL k (I d)
    rwa [List.map_set]
theorem OrdW.app (h : OrdW w wr ts te e sp Bs g ge vs R v O D) (hts : ts ≠ e) {x1 : World} {v' : Value} {k S : Nat} (hg : wr.grownBy x1 v.ownBlock) (ho : x1.ownsRow w.heap.size e 1 v' (O.length + 1) (O.map I ++ [I k]))
    (hv : v'.ownBlock = v.ownBlock ∨ v'.ownBlock = some S) (hS : wr.heap.size ≤ S) : OrdW w x1 ts te e sp Bs g ge vs R v' (O ++ [k]) D := by
  obtain ⟨l1, l2, l3⟩ := h.lo
  have hne := own_blk_ne h.own h.sp_ (Ne.symm hts)
  have hbase : ∀ b, v.ownBlock = some b → w.heap.size < b ∧ (b < Bs ∨ ge ≤ b) := fun b hb => by
    have h1 := (h.own.lt b hb).1
    have h2 := h.vb b hb
    have h3 : b ≠ w.heap.size := fun e0 => hne (by rw [hb, e0])
    omega
  obtain ⟨k1, k2, k3⟩ := h.keep hg hbase
  refine ⟨k1, k2, h.lo, h.hi, by simpa using ho, fun b hb => ?_, h.dd.grown hg (fun e0 => ?_), k3⟩
  · rcases hv with hv | hv
    · exact h.vb b (by rw [← hv]; exact hb)
    · rw [hv] at hb
      injection hb with hb
      have := h.dd.lt
      omega
  · have := h.vb _ e0.symm
    omega
theorem OrdW.alloc (h : OrdW w wr ts te e sp Bs g ge vs R v O D) (o : Obj) : OrdW w (wr.alloc o) ts te e sp Bs g ge vs R v O D :=
  ⟨h.sp_.alloc o, h.gr.alloc o, h.lo, h.hi, h.own.alloc o, h.vb, h.dd.alloc o, h.bel.alloc h.bel.size o⟩
end
end Go.Proofs.Ytbilciiffecdgaa
