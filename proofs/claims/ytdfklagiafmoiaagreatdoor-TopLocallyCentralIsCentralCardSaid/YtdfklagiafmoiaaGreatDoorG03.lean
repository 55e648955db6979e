/- Memory in chunks: what a call has made, each chunk with the blocks that it lies in, the chunks apart from each other. -/
import Derived.Test.YtdfklagiafmoiaaGreatDoorG02
import Derived.Deep.RegionHeld3
import Derived.Deep.OwnRows
import Derived.Deep.DeepCutAuto
import Derived.Deep.Cut
import Derived.Deep.LoopGhost
import Derived.Deep.RegionLaw
import Derived.Deep.RegionWith
import Derived.StillTailTactics
import Derived.Outline
import Derived.ChangeAlike
namespace Go.Proofs.YtdfklagiafmoiaaGreatDoor
open Go.RowKit

section
variable {w w' : World} {g : Nat} {t : TypeId}
theorem Blk.get {l : List Value} (h : Blk w g t l.toArray) {k : Nat} (hk : k < l.length) : w.cell? ⟨g, k, none⟩ = some l[k] := by
  rw [h.cell k, List.getElem?_toArray, List.getElem?_eq_getElem hk]
theorem Blk.setL {l : List Value} (h : Blk w g t l.toArray) (k : Nat) (u : Value) : Blk (w.setCell ⟨g, k, none⟩ u) g t (l.set k u).toArray := by
  have := h.set_ k u
  rwa [List.setIfInBounds_toArray] at this
end
theorem made_list (z : Value) (n : Nat) : madeCells #[z] n = (List.replicate n z).toArray := by
  rw [← toList_madeCells_one]

theorem own_below' {w w' : World} {base e size : Nat} {v : Value} {n : Nat} {xs : List Value} (h : w.ownsRow base e size v n xs) (hb : Below w.heap.size w w') : w'.ownsRow base e size v n xs := by
  have hg : w.grownBy w' none := ⟨hb.os, hb.tape, hb.output, hb.size, fun k hk _ => hb.block k hk⟩
  refine h.kept hg ?_
  cases v.ownBlock with
  | none => exact .inl rfl
  | some _ => exact .inr (by simp)
theorem grown_drew {W x1 : World} {row : Option Nat} (h : W.drew.grownBy x1 row) : W.grownBy x1 row := ⟨h.os, h.tape, h.output, h.size, h.block⟩
theorem grown_drewN {W x1 : World} {row : Option Nat} {n : Nat} (h : (W.drewN n).grownBy x1 row) : W.grownBy x1 row := ⟨h.os, h.tape, h.output, h.size, h.block⟩
theorem grown_pre {W x1 : World} {row : Option Nat} {o : Obj} (h : (W.alloc o).grownBy x1 row) : W.grownBy x1 row :=
  ⟨h.os, h.tape, h.output, by have := h.size; simp at this; omega, fun i hi hne => (h.block i (by simp; omega) hne).trans (Below.heap_alloc W o i hi)⟩
theorem reads_new1 (w : World) (t : TypeId) (u : Value) : Reads (w.alloc (.cells #[u] t)) (w.heap.size + 1) 1 (some ⟨w.heap.size, 0, none⟩) 1 [u] :=
  ⟨rfl, fun _ => ⟨_, rfl, Nat.lt_succ_self _, fun j x hx => by
    rcases j with _ | j
    · simp only [List.getElem?_cons_zero, Option.some.injEq] at hx
      subst hx
      exact (Blk.new w t #[u]).cell 0
    · simp at hx⟩⟩
theorem len_ok {n : Nat} (h : n ≤ 1099511627776) : n ≤ maxLen := by unfold maxLen; omega

theorem reads_blk {w : World} {g t B size n : Nat} {l : List Value} (h : Blk w g t l.toArray) (hB : g < B) (hl : l.length = n * size) : Reads w B size (some ⟨g, 0, none⟩) n l :=
  ⟨hl, fun _ => ⟨_, rfl, hB, fun j u hu => by
    have := h.cell j
    rw [List.getElem?_toArray, hu] at this
    unfold Addr.add
    split
    · rename_i h0; subst h0; exact this
    · simpa using this⟩⟩

theorem reads_blk1 {w : World} {g t : Nat} {u : Value} (h : Blk w g t #[u]) : Reads w w.heap.size 1 (some ⟨g, 0, none⟩) 1 [u] := reads_blk (l := [u]) h h.lt rfl
theorem step_append_one {P : Program} {w : World} {ops : Array Oper} {o : Oper} {a : Act} {K : Act → World → Prop} {Q : Exit → Act → World → Prop} {E : Prop} (hgd : o.guard = none) (s x : Operand) (t : TypeId)
    (ho : o.op = .call { callee := .builtin .append, args := #[s, x], argTypes := #[t, t] })
    (base : Nat) (e : TypeId) (i : TypeInfo) (z : Value) (bytes : Nat) (ht : P.underlying t = some (.slice e)) (hi : P.info? e = some i) (hz : i.zero = some z)
    (hsize : i.size = 1) (hby : i.bytes = bytes) (hzs : z.cells.size = 1)
    (v : Value) (n : Nat) (xs : List Value) (hs : a.eval s = v) (hown : w.ownsRow base e 1 v n xs)
    {g : Nat} {u : Value} (hx : a.eval x = .slice (some ⟨g, 0, none⟩) 1 1) (hb : Blk w g e #[u]) (h1 : ∀ y ∈ [u], y.oneCell' = true)
    (h63 : n + 1 ≤ maxLen) (hbytes : (n + 1) * bytes ≤ 140737488355328) (hbase : base ≤ w.heap.size)
    (h : ∀ v' w', w'.ownsRow base e 1 v' (n + 1) (xs ++ [u]) → w.grownBy w' v.ownBlock → (v'.ownBlock = v.ownBlock ∨ v'.ownBlock = some w.heap.size) → K (a.put o.dst v') w') :
    if Region.wanted o (yielded ops a.tmps) = true then Oper.wp P o a w K Q else E :=
  step_append_any _ hgd s x t ho base e i z 1 bytes ht hi hz hsize hby hzs (by decide) v n xs hs hown w.heap.size _ 1 1 [u] hx (reads_blk1 hb) h1 h63 hbytes hbase h
theorem below_step {W0 W w' : World} (h2 : Below W.heap.size W w') (h1 : Below W0.heap.size W0 W) : Below W0.heap.size W0 w' := h1.trans (h2.mono h1.size)
theorem below_end {w W0 w' : World} (h : Below W0.heap.size W0 w') (h0 : Below w.heap.size w W0) : Below w.heap.size w w' := h0.trans (h.mono h0.size)
theorem below_rule (W0 : World) : ∀ x, Below W0.heap.size W0 x → ∀ b o, b < W0.heap.size → x.cell? ⟨b, o, none⟩ = W0.cell? ⟨b, o, none⟩ :=
  fun _ h b o hb => h.cell (p := ⟨b, o, none⟩) hb
theorem below_addr (W0 : World) : ∀ x, Below W0.heap.size W0 x → ∀ a : Addr, a.block < W0.heap.size → x.cell? a = W0.cell? a :=
  fun _ h _ hb => h.cell hb
theorem balloc {w X : World} (h : Below w.heap.size w X) (o : Obj) : Below w.heap.size w (X.alloc o) := h.alloc h.size o
theorem blk_new_at {w : World} {g t : Nat} {cs : Array Value} (h : g = w.heap.size) : Blk (w.alloc (.cells cs t)) g t cs := by subst h; exact Blk.new _ _ _
theorem bdrw {w X : World} (h : Below w.heap.size w X) : Below w.heap.size w X.drew := h.drew
theorem grall {w x : World} {row : Option Nat} (h : w.grownBy x row) (o : Obj) : w.grownBy (x.alloc o) row :=
  ⟨h.os, h.tape, h.output, by have := h.size; simp; omega, fun i hi hne => (Below.heap_alloc x o i (Nat.lt_of_lt_of_le hi h.size)).trans (h.block i hi hne)⟩
theorem grdrw {w x : World} {row : Option Nat} (h : w.grownBy x row) : w.grownBy x.drew row := ⟨h.os, h.tape, h.output, h.size, h.block⟩
theorem cells_grown {W X : World} {g : Nat} {a b : Value} {row : Option Nat} (h : W.grownBy X row) (hg : g < W.heap.size) (hr : some g ≠ row) (h0 : W.cell? ⟨g, 0, none⟩ = some a) (h1 : W.cell? ⟨g, 1, none⟩ = some b) : X.cell? ⟨g, 0, none⟩ = some a ∧ X.cell? ⟨g, 1, none⟩ = some b :=
  ⟨(World.cell?_of_block (h.block g hg hr)).trans h0, (World.cell?_of_block (h.block g hg hr)).trans h1⟩
theorem cells_alloc {X : World} {g : Nat} {a b : Value} {o : Obj} (_hg : True) (h : X.cell? ⟨g, 0, none⟩ = some a ∧ X.cell? ⟨g, 1, none⟩ = some b) : (X.alloc o).cell? ⟨g, 0, none⟩ = some a ∧ (X.alloc o).cell? ⟨g, 1, none⟩ = some b :=
  ⟨(World.cell?_alloc_some X _ o (by rw [h.1]; rfl)).trans h.1, (World.cell?_alloc_some X _ o (by rw [h.2]; rfl)).trans h.2⟩
theorem own_slice {w : World} {base e size n : Nat} {v : Value} {xs : List Value} (h : w.ownsRow base e size v n xs) : ∃ (A : Option Addr) (c : Nat), v = .slice A n c := by
  rcases h.2 with ⟨rfl, rfl⟩ | ⟨g', cap, cur, rfl, _⟩
  · exact ⟨_, _, rfl⟩
  · exact ⟨_, _, rfl⟩
theorem own_sl {w : World} {base e size n : Nat} {v : Value} {xs : List Value} (h : w.ownsRow base e size v n xs) : ∃ (A : Option Addr) (c : Nat), v = .slice A n c := own_slice h
structure Ch (B : Nat) where
  P : World → Prop
  F : Nat → Prop
  keep : ∀ {w w' : World} {row : Option Nat}, P w → w.grownBy w' row → (∀ g, row = some g → ¬ F g) → P w'
  low : ∀ {w : World} {g : Nat}, P w → F g → B ≤ g ∧ g < w.heap.size

/-- a block known whole -/
def cB (B g : Nat) (t : TypeId) (cs : Array Value) : Ch B :=
  ⟨fun w => B ≤ g ∧ Blk w g t cs, fun b => b = g, fun h hg hr => ⟨h.1, h.2.grown hg (fun e => hr g e.symm rfl)⟩, fun h e => by subst e; exact ⟨h.1, h.2.lt⟩⟩
/-- a slice of the call's own -/
def cR (B : Nat) (e : TypeId) (z : Nat) (v : Value) (n : Nat) (xs : List Value) : Ch B :=
  ⟨fun w => w.ownsRow B e z v n xs, fun b => v.ownBlock = some b, fun h hg hr => h.kept hg (by
    cases hv : v.ownBlock with
    | none => exact .inl rfl
    | some b => exact .inr (fun e => hr b e.symm hv)), fun h e => h.lt _ e⟩
def Mem (w0 : World) (l : List (Ch w0.heap.size)) (w : World) : Prop :=
  Below w0.heap.size w0 w ∧ (∀ c ∈ l, c.P w) ∧ l.Pairwise (fun a b => ∀ g, a.F g → ¬ b.F g)

theorem gset' (w : World) (g i : Nat) (u : Value) : w.grownBy (w.setCell ⟨g, i, none⟩ u) (some g) :=
  ⟨rfl, rfl, rfl, by simp [World.setCell], fun j _ hne => Below.heap_setCell w _ u j (by rintro rfl; exact hne rfl)⟩
theorem galloc (w : World) (o : Obj) : w.grownBy (w.alloc o) none := ⟨rfl, rfl, rfl, by simp, fun j hj _ => Below.heap_alloc w o j hj⟩
theorem gdrew (w : World) : w.grownBy w.drew none := ⟨rfl, rfl, rfl, Nat.le_refl _, fun _ _ _ => rfl⟩
theorem gdrewN (w : World) (n : Nat) : w.grownBy (w.drewN n) none := ⟨rfl, rfl, rfl, Nat.le_refl _, fun _ _ _ => rfl⟩
theorem gbelow {w w' : World} (hb : Below w.heap.size w w') : w.grownBy w' none := ⟨hb.os, hb.tape, hb.output, hb.size, fun k hk _ => hb.block k hk⟩

section
variable {w0 w w' : World} {l : List (Ch w0.heap.size)} {c c' : Ch w0.heap.size} {row : Option Nat}
theorem Mem.get (h : Mem w0 l w) (i : Nat) (hi : l[i]? = some c) : c.P w := h.2.1 c (List.mem_of_getElem? hi)
theorem Mem.bel (h : Mem w0 l w) : Below w0.heap.size w0 w := h.1
theorem Mem.size (h : Mem w0 l w) : w0.heap.size ≤ w.heap.size := h.1.size
theorem Mem.other (h : Mem w0 l w) (hg : w.grownBy w' none) : Mem w0 l w' :=
  ⟨h.1.grown hg h.1.size (fun b hb => by cases hb), fun c hc => c.keep (h.2.1 c hc) hg (fun g e => by cases e), h.2.2⟩
theorem Mem.alloc (h : Mem w0 l w) (o : Obj) : Mem w0 l (w.alloc o) := h.other (galloc w o)
theorem Mem.drew (h : Mem w0 l w) : Mem w0 l w.drew := h.other (gdrew w)
theorem Mem.drewN (h : Mem w0 l w) (n : Nat) : Mem w0 l (w.drewN n) := h.other (gdrewN w n)
theorem Mem.below (h : Mem w0 l w) (hb : Below w.heap.size w w') : Mem w0 l w' := h.other (gbelow hb)
theorem Mem.step (h : Mem w0 l w) (i : Nat) (hi : l[i]? = some c) (hg : w.grownBy w' row) (hrow : ∀ g, row = some g → c.F g) (hP : c'.P w') (hF : ∀ g, c'.F g → c.F g ∨ w.heap.size ≤ g) : Mem w0 (l.set i c') w' := by
  have hil := (List.getElem?_eq_some_iff.1 hi)
  obtain ⟨hil, hic⟩ := hil
  have hcP : c.P w := h.get i hi
  have ap : ∀ j (hj : j < l.length), j ≠ i → ∀ g, l[j].F g → ¬ c.F g := by
    intro j hj hne g h1 h2
    rcases Nat.lt_or_gt_of_ne hne with hlt | hlt
    · exact List.pairwise_iff_getElem.1 h.2.2 j i hj hil hlt g h1 (hic ▸ h2)
    · exact List.pairwise_iff_getElem.1 h.2.2 i j hil hj hlt g (hic ▸ h2) h1
  have lo : ∀ j (hj : j < l.length), ∀ g, l[j].F g → g < w.heap.size := fun j hj g hg => (l[j].low (h.2.1 _ (List.getElem_mem hj)) hg).2
  refine ⟨h.1.grown hg h.1.size (fun b hb => (c.low hcP (hrow b hb)).1), fun d hd => ?_, ?_⟩
  · obtain ⟨j, hj, e⟩ := List.getElem_of_mem hd
    by_cases hji : j = i
    · subst hji
      rw [List.getElem_set_self] at e
      subst e
      exact hP
    · rw [List.getElem_set_ne (Ne.symm hji)] at e
      subst e
      have hj' : j < l.length := by simpa using hj
      exact l[j].keep (h.2.1 _ (List.getElem_mem hj')) hg (fun g e hf => ap j hj' hji g hf (hrow g e))
  · rw [List.pairwise_iff_getElem]
    intro a b ha hb hab g h1 h2
    have ha' : a < l.length := by simpa using ha
    have hb' : b < l.length := by simpa using hb
    by_cases e1 : a = i
    · subst e1
      rw [List.getElem_set_self] at h1
      rw [List.getElem_set_ne (by omega)] at h2
      rcases hF g h1 with h3 | h3
      · exact ap b hb' (by omega) g h2 h3
      · have := lo b hb' g h2; omega
    · rw [List.getElem_set_ne (Ne.symm e1)] at h1
      by_cases e2 : b = i
      · subst e2
        rw [List.getElem_set_self] at h2
        rcases hF g h2 with h3 | h3
        · exact ap a ha' e1 g h1 h3
        · have := lo a ha' g h1; omega
      · rw [List.getElem_set_ne (Ne.symm e2)] at h2
        exact List.pairwise_iff_getElem.1 h.2.2 a b ha' hb' hab g h1 h2
/-- a chunk that is new, in front -/
theorem Mem.push (h : Mem w0 l w) (hg : w.grownBy w' none) (hP : c.P w') (hF : ∀ g, c.F g → w.heap.size ≤ g) : Mem w0 (c :: l) w' := by
  have h' := h.other hg
  refine ⟨h'.1, fun d hd => ?_, List.pairwise_cons.2 ⟨fun d hd g h1 h2 => ?_, h.2.2⟩⟩
  · rcases List.mem_cons.1 hd with rfl | hd
    · exact hP
    · exact h'.2.1 d hd
  · have := (d.low (h.2.1 d hd) h2).2
    have := hF g h1
    omega
theorem Mem.start (w0 : World) : Mem w0 [] w0 := ⟨Below.refl _ _, fun _ h => (by cases h), List.Pairwise.nil⟩
theorem Mem.erase (h : Mem w0 l w) (i : Nat) : Mem w0 (l.eraseIdx i) w := ⟨h.1, fun c hc => h.2.1 c ((List.eraseIdx_sublist l i).subset hc), h.2.2.sublist (List.eraseIdx_sublist l i)⟩
theorem Mem.perm (h : Mem w0 l w) {l' : List (Ch w0.heap.size)} (hp : l.Perm l') : Mem w0 l' w :=
  ⟨h.1, fun c hc => h.2.1 c (hp.mem_iff.2 hc), (hp.pairwise_iff (fun {_a _b} hab g h1 h2 => hab g h2 h1)).1 h.2.2⟩
/-- chunks in a world that the call came to later, a callee's own -/
theorem Mem.pushBelow (h : Mem w0 l w) (hb : Below w.heap.size w w') (hP : c.P w') (hF : ∀ g, c.F g → w.heap.size ≤ g) : Mem w0 (c :: l) w' := h.push (gbelow hb) hP hF
/-- a new block -/
theorem Mem.new (h : Mem w0 l w) (t : TypeId) (cs : Array Value) : Mem w0 (cB w0.heap.size w.heap.size t cs :: l) (w.alloc (.cells cs t)) :=
  h.push (galloc _ _) ⟨h.size, Blk.new _ _ _⟩ (fun _g e => Nat.le_of_eq (Eq.symm e))
/-- a new slice that is nil -/
theorem Mem.nil_ (h : Mem w0 l w) (e : TypeId) (z : Nat) : Mem w0 (cR w0.heap.size e z (.slice none 0 0) 0 [] :: l) w :=
  ⟨h.1, fun d hd => by
    rcases List.mem_cons.1 hd with rfl | hd
    · exact World.ownsRow_nil _ _ _ _
    · exact h.2.1 d hd, List.pairwise_cons.2 ⟨fun d hd g h1 _ => (by cases h1), h.2.2⟩⟩
/-- a store into a block -/
theorem Mem.set_ (h : Mem w0 l w) (i : Nat) {g : Nat} {t : TypeId} {cs cs' : Array Value} (hi : l[i]? = some (cB w0.heap.size g t cs)) (k : Nat) (u : Value) (hc : cs.setIfInBounds k u = cs') : Mem w0 (l.set i (cB w0.heap.size g t cs')) (w.setCell ⟨g, k, none⟩ u) := by
  subst hc
  exact h.step i hi (gset' w g k u) (fun b e => by injection e with e; exact e.symm) ⟨(h.get i hi).1, (h.get i hi).2.set_ k u⟩ (fun b e => .inl e)
/-- an append -/
theorem Mem.app (h : Mem w0 l w) (i : Nat) {e : TypeId} {z n n' S : Nat} {v v' : Value} {xs xs' : List Value} (hi : l[i]? = some (cR w0.heap.size e z v n xs)) (hg : w.grownBy w' v.ownBlock) (ho : w'.ownsRow w0.heap.size e z v' n' xs') (hv : v'.ownBlock = v.ownBlock ∨ v'.ownBlock = some S) (hS : w.heap.size ≤ S) :
    Mem w0 (l.set i (cR w0.heap.size e z v' n' xs')) w' := by
  refine h.step i hi hg (fun b e => e) ho (fun b e => ?_)
  rcases hv with hv | hv
  · exact .inl (hv.symm.trans e)
  · right
    have : some S = some b := hv.symm.trans e
    injection this with this
    omega
/-- the same slice, shorter -/
theorem Mem.slice_ (h : Mem w0 l w) (i : Nat) {e : TypeId} {z n n' : Nat} {v v' : Value} {xs xs' : List Value} (hi : l[i]? = some (cR w0.heap.size e z v n xs)) (ho : w.ownsRow w0.heap.size e z v' n' xs') (hv : v'.ownBlock = v.ownBlock) :
    Mem w0 (l.set i (cR w0.heap.size e z v' n' xs')) w :=
  h.step i hi (World.grownBy.refl w none) (fun b e => by cases e) ho (fun b e => .inl (hv.symm.trans e))
/-- a slice made anew -/
theorem Mem.fresh (h : Mem w0 l w) (i : Nat) {e : TypeId} {z n n' : Nat} {v v' : Value} {xs xs' : List Value} (hi : l[i]? = some (cR w0.heap.size e z v n xs)) (hg : w.grownBy w' none) (ho : w'.ownsRow w0.heap.size e z v' n' xs') (hv : ∀ b, v'.ownBlock = some b → w.heap.size ≤ b) :
    Mem w0 (l.set i (cR w0.heap.size e z v' n' xs')) w' :=
  h.step i hi hg (fun b e => by cases e) ho (fun b e => .inr (hv b e))
/-- a block behind which stand the same cells -/
theorem Mem.blkc (h : Mem w0 l w) (i : Nat) {g : Nat} {t : TypeId} {cs cs' : Array Value} (hi : l[i]? = some (cB w0.heap.size g t cs)) (hc : cs = cs') : Mem w0 (l.set i (cB w0.heap.size g t cs')) w := by
  subst hc
  exact h.step i hi (World.grownBy.refl w none) (fun b e => by cases e) (h.get i hi) (fun b e => .inl e)
end
theorem own_base {w : World} {base base' e z n : Nat} {v : Value} {xs : List Value} (h : w.ownsRow base e z v n xs) (hb : base' ≤ base) : w.ownsRow base' e z v n xs :=
  ⟨h.1, h.2.imp id fun ⟨g, cap, cur, h1, h2, h3⟩ => ⟨g, cap, cur, h1, Nat.le_trans hb h2, h3⟩⟩
section
variable {w0 w w' : World} {l : List (Ch w0.heap.size)}
theorem Mem.pushRow (h : Mem w0 l w) (hb : Below w.heap.size w w') {e z n : Nat} {v : Value} {xs : List Value} (ho : w'.ownsRow w.heap.size e z v n xs) : Mem w0 (cR w0.heap.size e z v n xs :: l) w' :=
  h.pushBelow hb (own_base ho h.size) (fun b e => (ho.lt b e).1)
theorem Mem.pushBlk (h : Mem w0 l w) (hb : Below w.heap.size w w') {g : Nat} {t : TypeId} {cs : Array Value} (hg : w.heap.size ≤ g) (bk : Blk w' g t cs) : Mem w0 (cB w0.heap.size g t cs :: l) w' :=
  h.pushBelow hb ⟨Nat.le_trans h.size hg, bk⟩ (fun b e => by
    have e' : b = g := e
    omega)
/-- a new slice of one cell -/
theorem Mem.one (h : Mem w0 l w) (e : TypeId) (u : Value) : Mem w0 (cR w0.heap.size e 1 (.slice (some ⟨w.heap.size, 0, none⟩) 1 1) 1 [u] :: l) (w.alloc (.cells #[u] e)) :=
  h.push (galloc _ _) ⟨rfl, .inr ⟨w.heap.size, 1, #[u], rfl, h.size, Blk.new _ _ _, Nat.le_refl _, by unfold maxLen; omega, rfl, rfl⟩⟩ (fun b hb => by
    have hb' : some w.heap.size = some b := hb
    injection hb' with hb'
    omega)
end
theorem own_one (w : World) (B : Nat) (hB : B ≤ w.heap.size) (e : TypeId) (u : Value) : (w.alloc (.cells #[u] e)).ownsRow B e 1 (.slice (some ⟨w.heap.size, 0, none⟩) 1 1) 1 [u] :=
  ⟨rfl, .inr ⟨w.heap.size, 1, #[u], rfl, hB, Blk.new _ _ _, Nat.le_refl _, by unfold maxLen; omega, rfl, rfl⟩⟩
section
variable {P : Program} {Q : Exit → Act → World → Prop} {md : Region.Mode} {S : World → Prop} {l rest : List Oper}
theorem drop_get {i : Nat} {oi : Oper} (hi : l.drop i = oi :: rest) : l.toArray[i]? = some oi := by
  rw [List.getElem?_toArray]
  have : (l.drop i)[0]? = some oi := by rw [hi]; rfl
  rwa [List.getElem?_drop, Nat.add_zero] at this
theorem take_l {i : Nat} {oi : Oper} {v : Value} {fuel : Nat} {listed : Array Bool} {a : Act} {w : World} (hi : l.drop i = oi :: rest)
    (hs : Region.noSelect l.toArray = true) (hf : Region.free md l.toArray listed i = true) (hr : (Region.ready md l.toArray listed).contains i = true)
    (hQ : ∀ c a w, Q (.panic c) (a.put oi.dst v) w → Q (.panic c) a w) (hw : Region.wanted oi (yielded l.toArray a.tmps) = true) (hy : ∀ w, S w → (execOp a.eval oi).run P w = .ok (.value v) w) (hS : S w)
    (h : wpAnyH P md l.toArray Q S fuel (listed.setIfInBounds i true) (a.put oi.dst v) w) : wpAnyH P md l.toArray Q S (fuel + 1) listed a w :=
  wpAnyH_take (drop_get hi) hs hf hr hQ (.inl ⟨hw, hy⟩) hS h
theorem take_u {i : Nat} {oi : Oper} {fuel : Nat} {listed : Array Bool} {a : Act} {w : World} (hi : l.drop i = oi :: rest)
    (hs : Region.noSelect l.toArray = true) (hf : Region.free md l.toArray listed i = true) (hr : (Region.ready md l.toArray listed).contains i = true)
    (hQ : ∀ c a w, Q (.panic c) (a.put oi.dst undef) w → Q (.panic c) a w) (hw : Region.wanted oi (yielded l.toArray a.tmps) = false) (hS : S w)
    (h : wpAnyH P md l.toArray Q S fuel (listed.setIfInBounds i true) (a.put oi.dst undef) w) : wpAnyH P md l.toArray Q S (fuel + 1) listed a w :=
  wpAnyH_take (drop_get hi) hs hf hr hQ (.inr ⟨hw, rfl⟩) hS h
theorem cons_l {fuel : Nat} {listed : Array Bool} {a : Act} {w : World} {i : Nat} {o : Oper} {rs : List Nat} (hi : l.drop i = o :: rest)
    (h : ∀ K' : Act → World → Prop, Shut (∀ a w, S w → (S w → wpAnyH P md l.toArray Q S fuel (listed.setIfInBounds i true) a w) → K' a w) → if Region.wanted o (yielded l.toArray a.tmps) = true then Oper.wp P o a w K' Q else K' (a.put o.dst undef) w)
    (hs : AllReadyH P md l.toArray Q S fuel listed a w rs) : AllReadyH P md l.toArray Q S fuel listed a w (i :: rs) := AllReadyH.cons (drop_get hi) h hs
end
/-- rows of cells, each of the call's own, their slices in block g -/
structure GridV (w : World) (base g te e z : Nat) (vs : List Value) (R : List (Nat × List Value)) : Prop where
  len : vs.length = R.length
  blk : Blk w g te vs.toArray
  row : ∀ x (hv : x < vs.length) (hr : x < R.length), w.ownsRow base e z vs[x] R[x].1 R[x].2
  ne : ∀ x y (hx : x < vs.length) (hy : y < vs.length), x ≠ y → vs[x].ownBlock = none ∨ vs[x].ownBlock ≠ vs[y].ownBlock

section
variable {w w' : World} {base g te e z : Nat} {vs : List Value} {R : List (Nat × List Value)}
theorem GridV.start (w : World) (base te e z n : Nat) : GridV (w.alloc (.cells (List.replicate n (.slice none 0 0)).toArray te)) base w.heap.size te e z (List.replicate n (.slice none 0 0)) (List.replicate n (0, [])) :=
  ⟨by simp, Blk.new _ _ _, fun x hv hr => by simpa using World.ownsRow_nil _ _ _ _, fun x y hx hy _ => .inl (by simp [Value.ownBlock])⟩
theorem GridV.keep (h : GridV w base g te e z vs R) {row : Option Nat} (hg : w.grownBy w' row) (hgr : some g ≠ row) (hr : ∀ x (hx : x < vs.length), vs[x].ownBlock = none ∨ vs[x].ownBlock ≠ row) : GridV w' base g te e z vs R :=
  ⟨h.len, h.blk.grown hg hgr, fun x hv hx => (h.row x hv hx).kept hg (hr x hv), h.ne⟩
theorem GridV.below (h : GridV w base g te e z vs R) (hb : Below w.heap.size w w') : GridV w' base g te e z vs R :=
  ⟨h.len, h.blk.below hb h.blk.lt, fun x hv hx => own_below' (h.row x hv hx) hb, h.ne⟩
theorem GridV.base_ (h : GridV w base g te e z vs R) {base' : Nat} (hb : base' ≤ base) : GridV w base' g te e z vs R :=
  ⟨h.len, h.blk, fun x hv hr => own_base (h.row x hv hr) hb, h.ne⟩
/-- x[t] = append(x[t], ..): what the append has made, then the store -/
theorem GridV.app (h : GridV w base g te e z vs R) (hne : e ≠ te) {t n' : Nat} {v' : Value} {xs' : List Value} {x1 : World} {S : Nat} (hn' : 0 < n') (hS : w.heap.size ≤ S) (ht : t < vs.length) (htr : t < R.length)
    (hg : w.grownBy x1 vs[t].ownBlock) (ho : x1.ownsRow base e z v' n' xs') (hv : v'.ownBlock = vs[t].ownBlock ∨ v'.ownBlock = some S) :
    Blk x1 g te vs.toArray ∧ GridV (x1.setCell ⟨g, t, none⟩ v') base g te e z (vs.set t v') (R.set t (n', xs')) := by
  have hgt : vs[t].ownBlock ≠ some g := own_blk_ne (h.row t ht htr) h.blk hne
  have hb1 : Blk x1 g te vs.toArray := h.blk.grown hg (Ne.symm hgt)
  have hset : x1.grownBy (x1.setCell ⟨g, t, none⟩ v') (some g) := ⟨rfl, rfl, rfl, by simp [World.setCell], fun j _ hne => Below.heap_setCell x1 _ v' j (by rintro rfl; exact hne rfl)⟩
  refine ⟨hb1, by simpa using h.len, hb1.setL t v', fun x hx hxr => ?_, fun x y hx hy hxy => ?_⟩
  · have hx0 : x < vs.length := by simpa using hx
    have hxr0 : x < R.length := by simpa using hxr
    by_cases e0 : x = t
    · subst e0
      simp only [List.getElem_set_self]
      exact ho.kept hset (.inr (own_blk_ne ho hb1 hne))
    · rw [List.getElem_set_ne (Ne.symm e0), List.getElem_set_ne (Ne.symm e0)]
      have hk := (h.row x hx0 hxr0).kept hg (h.ne x t hx0 ht e0)
      exact hk.kept hset (.inr (own_blk_ne hk hb1 hne))
  · have hx0 : x < vs.length := by simpa using hx
    have hy0 : y < vs.length := by simpa using hy
    have hlt : ∀ z (hz : z < vs.length), ∀ b, vs[z].ownBlock = some b → b < w.heap.size := fun z hz b hb => ((h.row z hz (by have := h.len; omega)).lt b hb).2
    by_cases e1 : x = t
    · subst e1
      have e2 : y ≠ x := fun e => hxy e.symm
      simp only [List.getElem_set_self]
      rw [List.getElem_set_ne (Ne.symm e2)]
      right
      rcases hv with hv | hv
      · rw [hv]
        rcases h.ne y x hy0 hx0 e2 with h1 | h1
        · intro h2
          rcases h.ne x y hx0 hy0 hxy with h3 | h3
          · rw [h1] at h2; exact absurd (hv.trans h2) (by
              intro h4
              have := ho.form (by omega)
              obtain ⟨g', cap, hvv, _⟩ := this
              rw [hvv] at h4
              simp [Value.ownBlock] at h4)
          · exact h3 h2
        · exact fun h2 => h1 h2.symm
      · rw [hv]
        intro h2
        have := hlt y hy0 S h2.symm
        omega
    · rw [List.getElem_set_ne (Ne.symm e1)]
      by_cases e2 : y = t
      · subst e2
        simp only [List.getElem_set_self]
        rcases hv with hv | hv
        · rw [hv]; exact h.ne x y hx0 hy0 hxy
        · right
          rw [hv]
          intro h2
          have := hlt x hx0 S h2
          omega
      · rw [List.getElem_set_ne (Ne.symm e2)]
        exact h.ne x y hx0 hy0 hxy
/-- a store into a row -/
theorem GridV.store (h : GridV w base g te e z vs R) (hne : e ≠ te) {t b n c j : Nat} {u : Value} {xs : List Value} (ht : t < vs.length) (htr : t < R.length) (hvt : vs[t] = .slice (some ⟨b, 0, none⟩) n c) (hR : R[t] = (n, xs)) :
    GridV (w.setCell ⟨b, j, none⟩ u) base g te e z vs (R.set t (n, xs.set j u)) := by
  have hrow := h.row t ht htr
  rw [hvt, hR] at hrow
  dsimp only at hrow
  obtain ⟨hst, hgr⟩ := hrow.stored j u
  have hgb : (Value.slice (some ⟨b, 0, none⟩) n c).ownBlock = some b := rfl
  refine ⟨by simpa using h.len, h.blk.grown hgr (Ne.symm (hgb ▸ own_blk_ne hrow h.blk hne)), fun x hx hxr => ?_, h.ne⟩
  have hxr0 : x < R.length := by simpa using hxr
  by_cases e0 : x = t
  · subst e0
    simp only [List.getElem_set_self]
    rw [hvt]
    exact hst
  · rw [List.getElem_set_ne (Ne.symm e0)]
    refine (h.row x hx hxr0).kept hgr ?_
    have := h.ne x t hx ht e0
    rwa [hvt, hgb] at this
end
/-- the chunk -/
def cV (B g : Nat) (te e : TypeId) (z : Nat) (vs : List Value) (R : List (Nat × List Value)) : Ch B :=
  ⟨fun w => B ≤ g ∧ GridV w B g te e z vs R, fun b => b = g ∨ ∃ x, ∃ hx : x < vs.length, vs[x].ownBlock = some b,
    fun h hg hr => ⟨h.1, h.2.keep hg (fun e => hr g e.symm (.inl rfl)) (fun x hx => by
      cases hv : vs[x].ownBlock with
      | none => exact .inl rfl
      | some b => exact .inr (fun e => hr b e.symm (.inr ⟨x, hx, hv⟩)))⟩,
    fun h e => by
      rcases e with rfl | ⟨x, hx, e⟩
      · exact ⟨h.1, h.2.blk.lt⟩
      · exact (h.2.row x hx (by have := h.2.len; omega)).lt _ e⟩
/-- two steps, the second into the same chunk: an append into a row and the store of its slice -/
theorem Mem.rowV {w0 w x1 : World} {l : List (Ch w0.heap.size)} (h : Mem w0 l w) (i : Nat) {g te e z : Nat} {vs : List Value} {R : List (Nat × List Value)} (hi : l[i]? = some (cV w0.heap.size g te e z vs R)) (hne : e ≠ te) {t n' : Nat} {v' : Value} {xs' : List Value} {S : Nat} (hn' : 0 < n') (hS : w.heap.size ≤ S) (ht : t < vs.length) (htr : t < R.length)
    (hg : w.grownBy x1 vs[t].ownBlock) (ho : x1.ownsRow w0.heap.size e z v' n' xs') (hv : v'.ownBlock = vs[t].ownBlock ∨ v'.ownBlock = some S) :
    Mem w0 (l.set i (cV w0.heap.size g te e z (vs.set t v') (R.set t (n', xs')))) (x1.setCell ⟨g, t, none⟩ v') := by
  obtain ⟨hB, hG⟩ := h.get i hi
  obtain ⟨hb1, hG2⟩ := hG.app hne hn' hS ht htr hg ho hv
  have hil := (List.getElem?_eq_some_iff.1 hi)
  obtain ⟨hil, hic⟩ := hil
  have ap : ∀ j (hj : j < l.length), j ≠ i → ∀ b, l[j].F b → ¬ (cV w0.heap.size g te e z vs R).F b := by
    intro j hj hn b h1 h2
    rcases Nat.lt_or_gt_of_ne hn with hlt | hlt
    · exact List.pairwise_iff_getElem.1 h.2.2 j i hj hil hlt b h1 (hic ▸ h2)
    · exact List.pairwise_iff_getElem.1 h.2.2 i j hil hj hlt b (hic ▸ h2) h1
  have lo : ∀ j (hj : j < l.length), ∀ b, l[j].F b → b < w.heap.size := fun j hj b hb => (l[j].low (h.2.1 _ (List.getElem_mem hj)) hb).2
  have bel1 : Below w0.heap.size w0 x1 := h.1.grown hg h.1.size (fun b hb => ((hG.row t ht htr).lt b hb).1)
  refine ⟨bel1.setCell hB _, fun d hd => ?_, ?_⟩
  · obtain ⟨j, hj, e'⟩ := List.getElem_of_mem hd
    by_cases hji : j = i
    · subst hji
      rw [List.getElem_set_self] at e'
      subst e'
      exact ⟨hB, hG2⟩
    · rw [List.getElem_set_ne (Ne.symm hji)] at e'
      subst e'
      have hj' : j < l.length := by simpa using hj
      have k1 := l[j].keep (h.2.1 _ (List.getElem_mem hj')) hg (fun b e hf => ap j hj' hji b hf (.inr ⟨t, ht, e⟩))
      exact l[j].keep k1 (gset' x1 g t v') (fun b e hf => ap j hj' hji b hf (.inl (by injection e with e; exact e.symm)))
  · rw [List.pairwise_iff_getElem]
    have hF : ∀ b, (cV w0.heap.size g te e z (vs.set t v') (R.set t (n', xs'))).F b → (cV w0.heap.size g te e z vs R).F b ∨ w.heap.size ≤ b := by
      intro b hb
      rcases hb with rfl | ⟨x, hx, e'⟩
      · exact .inl (.inl rfl)
      · have hx0 : x < vs.length := by simpa using hx
        by_cases ext : x = t
        · subst ext
          rw [List.getElem_set_self] at e'
          rcases hv with hv | hv
          · exact .inl (.inr ⟨x, hx0, hv.symm.trans e'⟩)
          · have : some S = some b := hv.symm.trans e'
            injection this with this
            exact .inr (by omega)
        · rw [List.getElem_set_ne (Ne.symm ext)] at e'
          exact .inl (.inr ⟨x, hx0, e'⟩)
    intro a b ha hb hab y h1 h2
    have ha' : a < l.length := by simpa using ha
    have hb' : b < l.length := by simpa using hb
    by_cases e1 : a = i
    · subst e1
      rw [List.getElem_set_self] at h1
      rw [List.getElem_set_ne (by omega)] at h2
      rcases hF y h1 with h3 | h3
      · exact ap b hb' (by omega) y h2 h3
      · have := lo b hb' y h2; omega
    · rw [List.getElem_set_ne (Ne.symm e1)] at h1
      by_cases e2 : b = i
      · subst e2
        rw [List.getElem_set_self] at h2
        rcases hF y h2 with h3 | h3
        · exact ap a ha' e1 y h1 h3
        · have := lo a ha' y h1; omega
      · rw [List.getElem_set_ne (Ne.symm e2)] at h2
        exact List.pairwise_iff_getElem.1 h.2.2 a b ha' hb' hab y h1 h2
/-- a store into a row -/
theorem Mem.storeV {w0 w : World} {l : List (Ch w0.heap.size)} (h : Mem w0 l w) (i : Nat) {g te e z : Nat} {vs : List Value} {R R' : List (Nat × List Value)} (hi : l[i]? = some (cV w0.heap.size g te e z vs R)) (hne : e ≠ te) {t b n c j : Nat} {u : Value} {xs : List Value} (ht : t < vs.length) (htr : t < R.length) (hvt : vs[t] = .slice (some ⟨b, 0, none⟩) n c) (hR : R[t] = (n, xs)) (hR' : R.set t (n, xs.set j u) = R') :
    Mem w0 (l.set i (cV w0.heap.size g te e z vs R')) (w.setCell ⟨b, j, none⟩ u) := by
  obtain ⟨hB, hG⟩ := h.get i hi
  subst hR'
  exact h.step i hi (gset' w b j u) (fun b' e' => by injection e' with e'; subst e'; exact .inr ⟨t, ht, by rw [hvt]; rfl⟩) ⟨hB, hG.store hne ht htr hvt hR⟩ (fun b' e' => .inl e')
theorem Mem.pushV {w0 w : World} {l : List (Ch w0.heap.size)} (h : Mem w0 l w) {te e : TypeId} {z : Nat} (n : Nat) : Mem w0 (cV w0.heap.size w.heap.size te e z (List.replicate n (.slice none 0 0)) (List.replicate n (0, [])) :: l) (w.alloc (.cells (madeCells #[.slice none 0 0] n) te)) := by
  refine h.push (galloc _ _) ⟨h.size, ?_⟩ (fun b e => ?_)
  · have := GridV.start w w0.heap.size te e z n
    rw [← made_list] at this
    exact this
  · rcases e with rfl | ⟨x, hx, e⟩
    · exact Nat.le_refl _
    · simp [Value.ownBlock] at e
theorem Mem.pushGV {w0 w w' : World} {l : List (Ch w0.heap.size)} (h : Mem w0 l w) (hb : Below w.heap.size w w') {g te e z : Nat} {vs : List Value} {R : List (Nat × List Value)} (hg : w.heap.size ≤ g) (gr : GridV w' w.heap.size g te e z vs R) : Mem w0 (cV w0.heap.size g te e z vs R :: l) w' :=
  h.pushBelow hb ⟨Nat.le_trans h.size hg, gr.base_ h.size⟩ (fun b e => by
    rcases e with rfl | ⟨x, hx, e⟩
    · exact hg
    · exact ((gr.row x hx (by have := gr.len; omega)).lt _ e).1)
theorem own_take {w : World} {base e z g n m c : Nat} {xs : List Value} (h : w.ownsRow base e z (.slice (some ⟨g, 0, none⟩) n c) n xs) (hm : m ≤ n) : w.ownsRow base e z (.slice (some ⟨g, 0, none⟩) m c) m (xs.take (m * z)) := by
  obtain ⟨hl, h⟩ := h
  have hmz : m * z ≤ n * z := Nat.mul_le_mul_right z hm
  refine ⟨by rw [List.length_take]; omega, ?_⟩
  rcases h with ⟨hv, _⟩ | ⟨g', cap, cur, hv, hg, hh, h1, h2, h3, h4⟩
  · cases hv
  · injection hv with hv1 hv2 hv3
    injection hv1 with hv1
    injection hv1 with hv1
    subst hv1 hv3
    refine .inr ⟨g, c, cur, rfl, hg, hh, by omega, h2, h3, ?_⟩
    rw [← h4, List.take_take]
    congr 1
    omega
theorem own_succ {w : World} {base e z n : Nat} {v : Value} {xs : List Value} (h : w.ownsRow base e z v (n + 1) xs) : ∃ g c, v = .slice (some ⟨g, 0, none⟩) (n + 1) c := by
  obtain ⟨g, c, hv, _⟩ := h.form (by omega)
  exact ⟨g, c, hv⟩
theorem own_at {w : World} {base e g n c k : Nat} {u : Value} {xs : List Value} (h : w.ownsRow base e 1 (.slice (some ⟨g, 0, none⟩) n c) n xs) (hk : xs[k]? = some u) : w.cell? ⟨g, k, none⟩ = some u ∧ w.frozen? ⟨g, k, none⟩ = false := by
  have hl : k < n := by have := (List.getElem?_eq_some_iff.1 hk).1; have := h.1; omega
  exact ⟨(h.cellAt k (by omega)).trans hk, h.frozenAt k⟩
theorem own_cap {w : World} {base e z g n c : Nat} {xs : List Value} (h : w.ownsRow base e z (.slice (some ⟨g, 0, none⟩) n c) n xs) : n ≤ c := by
  rcases h.2 with ⟨hv, _⟩ | ⟨g', cap, cur, hv, _, _, h1, _⟩
  · cases hv
  · injection hv with _ _ hv3
    omega
section
variable {w0 w w' : World} {l : List (Ch w0.heap.size)}
/-- a store into a slice of the call's own -/
theorem Mem.storeR (h : Mem w0 l w) (i : Nat) {e z g n c : Nat} {xs xs' : List Value} (hi : l[i]? = some (cR w0.heap.size e z (.slice (some ⟨g, 0, none⟩) n c) n xs)) (j : Nat) (u : Value) (hx : xs.set j u = xs') :
    Mem w0 (l.set i (cR w0.heap.size e z (.slice (some ⟨g, 0, none⟩) n c) n xs')) (w.setCell ⟨g, j, none⟩ u) := by
  subst hx
  obtain ⟨h1, h2⟩ := World.ownsRow.stored (h.get i hi) j u
  exact h.step i hi h2 (fun b e => by injection e with e; subst e; exact rfl) h1 (fun b e => .inl e)
end
theorem wpList_append_one {P : Program} {w : World} {ops : Array Oper} {rest : List Oper} {o : Oper} {a : Act} {Q : Exit → Act → World → Prop} (hgd : o.guard = none) (s x : Operand) (t : TypeId)
    (ho : o.op = .call { callee := .builtin .append, args := #[s, x], argTypes := #[t, t] })
    (base : Nat) (e : TypeId) (i : TypeInfo) (z : Value) (bytes : Nat) (ht : P.underlying t = some (.slice e)) (hi : P.info? e = some i) (hz : i.zero = some z)
    (hsize : i.size = 1) (hby : i.bytes = bytes) (hzs : z.cells.size = 1)
    (v : Value) (n : Nat) (xs : List Value) (hs : a.eval s = v) (hown : w.ownsRow base e 1 v n xs)
    {g : Nat} {u : Value} (hx : a.eval x = .slice (some ⟨g, 0, none⟩) 1 1) (hb : Blk w g e #[u]) (h1 : ∀ y ∈ [u], y.oneCell' = true)
    (h63 : n + 1 ≤ maxLen) (hbytes : (n + 1) * bytes ≤ 140737488355328) (hbase : base ≤ w.heap.size)
    (h : ∀ v' w', w'.ownsRow base e 1 v' (n + 1) (xs ++ [u]) → w.grownBy w' v.ownBlock → (v'.ownBlock = v.ownBlock ∨ v'.ownBlock = some w.heap.size) → wpList P ops Q rest (a.put o.dst v') w') :
    wpList P ops Q (o :: rest) a w :=
  wpList_append_any _ hgd s x t ho base e i z 1 bytes ht hi hz hsize hby hzs (by decide) v n xs hs hown w.heap.size _ 1 1 [u] hx (reads_blk1 hb) h1 h63 hbytes hbase h
theorem ints_own {w : World} {base e n : Nat} {v : Value} {l : List Int} (h : w.ownsRow base e 1 v n (l.map fun z => .int .i64 z)) : ∃ A c, v = .slice A l.length c ∧ IntsAt w w.heap.size (.slice A l.length c) l := by
  obtain ⟨A, c, rfl⟩ := own_sl h
  obtain rfl : n = l.length := by have := h.1; simpa using this.symm
  refine ⟨A, c, rfl, A, c, _, rfl, Reads.of_own h, fun k x hx => ⟨[.int .i64 x], rfl, rfl, fun j u hj => ?_⟩⟩
  rcases j with _ | j
  · simp only [List.getElem?_cons_zero, Option.some.injEq] at hj
    subst hj
    rw [Nat.mul_one, Nat.add_zero, List.getElem?_map, hx]; rfl
  · simp at hj
theorem blk3 {w : World} {g : Nat} {t : TypeId} {a0 a1 a2 : Value} (h : Blk w g t #[a0, a1, a2]) :
    w.cell? ⟨g, 0, none⟩ = some a0 ∧ w.cell? ⟨g, 1, none⟩ = some a1 ∧ w.cell? ⟨g, 2, none⟩ = some a2 ∧ (∀ o, w.frozen? ⟨g, o, none⟩ = false) :=
  ⟨h.cell 0, h.cell 1, h.cell 2, h.frozen⟩
theorem blk4 {w : World} {g : Nat} {t : TypeId} {a0 a1 a2 a3 : Value} (h : Blk w g t #[a0, a1, a2, a3]) :
    w.cell? ⟨g, 0, none⟩ = some a0 ∧ w.cell? ⟨g, 1, none⟩ = some a1 ∧ w.cell? ⟨g, 2, none⟩ = some a2 ∧ w.cell? ⟨g, 3, none⟩ = some a3 ∧ (∀ o, w.frozen? ⟨g, o, none⟩ = false) :=
  ⟨h.cell 0, h.cell 1, h.cell 2, h.cell 3, h.frozen⟩
theorem blk6 {w : World} {g : Nat} {t : TypeId} {a0 a1 a2 a3 a4 a5 : Value} (h : Blk w g t #[a0, a1, a2, a3, a4, a5]) :
    w.cell? ⟨g, 0, none⟩ = some a0 ∧ w.cell? ⟨g, 1, none⟩ = some a1 ∧ w.cell? ⟨g, 2, none⟩ = some a2 ∧ w.cell? ⟨g, 3, none⟩ = some a3 ∧ w.cell? ⟨g, 4, none⟩ = some a4 ∧ w.cell? ⟨g, 5, none⟩ = some a5 ∧ (∀ o, w.frozen? ⟨g, o, none⟩ = false) :=
  ⟨h.cell 0, h.cell 1, h.cell 2, h.cell 3, h.cell 4, h.cell 5, h.frozen⟩
theorem blk7 {w : World} {g : Nat} {t : TypeId} {a0 a1 a2 a3 a4 a5 a6 : Value} (h : Blk w g t #[a0, a1, a2, a3, a4, a5, a6]) :
    w.cell? ⟨g, 0, none⟩ = some a0 ∧ w.cell? ⟨g, 1, none⟩ = some a1 ∧ w.cell? ⟨g, 2, none⟩ = some a2 ∧ w.cell? ⟨g, 3, none⟩ = some a3 ∧ w.cell? ⟨g, 4, none⟩ = some a4 ∧ w.cell? ⟨g, 5, none⟩ = some a5 ∧ w.cell? ⟨g, 6, none⟩ = some a6 ∧ (∀ o, w.frozen? ⟨g, o, none⟩ = false) :=
  ⟨h.cell 0, h.cell 1, h.cell 2, h.cell 3, h.cell 4, h.cell 5, h.cell 6, h.frozen⟩
end Go.Proofs.YtdfklagiafmoiaaGreatDoor
