/- Memory in chunks: what a call has made, each chunk with the blocks that it lies in, the chunks apart from each other. -/
import Derived.Test.YtbilciiffecdgaaMK
import Derived.Deep.RegionHeld3
namespace Go.Proofs.Ytbilciiffecdgaa
open Go.RowKit

structure Ch (B : Nat) where
  P : World → Prop
  F : Nat → Prop
  keep : ∀ {w w' : World} {row : Option Nat}, P w → w.grownBy w' row → (∀ g, row = some g → ¬ F g) → P w'
  low : ∀ {w : World} {g : Nat}, P w → F g → B ≤ g ∧ g < w.heap.size

/-- a block known whole -/
def cB (B g : Nat) (t : TypeId) (cs : Array Value) : Ch B :=
  ⟨fun w => B ≤ g ∧ Blk w g t cs, fun b => b = g, fun h hg hr => ⟨h.1, h.2.grown hg (fun e => hr g e.symm rfl)⟩, fun h e => by subst e; exact ⟨h.1, h.2.lt⟩⟩
/-- a slice of the call's own -/
def cR (B : Nat) (e : TypeId) (z : Nat) (v : Value) (n : Nat) (xs : List Value) : Ch B :=
  ⟨fun w => w.ownsRow B e z v n xs, fun b => v.ownBlock = some b, fun h hg hr => h.kept hg (by
    cases hv : v.ownBlock with
    | none => exact .inl rfl
    | some b => exact .inr (fun e => hr b e.symm hv)), fun h e => h.lt _ e⟩
/-- rows of rows -/
def cG (B g : Nat) (te e : TypeId) (vs : List Value) (R : List (List Nat)) : Ch B :=
  ⟨fun w => B ≤ g ∧ Grid w B g te e vs R, fun b => b = g ∨ ∃ x, ∃ hx : x < vs.length, vs[x].ownBlock = some b,
    fun h hg hr => ⟨h.1, h.2.keep hg (fun e => hr g e.symm (.inl rfl)) (fun x hx => by
      cases hv : vs[x].ownBlock with
      | none => exact .inl rfl
      | some b => exact .inr (fun e => hr b e.symm (.inr ⟨x, hx, hv⟩)))⟩,
    fun h e => by
      rcases e with rfl | ⟨x, hx, e⟩
      · exact ⟨h.1, h.2.blk.lt⟩
      · exact (h.2.row x hx (by have := h.2.len; omega)).lt _ e⟩

def Mem (w0 : World) (l : List (Ch w0.heap.size)) (w : World) : Prop :=
  Below w0.heap.size w0 w ∧ (∀ c ∈ l, c.P w) ∧ l.Pairwise (fun a b => ∀ g, a.F g → ¬ b.F g)

theorem gset' (w : World) (g i : Nat) (u : Value) : w.grownBy (w.setCell ⟨g, i, none⟩ u) (some g) :=
  ⟨rfl, rfl, rfl, by simp [World.setCell], fun j _ hne => Below.heap_setCell w _ u j (by rintro rfl; exact hne rfl)⟩
theorem galloc (w : World) (o : Obj) : w.grownBy (w.alloc o) none := ⟨rfl, rfl, rfl, by simp, fun j hj _ => Below.heap_alloc w o j hj⟩
theorem gdrew (w : World) : w.grownBy w.drew none := ⟨rfl, rfl, rfl, Nat.le_refl _, fun _ _ _ => rfl⟩
theorem gdrewN (w : World) (n : Nat) : w.grownBy (w.drewN n) none := ⟨rfl, rfl, rfl, Nat.le_refl _, fun _ _ _ => rfl⟩
theorem gbelow {w w' : World} (hb : Below w.heap.size w w') : w.grownBy w' none := ⟨hb.os, hb.tape, hb.output, hb.size, fun k hk _ => hb.block k hk⟩

section
variable {w0 w w' : World} {l : List (Ch w0.heap.size)} {c c' : Ch w0.heap.size} {row : Option Nat}
theorem Mem.get (h : Mem w0 l w) (i : Nat) (hi : l[i]? = some c) : c.P w := h.2.1 c (List.mem_of_getElem? hi)
theorem Mem.bel (h : Mem w0 l w) : Below w0.heap.size w0 w := h.1
theorem Mem.size (h : Mem w0 l w) : w0.heap.size ≤ w.heap.size := h.1.size
theorem Mem.other (h : Mem w0 l w) (hg : w.grownBy w' none) : Mem w0 l w' :=
  ⟨h.1.grown hg h.1.size (fun b hb => by cases hb), fun c hc => c.keep (h.2.1 c hc) hg (fun g e => by cases e), h.2.2⟩
theorem Mem.alloc (h : Mem w0 l w) (o : Obj) : Mem w0 l (w.alloc o) := h.other (galloc w o)
theorem Mem.drew (h : Mem w0 l w) : Mem w0 l w.drew := h.other (gdrew w)
theorem Mem.drewN (h : Mem w0 l w) (n : Nat) : Mem w0 l (w.drewN n) := h.other (gdrewN w n)
theorem Mem.below (h : Mem w0 l w) (hb : Below w.heap.size w w') : Mem w0 l w' := h.other (gbelow hb)
theorem Mem.step (h : Mem w0 l w) (i : Nat) (hi : l[i]? = some c) (hg : w.grownBy w' row) (hrow : ∀ g, row = some g → c.F g) (hP : c'.P w') (hF : ∀ g, c'.F g → c.F g ∨ w.heap.size ≤ g) : Mem w0 (l.set i c') w' := by
  have hil := (List.getElem?_eq_some_iff.1 hi)
  obtain ⟨hil, hic⟩ := hil
  have hcP : c.P w := h.get i hi
  have ap : ∀ j (hj : j < l.length), j ≠ i → ∀ g, l[j].F g → ¬ c.F g := by
    intro j hj hne g h1 h2
    rcases Nat.lt_or_gt_of_ne hne with hlt | hlt
    · exact List.pairwise_iff_getElem.1 h.2.2 j i hj hil hlt g h1 (hic ▸ h2)
    · exact List.pairwise_iff_getElem.1 h.2.2 i j hil hj hlt g (hic ▸ h2) h1
  have lo : ∀ j (hj : j < l.length), ∀ g, l[j].F g → g < w.heap.size := fun j hj g hg => (l[j].low (h.2.1 _ (List.getElem_mem hj)) hg).2
  refine ⟨h.1.grown hg h.1.size (fun b hb => (c.low hcP (hrow b hb)).1), fun d hd => ?_, ?_⟩
  · obtain ⟨j, hj, e⟩ := List.getElem_of_mem hd
    by_cases hji : j = i
    · subst hji
      rw [List.getElem_set_self] at e
      subst e
      exact hP
    · rw [List.getElem_set_ne (Ne.symm hji)] at e
      subst e
      have hj' : j < l.length := by simpa using hj
      exact l[j].keep (h.2.1 _ (List.getElem_mem hj')) hg (fun g e hf => ap j hj' hji g hf (hrow g e))
  · rw [List.pairwise_iff_getElem]
    intro a b ha hb hab g h1 h2
    have ha' : a < l.length := by simpa using ha
    have hb' : b < l.length := by simpa using hb
    by_cases e1 : a = i
    · subst e1
      rw [List.getElem_set_self] at h1
      rw [List.getElem_set_ne (by omega)] at h2
      rcases hF g h1 with h3 | h3
      · exact ap b hb' (by omega) g h2 h3
      · have := lo b hb' g h2; omega
    · rw [List.getElem_set_ne (Ne.symm e1)] at h1
      by_cases e2 : b = i
      · subst e2
        rw [List.getElem_set_self] at h2
        rcases hF g h2 with h3 | h3
        · exact ap a ha' e1 g h1 h3
        · have := lo a ha' g h1; omega
      · rw [List.getElem_set_ne (Ne.symm e2)] at h2
        exact List.pairwise_iff_getElem.1 h.2.2 a b ha' hb' hab g h1 h2
/-- a chunk that is new, in front -/
theorem Mem.push (h : Mem w0 l w) (hg : w.grownBy w' none) (hP : c.P w') (hF : ∀ g, c.F g → w.heap.size ≤ g) : Mem w0 (c :: l) w' := by
  have h' := h.other hg
  refine ⟨h'.1, fun d hd => ?_, List.pairwise_cons.2 ⟨fun d hd g h1 h2 => ?_, h.2.2⟩⟩
  · rcases List.mem_cons.1 hd with rfl | hd
    · exact hP
    · exact h'.2.1 d hd
  · have := (d.low (h.2.1 d hd) h2).2
    have := hF g h1
    omega
theorem Mem.start (w0 : World) : Mem w0 [] w0 := ⟨Below.refl _ _, fun _ h => (by cases h), List.Pairwise.nil⟩
theorem Mem.erase (h : Mem w0 l w) (i : Nat) : Mem w0 (l.eraseIdx i) w := ⟨h.1, fun c hc => h.2.1 c ((List.eraseIdx_sublist l i).subset hc), h.2.2.sublist (List.eraseIdx_sublist l i)⟩
theorem Mem.perm (h : Mem w0 l w) {l' : List (Ch w0.heap.size)} (hp : l.Perm l') : Mem w0 l' w :=
  ⟨h.1, fun c hc => h.2.1 c (hp.mem_iff.2 hc), (hp.pairwise_iff (fun {_a _b} hab g h1 h2 => hab g h2 h1)).1 h.2.2⟩
/-- chunks in a world that the call came to later, a callee's own -/
theorem Mem.pushBelow (h : Mem w0 l w) (hb : Below w.heap.size w w') (hP : c.P w') (hF : ∀ g, c.F g → w.heap.size ≤ g) : Mem w0 (c :: l) w' := h.push (gbelow hb) hP hF
/-- a new block -/
theorem Mem.new (h : Mem w0 l w) (t : TypeId) (cs : Array Value) : Mem w0 (cB w0.heap.size w.heap.size t cs :: l) (w.alloc (.cells cs t)) :=
  h.push (galloc _ _) ⟨h.size, Blk.new _ _ _⟩ (fun _g e => Nat.le_of_eq (Eq.symm e))
/-- a new slice that is nil -/
theorem Mem.nil_ (h : Mem w0 l w) (e : TypeId) (z : Nat) : Mem w0 (cR w0.heap.size e z (.slice none 0 0) 0 [] :: l) w :=
  ⟨h.1, fun d hd => by
    rcases List.mem_cons.1 hd with rfl | hd
    · exact World.ownsRow_nil _ _ _ _
    · exact h.2.1 d hd, List.pairwise_cons.2 ⟨fun d hd g h1 _ => (by cases h1), h.2.2⟩⟩
/-- a store into a block -/
theorem Mem.set_ (h : Mem w0 l w) (i : Nat) {g : Nat} {t : TypeId} {cs cs' : Array Value} (hi : l[i]? = some (cB w0.heap.size g t cs)) (k : Nat) (u : Value) (hc : cs.setIfInBounds k u = cs') : Mem w0 (l.set i (cB w0.heap.size g t cs')) (w.setCell ⟨g, k, none⟩ u) := by
  subst hc
  exact h.step i hi (gset' w g k u) (fun b e => by injection e with e; exact e.symm) ⟨(h.get i hi).1, (h.get i hi).2.set_ k u⟩ (fun b e => .inl e)
/-- an append -/
theorem Mem.app (h : Mem w0 l w) (i : Nat) {e : TypeId} {z n n' S : Nat} {v v' : Value} {xs xs' : List Value} (hi : l[i]? = some (cR w0.heap.size e z v n xs)) (hg : w.grownBy w' v.ownBlock) (ho : w'.ownsRow w0.heap.size e z v' n' xs') (hv : v'.ownBlock = v.ownBlock ∨ v'.ownBlock = some S) (hS : w.heap.size ≤ S) :
    Mem w0 (l.set i (cR w0.heap.size e z v' n' xs')) w' := by
  refine h.step i hi hg (fun b e => e) ho (fun b e => ?_)
  rcases hv with hv | hv
  · exact .inl (hv.symm.trans e)
  · right
    have : some S = some b := hv.symm.trans e
    injection this with this
    omega
/-- the same slice, shorter -/
theorem Mem.slice_ (h : Mem w0 l w) (i : Nat) {e : TypeId} {z n n' : Nat} {v v' : Value} {xs xs' : List Value} (hi : l[i]? = some (cR w0.heap.size e z v n xs)) (ho : w.ownsRow w0.heap.size e z v' n' xs') (hv : v'.ownBlock = v.ownBlock) :
    Mem w0 (l.set i (cR w0.heap.size e z v' n' xs')) w :=
  h.step i hi (World.grownBy.refl w none) (fun b e => by cases e) ho (fun b e => .inl (hv.symm.trans e))
/-- a slice made anew -/
theorem Mem.fresh (h : Mem w0 l w) (i : Nat) {e : TypeId} {z n n' : Nat} {v v' : Value} {xs xs' : List Value} (hi : l[i]? = some (cR w0.heap.size e z v n xs)) (hg : w.grownBy w' none) (ho : w'.ownsRow w0.heap.size e z v' n' xs') (hv : ∀ b, v'.ownBlock = some b → w.heap.size ≤ b) :
    Mem w0 (l.set i (cR w0.heap.size e z v' n' xs')) w' :=
  h.step i hi hg (fun b e => by cases e) ho (fun b e => .inr (hv b e))
/-- a block behind which stand the same cells -/
theorem Mem.blkc (h : Mem w0 l w) (i : Nat) {g : Nat} {t : TypeId} {cs cs' : Array Value} (hi : l[i]? = some (cB w0.heap.size g t cs)) (hc : cs = cs') : Mem w0 (l.set i (cB w0.heap.size g t cs')) w := by
  subst hc
  exact h.step i hi (World.grownBy.refl w none) (fun b e => by cases e) (h.get i hi) (fun b e => .inl e)
end
theorem own_base {w : World} {base base' e z n : Nat} {v : Value} {xs : List Value} (h : w.ownsRow base e z v n xs) (hb : base' ≤ base) : w.ownsRow base' e z v n xs :=
  ⟨h.1, h.2.imp id fun ⟨g, cap, cur, h1, h2, h3⟩ => ⟨g, cap, cur, h1, Nat.le_trans hb h2, h3⟩⟩
theorem Grid.base_ {w : World} {base base' g te e : Nat} {vs : List Value} {R : List (List Nat)} (h : Grid w base g te e vs R) (hb : base' ≤ base) : Grid w base' g te e vs R :=
  ⟨h.len, h.blk, fun x hv hr => own_base (h.row x hv hr) hb, h.ne⟩
section
variable {w0 w w' : World} {l : List (Ch w0.heap.size)}
/-- a callee's rows of rows, slice, block -/
theorem Mem.pushGrid (h : Mem w0 l w) (hb : Below w.heap.size w w') {g te e : Nat} {vs : List Value} {R : List (List Nat)} (hg : w.heap.size ≤ g) (gr : Grid w' w.heap.size g te e vs R) : Mem w0 (cG w0.heap.size g te e vs R :: l) w' :=
  h.pushBelow hb ⟨Nat.le_trans h.size hg, gr.base_ h.size⟩ (fun b e => by
    rcases e with rfl | ⟨x, hx, e⟩
    · exact hg
    · exact ((gr.row x hx (by have := gr.len; omega)).lt _ e).1)
theorem Mem.pushRow (h : Mem w0 l w) (hb : Below w.heap.size w w') {e z n : Nat} {v : Value} {xs : List Value} (ho : w'.ownsRow w.heap.size e z v n xs) : Mem w0 (cR w0.heap.size e z v n xs :: l) w' :=
  h.pushBelow hb (own_base ho h.size) (fun b e => (ho.lt b e).1)
theorem Mem.pushBlk (h : Mem w0 l w) (hb : Below w.heap.size w w') {g : Nat} {t : TypeId} {cs : Array Value} (hg : w.heap.size ≤ g) (bk : Blk w' g t cs) : Mem w0 (cB w0.heap.size g t cs :: l) w' :=
  h.pushBelow hb ⟨Nat.le_trans h.size hg, bk⟩ (fun b e => by
    have e' : b = g := e
    omega)
/-- a new slice of one cell -/
theorem Mem.one (h : Mem w0 l w) (e : TypeId) (u : Value) : Mem w0 (cR w0.heap.size e 1 (.slice (some ⟨w.heap.size, 0, none⟩) 1 1) 1 [u] :: l) (w.alloc (.cells #[u] e)) :=
  h.push (galloc _ _) ⟨rfl, .inr ⟨w.heap.size, 1, #[u], rfl, h.size, Blk.new _ _ _, Nat.le_refl _, by unfold maxLen; omega, rfl, rfl⟩⟩ (fun b hb => by
    have hb' : some w.heap.size = some b := hb
    injection hb' with hb'
    omega)
end
theorem own_one (w : World) (B : Nat) (hB : B ≤ w.heap.size) (e : TypeId) (u : Value) : (w.alloc (.cells #[u] e)).ownsRow B e 1 (.slice (some ⟨w.heap.size, 0, none⟩) 1 1) 1 [u] :=
  ⟨rfl, .inr ⟨w.heap.size, 1, #[u], rfl, hB, Blk.new _ _ _, Nat.le_refl _, by unfold maxLen; omega, rfl, rfl⟩⟩
end Go.Proofs.Ytbilciiffecdgaa
namespace Go.Proofs.Ytbilciiffecdgaa
section
variable {P : Program} {Q : Exit → Act → World → Prop} {md : Region.Mode} {S : World → Prop} {l rest : List Oper}
theorem drop_get {i : Nat} {oi : Oper} (hi : l.drop i = oi :: rest) : l.toArray[i]? = some oi := by
  rw [List.getElem?_toArray]
  have : (l.drop i)[0]? = some oi := by rw [hi]; rfl
  rwa [List.getElem?_drop, Nat.add_zero] at this
theorem take_l {i : Nat} {oi : Oper} {v : Value} {fuel : Nat} {listed : Array Bool} {a : Act} {w : World} (hi : l.drop i = oi :: rest)
    (hs : Region.noSelect l.toArray = true) (hf : Region.free md l.toArray listed i = true) (hr : (Region.ready md l.toArray listed).contains i = true)
    (hQ : ∀ c a w, Q (.panic c) (a.put oi.dst v) w → Q (.panic c) a w) (hw : Region.wanted oi (yielded l.toArray a.tmps) = true) (hy : ∀ w, S w → (execOp a.eval oi).run P w = .ok (.value v) w) (hS : S w)
    (h : wpAnyH P md l.toArray Q S fuel (listed.setIfInBounds i true) (a.put oi.dst v) w) : wpAnyH P md l.toArray Q S (fuel + 1) listed a w :=
  wpAnyH_take (drop_get hi) hs hf hr hQ (.inl ⟨hw, hy⟩) hS h
theorem take_u {i : Nat} {oi : Oper} {fuel : Nat} {listed : Array Bool} {a : Act} {w : World} (hi : l.drop i = oi :: rest)
    (hs : Region.noSelect l.toArray = true) (hf : Region.free md l.toArray listed i = true) (hr : (Region.ready md l.toArray listed).contains i = true)
    (hQ : ∀ c a w, Q (.panic c) (a.put oi.dst undef) w → Q (.panic c) a w) (hw : Region.wanted oi (yielded l.toArray a.tmps) = false) (hS : S w)
    (h : wpAnyH P md l.toArray Q S fuel (listed.setIfInBounds i true) (a.put oi.dst undef) w) : wpAnyH P md l.toArray Q S (fuel + 1) listed a w :=
  wpAnyH_take (drop_get hi) hs hf hr hQ (.inr ⟨hw, rfl⟩) hS h
theorem cons_l {fuel : Nat} {listed : Array Bool} {a : Act} {w : World} {i : Nat} {o : Oper} {rs : List Nat} (hi : l.drop i = o :: rest)
    (h : ∀ K' : Act → World → Prop, Shut (∀ a w, S w → (S w → wpAnyH P md l.toArray Q S fuel (listed.setIfInBounds i true) a w) → K' a w) → if Region.wanted o (yielded l.toArray a.tmps) = true then Oper.wp P o a w K' Q else K' (a.put o.dst undef) w)
    (hs : AllReadyH P md l.toArray Q S fuel listed a w rs) : AllReadyH P md l.toArray Q S fuel listed a w (i :: rs) := AllReadyH.cons (drop_get hi) h hs
end
end Go.Proofs.Ytbilciiffecdgaa
