/- The memory of fairness.walk. -/
import Derived.Test.YtnjbofahboopoaaC5
import Derived.Test.YtnjbofahboopoaaM1
import Derived.Test.YtnjbofahboopoaaPlE
import Derived.Test.YtnjbofahboopoaaPlT
import Derived.Deep.DeepCutAuto
import Derived.Deep.RegionHeld3
namespace Go.Proofs.Ytnjbofahboopoaa
open Go.RowKit

/-- n numbers -/
def nums (n : Nat) (f : Nat → Int) : List Value := (List.range n).map fun k => .int .i64 (f k)
theorem nums_len (n : Nat) (f : Nat → Int) : (nums n f).length = n := by simp [nums]
theorem nums_get {n : Nat} (f : Nat → Int) {k : Nat} (h : k < n) : (nums n f)[k]? = some (.int .i64 (f k)) := by
  unfold nums
  rw [List.getElem?_map, List.getElem?_range h]; rfl
theorem nums_set {n : Nat} (f : Nat → Int) (k : Nat) (v : Int) : (nums n f).set k (.int .i64 v) = nums n (PlT.upd f k v) := by
  apply List.ext_getElem?
  intro j
  by_cases hj : j < n
  · rw [nums_get _ hj, List.getElem?_set]
    by_cases e : k = j
    · subst e
      rw [if_pos rfl, if_pos (by rw [nums_len]; exact hj), PlT.upd_same]
    · rw [if_neg e, nums_get _ hj, PlT.upd_ne _ _ (Ne.symm e)]
  · rw [List.getElem?_eq_none (by rw [List.length_set, nums_len]; omega), List.getElem?_eq_none (by rw [nums_len]; omega)]
theorem nums_congr {n : Nat} {f g : Nat → Int} (h : ∀ k, f k = g k) : nums n f = nums n g := by
  unfold nums
  exact List.map_congr_left fun k _ => by rw [h k]
def nI (f : Nat → Nat) (k : Nat) : Int := (f k : Int)
def nR (f : Nat → Option Nat) (k : Nat) : Int := PlE.opt (f k)
theorem nI_upd (f : Nat → Nat) (k v : Nat) (j : Nat) : PlT.upd (nI f) k (v : Int) j = nI (PlT.upd f k v) j := by
  unfold nI PlT.upd; split <;> rfl
theorem nR_upd (f : Nat → Option Nat) (k v : Nat) (j : Nat) : PlT.upd (nR f) k (v : Int) j = nR (PlT.upd f k (some v)) j := by
  unfold nR PlT.upd; split <;> rfl

def wkCells (ve va vl : Value) (gi gl gr n : Nat) (fd : Nat) (vp : Value) : Array Value :=
  #[ve, va, vl, .slice (some ⟨gi, 0, none⟩) n n, .slice (some ⟨gl, 0, none⟩) n n, .slice (some ⟨gr, 0, none⟩) n n, .int .i64 (fd : Int), vp]
structure TW (w0 : World) (B : Nat) (bw gi gl gr n : Nat) (ve va vl vp : Value) (s : PlT.St) (wr : World) : Prop where
  b : Blk wr bw 57 (wkCells ve va vl gi gl gr n s.fd vp)
  bi : Blk wr gi 3 (nums n (nI s.ix)).toArray
  bl : Blk wr gl 3 (nums n (nI s.lo)).toArray
  br : Blk wr gr 3 (nums n (nR s.rt)).toArray
  op : wr.ownsRow B 3 1 vp s.pd.length (s.pd.map I)
  d1 : gi ≠ gl
  d2 : gi ≠ gr
  d3 : gl ≠ gr
  ne : ∀ b, vp.ownBlock = some b → b ≠ gi ∧ b ≠ gl ∧ b ≠ gr
  bel : Below B w0 wr
  hs : B ≤ wr.heap.size
  hB : B ≤ bw ∧ B ≤ gi ∧ B ≤ gl ∧ B ≤ gr
/-- blocks of other types stay -/
def KT (w W : World) : Prop := w.heap.size ≤ W.heap.size ∧ ∀ g t cs, t ≠ 3 → t ≠ 57 → Blk w g t cs → Blk W g t cs
theorem KT.refl (w : World) : KT w w := ⟨Nat.le_refl _, fun _ _ _ _ _ h => h⟩
theorem KT.trans {w W X : World} (h : KT w W) (h' : KT W X) : KT w X := ⟨Nat.le_trans h.1 h'.1, fun g t cs h1 h2 hb => h'.2 g t cs h1 h2 (h.2 g t cs h1 h2 hb)⟩
theorem KT.own {w W : World} (h : KT w W) {base e size n : Nat} {v : Value} {xs : List Value} (ho : w.ownsRow base e size v n xs) (h1 : e ≠ 3) (h2 : e ≠ 57) : W.ownsRow base e size v n xs := by
  refine ⟨ho.1, ho.2.imp id ?_⟩
  rintro ⟨g, c, cur, e1, hg, hh, hr⟩
  exact ⟨g, c, cur, e1, hg, h.2 g e cur h1 h2 hh, hr⟩
theorem blk8 {w : World} {g : Nat} {t : TypeId} {a0 a1 a2 a3 a4 a5 a6 a7 : Value} (h : Blk w g t #[a0, a1, a2, a3, a4, a5, a6, a7]) :
    w.cell? ⟨g, 0, none⟩ = some a0 ∧ w.cell? ⟨g, 1, none⟩ = some a1 ∧ w.cell? ⟨g, 2, none⟩ = some a2 ∧ w.cell? ⟨g, 3, none⟩ = some a3 ∧ w.cell? ⟨g, 4, none⟩ = some a4 ∧ w.cell? ⟨g, 5, none⟩ = some a5 ∧ w.cell? ⟨g, 6, none⟩ = some a6 ∧ w.cell? ⟨g, 7, none⟩ = some a7 ∧ (∀ o, w.frozen? ⟨g, o, none⟩ = false) :=
  ⟨h.cell 0, h.cell 1, h.cell 2, h.cell 3, h.cell 4, h.cell 5, h.cell 6, h.cell 7, h.frozen⟩
theorem num_at {w : World} {g n : Nat} {f : Nat → Int} (h : Blk w g 3 (nums n f).toArray) {k : Nat} (hk : k < n) : w.cell? ⟨g, k, none⟩ = some (.int .i64 (f k)) := by
  rw [h.cell k, List.getElem?_toArray, nums_get f hk]
theorem num_set {w : World} {g n : Nat} {f : Nat → Int} (h : Blk w g 3 (nums n f).toArray) (k : Nat) (v : Int) : Blk (w.setCell ⟨g, k, none⟩ (.int .i64 v)) g 3 (nums n (PlT.upd f k v)).toArray := by
  have := h.setL k (.int .i64 v)
  rwa [nums_set] at this

section
variable {w0 wr : World} {B bw gi gl gr n : Nat} {ve va vl vp : Value} {s : PlT.St}
theorem TW.bi_ne (h : TW w0 B bw gi gl gr n ve va vl vp s wr) : bw ≠ gi ∧ bw ≠ gl ∧ bw ≠ gr :=
  ⟨Blk.ne_ h.b h.bi (by decide), Blk.ne_ h.b h.bl (by decide), Blk.ne_ h.b h.br (by decide)⟩
/-- a number of the indices is set -/
theorem own_far {w : World} {base e n : Nat} {v : Value} {xs : List Value} (h : w.ownsRow base e 1 v n xs) {g : Nat} (hg : v.ownBlock ≠ some g) (i : Nat) (u : Value) : (w.setCell ⟨g, i, none⟩ u).ownsRow base e 1 v n xs :=
  h.kept ⟨rfl, rfl, rfl, by simp [World.setCell], fun j _ hne => Below.heap_setCell w _ u j (by rintro rfl; exact hne rfl)⟩ (.inr hg)
theorem TW.pne (h : TW w0 B bw gi gl gr n ve va vl vp s wr) : vp.ownBlock ≠ some gi ∧ vp.ownBlock ≠ some gl ∧ vp.ownBlock ≠ some gr ∧ vp.ownBlock ≠ some bw :=
  ⟨fun e => (h.ne _ e).1 rfl, fun e => (h.ne _ e).2.1 rfl, fun e => (h.ne _ e).2.2 rfl, own_blk_ne h.op h.b (by decide)⟩
theorem TW.found (h : TW w0 B bw gi gl gr n ve va vl vp s wr) (v : Nat) : TW w0 B bw gi gl gr n ve va vl vp { s with fd := v } (wr.setCell ⟨bw, 6, none⟩ (.int .i64 (v : Int))) := by
  obtain ⟨n1, n2, n3⟩ := h.bi_ne
  exact ⟨h.b.set_ 6 _, h.bi.far (Ne.symm n1) _, h.bl.far (Ne.symm n2) _, h.br.far (Ne.symm n3) _, own_far h.op h.pne.2.2.2 _ _, h.d1, h.d2, h.d3, h.ne, h.bel.setCell h.hB.1 _, by simpa [World.setCell] using h.hs, h.hB⟩
theorem TW.alloc (h : TW w0 B bw gi gl gr n ve va vl vp s wr) (o : Obj) : TW w0 B bw gi gl gr n ve va vl vp s (wr.alloc o) :=
  ⟨h.b.alloc o, h.bi.alloc o, h.bl.alloc o, h.br.alloc o, h.op.alloc o, h.d1, h.d2, h.d3, h.ne, h.bel.alloc h.hs o, by have := h.hs; simp; omega, h.hB⟩
theorem TW.drew (h : TW w0 B bw gi gl gr n ve va vl vp s wr) : TW w0 B bw gi gl gr n ve va vl vp s wr.drew := ⟨h.b, h.bi, h.bl, h.br, h.op, h.d1, h.d2, h.d3, h.ne, h.bel.drew, h.hs, h.hB⟩
theorem TW.setIx (h : TW w0 B bw gi gl gr n ve va vl vp s wr) (k v : Nat) : TW w0 B bw gi gl gr n ve va vl vp { s with ix := PlT.upd s.ix k v } (wr.setCell ⟨gi, k, none⟩ (.int .i64 (v : Int))) := by
  obtain ⟨n1, n2, n3⟩ := h.bi_ne
  refine ⟨h.b.far n1 _, ?_, h.bl.far (Ne.symm h.d1) _, h.br.far (Ne.symm h.d2) _, own_far h.op h.pne.1 _ _, h.d1, h.d2, h.d3, h.ne, h.bel.setCell h.hB.2.1 _, by simpa [World.setCell] using h.hs, h.hB⟩
  rw [← nums_congr (nI_upd s.ix k v)]
  exact num_set h.bi k v
theorem TW.setLo (h : TW w0 B bw gi gl gr n ve va vl vp s wr) (k v : Nat) : TW w0 B bw gi gl gr n ve va vl vp { s with lo := PlT.upd s.lo k v } (wr.setCell ⟨gl, k, none⟩ (.int .i64 (v : Int))) := by
  obtain ⟨n1, n2, n3⟩ := h.bi_ne
  refine ⟨h.b.far n2 _, h.bi.far h.d1 _, ?_, h.br.far (Ne.symm h.d3) _, own_far h.op h.pne.2.1 _ _, h.d1, h.d2, h.d3, h.ne, h.bel.setCell h.hB.2.2.1 _, by simpa [World.setCell] using h.hs, h.hB⟩
  rw [← nums_congr (nI_upd s.lo k v)]
  exact num_set h.bl k v
theorem TW.setRt (h : TW w0 B bw gi gl gr n ve va vl vp s wr) (k v : Nat) : TW w0 B bw gi gl gr n ve va vl vp { s with rt := PlT.upd s.rt k (some v) } (wr.setCell ⟨gr, k, none⟩ (.int .i64 (v : Int))) := by
  obtain ⟨n1, n2, n3⟩ := h.bi_ne
  refine ⟨h.b.far n3 _, h.bi.far h.d2 _, h.bl.far h.d3 _, ?_, own_far h.op h.pne.2.2.1 _ _, h.d1, h.d2, h.d3, h.ne, h.bel.setCell h.hB.2.2.2 _, by simpa [World.setCell] using h.hs, h.hB⟩
  rw [← nums_congr (nR_upd s.rt k v)]
  exact num_set h.br k v
/-- the pending states lie in another row, or in the same one -/
theorem TW.setPd (h : TW w0 B bw gi gl gr n ve va vl vp s wr) {x : World} {v' : Value} {l : List Nat} (hg : wr.grownBy x vp.ownBlock) (ho : x.ownsRow B 3 1 v' l.length (l.map I)) (hv : v'.ownBlock = vp.ownBlock ∨ ∃ S, v'.ownBlock = some S ∧ wr.heap.size ≤ S) :
    TW w0 B bw gi gl gr n ve va vl v' { s with pd := l } (x.setCell ⟨bw, 7, none⟩ v') := by
  obtain ⟨n1, n2, n3⟩ := h.bi_ne
  have hb := h.b.grown hg (Ne.symm h.pne.2.2.2)
  have hne : v'.ownBlock ≠ some bw := own_blk_ne ho hb (by decide)
  refine ⟨hb.set_ 7 _, (h.bi.grown hg (Ne.symm h.pne.1)).far (Ne.symm n1) _, (h.bl.grown hg (Ne.symm h.pne.2.1)).far (Ne.symm n2) _, (h.br.grown hg (Ne.symm h.pne.2.2.1)).far (Ne.symm n3) _, own_far ho hne _ _, h.d1, h.d2, h.d3, fun b hb' => ?_,
    (h.bel.grown hg h.hs fun b hb' => (h.op.lt b hb').1).setCell h.hB.1 _, by have h1 := h.hs; have h2 := hg.size; simp [World.setCell]; omega, h.hB⟩
  rcases hv with hv | ⟨S, hv, hS⟩
  · exact h.ne b (by rw [← hv]; exact hb')
  · rw [hv] at hb'
    injection hb' with hb'
    subst hb'
    have l1 := h.bi.lt
    have l2 := h.bl.lt
    have l3 := h.br.lt
    exact ⟨by omega, by omega, by omega⟩
theorem own_sl {w : World} {base e size n : Nat} {v : Value} {xs : List Value} (h : w.ownsRow base e size v n xs) : ∃ (A : Option Addr) (c : Nat), v = .slice A n c := by
  rcases h.2 with ⟨rfl, rfl⟩ | ⟨g', cap, cur, rfl, _⟩
  · exact ⟨_, _, rfl⟩
  · exact ⟨_, _, rfl⟩
/-- a store into a block of another type -/
theorem TW.other (h : TW w0 B bw gi gl gr n ve va vl vp s wr) {g t i : Nat} {u : Value} {cs : Array Value} (hb : Blk wr g t cs) (h1 : t ≠ 3) (h2 : t ≠ 57) (hg : B ≤ g) : TW w0 B bw gi gl gr n ve va vl vp s (wr.setCell ⟨g, i, none⟩ u) :=
  ⟨h.b.far (Blk.ne_ h.b hb (Ne.symm h2)) _, h.bi.far (Blk.ne_ h.bi hb (Ne.symm h1)) _, h.bl.far (Blk.ne_ h.bl hb (Ne.symm h1)) _, h.br.far (Blk.ne_ h.br hb (Ne.symm h1)) _, own_far h.op (own_blk_ne h.op hb (Ne.symm h1)) _ _, h.d1, h.d2, h.d3, h.ne, h.bel.setCell hg _, by simpa [World.setCell] using h.hs, h.hB⟩
theorem KT.far {w W : World} (h : KT w W) {g i : Nat} {u : Value} (hg : w.heap.size ≤ g) : KT w (W.setCell ⟨g, i, none⟩ u) :=
  ⟨by simpa [World.setCell] using h.1, fun g' _ _ h1 h2 hb => (h.2 _ _ _ h1 h2 hb).far (by have := hb.lt; show g' ≠ g; omega) _⟩
theorem KT.setInt {w : World} {g i : Nat} {u : Value} {cs : Array Value} (h : Blk w g 3 cs) : KT w (w.setCell ⟨g, i, none⟩ u) :=
  ⟨by simp [World.setCell], fun _ _ _ h1 _ hb => hb.far (Blk.ne_ hb h h1) _⟩
theorem KT.setWk {w : World} {g i : Nat} {u : Value} {cs : Array Value} (h : Blk w g 57 cs) : KT w (w.setCell ⟨g, i, none⟩ u) :=
  ⟨by simp [World.setCell], fun _ _ _ _ h2 hb => hb.far (Blk.ne_ hb h h2) _⟩
theorem blk_new_set (w : World) (a : Addr) (x : Value) (t : Nat) (cs : Array Value) : Blk ((w.setCell a x).alloc (.cells cs t)) w.heap.size t cs := by
  have := Blk.new (w.setCell a x) t cs
  rwa [show (w.setCell a x).heap.size = w.heap.size by simp [World.setCell]] at this
theorem KT.alloc (w : World) (o : Obj) : KT w (w.alloc o) := ⟨by simp, fun _ _ _ _ _ hb => hb.alloc o⟩
theorem KT.grown {w W : World} {base n : Nat} {v : Value} {xs : List Value} (ho : w.ownsRow base 3 1 v n xs) (hg : w.grownBy W v.ownBlock) : KT w W :=
  ⟨hg.size, fun _ _ _ h1 _ hb => hb.grown hg (Ne.symm (own_blk_ne ho hb (Ne.symm h1)))⟩
end
end Go.Proofs.Ytnjbofahboopoaa
