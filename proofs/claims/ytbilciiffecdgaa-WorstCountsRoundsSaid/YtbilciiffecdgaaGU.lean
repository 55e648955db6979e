/- Rows of rows of sets. -/
import Derived.Test.YtbilciiffecdgaaE3
namespace Go.Proofs.Ytbilciiffecdgaa
open Go.RowKit

/-- rows of numbers, each of the call's own, their slices in block g -/
structure GridU (w : World) (base g te e : Nat) (vs : List Value) (R : List (List Nat)) : Prop where
  len : vs.length = R.length
  blk : Blk w g te vs.toArray
  row : ∀ x (hv : x < vs.length) (hr : x < R.length), w.ownsRow base e 1 vs[x] R[x].length (R[x].map U32)
  ne : ∀ x y (hx : x < vs.length) (hy : y < vs.length), x ≠ y → vs[x].ownBlock = none ∨ vs[x].ownBlock ≠ vs[y].ownBlock

section
variable {w w' : World} {base g te e : Nat} {vs : List Value} {R : List (List Nat)}
theorem GridU.start (w : World) (base te e n : Nat) : GridU (w.alloc (.cells (List.replicate n (.slice none 0 0)).toArray te)) base w.heap.size te e (List.replicate n (.slice none 0 0)) (List.replicate n []) :=
  ⟨by simp, Blk.new _ _ _, fun x hv hr => by simpa using World.ownsRow_nil _ _ _ _, fun x y hx hy _ => .inl (by simp [Value.ownBlock])⟩
theorem GridU.keep (h : GridU w base g te e vs R) {row : Option Nat} (hg : w.grownBy w' row) (hgr : some g ≠ row) (hr : ∀ x (hx : x < vs.length), vs[x].ownBlock = none ∨ vs[x].ownBlock ≠ row) : GridU w' base g te e vs R :=
  ⟨h.len, h.blk.grown hg hgr, fun x hv hx => (h.row x hv hx).kept hg (hr x hv), h.ne⟩
theorem GridU.below (h : GridU w base g te e vs R) (hb : Below w.heap.size w w') : GridU w' base g te e vs R :=
  ⟨h.len, h.blk.below hb h.blk.lt, fun x hv hx => own_below' (h.row x hv hx) hb, h.ne⟩
theorem GridU.alloc (h : GridU w base g te e vs R) (o : Obj) : GridU (w.alloc o) base g te e vs R :=
  ⟨h.len, h.blk.alloc o, fun x hv hx => (h.row x hv hx).alloc o, h.ne⟩
theorem GridU.drew (h : GridU w base g te e vs R) : GridU w.drew base g te e vs R := ⟨h.len, h.blk, fun x hv hx => h.row x hv hx, h.ne⟩
/-- a store into a block of another type -/
theorem GridU.far (h : GridU w base g te e vs R) {b t : Nat} {cs : Array Value} (hb : Blk w b t cs) (h1 : t ≠ te) (h2 : t ≠ e) (i : Nat) (u : Value) : GridU (w.setCell ⟨b, i, none⟩ u) base g te e vs R := by
  have hg : w.grownBy (w.setCell ⟨b, i, none⟩ u) (some b) := ⟨rfl, rfl, rfl, by simp [World.setCell], fun j _ hne => Below.heap_setCell w _ u j (by rintro rfl; exact hne rfl)⟩
  refine ⟨h.len, h.blk.far (Blk.ne_ h.blk hb (Ne.symm h1)) u, fun x hv hx => (h.row x hv hx).kept hg (.inr ?_), h.ne⟩
  exact own_blk_ne (h.row x hv hx) hb (Ne.symm h2)

/-- x[t] = append(x[t], k): what the append has made, then the store -/
theorem GridU.app (h : GridU w base g te e vs R) (hne : e ≠ te) {t k : Nat} {v' : Value} {x1 : World} {S : Nat} (hS : w.heap.size ≤ S) (ht : t < vs.length) (htr : t < R.length)
    (hg : w.grownBy x1 vs[t].ownBlock) (ho : x1.ownsRow base e 1 v' (R[t].length + 1) (R[t].map U32 ++ [U32 k])) (hv : v'.ownBlock = vs[t].ownBlock ∨ v'.ownBlock = some S) :
    Blk x1 g te vs.toArray ∧ GridU (x1.setCell ⟨g, t, none⟩ v') base g te e (vs.set t v') (R.set t (R[t] ++ [k])) := by
  have hgt : vs[t].ownBlock ≠ some g := own_blk_ne (h.row t ht htr) h.blk hne
  have hb1 : Blk x1 g te vs.toArray := h.blk.grown hg (Ne.symm hgt)
  have hset : x1.grownBy (x1.setCell ⟨g, t, none⟩ v') (some g) := ⟨rfl, rfl, rfl, by simp [World.setCell], fun j _ hne => Below.heap_setCell x1 _ v' j (by rintro rfl; exact hne rfl)⟩
  refine ⟨hb1, by simpa using h.len, hb1.setL t v', fun x hx hxr => ?_, fun x y hx hy hxy => ?_⟩
  · have hx0 : x < vs.length := by simpa using hx
    have hxr0 : x < R.length := by simpa using hxr
    by_cases e0 : x = t
    · subst e0
      simp only [List.getElem_set_self]
      rw [List.length_append, List.map_append]
      exact ho.kept hset (.inr (own_blk_ne ho hb1 hne))
    · rw [List.getElem_set_ne (Ne.symm e0), List.getElem_set_ne (Ne.symm e0)]
      have hk := (h.row x hx0 hxr0).kept hg (h.ne x t hx0 ht e0)
      exact hk.kept hset (.inr (own_blk_ne hk hb1 hne))
  · have hx0 : x < vs.length := by simpa using hx
    have hy0 : y < vs.length := by simpa using hy
    have hlt : ∀ z (hz : z < vs.length), ∀ b, vs[z].ownBlock = some b → b < w.heap.size := fun z hz b hb => ((h.row z hz (by have := h.len; omega)).lt b hb).2
    by_cases e1 : x = t
    · subst e1
      have e2 : y ≠ x := fun e => hxy e.symm
      simp only [List.getElem_set_self]
      rw [List.getElem_set_ne (Ne.symm e2)]
      right
      rcases hv with hv | hv
      · rw [hv]
        rcases h.ne y x hy0 hx0 e2 with h1 | h1
        · intro h2
          rcases h.ne x y hx0 hy0 hxy with h3 | h3
          · rw [h1] at h2; exact absurd (hv.trans h2) (by
              intro h4
              have := ho.form (by omega)
              obtain ⟨g', cap, hvv, _⟩ := this
              rw [hvv] at h4
              simp [Value.ownBlock] at h4)
          · exact h3 h2
        · exact fun h2 => h1 h2.symm
      · rw [hv]
        intro h2
        have := hlt y hy0 S h2.symm
        omega
    · rw [List.getElem_set_ne (Ne.symm e1)]
      by_cases e2 : y = t
      · subst e2
        simp only [List.getElem_set_self]
        rcases hv with hv | hv
        · rw [hv]; exact h.ne x y hx0 hy0 hxy
        · right
          rw [hv]
          intro h2
          have := hlt x hx0 S h2
          omega
      · rw [List.getElem_set_ne (Ne.symm e2)]
        exact h.ne x y hx0 hy0 hxy
end
/-- the chunk -/
def cU (B g : Nat) (te e : TypeId) (vs : List Value) (R : List (List Nat)) : Ch B :=
  ⟨fun w => B ≤ g ∧ GridU w B g te e vs R, fun b => b = g ∨ ∃ x, ∃ hx : x < vs.length, vs[x].ownBlock = some b,
    fun h hg hr => ⟨h.1, h.2.keep hg (fun e => hr g e.symm (.inl rfl)) (fun x hx => by
      cases hv : vs[x].ownBlock with
      | none => exact .inl rfl
      | some b => exact .inr (fun e => hr b e.symm (.inr ⟨x, hx, hv⟩)))⟩,
    fun h e => by
      rcases e with rfl | ⟨x, hx, e⟩
      · exact ⟨h.1, h.2.blk.lt⟩
      · exact (h.2.row x hx (by have := h.2.len; omega)).lt _ e⟩
/-- x[t] = append(x[t], k) -/
theorem Mem.rowU {w0 w x1 : World} {l : List (Ch w0.heap.size)} (h : Mem w0 l w) (i : Nat) {g te e : Nat} {vs : List Value} {R : List (List Nat)} (hi : l[i]? = some (cU w0.heap.size g te e vs R)) (hne : e ≠ te) {t k : Nat} {v' : Value} {S : Nat} (hS : w.heap.size ≤ S) (ht : t < vs.length) (htr : t < R.length)
    (hg : w.grownBy x1 vs[t].ownBlock) (ho : x1.ownsRow w0.heap.size e 1 v' (R[t].length + 1) (R[t].map U32 ++ [U32 k])) (hv : v'.ownBlock = vs[t].ownBlock ∨ v'.ownBlock = some S) :
    Mem w0 (l.set i (cU w0.heap.size g te e (vs.set t v') (R.set t (R[t] ++ [k])))) (x1.setCell ⟨g, t, none⟩ v') := by
  obtain ⟨hB, hG⟩ := h.get i hi
  obtain ⟨hb1, hG2⟩ := hG.app hne (k := k) hS ht htr hg ho hv
  -- two steps: the append, then the store
  have h1 : Mem w0 (l.set i (cU w0.heap.size g te e (vs.set t v') (R.set t (R[t] ++ [k])))) (x1.setCell ⟨g, t, none⟩ v') := by
    have hil := (List.getElem?_eq_some_iff.1 hi)
    obtain ⟨hil, hic⟩ := hil
    have ap : ∀ j (hj : j < l.length), j ≠ i → ∀ b, l[j].F b → ¬ (cU w0.heap.size g te e vs R).F b := by
      intro j hj hn b h1 h2
      rcases Nat.lt_or_gt_of_ne hn with hlt | hlt
      · exact List.pairwise_iff_getElem.1 h.2.2 j i hj hil hlt b h1 (hic ▸ h2)
      · exact List.pairwise_iff_getElem.1 h.2.2 i j hil hj hlt b (hic ▸ h2) h1
    have lo : ∀ j (hj : j < l.length), ∀ b, l[j].F b → b < w.heap.size := fun j hj b hb => (l[j].low (h.2.1 _ (List.getElem_mem hj)) hb).2
    have bel1 : Below w0.heap.size w0 x1 := h.1.grown hg h.1.size (fun b hb => ((hG.row t ht htr).lt b hb).1)
    refine ⟨bel1.setCell hB _, fun d hd => ?_, ?_⟩
    · obtain ⟨j, hj, e'⟩ := List.getElem_of_mem hd
      by_cases hji : j = i
      · subst hji
        rw [List.getElem_set_self] at e'
        subst e'
        exact ⟨hB, hG2⟩
      · rw [List.getElem_set_ne (Ne.symm hji)] at e'
        subst e'
        have hj' : j < l.length := by simpa using hj
        have k1 := l[j].keep (h.2.1 _ (List.getElem_mem hj')) hg (fun b e hf => ap j hj' hji b hf (.inr ⟨t, ht, e⟩))
        exact l[j].keep k1 (gset' x1 g t v') (fun b e hf => ap j hj' hji b hf (.inl (by injection e with e; exact e.symm)))
    · rw [List.pairwise_iff_getElem]
      have hF : ∀ b, (cU w0.heap.size g te e (vs.set t v') (R.set t (R[t] ++ [k]))).F b → (cU w0.heap.size g te e vs R).F b ∨ w.heap.size ≤ b := by
        intro b hb
        rcases hb with rfl | ⟨x, hx, e'⟩
        · exact .inl (.inl rfl)
        · have hx0 : x < vs.length := by simpa using hx
          by_cases ext : x = t
          · subst ext
            rw [List.getElem_set_self] at e'
            rcases hv with hv | hv
            · exact .inl (.inr ⟨x, hx0, hv.symm.trans e'⟩)
            · have : some S = some b := hv.symm.trans e'
              injection this with this
              exact .inr (by omega)
          · rw [List.getElem_set_ne (Ne.symm ext)] at e'
            exact .inl (.inr ⟨x, hx0, e'⟩)
      intro a b ha hb hab y h1 h2
      have ha' : a < l.length := by simpa using ha
      have hb' : b < l.length := by simpa using hb
      by_cases e1 : a = i
      · subst e1
        rw [List.getElem_set_self] at h1
        rw [List.getElem_set_ne (by omega)] at h2
        rcases hF y h1 with h3 | h3
        · exact ap b hb' (by omega) y h2 h3
        · have := lo b hb' y h2; omega
      · rw [List.getElem_set_ne (Ne.symm e1)] at h1
        by_cases e2 : b = i
        · subst e2
          rw [List.getElem_set_self] at h2
          rcases hF y h2 with h3 | h3
          · exact ap a ha' e1 y h1 h3
          · have := lo a ha' y h1; omega
        · rw [List.getElem_set_ne (Ne.symm e2)] at h2
          exact List.pairwise_iff_getElem.1 h.2.2 a b ha' hb' hab y h1 h2
  exact h1
end Go.Proofs.Ytbilciiffecdgaa
