/- Merged out of GV, RC, RD. -/
import Derived.Test.YtbilciiffecdgaaE3
import Derived.Test.YtbilciiffecdgaaE4
import Derived.Test.YtbilciiffecdgaaMC
/- Rows of rows of cells, each row with its length. -/
namespace Go.Proofs.Ytbilciiffecdgaa
open Go.RowKit

/-- rows of cells, each of the call's own, their slices in block g -/
structure GridV (w : World) (base g te e z : Nat) (vs : List Value) (R : List (Nat × List Value)) : Prop where
  len : vs.length = R.length
  blk : Blk w g te vs.toArray
  row : ∀ x (hv : x < vs.length) (hr : x < R.length), w.ownsRow base e z vs[x] R[x].1 R[x].2
  ne : ∀ x y (hx : x < vs.length) (hy : y < vs.length), x ≠ y → vs[x].ownBlock = none ∨ vs[x].ownBlock ≠ vs[y].ownBlock

section
variable {w w' : World} {base g te e z : Nat} {vs : List Value} {R : List (Nat × List Value)}
theorem GridV.start (w : World) (base te e z n : Nat) : GridV (w.alloc (.cells (List.replicate n (.slice none 0 0)).toArray te)) base w.heap.size te e z (List.replicate n (.slice none 0 0)) (List.replicate n (0, [])) :=
  ⟨by simp, Blk.new _ _ _, fun x hv hr => by simpa using World.ownsRow_nil _ _ _ _, fun x y hx hy _ => .inl (by simp [Value.ownBlock])⟩
theorem GridV.keep (h : GridV w base g te e z vs R) {row : Option Nat} (hg : w.grownBy w' row) (hgr : some g ≠ row) (hr : ∀ x (hx : x < vs.length), vs[x].ownBlock = none ∨ vs[x].ownBlock ≠ row) : GridV w' base g te e z vs R :=
  ⟨h.len, h.blk.grown hg hgr, fun x hv hx => (h.row x hv hx).kept hg (hr x hv), h.ne⟩
theorem GridV.below (h : GridV w base g te e z vs R) (hb : Below w.heap.size w w') : GridV w' base g te e z vs R :=
  ⟨h.len, h.blk.below hb h.blk.lt, fun x hv hx => own_below' (h.row x hv hx) hb, h.ne⟩
theorem GridV.base_ (h : GridV w base g te e z vs R) {base' : Nat} (hb : base' ≤ base) : GridV w base' g te e z vs R :=
  ⟨h.len, h.blk, fun x hv hr => own_base (h.row x hv hr) hb, h.ne⟩
/-- x[t] = append(x[t], ..): what the append has made, then the store -/
theorem GridV.app (h : GridV w base g te e z vs R) (hne : e ≠ te) {t n' : Nat} {v' : Value} {xs' : List Value} {x1 : World} {S : Nat} (hn' : 0 < n') (hS : w.heap.size ≤ S) (ht : t < vs.length) (htr : t < R.length)
    (hg : w.grownBy x1 vs[t].ownBlock) (ho : x1.ownsRow base e z v' n' xs') (hv : v'.ownBlock = vs[t].ownBlock ∨ v'.ownBlock = some S) :
    Blk x1 g te vs.toArray ∧ GridV (x1.setCell ⟨g, t, none⟩ v') base g te e z (vs.set t v') (R.set t (n', xs')) := by
  have hgt : vs[t].ownBlock ≠ some g := own_blk_ne (h.row t ht htr) h.blk hne
  have hb1 : Blk x1 g te vs.toArray := h.blk.grown hg (Ne.symm hgt)
  have hset : x1.grownBy (x1.setCell ⟨g, t, none⟩ v') (some g) := ⟨rfl, rfl, rfl, by simp [World.setCell], fun j _ hne => Below.heap_setCell x1 _ v' j (by rintro rfl; exact hne rfl)⟩
  refine ⟨hb1, by simpa using h.len, hb1.setL t v', fun x hx hxr => ?_, fun x y hx hy hxy => ?_⟩
  · have hx0 : x < vs.length := by simpa using hx
    have hxr0 : x < R.length := by simpa using hxr
    by_cases e0 : x = t
    · subst e0
      simp only [List.getElem_set_self]
      exact ho.kept hset (.inr (own_blk_ne ho hb1 hne))
    · rw [List.getElem_set_ne (Ne.symm e0), List.getElem_set_ne (Ne.symm e0)]
      have hk := (h.row x hx0 hxr0).kept hg (h.ne x t hx0 ht e0)
      exact hk.kept hset (.inr (own_blk_ne hk hb1 hne))
  · have hx0 : x < vs.length := by simpa using hx
    have hy0 : y < vs.length := by simpa using hy
    have hlt : ∀ z (hz : z < vs.length), ∀ b, vs[z].ownBlock = some b → b < w.heap.size := fun z hz b hb => ((h.row z hz (by have := h.len; omega)).lt b hb).2
    by_cases e1 : x = t
    · subst e1
      have e2 : y ≠ x := fun e => hxy e.symm
      simp only [List.getElem_set_self]
      rw [List.getElem_set_ne (Ne.symm e2)]
      right
      rcases hv with hv | hv
      · rw [hv]
        rcases h.ne y x hy0 hx0 e2 with h1 | h1
        · intro h2
          rcases h.ne x y hx0 hy0 hxy with h3 | h3
          · rw [h1] at h2; exact absurd (hv.trans h2) (by
              intro h4
              have := ho.form (by omega)
              obtain ⟨g', cap, hvv, _⟩ := this
              rw [hvv] at h4
              simp [Value.ownBlock] at h4)
          · exact h3 h2
        · exact fun h2 => h1 h2.symm
      · rw [hv]
        intro h2
        have := hlt y hy0 S h2.symm
        omega
    · rw [List.getElem_set_ne (Ne.symm e1)]
      by_cases e2 : y = t
      · subst e2
        simp only [List.getElem_set_self]
        rcases hv with hv | hv
        · rw [hv]; exact h.ne x y hx0 hy0 hxy
        · right
          rw [hv]
          intro h2
          have := hlt x hx0 S h2
          omega
      · rw [List.getElem_set_ne (Ne.symm e2)]
        exact h.ne x y hx0 hy0 hxy
/-- a store into a row -/
theorem GridV.store (h : GridV w base g te e z vs R) (hne : e ≠ te) {t b n c j : Nat} {u : Value} {xs : List Value} (ht : t < vs.length) (htr : t < R.length) (hvt : vs[t] = .slice (some ⟨b, 0, none⟩) n c) (hR : R[t] = (n, xs)) :
    GridV (w.setCell ⟨b, j, none⟩ u) base g te e z vs (R.set t (n, xs.set j u)) := by
  have hrow := h.row t ht htr
  rw [hvt, hR] at hrow
  dsimp only at hrow
  obtain ⟨hst, hgr⟩ := hrow.stored j u
  have hgb : (Value.slice (some ⟨b, 0, none⟩) n c).ownBlock = some b := rfl
  refine ⟨by simpa using h.len, h.blk.grown hgr (Ne.symm (hgb ▸ own_blk_ne hrow h.blk hne)), fun x hx hxr => ?_, h.ne⟩
  have hxr0 : x < R.length := by simpa using hxr
  by_cases e0 : x = t
  · subst e0
    simp only [List.getElem_set_self]
    rw [hvt]
    exact hst
  · rw [List.getElem_set_ne (Ne.symm e0)]
    refine (h.row x hx hxr0).kept hgr ?_
    have := h.ne x t hx ht e0
    rwa [hvt, hgb] at this
end
/-- the chunk -/
def cV (B g : Nat) (te e : TypeId) (z : Nat) (vs : List Value) (R : List (Nat × List Value)) : Ch B :=
  ⟨fun w => B ≤ g ∧ GridV w B g te e z vs R, fun b => b = g ∨ ∃ x, ∃ hx : x < vs.length, vs[x].ownBlock = some b,
    fun h hg hr => ⟨h.1, h.2.keep hg (fun e => hr g e.symm (.inl rfl)) (fun x hx => by
      cases hv : vs[x].ownBlock with
      | none => exact .inl rfl
      | some b => exact .inr (fun e => hr b e.symm (.inr ⟨x, hx, hv⟩)))⟩,
    fun h e => by
      rcases e with rfl | ⟨x, hx, e⟩
      · exact ⟨h.1, h.2.blk.lt⟩
      · exact (h.2.row x hx (by have := h.2.len; omega)).lt _ e⟩
/-- two steps, the second into the same chunk: an append into a row and the store of its slice -/
theorem Mem.rowV {w0 w x1 : World} {l : List (Ch w0.heap.size)} (h : Mem w0 l w) (i : Nat) {g te e z : Nat} {vs : List Value} {R : List (Nat × List Value)} (hi : l[i]? = some (cV w0.heap.size g te e z vs R)) (hne : e ≠ te) {t n' : Nat} {v' : Value} {xs' : List Value} {S : Nat} (hn' : 0 < n') (hS : w.heap.size ≤ S) (ht : t < vs.length) (htr : t < R.length)
    (hg : w.grownBy x1 vs[t].ownBlock) (ho : x1.ownsRow w0.heap.size e z v' n' xs') (hv : v'.ownBlock = vs[t].ownBlock ∨ v'.ownBlock = some S) :
    Mem w0 (l.set i (cV w0.heap.size g te e z (vs.set t v') (R.set t (n', xs')))) (x1.setCell ⟨g, t, none⟩ v') := by
  obtain ⟨hB, hG⟩ := h.get i hi
  obtain ⟨hb1, hG2⟩ := hG.app hne hn' hS ht htr hg ho hv
  have hil := (List.getElem?_eq_some_iff.1 hi)
  obtain ⟨hil, hic⟩ := hil
  have ap : ∀ j (hj : j < l.length), j ≠ i → ∀ b, l[j].F b → ¬ (cV w0.heap.size g te e z vs R).F b := by
    intro j hj hn b h1 h2
    rcases Nat.lt_or_gt_of_ne hn with hlt | hlt
    · exact List.pairwise_iff_getElem.1 h.2.2 j i hj hil hlt b h1 (hic ▸ h2)
    · exact List.pairwise_iff_getElem.1 h.2.2 i j hil hj hlt b (hic ▸ h2) h1
  have lo : ∀ j (hj : j < l.length), ∀ b, l[j].F b → b < w.heap.size := fun j hj b hb => (l[j].low (h.2.1 _ (List.getElem_mem hj)) hb).2
  have bel1 : Below w0.heap.size w0 x1 := h.1.grown hg h.1.size (fun b hb => ((hG.row t ht htr).lt b hb).1)
  refine ⟨bel1.setCell hB _, fun d hd => ?_, ?_⟩
  · obtain ⟨j, hj, e'⟩ := List.getElem_of_mem hd
    by_cases hji : j = i
    · subst hji
      rw [List.getElem_set_self] at e'
      subst e'
      exact ⟨hB, hG2⟩
    · rw [List.getElem_set_ne (Ne.symm hji)] at e'
      subst e'
      have hj' : j < l.length := by simpa using hj
      have k1 := l[j].keep (h.2.1 _ (List.getElem_mem hj')) hg (fun b e hf => ap j hj' hji b hf (.inr ⟨t, ht, e⟩))
      exact l[j].keep k1 (gset' x1 g t v') (fun b e hf => ap j hj' hji b hf (.inl (by injection e with e; exact e.symm)))
  · rw [List.pairwise_iff_getElem]
    have hF : ∀ b, (cV w0.heap.size g te e z (vs.set t v') (R.set t (n', xs'))).F b → (cV w0.heap.size g te e z vs R).F b ∨ w.heap.size ≤ b := by
      intro b hb
      rcases hb with rfl | ⟨x, hx, e'⟩
      · exact .inl (.inl rfl)
      · have hx0 : x < vs.length := by simpa using hx
        by_cases ext : x = t
        · subst ext
          rw [List.getElem_set_self] at e'
          rcases hv with hv | hv
          · exact .inl (.inr ⟨x, hx0, hv.symm.trans e'⟩)
          · have : some S = some b := hv.symm.trans e'
            injection this with this
            exact .inr (by omega)
        · rw [List.getElem_set_ne (Ne.symm ext)] at e'
          exact .inl (.inr ⟨x, hx0, e'⟩)
    intro a b ha hb hab y h1 h2
    have ha' : a < l.length := by simpa using ha
    have hb' : b < l.length := by simpa using hb
    by_cases e1 : a = i
    · subst e1
      rw [List.getElem_set_self] at h1
      rw [List.getElem_set_ne (by omega)] at h2
      rcases hF y h1 with h3 | h3
      · exact ap b hb' (by omega) y h2 h3
      · have := lo b hb' y h2; omega
    · rw [List.getElem_set_ne (Ne.symm e1)] at h1
      by_cases e2 : b = i
      · subst e2
        rw [List.getElem_set_self] at h2
        rcases hF y h2 with h3 | h3
        · exact ap a ha' e1 y h1 h3
        · have := lo a ha' y h1; omega
      · rw [List.getElem_set_ne (Ne.symm e2)] at h2
        exact List.pairwise_iff_getElem.1 h.2.2 a b ha' hb' hab y h1 h2
/-- a store into a row -/
theorem Mem.storeV {w0 w : World} {l : List (Ch w0.heap.size)} (h : Mem w0 l w) (i : Nat) {g te e z : Nat} {vs : List Value} {R R' : List (Nat × List Value)} (hi : l[i]? = some (cV w0.heap.size g te e z vs R)) (hne : e ≠ te) {t b n c j : Nat} {u : Value} {xs : List Value} (ht : t < vs.length) (htr : t < R.length) (hvt : vs[t] = .slice (some ⟨b, 0, none⟩) n c) (hR : R[t] = (n, xs)) (hR' : R.set t (n, xs.set j u) = R') :
    Mem w0 (l.set i (cV w0.heap.size g te e z vs R')) (w.setCell ⟨b, j, none⟩ u) := by
  obtain ⟨hB, hG⟩ := h.get i hi
  subst hR'
  exact h.step i hi (gset' w b j u) (fun b' e' => by injection e' with e'; subst e'; exact .inr ⟨t, ht, by rw [hvt]; rfl⟩) ⟨hB, hG.store hne ht htr hvt hR⟩ (fun b' e' => .inl e')
theorem Mem.pushV {w0 w : World} {l : List (Ch w0.heap.size)} (h : Mem w0 l w) {te e : TypeId} {z : Nat} (n : Nat) : Mem w0 (cV w0.heap.size w.heap.size te e z (List.replicate n (.slice none 0 0)) (List.replicate n (0, [])) :: l) (w.alloc (.cells (madeCells #[.slice none 0 0] n) te)) := by
  refine h.push (galloc _ _) ⟨h.size, ?_⟩ (fun b e => ?_)
  · have := GridV.start w w0.heap.size te e z n
    rw [← made_list] at this
    exact this
  · rcases e with rfl | ⟨x, hx, e⟩
    · exact Nat.le_refl _
    · simp [Value.ownBlock] at e
theorem Mem.pushGV {w0 w w' : World} {l : List (Ch w0.heap.size)} (h : Mem w0 l w) (hb : Below w.heap.size w w') {g te e z : Nat} {vs : List Value} {R : List (Nat × List Value)} (hg : w.heap.size ≤ g) (gr : GridV w' w.heap.size g te e z vs R) : Mem w0 (cV w0.heap.size g te e z vs R :: l) w' :=
  h.pushBelow hb ⟨Nat.le_trans h.size hg, gr.base_ h.size⟩ (fun b e => by
    rcases e with rfl | ⟨x, hx, e⟩
    · exact hg
    · exact ((gr.row x hx (by have := gr.len; omega)).lt _ e).1)
end Go.Proofs.Ytbilciiffecdgaa

/- ref20.left, after, place. -/
namespace Go.Proofs.Ytbilciiffecdgaa
open Go.RowKit

set_option maxRecDepth 100000 in
set_option maxHeartbeats 2000000 in
theorem rleft_any (E : List Nat) (L : List (List Arc)) (v : Value) (hE : WfE E) (P s t q : Nat) (hP : P < 4294967296) (hs : s < 4294967296) (ht : t < E.length) (_hEl : E.length ≤ 32768) (hq : PlL.lft E P (s, (t : Int)) = q) (w : World) (hS : SpaceAt w w.heap.size v E L) :
    Calls Try.prog 57 #[v, .int .u32 (P : Int), .agg #[.int .u32 (s : Int), .int .i64 (t : Int)]] w fun e w' => e = .returned (.int .u32 (q : Int)) ∧ Below w.heap.size w w' := by
  obtain ⟨ve, va, rfl, ⟨Ae, ce, rfl, re⟩, ⟨Aa, ca, rows, rfl, ra, hk⟩⟩ := hS
  obtain ⟨ae, hA, hbe, ce0⟩ := set_at re ht
  subst hA
  have het := hE t ht
  have hrs : Pl.rest P s E[t] = q := by rw [← hq]; unfold PlL.lft; simp only [Int.toNat_natCast]; rw [getD_l 0 ht]
  have hrest := Pl.rest_eq P s E[t] hP hs het
  rw [hrs] at hrest
  generalize E[t] = et at *
  have t0 : (0 : Int) ≤ (t : Int) := by omega
  have t1 : (t : Int) < (E.length : Int) := by omega
  have HCE := Lib.hid (fun (X : World) (hX : Below w.heap.size w X) => (hX.cell (p := ae.add t) (by rw [block_of_add]; exact hbe)).trans ce0)
  clear re ra hk hrs hq ce0
  go_enter Try.func57, Try.ntmps57
  go_upto_region 1 with fail
  have hM := ((Mem.start w).new 25 #[.slice (some ae) E.length ce, .slice Aa L.length ca]).new 42 #[.int .u32 (s : Int), .int .i64 (t : Int)]
  simp only [World.size_alloc] at hM
  generalize hW : World.alloc _ _ = W at *
  obtain ⟨a0, a1, af⟩ := blk2 (hM.get 0 rfl).2
  obtain ⟨p0, p1, pf⟩ := blk2 (hM.get 1 rfl).2
  have cEW := HCE.out W hM.bel
  have HM := Lib.hid hM
  clear hW hM
  go_quiet (fail)
  go_wp2
  go_ret
  exact ⟨rfl, (HM.out.drewN nq).bel⟩

set_option maxRecDepth 100000 in
set_option maxHeartbeats 2000000 in
theorem rafter_any (E : List Nat) (L : List (List Arc)) (v : Value) (hE : WfE E) (P s t q : Nat) (hP : P < 4294967296) (hs : s < 4294967296) (ht : t < E.length) (hEl : E.length ≤ 32768) (hq : PlL.aft E P (s, (t : Int)) = q) (w : World) (hS : SpaceAt w w.heap.size v E L) :
    Calls Try.prog 56 #[v, .int .u32 (P : Int), .agg #[.int .u32 (s : Int), .int .i64 (t : Int)]] w fun e w' => e = .returned (.int .u32 (q : Int)) ∧ Below w.heap.size w w' := by
  have HS := Lib.hid hS
  obtain ⟨ve, va, rfl, ⟨Ae, ce, rfl, re⟩, ⟨Aa, ca, rows, rfl, ra, hk⟩⟩ := hS
  obtain ⟨ae, hA, hbe, ce0⟩ := set_at re ht
  subst hA
  have HE := Lib.hid hE
  have het := hE t ht
  have haf : q = if PlL.lft E P (s, (t : Int)) = 0 then E[t] else PlL.lft E P (s, (t : Int)) := by rw [← hq]; unfold PlL.aft; simp only [Int.toNat_natCast]; rw [getD_l 0 ht]
  obtain ⟨y, hy⟩ : ∃ y, PlL.lft E P (s, (t : Int)) = y := ⟨_, rfl⟩
  have HY := Lib.hid hy
  rw [hy] at haf
  generalize hete : E[t] = et at *
  have t0 : (0 : Int) ≤ (t : Int) := by omega
  have t1 : (t : Int) < (E.length : Int) := by omega
  have HCE := Lib.hid (fun (X : World) (hX : Below w.heap.size w X) => (hX.cell (p := ae.add t) (by rw [block_of_add]; exact hbe)).trans ce0)
  have HT := Lib.hid ht
  have HM0 := Lib.hid (show Mem w [cB w.heap.size (w.heap.size + 1) 42 #[.int .u32 (s : Int), .int .i64 (t : Int)], cB w.heap.size w.heap.size 25 #[.slice (some ae) E.length ce, .slice Aa L.length ca]] ((w.alloc (.cells #[.slice (some ae) E.length ce, .slice Aa L.length ca] 25)).alloc (.cells #[.int .u32 (s : Int), .int .i64 (t : Int)] 42)) from by
    have h := ((Mem.start w).new 25 #[.slice (some ae) E.length ce, .slice Aa L.length ca]).new 42 #[.int .u32 (s : Int), .int .i64 (t : Int)]
    simp only [World.size_alloc] at h
    exact h)
  clear re ra hk hE hq hy ce0 hete
  by_cases h0 : y = 0
  · subst h0
    rw [if_pos rfl] at haf
    subst haf
    have e1 : (((0 : Nat) : Int) != 0) = false := rfl
    go_enter Try.func56, Try.ntmps56
    go_wp2_with fail
    refine (rleft_any E L _ HE.out P s t 0 hP hs HT.out hEl HY.out _ (HS.out.go HM0.out.bel)).mono ?_
    rintro e w1 ⟨rfl, hb1⟩
    have HM1 := Lib.hid (HM0.out.below hb1)
    obtain ⟨a0, a1, af⟩ := blk2 (HM1.out.get 0 rfl).2
    obtain ⟨p0, p1, pf⟩ := blk2 (HM1.out.get 1 rfl).2
    have cEW := HCE.out w1 HM1.out.bel
    clear hb1
    go_wp2
    go_ret
    exact ⟨rfl, HM1.out.bel⟩
  · rw [if_neg h0] at haf
    subst haf
    have e1 : ((q : Int) != 0) = true := by rw [bne_iff_ne]; omega
    go_enter Try.func56, Try.ntmps56
    go_wp2_with fail
    refine (rleft_any E L _ HE.out P s t q hP hs HT.out hEl HY.out _ (HS.out.go HM0.out.bel)).mono ?_
    rintro e w1 ⟨rfl, hb1⟩
    have HM1 := Lib.hid (HM0.out.below hb1)
    clear hb1
    go_wp2
    go_ret
    exact ⟨rfl, HM1.out.bel⟩

set_option maxHeartbeats 1000000 in
theorem place_at (l : List Arc) (hl : l.length ≤ 1000000) (P j : Nat) (hj : j < l.length) (hP : l[j].1 = P) (hno : ∀ i (hi : i < l.length), i < j → l[i].1 ≠ P) (A : Option Addr) (c B : Nat) (w : World) (hr : Reads w B 2 A l.length (l.flatMap arcCells)) :
    Calls Try.prog 43 #[.slice A l.length c, .int .u32 (P : Int)] w fun e w' => e = .returned (.int .i64 (j : Int)) ∧ w = w' := by
  have RK := Lib.hid hr
  have HNO := Lib.hid hno
  have HP := Lib.hid hP
  clear hr hno hP
  go_enter Try.func43, Try.ntmps43
  go_wp2
  go_loop [5] (fun i => ∃ k : Nat, k ≤ j ∧ i = .int .i64 k) (fun i => l.length - (intOf i).toNat)
  case atStart => exact ⟨0, Nat.zero_le _, rfl⟩
  case round =>
    obtain ⟨k, hk, rfl⟩ := hrel
    have hkl : k < l.length := by omega
    obtain ⟨ad, rfl, hbl, c0, c1⟩ := arc_at RK.out hkl
    have hne := Lib.hid (fun h => HNO.out k hkl h)
    have heq := Lib.hid (show k = j → l[k].1 = P from fun h => by subst h; exact HP.out)
    generalize l[k] = a at *
    have k0 : (0 : Int) ≤ (k : Int) := by omega
    have k1 : (k : Int) < (l.length : Int) := by omega
    by_cases hkj : k = j
    · have e1 : ((a.1 : Int) == (P : Int)) = true := by rw [beq_iff_eq, heq.out hkj]
      have HKJ := Lib.hid hkj
      clear hkj hne heq
      go_wp2
      go_ret
      exact ⟨by rw [HKJ.out]; rfl, rfl⟩
    · have hn := hne.out (by omega)
      have e1 : ((a.1 : Int) == (P : Int)) = false := beq_eq_false_iff_ne.2 (by omega)
      clear hne heq hn
      go_wp2
      go_round
      case rel => exact ⟨k + 1, by omega, by go_num⟩
      case measure => simp [intOf]; omega
set_option maxHeartbeats 1000000 in
theorem place_no (l : List Arc) (hl : l.length ≤ 1000000) (P : Nat) (hno : ∀ i (hi : i < l.length), l[i].1 ≠ P) (A : Option Addr) (c B : Nat) (w : World) (hr : Reads w B 2 A l.length (l.flatMap arcCells)) :
    Calls Try.prog 43 #[.slice A l.length c, .int .u32 (P : Int)] w fun e w' => e = .returned (.int .i64 (-1)) ∧ w = w' := by
  have RK := Lib.hid hr
  have HNO := Lib.hid hno
  clear hr hno
  go_enter Try.func43, Try.ntmps43
  go_wp2
  go_loop [5] (fun i => ∃ k : Nat, k ≤ l.length ∧ i = .int .i64 k) (fun i => l.length - (intOf i).toNat)
  case atStart => exact ⟨0, Nat.zero_le _, rfl⟩
  case round =>
    obtain ⟨k, hk, rfl⟩ := hrel
    by_cases hkl : k < l.length
    · obtain ⟨ad, rfl, hbl, c0, c1⟩ := arc_at RK.out hkl
      have hne := HNO.out k hkl
      generalize l[k] = a at *
      have k0 : (0 : Int) ≤ (k : Int) := by omega
      have k1 : (k : Int) < (l.length : Int) := by omega
      have e1 : ((a.1 : Int) == (P : Int)) = false := beq_eq_false_iff_ne.2 (by omega)
      clear hne
      go_wp2
      go_round
      case rel => exact ⟨k + 1, by omega, by go_num⟩
      case measure => simp [intOf]; omega
    · go_wp2
      go_ret
      exact ⟨rfl, rfl⟩
end Go.Proofs.Ytbilciiffecdgaa

/- ref20.through. -/
namespace Go.Proofs.Ytbilciiffecdgaa
open Go.RowKit

theorem place_w (l : List Arc) (hl : l.length ≤ 1000000) (P j : Nat) (hj : j < l.length) (hP : l[j].1 = P) (hno : ∀ i (hi : i < l.length), i < j → l[i].1 ≠ P) (A : Option Addr) (c : Nat) (w : World) (hr : Reads w w.heap.size 2 A l.length (l.flatMap arcCells)) :
    Calls Try.prog 43 #[.slice A l.length c, .int .u32 (P : Int)] w fun e w' => e = .returned (.int .i64 (j : Int)) ∧ w = w' := place_at l hl P j hj hP hno A c _ w hr
set_option maxHeartbeats 1000000 in
theorem thr_legit (E : List Nat) (L : List (List Arc)) (v : Value) (S : List Bool) (A : Option Addr) (c : Nat) (g n m P s t : Nat) (ht : t < S.length) (hn : S.length ≤ 32768) (hs : isIn S t = true) (w : World) (hS : SpaceAt w w.heap.size v E L) (hSr : Reads w w.heap.size 1 A S.length (S.map Value.bool)) :
    Calls Try.prog 42 #[v, .slice A S.length c, .slice (some ⟨g, 0, none⟩) n m, .int .u32 (P : Int), .agg #[.int .u32 (s : Int), .int .i64 (t : Int)]] w fun e w' => e = .returned (.int .i64 1) ∧ Below w.heap.size w w' := by
  obtain ⟨ve, va, rfl, ⟨Ae, ce, rfl, re⟩, ⟨Aa, ca, rows, rfl, ra, hk⟩⟩ := hS
  obtain ⟨sd, hA, -⟩ := hSr.2 (by omega)
  subst hA
  have SR := Lib.hid hSr
  have HSF := Lib.hid hs
  have t0 : (0 : Int) ≤ (t : Int) := by omega
  have t1 : (t : Int) < (S.length : Int) := by omega
  clear re ra hk hSr hs
  go_enter Try.func42, Try.ntmps42
  go_upto_region 1 with fail
  have hM := ((Mem.start w).new 25 #[.slice Ae E.length ce, .slice Aa L.length ca]).new 42 #[.int .u32 (s : Int), .int .i64 (t : Int)]
  simp only [World.size_alloc] at hM
  generalize hW : World.alloc _ _ = W at *
  obtain ⟨a0, a1, af⟩ := blk2 (hM.get 0 rfl).2
  obtain ⟨sd', hA, hbl, cS⟩ := bool_at (SR.out.below hM.bel) ht
  obtain rfl : sd = sd' := by injection hA
  rw [← isIn_of ht, HSF.out] at cS
  have HM := Lib.hid hM
  clear hW hM hA
  go_wp2
  go_ret
  exact ⟨rfl, HM.out.bel⟩

set_option maxRecDepth 100000 in
set_option maxHeartbeats 4000000 in
theorem thr_pair (E : List Nat) (L : List (List Arc)) (v : Value) (hE : WfE E) (S : List Bool) (A : Option Addr) (c : Nat) (g n m P s t : Nat) (ht : t < S.length) (htn : t < n) (hn : S.length ≤ 32768) (_hnn : n ≤ 32768) (hSE : S.length = E.length) (hs : isIn S t = false) (hP : P < 4294967296) (hs32 : s < 4294967296)
    (l : List Arc) (hl : l.length ≤ 1000000) (A2 : Option Addr) (c2 : Nat) (j y q z : Nat) (hq : PlL.aft E P (s, (t : Int)) = q) (hj : j < l.length) (hjP : l[j].1 = q) (hjy : l[j].2 = (y : Int)) (hy : y ≤ 1000000) (hno : ∀ i (hi : i < l.length), i < j → l[i].1 ≠ q) (hz : z = (if PlL.lft E P (s, (t : Int)) = 0 then 1 else 0) + y)
    (w : World) (hS : SpaceAt w w.heap.size v E L) (hSr : Reads w w.heap.size 1 A S.length (S.map Value.bool)) (hg : g < w.heap.size) (hc : w.cell? ⟨g, t, none⟩ = some (.slice A2 l.length c2)) (hr : Reads w w.heap.size 2 A2 l.length (l.flatMap arcCells)) :
    Calls Try.prog 42 #[v, .slice A S.length c, .slice (some ⟨g, 0, none⟩) n m, .int .u32 (P : Int), .agg #[.int .u32 (s : Int), .int .i64 (t : Int)]] w fun e w' => e = .returned (.int .i64 (z : Int)) ∧ Below w.heap.size w w' := by
  have HS := Lib.hid hS
  obtain ⟨ve, va, rfl, ⟨Ae, ce, rfl, re⟩, ⟨Aa, ca, rows, rfl, ra, hk⟩⟩ := hS
  obtain ⟨sd, hA, -⟩ := hSr.2 (by omega)
  subst hA
  obtain ⟨a2, hA, hb2, d0, d1⟩ := arc_at hr hj
  subst hA
  rw [hjy] at d1
  have HE := Lib.hid hE
  have SR := Lib.hid hSr
  have HSF := Lib.hid hs
  have RK := Lib.hid hr
  have HNO := Lib.hid hno
  have HJP := Lib.hid hjP
  have HQ := Lib.hid hq
  have HZ := Lib.hid hz
  have HTE := Lib.hid (show t < E.length by omega)
  have HEL := Lib.hid (show E.length ≤ 32768 by omega)
  have t0 : (0 : Int) ≤ (t : Int) := by omega
  have t1 : (t : Int) < (S.length : Int) := by omega
  have t2 : (t : Int) < (n : Int) := by omega
  have j0 : (0 : Int) ≤ (j : Int) := by omega
  have j1 : (j : Int) < (l.length : Int) := by omega
  have hbj : (a2.add (j * 2)).block < w.heap.size := by rw [block_of_add]; exact hb2
  have HD1 := Lib.hid d1
  have HCG := Lib.hid hc
  obtain ⟨x, hx⟩ : ∃ x, PlL.lft E P (s, (t : Int)) = x := ⟨_, rfl⟩
  have HX := Lib.hid hx
  rw [hx] at hz
  clear re ra hk hSr hs hr hno hjP hjy hq hE d0 d1 hc hx HZ hSE
  go_enter Try.func42, Try.ntmps42
  go_upto_region 1 with fail
  have hM := ((Mem.start w).new 25 #[.slice Ae E.length ce, .slice Aa L.length ca]).new 42 #[.int .u32 (s : Int), .int .i64 (t : Int)]
  simp only [World.size_alloc] at hM
  generalize hW : World.alloc _ _ = W at *
  obtain ⟨a0, a1, af⟩ := blk2 (hM.get 0 rfl).2
  obtain ⟨p0, p1, pf⟩ := blk2 (hM.get 1 rfl).2
  obtain ⟨sd', hA, hbl, cS⟩ := bool_at (SR.out.below hM.bel) ht
  obtain rfl : sd = sd' := by injection hA
  rw [← isIn_of ht, HSF.out] at cS
  have cG := (hM.bel.cell (p := ⟨g, t, none⟩) hg).trans HCG.out
  have cD := (hM.bel.cell (p := ⟨(a2.add (j * 2)).block, (a2.add (j * 2)).off + 1, none⟩) hbj).trans HD1.out
  have lg0 := (hM.get 0 rfl).2.lt
  have lg1 := (hM.get 1 rfl).2.lt
  have hsz := hM.size
  have hgW : g < W.heap.size := by omega
  have hbjW : (a2.add (j * 2)).block < W.heap.size := by omega
  have HM := Lib.hid hM
  have RKW := Lib.hid (RK.out.go hM.bel)
  have HSW := Lib.hid (HS.out.go hM.bel)
  clear hW hM hA hg hbj
  have rule := below_rule W
  have rule2 := below_addr W
  go_upto_region 3 with fail
  go_cut [11] (fun s11 wx => s11 = .int .i64 (y : Int) ∧ Below W.heap.size W wx)
  case first =>
    go_region_held3 (fun x => Below W.heap.size W x) (first | exact Below.refl _ _ | exact Below.drew (Below.refl _ _) | assumption | exact below_step (by assumption) (by assumption))
      (first
        | (go_at_call 56; (with_reducible refine (rafter_any E L _ HE.out P s t q hP hs32 HTE.out HEL.out HQ.out _ ?_).mono ?_); (exact HSW.out.go (by first | exact Below.refl _ _ | exact Below.drew (Below.refl _ _) | assumption | exact Below.drew (by assumption))); rintro e u1 ⟨rfl, hu1⟩)
        | (go_at_call 43; (with_reducible refine (place_w l hl q j hj HJP.out HNO.out (some a2) c2 _ ?_).mono ?_); (exact RKW.out.go (by first | exact Below.refl _ _ | exact Below.drew (Below.refl _ _) | assumption | exact Below.drew (by assumption))); rintro e u2 ⟨rfl, rfl⟩))
    all_goals
      go_wp2_with fail
      go_meet
      refine ⟨rfl, ?_⟩
      first | assumption | exact Below.drew (by assumption) | exact below_step (by assumption) (by assumption)
  case rest =>
    obtain ⟨rfl, hb⟩ := hcut
    have HMC := Lib.hid (HM.out.below hb)
    obtain ⟨b0, b1, bf⟩ := blk2 (HMC.out.get 0 rfl).2
    obtain ⟨r0, r1, rf⟩ := blk2 (HMC.out.get 1 rfl).2
    clear a0 a1 af p0 p1 pf cS cG cD rule rule2 hb lg0 lg1 hgW hbjW
    go_wp2_with fail
    refine (rleft_any E L _ HE.out P s t x hP hs32 HTE.out HEL.out HX.out _ (HS.out.go HMC.out.bel)).mono ?_
    rintro e w2 ⟨rfl, hb2⟩
    have HMD := Lib.hid (HMC.out.below hb2)
    clear hb2 b0 b1 bf r0 r1 rf
    by_cases hx0 : x = 0
    · subst hx0
      rw [if_pos rfl] at hz
      have e1 : (((0 : Nat) : Int) == 0) = true := rfl
      have HZ := Lib.hid (show (y : Int) + 1 = (z : Int) by omega)
      clear hz
      go_wp2
      go_ret
      exact ⟨ret_int HZ.out, HMD.out.bel⟩
    · rw [if_neg hx0] at hz
      have e1 : ((x : Int) == 0) = false := beq_eq_false_iff_ne.2 (by omega)
      have HZ := Lib.hid (show (y : Int) = (z : Int) by omega)
      clear hz
      go_wp2
      go_ret
      exact ⟨ret_int HZ.out, HMD.out.bel⟩
end Go.Proofs.Ytbilciiffecdgaa
