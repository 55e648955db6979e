/- Lemmas of this seat, laid together out of 2 texts: no statement of the seat is proved here. -/
import Derived.RangeFuncNested
import Derived.RangeFuncBound
import Derived.RangeFuncCalls
import Derived.RangeFuncLeaves
import Derived.RangeFuncRecord
import Derived.Shelf.Abstract
import Derived.Shelf.RegionOpen
import Derived.WalkKit
import Derived.OwnWalkIn
import Derived.TacticsInMore
import Derived.LoopNIn
import Derived.LoopIn
import Derived.Test.YtdfklagiafmoiaaGreatDoorG30
/- The iterator over a set's elements. -/
namespace Go.Proofs.YtdfklagiafmoiaaGreatDoor
open Go.RowKit Go.Shelf
attribute [local go_sem] Oper.semAt_some

/-- the number in a box -/
def mz (bx : Nat) (W : World) : Nat := match W.cell? ⟨bx, 0, none⟩ with | some (.int _ z) => z.toNat | _ => 0
def NodRel (set bx : Nat) (J : Nat → World → Prop) (wr : World) : Prop := ∃ t s : Nat, s < 4294967296 ∧ Blk wr bx 34 #[.int .u32 (s : Int)] ∧ (∀ i, s.testBit i = (set.testBit i && decide (t ≤ i))) ∧ J t wr
theorem mz_blk {bx s : Nat} {W : World} (h : Blk W bx 34 #[.int .u32 (s : Int)]) : mz bx W = s := by
  have : W.cell? ⟨bx, 0, none⟩ = some (.int .u32 (s : Int)) := h.cell 0
  unfold mz; rw [this]; simp
set_option maxRecDepth 100000 in
set_option maxHeartbeats 4000000 in
theorem nodes1_in (m l bx set : Nat) (hset : set < 4294967296) (J : Nat → World → Prop) (Jx : World → Prop)
    (hJ : ∀ t W u, J t W → J t (W.setCell ⟨bx, 0, none⟩ u)) (hTz : ∀ t W, J t W → TzAt W)
    (hY : ∀ t v W, t ≤ v → v < 32 → J t W → set.testBit v = true → (∀ i, t ≤ i → i < v → set.testBit i = false) → YieldAt Fence.wide m Tryz.prog l #[.int .i64 (v : Int)] W fun e W' =>
      (e = .returned (.bool true) ∧ J (v + 1) W' ∧ W'.heap[bx]? = W.heap[bx]?) ∨ (e = .returned (.bool false) ∧ Jx W'))
    (W : World) (hB : Blk W bx 34 #[.int .u32 (set : Int)]) (h0 : J 0 W) :
    CallsIn Fence.wide (m + 1) Tryz.prog 113 #[.func (.yield l) #[] #[], .pointer (some ⟨bx, 0, none⟩)] W fun e W' => (∃ v, e = .returned v) ∧ ((∃ t, (∀ i, t ≤ i → set.testBit i = false) ∧ J t W') ∨ Jx W') := by
  refine callsIn_of_wp Tryz.func113 rfl trivial ?_ rfl
  simp only [Tryz.ntmps113, List.size_toArray, List.length_cons, List.length_nil, Nat.reduceAdd, Nat.reduceSub, Array.replicate_succ, Array.replicate_zero, List.push_toArray, List.append_toArray, List.nil_append, List.cons_append]
  gi_wp2
  gi_loopw [3] (fun _ wr => NodRel set bx J wr) (fun _ wr => mz bx wr)
  case atStart => exact ⟨0, set, hset, hB, fun i => by simp, h0⟩
  case round =>
    obtain ⟨t, s, hs, hb, hbits, hJs⟩ := hrel
    have c0 : wr.cell? ⟨bx, 0, none⟩ = some (.int .u32 (s : Int)) := hb.cell 0
    have HBT := Lib.hid hbits
    have HJS := Lib.hid hJs
    have HB := Lib.hid hb
    clear hbits hJs hb
    rcases Nat.eq_zero_or_pos s with rfl | h0s
    · gi_wp2
      go_end0
      exact ⟨⟨_, rfl⟩, .inl ⟨t, fun i hi => by have := HBT.out i; simpa [hi] using this.symm, HJS.out⟩⟩
    · have e0 : ((s : Int) == 0) = false := beq_eq_false_iff_ne.2 (by omega)
      have HL := Lib.hid (low_of h0s hs)
      have ht : set.testBit (tz s) = true ∧ t ≤ tz s := by
        have := HBT.out (tz s)
        rw [HL.out.at_] at this
        have h2 := this.symm
        rw [Bool.and_eq_true] at h2
        exact ⟨h2.1, by simpa using h2.2⟩
      obtain ⟨fn, tmps, assign, body, hy, hR⟩ := hY t (tz s) wr ht.2 HL.out.lt HJS.out ht.1 (fun i h1 h2 => by
        have := HBT.out i
        rw [HL.out.below i h2] at this
        simpa [h1] using this.symm)
      have HTZ := Lib.hid (tz_p s h0s hs wr (hTz t wr HJS.out))
      have HDB := Lib.hid (drop1_bits h0s hs)
      have HD1 := Lib.hid (drop1_bit h0s hs)
      gi_wp2_with (refine ⟨trivial, ?_⟩; gi_at_call 114; refine (callsIn_wide.2 HTZ.out).mono ?_; rintro e w' ⟨rfl, rfl⟩)
      refine hR.mono ?_
      rintro e W3 (⟨rfl, hJ3, hk3⟩ | ⟨rfl, hJx3⟩)
      · have hb3 : Blk W3 bx 34 #[.int .u32 (s : Int)] := hk3.trans HB.out
        have c3 : W3.cell? ⟨bx, 0, none⟩ = some (.int .u32 (s : Int)) := hb3.cell 0
        have f3 := hb3.frozen 0
        have hdb : bits .and .u32 (s : Int) ((s : Int) - 1) = ((drop1 s : Nat) : Int) := by
          have h := HDB.out
          rw [show ((s : Int) - 1) % 4294967296 = (s : Int) - 1 by omega] at h
          exact h
        have HB3 := Lib.hid (show Blk (W3.setCell ⟨bx, 0, none⟩ (.int .u32 (drop1 s : Int))) bx 34 #[.int .u32 (drop1 s : Int)] from hb3.set_ 0 _)
        have HJ3 := Lib.hid (hJ _ _ (.int .u32 (drop1 s : Int)) hJ3)
        have HM := Lib.hid (mz_blk HB.out)
        clear hb3 hk3 hJ3
        gi_wp2
        go_roundw
        case rel =>
          refine ⟨tz s + 1, drop1 s, drop1_lt hs, HB3.out, fun i => ?_, HJ3.out⟩
          rw [HD1.out, HBT.out]
          rcases Nat.lt_trichotomy i (tz s) with h1 | h1 | h1
          · have h2 := HBT.out i
            rw [HL.out.below i h1] at h2
            rw [← h2]
            have : ¬ tz s + 1 ≤ i := by omega
            simp [this]
          · subst h1; simp
          · have h2 : t ≤ i := by omega
            have h3 : tz s + 1 ≤ i := by omega
            have h4 : i ≠ tz s := by omega
            simp [h2, h3, h4]
        case measure =>
          rw [mz_blk HB3.out, HM.out]
          have : drop1 s ≤ s - 1 := Nat.and_le_right
          omega
      · gi_wp2
        refine bodyPost_ret (results_none rfl _ _ _) rfl ?_
        exact ⟨⟨_, rfl⟩, .inr hJx3⟩
end Go.Proofs.YtdfklagiafmoiaaGreatDoor

/- A loop over a set's elements. -/
namespace Go.Proofs.YtdfklagiafmoiaaGreatDoor
open Go.RowKit Go.Shelf
attribute [local go_sem] Oper.semAt_some

/-- what the loop's own book-keeping leaves -/
def OffW (w : World) (bx : Nat) (W W' : World) : Prop := W'.os = W.os ∧ W'.tape = W.tape ∧ W'.output = W.output ∧ W.heap.size ≤ W'.heap.size ∧ ∀ k, k < w.heap.size → k ≠ bx → W'.heap[k]? = W.heap[k]?
/-- what a round leaves -/
def KeepHi (w : World) (bx : Nat) (W W' : World) : Prop := W'.heap[bx]? = W.heap[bx]? ∧ ∀ k, w.heap.size ≤ k → k < W.heap.size → W'.heap[k]? = W.heap[k]?
def nodePost (I : Nat → World → Prop) (Ix : World → Prop) (w : World) (bx v : Nat) (W : World) : Exit → Act → World → Prop
  | .normal, _, W' => I (v + 1) W' ∧ KeepHi w bx W W'
  | .ret, _, W' => Ix W' ∧ KeepHi w bx W W'
  | .exit _, _, _ => False
  | .goto _, _, _ => False
  | .panic _, _, _ => False
  | .outgrown, _, _ => False
theorem off_put {w W : World} {bx l : Nat} (o : Obj) (hl : w.heap.size ≤ l) : OffW w bx W (W.putObj l o) :=
  ⟨rfl, rfl, rfl, (grownBy_putObj' W l o).size, fun k hk _ => World.putObj_heap_other (by omega)⟩
theorem off_alloc {w W : World} {bx : Nat} (o : Obj) (h : w.heap.size ≤ W.heap.size) : OffW w bx W (W.alloc o) :=
  ⟨rfl, rfl, rfl, by simp, fun k hk _ => Below.heap_alloc W o k (by omega)⟩
theorem off_set {w W : World} {bx : Nat} (u : Value) : OffW w bx W (W.setCell ⟨bx, 0, none⟩ u) :=
  ⟨rfl, rfl, rfl, by simp [World.setCell], fun k _ hne => Below.heap_setCell W _ u k hne⟩
theorem wpIn_nodes {ps : Array Tmp} {g : Operand} {assign body : Code} {Q : Exit → Act → World → Prop} {a : Act} {w : World} (m bx set : Nat) (hset : set < 4294967296)
    (hg : a.eval g = .func (.func 113) #[] #[.pointer (some ⟨bx, 0, none⟩)]) (hps : ps.size = 1) (hbx : bx < w.heap.size) (hB : Blk w bx 34 #[.int .u32 (set : Int)])
    (I : Nat → World → Prop) (Ix : World → Prop) (hI : ∀ t W W', I t W → OffW w bx W W' → I t W') (hIx : ∀ W W', Ix W → OffW w bx W W' → Ix W') (hTz : ∀ t W, I t W → TzAt W) (_hsz : ∀ t W, I t W → w.heap.size ≤ W.heap.size) (h0 : I 0 w) (a₁ : Nat → Act)
    (hassign : ∀ (l v : Nat) (W : World) (K : Act → World → Prop), K (a₁ v) W →
      assign.wpIn (Fence.wide.inRound l) m Tryz.prog (Exit.then K (fun _ _ _ => False)) { tmps := (ps.zip #[.int .i64 (v : Int)]).foldl (fun t (p, v) => t.setIfInBounds p v) a.tmps, defers := [] } W)
    (hbody : ∀ (l t v : Nat) (W : World), t ≤ v → v < 32 → I t W → set.testBit v = true → (∀ i, t ≤ i → i < v → set.testBit i = false) → body.wpIn (Fence.wide.inRound l) m Tryz.prog (nodePost I Ix w bx v W) (a₁ v) W)
    (hdone : ∀ (D t : Nat) (W : World), (∀ i, t ≤ i → set.testBit i = false) → I t W → W.heap[D]? = some (.deferred (some [])) → w.heap.size ≤ D → Q .normal { a with defers := { target := .collected D, args := #[] } :: a.defers } W)
    (hstop : ∀ (D : Nat) (W : World), Ix W → W.heap[D]? = some (.deferred (some [])) → w.heap.size ≤ D → Code.ret.wpIn Fence.wide (m + 2) Tryz.prog Q { a with defers := { target := .collected D, args := #[] } :: a.defers } W) :
    (Code.rangeFunc g ps assign body).wpIn Fence.wide (m + 2) Tryz.prog Q a w := by
  refine wpIn_rangeFunc ?_
  intro fn hfn
  rw [show Fence.wide.round = none from rfl]
  have eg := enters_of Tryz.func113 (by kernel_rfl) rfl
  obtain ⟨rec, hrec⟩ : ∃ rec : LoopState → Option Code → Loop, rec = fun st pe => { state := st, pending := pe, fn, tmps := a.tmps, params := ps, assign, body, defers := w.heap.size } := ⟨_, rfl⟩
  obtain ⟨W1, hW1⟩ : ∃ W1, (w.alloc (.deferred (some []))).alloc (.loop (rec .ready none)) = W1 := ⟨_, rfl⟩
  have hL1 : W1.heap[w.heap.size + 1]? = some (.loop (rec .ready none)) := by
    rw [← hW1]; have := World.alloc_heap_new (w.alloc (.deferred (some []))) (.loop (rec .ready none)); rwa [World.size_alloc] at this
  have hK1 : W1.heap[w.heap.size]? = some (.deferred (some [])) := by
    rw [← hW1]; exact (Below.heap_alloc _ _ _ (by simp)).trans (World.alloc_heap_new w _)
  have hI1 : I 0 W1 := by
    rw [← hW1]
    exact hI 0 _ _ (hI 0 _ _ h0 (off_alloc _ (Nat.le_refl _))) (off_alloc _ (by simp))
  have hB1 : Blk W1 bx 34 #[.int .u32 (set : Int)] := by rw [← hW1]; exact (hB.alloc _).alloc _
  refine ⟨w.heap.size + 1, [{ target := .collected w.heap.size, args := #[] }], W1, { target := .fn (.func 113) #[.pointer (some ⟨bx, 0, none⟩)], args := #[.func (.yield (w.heap.size + 1)) #[] #[]] }, W1, 113,
    #[.func (.yield (w.heap.size + 1)) #[] #[], .pointer (some ⟨bx, 0, none⟩)], W1, ?_, ?_, ?_, ?_, fun _ => by omega, ?_⟩
  · rw [← hW1, hrec]; exact run_enterLoop_outer _ _ _ _ _
  · simp only [resolve, hg]
    simp [go_sem]
  · intro f' hf'; trivial
  · simp [invoke, go_sem]
  · have hbl : bx ≠ w.heap.size + 1 := by omega
    have hbd : bx ≠ w.heap.size := by omega
    refine (nodes1_in m (w.heap.size + 1) bx set hset
      (fun t W => I t W ∧ W.heap[w.heap.size + 1]? = some (.loop (rec .ready none)) ∧ W.heap[w.heap.size]? = some (.deferred (some [])))
      (fun W => Ix W ∧ W.heap[w.heap.size + 1]? = some (.loop (rec .done (some .ret))) ∧ W.heap[w.heap.size]? = some (.deferred (some [])))
      (fun t W u hs => ⟨hI t _ _ hs.1 (off_set u), (Below.heap_setCell W _ u _ hbl.symm).trans hs.2.1, (Below.heap_setCell W _ u _ hbd.symm).trans hs.2.2⟩)
      (fun t W hs => hTz t W hs.1) ?_ W1 hB1 ⟨hI1, hL1, hK1⟩).mono ?_
    · rintro t v W htv hv ⟨hi, hl, hk⟩ hbit hgap
      have hlt : w.heap.size + 1 < W.heap.size := (Array.getElem?_eq_some_iff.1 hl).1
      have hy := run_yield (P := Tryz.prog) (args := #[.int .i64 (v : Int)]) hl (by rw [hrec]; exact hps.symm)
      rw [hrec] at hy
      refine ⟨fn, _, assign, body, hy, roundIn_of_wpIn hfn (hassign _ v W _ ⟨_, run_beginRound hl (by rw [hrec]), ?_⟩)⟩
      obtain ⟨W2, hW2⟩ : ∃ W2, W.putObj (w.heap.size + 1) (.loop { rec .ready none with state := .busy }) = W2 := ⟨_, rfl⟩
      have hl2 : W2.heap[w.heap.size + 1]? = some (.loop { rec .ready none with state := .busy }) := by rw [← hW2]; exact World.putObj_heap_same hlt
      have hk2 : W2.heap[w.heap.size]? = some (.deferred (some [])) := by rw [← hW2]; exact (World.putObj_heap_other (by omega)).trans hk
      have hb2 : W2.heap[bx]? = W.heap[bx]? := by rw [← hW2]; exact World.putObj_heap_other hbl
      have hi2 : I t W2 := by rw [← hW2]; exact hI t _ _ hi (off_put _ (by omega))
      rw [hW2]
      refine wpIn_mono (hbody _ t v W2 htv hv hi2 hbit hgap) ?_
      have fin : ∀ (jump : Option Code) (W3 : World), KeepHi w bx W2 W3 →
          (Instr.endRound (w.heap.size + 1) jump).run Tryz.prog W3 = .ok (.bool jump.isNone) (W3.putObj (w.heap.size + 1) (.loop (rec (if jump.isNone then .ready else .done) jump))) ∧
          (W3.putObj (w.heap.size + 1) (.loop (rec (if jump.isNone then .ready else .done) jump))).heap[w.heap.size + 1]? = some (.loop (rec (if jump.isNone then .ready else .done) jump)) ∧
          (W3.putObj (w.heap.size + 1) (.loop (rec (if jump.isNone then .ready else .done) jump))).heap[w.heap.size]? = some (.deferred (some [])) ∧
          (W3.putObj (w.heap.size + 1) (.loop (rec (if jump.isNone then .ready else .done) jump))).heap[bx]? = W.heap[bx]? := fun jump W3 hk3 => by
        have hl3 := (hk3.2 (w.heap.size + 1) (by omega) (Array.getElem?_eq_some_iff.1 hl2).1).trans hl2
        have hk4 := (hk3.2 w.heap.size (Nat.le_refl _) (Array.getElem?_eq_some_iff.1 hk2).1).trans hk2
        have := run_endRound (P := Tryz.prog) jump hl3
        rw [hrec] at this ⊢
        exact ⟨this, World.putObj_heap_same (Array.getElem?_eq_some_iff.1 hl3).1, (World.putObj_heap_other (by omega)).trans hk4, ((World.putObj_heap_other hbl).trans hk3.1).trans hb2⟩
      rintro e a3 W3 hp
      cases e with
      | normal =>
        obtain ⟨hi3, hk3⟩ := hp
        obtain ⟨hr, hl4, hk4, hb4⟩ := fin none W3 hk3
        exact ⟨_, _, hr, .inl ⟨rfl, ⟨hI _ _ _ hi3 (off_put _ (by omega)), hl4, hk4⟩, hb4⟩⟩
      | ret =>
        obtain ⟨hi3, hk3⟩ := hp
        obtain ⟨hr, hl4, hk4, hb4⟩ := fin (some .ret) W3 hk3
        exact ⟨_, _, hr, .inr ⟨rfl, hIx _ _ hi3 (off_put _ (by omega)), hl4, hk4⟩⟩
      | exit id => exact hp.elim
      | goto t => exact hp.elim
      | panic ch => exact hp.elim
      | outgrown => exact hp.elim
    · rintro e W2 ⟨⟨v, rfl⟩, (⟨t, hno, hi, hl, hk⟩ | ⟨hi, hl, hk⟩)⟩
      · exact ⟨none, _, by have := run_endLoop (P := Tryz.prog) hl (by rw [hrec]; simp); rw [hrec] at this; exact this, hdone _ t _ hno (hI _ _ _ hi (off_put _ (by omega))) ((World.putObj_heap_other (by omega)).trans hk) (Nat.le_refl _)⟩
      · exact ⟨some .ret, _, by have := run_endLoop (P := Tryz.prog) hl (by rw [hrec]; simp); rw [hrec] at this; exact this, hstop _ _ (hIx _ _ hi (off_put _ (by omega))) ((World.putObj_heap_other (by omega)).trans hk) (Nat.le_refl _)⟩
end Go.Proofs.YtdfklagiafmoiaaGreatDoor
