/- The worlds in the walk of ref41.Play. -/
import Derived.Test.YtpfhnpmcfjfmiaaR5
namespace Go.Proofs.Ytpfhnpmcfjfmiaa
open Go.RowKit

section
variable {N N' : Nat → Prop} {w W : World} {v : Value}
theorem ReadsOff.move {A : Option Addr} {n : Nat} {xs : List Value} (h : ReadsOff N w A n xs) (hk : Kept N w W) (hN : ∀ b, b < w.heap.size → N' b → N b) : ReadsOff N' W A n xs := ⟨(h.go hk).1, (h.less hN).2⟩
theorem IntsOff.move {l : List Int} (h : IntsOff N w v l) (hk : Kept N w W) (hN : ∀ b, b < w.heap.size → N' b → N b) : IntsOff N' W v l := let ⟨A, c, e, hr⟩ := h; ⟨A, c, e, hr.move hk hN⟩
theorem ItemsOff.move {Q : List (List Int)} (h : ItemsOff N w v Q) (hk : Kept N w W) (hN : ∀ b, b < w.heap.size → N' b → N b) : ItemsOff N' W v Q :=
  let ⟨A, c, rows, e, hr, h2⟩ := h
  ⟨A, c, rows, e, hr.move hk hN, fun k l hl => let ⟨u, hu, ha⟩ := h2 k l hl; ⟨u, hu, ha.move hk hN⟩⟩
theorem ChanOff.move {cap : Int} {Q : List (List Int)} (h : ChanOff N w v cap Q) (hk : Kept N w W) (hN : ∀ b, b < w.heap.size → N' b → N b) : ChanOff N' W v cap Q := let ⟨vi, e, hi⟩ := h; ⟨vi, e, hi.move hk hN⟩
end
/-- what the walk writes into: the two variables, and the row of the received items -/
def RN (w : World) (vr : Value) (b : Nat) : Prop := b = w.heap.size ∨ b = w.heap.size + 1 ∨ vr.ownBlock = some b
structure RPW (w wr : World) (cap : Int) (Q R : List (List Int)) (A : Option Addr) (c : Nat) (vr : Value) (vsR : List Value) : Prop where
  b0 : Blk wr w.heap.size 24 #[.int .i64 cap, .slice A Q.length c]
  b1 : Blk wr (w.heap.size + 1) 24 #[.int .i64 0, .slice none 0 0]
  xo : ChanOff (RN w vr) wr (.agg #[.int .i64 cap, .slice A Q.length c]) cap Q
  cp : CapOk (.agg #[.int .i64 cap, .slice A Q.length c])
  orr : wr.ownsRow w.heap.size 25 1 vr R.length vsR
  rr : ∀ (k : Nat) q, R[k]? = some q → ∃ u, vsR[k]? = some u ∧ IntsOff (RN w vr) wr u q
  bel : Below w.heap.size w wr

section
variable {w wr : World} {cap : Int} {Q R : List (List Int)} {A : Option Addr} {c : Nat} {vr : Value} {vsR : List Value}
theorem RPW.lt (h : RPW w wr cap Q R A c vr vsR) : ∀ b, RN w vr b → b < wr.heap.size := by
  intro b hb
  rcases hb with rfl | rfl | hb
  · exact h.b0.lt
  · exact h.b1.lt
  · exact (h.orr.lt b hb).2
/-- behind a call, the store of its result into the variable -/
theorem RPW.after (h : RPW w wr cap Q R A c vr vsR) {W3 : World} {cap2 : Int} {Q2 : List (List Int)} {A2 : Option Addr} {c2 : Nat} (hb : Below wr.heap.size wr W3)
    (hx : ChanOff (RN w vr) W3 (.agg #[.int .i64 cap2, .slice A2 Q2.length c2]) cap2 Q2) (hcp : CapOk (.agg #[.int .i64 cap2, .slice A2 Q2.length c2])) :
    RPW w ((W3.setCell ⟨w.heap.size, 0, none⟩ (.int .i64 cap2)).setCell ⟨w.heap.size, 1, none⟩ (.slice A2 Q2.length c2)) cap2 Q2 R A2 c2 vr vsR := by
  have c0 := h.b0.below hb h.b0.lt
  have c0' := c0.set_ 0 (.int .i64 cap2)
  have k1 := own_below' h.orr hb
  have k2 := k1.kept (set_grown _ ⟨w.heap.size, 0, none⟩ (.int .i64 cap2) w.heap.size) (.inr (own_blk_ne k1 c0 (by decide)))
  have k3 := k2.kept (set_grown _ ⟨w.heap.size, 1, none⟩ (.slice A2 Q2.length c2) w.heap.size) (.inr (own_blk_ne k2 c0' (by decide)))
  have hK : Kept (RN w vr) W3 ((W3.setCell ⟨w.heap.size, 0, none⟩ (.int .i64 cap2)).setCell ⟨w.heap.size, 1, none⟩ (.slice A2 Q2.length c2)) :=
    ((Kept.refl _ _).set (.inl (.inl rfl)) _).set (.inl (.inl rfl)) _
  have hK0 : Kept (RN w vr) wr ((W3.setCell ⟨w.heap.size, 0, none⟩ (.int .i64 cap2)).setCell ⟨w.heap.size, 1, none⟩ (.slice A2 Q2.length c2)) := (Kept.of_below hb).trans hK
  exact ⟨c0'.set_ 1 _, ((h.b1.below hb h.b1.lt).far (by show w.heap.size + 1 ≠ w.heap.size; omega) _).far (by show w.heap.size + 1 ≠ w.heap.size; omega) _, hx.go hK, hcp, k3,
    fun k q hq => let ⟨u, h1, h2⟩ := h.rr k q hq; ⟨u, h1, h2.go hK0⟩, ((below_end hb h.bel).setCell (Nat.le_refl _) _).setCell (Nat.le_refl _) _⟩
/-- the variable of the call's result made ahead of the call -/
def RN2 (w wr : World) (vr : Value) (b : Nat) : Prop := RN w vr b ∨ b = wr.heap.size
theorem RPW.side (h : RPW w wr cap Q R A c vr vsR) {X : World} (hb : Below wr.heap.size wr X) : (∀ b, RN w vr b → b < X.heap.size) ∧ ChanOff (RN w vr) X (.agg #[.int .i64 cap, .slice A Q.length c]) cap Q ∧
    ∀ {Aq : Option Addr} {n : Nat} {xs : List Value}, ReadsOff (RN w vr) wr Aq n xs → ReadsOff (RN w vr) X Aq n xs :=
  ⟨fun b hn => Nat.lt_of_lt_of_le (h.lt b hn) hb.size, h.xo.go (.of_below hb), fun hr => hr.go (.of_below hb)⟩
theorem RPW.side2 (h : RPW w wr cap Q R A c vr vsR) {X : World} (hb : Below wr.heap.size wr X) (hl : wr.heap.size < X.heap.size) : (∀ b, RN2 w wr vr b → b < X.heap.size) ∧ ChanOff (RN2 w wr vr) X (.agg #[.int .i64 cap, .slice A Q.length c]) cap Q ∧
    ∀ {Aq : Option Addr} {n : Nat} {xs : List Value}, ReadsOff (RN w vr) wr Aq n xs → ReadsOff (RN2 w wr vr) X Aq n xs := by
  have hless : ∀ b, b < wr.heap.size → RN2 w wr vr b → RN w vr b := fun b hb hn => hn.resolve_right (by omega)
  refine ⟨fun b hn => ?_, h.xo.move (.of_below hb) hless, fun hr => hr.move (.of_below hb) hless⟩
  rcases hn with hn | rfl
  · exact Nat.lt_of_lt_of_le (h.lt b hn) hb.size
  · exact hl
theorem RPW.drew (h : RPW w wr cap Q R A c vr vsR) : RPW w wr.drew cap Q R A c vr vsR :=
  have hk : Kept (RN w vr) wr wr.drew := .of_below (Below.refl _ _).drew
  ⟨h.b0, h.b1, h.xo.go hk, h.cp, h.orr, fun k q hq => let ⟨u, h1, h2⟩ := h.rr k q hq; ⟨u, h1, h2.go hk⟩, h.bel.drew⟩
/-- one more received item -/
theorem RPW.got (h : RPW w wr cap Q R A c vr vsR) {x1 : World} {v1 u : Value} {q : List Int} {S : Nat} (hu : IntsOff (RN w vr) wr u q) (hg : wr.grownBy x1 vr.ownBlock)
    (ho : x1.ownsRow w.heap.size 25 1 v1 (R.length + 1) (vsR ++ [u])) (hv : v1.ownBlock = vr.ownBlock ∨ v1.ownBlock = some S) (hS : wr.heap.size ≤ S) :
    RPW w x1 cap Q (R ++ [q]) A c v1 (vsR ++ [u]) := by
  have hK : Kept (RN w vr) wr x1 := ⟨hg.size, fun p hp hn => hg.cell_far p hp fun e => hn (.inr (.inr e.symm))⟩
  have hless : ∀ b, b < wr.heap.size → RN w v1 b → RN w vr b := by
    intro b hb hn
    rcases hn with hn | hn | hn
    · exact .inl hn
    · exact .inr (.inl hn)
    · rcases hv with hv | hv
      · rw [hv] at hn; exact .inr (.inr hn)
      · rw [hv] at hn; injection hn with hn; omega
  have kl : vsR.length = R.length := by have := h.orr.1; omega
  refine ⟨h.b0.grown hg (Ne.symm (own_blk_ne h.orr h.b0 (by decide))), h.b1.grown hg (Ne.symm (own_blk_ne h.orr h.b1 (by decide))), h.xo.move hK hless, h.cp, by simpa using ho, fun k q' hq => ?_, h.bel.grown hg h.bel.size (fun b hb => (h.orr.lt b hb).1)⟩
  by_cases hlt : k < R.length
  · rw [List.getElem?_append_left hlt] at hq
    obtain ⟨u', h1, h2⟩ := h.rr k q' hq
    exact ⟨u', by rw [List.getElem?_append_left (by omega)]; exact h1, h2.move hK hless⟩
  · rw [List.getElem?_append_right (by omega)] at hq
    have hk0 : k - R.length = 0 := by
      have := (List.getElem?_eq_some_iff.1 hq).1
      simp at this
      omega
    rw [hk0] at hq
    injection hq with hq
    subst hq
    exact ⟨u, by rw [List.getElem?_append_right (by omega), show k - vsR.length = 0 by omega]; rfl, hu.move hK hless⟩
end
end Go.Proofs.Ytpfhnpmcfjfmiaa
