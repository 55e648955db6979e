/- The worlds in the walk of channel.Play; what it computes. -/
import Derived.Test.YtpfhnpmcfjfmiaaD9
namespace Go.Proofs.Ytpfhnpmcfjfmiaa
open Go.RowKit

abbrev COp := Int × Int × List Int
/-- one operation: the channel, the received items, the number of lost ones -/
def opQ (s : Int × List (List Int) × List (List Int) × Nat) (o : COp) : Int × List (List Int) × List (List Int) × Nat :=
  if o.1 = 1 then ((sendQ s.1 s.2.1 o.2.2).1, (sendQ s.1 s.2.1 o.2.2).2.1, s.2.2.1, if (sendQ s.1 s.2.1 o.2.2).2.2 = true then s.2.2.2 else s.2.2.2 + 1)
  else if o.1 = 2 then ((recvQ s.1 s.2.1).1, (recvQ s.1 s.2.1).2.1, if (recvQ s.1 s.2.1).2.2.2 = true then s.2.2.1 ++ [(recvQ s.1 s.2.1).2.2.1] else s.2.2.1, s.2.2.2)
  else if o.1 = 3 then ((loseQ s.1 s.2.1 o.2.1).1, (loseQ s.1 s.2.1 o.2.1).2.1, s.2.2.1, if (loseQ s.1 s.2.1 o.2.1).2.2 = true then s.2.2.2 + 1 else s.2.2.2)
  else s
def playQ (cap : Int) (Q : List (List Int)) (ops : List COp) : Int × List (List Int) × List (List Int) × Nat := ops.foldl opQ (cap, Q, [], 0)

theorem playQ_snoc (cap : Int) (Q : List (List Int)) (ops : List COp) (o : COp) : playQ cap Q (ops ++ [o]) = opQ (playQ cap Q ops) o := by
  unfold playQ; rw [List.foldl_append]; rfl
theorem opQ_lost (s : Int × List (List Int) × List (List Int) × Nat) (o : COp) : (opQ s o).2.2.2 ≤ s.2.2.2 + 1 ∧ (opQ s o).2.2.1.length ≤ s.2.2.1.length + 1 := by
  unfold opQ
  split
  · split <;> simp
  · split
    · split <;> simp
    · split
      · split <;> simp
      · simp
theorem playQ_lost (cap : Int) (Q : List (List Int)) (ops : List COp) : (playQ cap Q ops).2.2.2 ≤ ops.length ∧ (playQ cap Q ops).2.2.1.length ≤ ops.length := by
  have key : ∀ (l : List COp) (s : Int × List (List Int) × List (List Int) × Nat), (l.foldl opQ s).2.2.2 ≤ s.2.2.2 + l.length ∧ (l.foldl opQ s).2.2.1.length ≤ s.2.2.1.length + l.length := by
    intro l
    induction l with
    | nil => intro s; simp
    | cons o l ih =>
      intro s
      have h1 := ih (opQ s o)
      have h2 := opQ_lost s o
      simp only [List.foldl_cons, List.length_cons]
      omega
  simpa [playQ] using key ops (cap, Q, [], 0)

/-- operations in memory -/
def OpsAt (w : World) (B : Nat) (v : Value) (ops : List COp) : Prop :=
  ∃ (A : Option Addr) (c : Nat), v = .slice A ops.length c ∧ (0 < ops.length → ∃ ad, A = some ad ∧ ad.block < B ∧ ∀ k (h : k < ops.length), ∃ u, w.cell? (ad.add (k * 3)) = some (.int .i64 ops[k].1) ∧
    w.cell? ⟨(ad.add (k * 3)).block, (ad.add (k * 3)).off + 1, none⟩ = some (.int .i64 ops[k].2.1) ∧ w.cell? ⟨(ad.add (k * 3)).block, (ad.add (k * 3)).off + 2, none⟩ = some u ∧ IntsAt w B u ops[k].2.2)
theorem OpsAt.go {w w' : World} {v : Value} {ops : List COp} (h : OpsAt w w.heap.size v ops) (hb : Below w.heap.size w w') : OpsAt w' w'.heap.size v ops := by
  obtain ⟨A, c, e, hr⟩ := h
  refine ⟨A, c, e, fun h0 => ?_⟩
  obtain ⟨ad, e1, hl, hk⟩ := hr h0
  refine ⟨ad, e1, Nat.lt_of_lt_of_le hl hb.size, fun k h => ?_⟩
  obtain ⟨u, h1, h2, h3, h4⟩ := hk k h
  have hbl : (ad.add (k * 3)).block < w.heap.size := by rw [block_of_add]; exact hl
  exact ⟨u, (hb.cell hbl).trans h1, (hb.cell (p := ⟨(ad.add (k * 3)).block, (ad.add (k * 3)).off + 1, none⟩) hbl).trans h2, (hb.cell (p := ⟨(ad.add (k * 3)).block, (ad.add (k * 3)).off + 2, none⟩) hbl).trans h3, h4.go hb⟩

structure PW (w wr : World) (cap : Int) (Q R : List (List Int)) (vi : Value) (vs : List Value) (vr : Value) (vsR : List Value) : Prop where
  b0 : Blk wr w.heap.size 24 #[.int .i64 cap, vi]
  oi : wr.ownsRow w.heap.size 25 1 vi Q.length vs
  ri : RowsB wr vs Q
  orr : wr.ownsRow w.heap.size 25 1 vr R.length vsR
  rr : RowsB wr vsR R
  ne : vr.ownBlock = none ∨ vr.ownBlock ≠ vi.ownBlock
  b1 : Blk wr (w.heap.size + 1) 24 #[.int .i64 0, .slice none 0 0]
  bel : Below w.heap.size w wr

section
variable {w wr : World} {cap : Int} {Q R : List (List Int)} {vi : Value} {vs : List Value} {vr : Value} {vsR : List Value}
theorem PW.alloc (h : PW w wr cap Q R vi vs vr vsR) (o : Obj) : PW w (wr.alloc o) cap Q R vi vs vr vsR :=
  ⟨h.b0.alloc o, h.oi.alloc o, h.ri.keep fun _ _ hg => hg.alloc o, h.orr.alloc o, h.rr.keep fun _ _ hg => hg.alloc o, h.ne, h.b1.alloc o, h.bel.alloc h.bel.size o⟩
theorem PW.chan (h : PW w wr cap Q R vi vs vr vsR) : ChanAt wr wr.heap.size (.agg #[.int .i64 cap, vi]) cap Q := ⟨vi, rfl, h.ri.items_own h.oi⟩
/-- a store into the channel's variable keeps what is typed otherwise -/
theorem PW.after (h : PW w wr cap Q R vi vs vr vsR) {w2 W3 : World} {o : Obj} {cap2 : Int} {Q2 : List (List Int)} {vi2 : Value} {vs2 : List Value} (hW : w2.alloc o = W3) (hb : Below wr.heap.size wr w2)
    (ho : w2.ownsRow wr.heap.size 25 1 vi2 Q2.length vs2) (hr : RowsB w2 vs2 Q2) : PW w ((W3.setCell ⟨w.heap.size, 0, none⟩ (.int .i64 cap2)).setCell ⟨w.heap.size, 1, none⟩ vi2) cap2 Q2 R vi2 vs2 vr vsR := by
  subst hW
  have c0 := (h.b0.below hb h.b0.lt).alloc o
  have c0' := c0.set_ 0 (.int .i64 cap2)
  have ks : ∀ {v : Value} {n : Nat} {xs : List Value} {base : Nat}, w2.ownsRow base 25 1 v n xs → (((w2.alloc o).setCell ⟨w.heap.size, 0, none⟩ (.int .i64 cap2)).setCell ⟨w.heap.size, 1, none⟩ vi2).ownsRow base 25 1 v n xs := fun hv => by
    have k1 := hv.alloc o
    have k2 := k1.kept (set_grown _ ⟨w.heap.size, 0, none⟩ (.int .i64 cap2) w.heap.size) (.inr (own_blk_ne k1 c0 (by decide)))
    exact k2.kept (set_grown _ ⟨w.heap.size, 1, none⟩ vi2 w.heap.size) (.inr (own_blk_ne k2 c0' (by decide)))
  have kr : ∀ {xs : List Value} {Z : List (List Int)}, RowsB w2 xs Z → RowsB (((w2.alloc o).setCell ⟨w.heap.size, 0, none⟩ (.int .i64 cap2)).setCell ⟨w.heap.size, 1, none⟩ vi2) xs Z := fun hv =>
    ((hv.keep (w' := w2.alloc o) fun _ _ hg => hg.alloc o).set c0 (by decide) 0 _).set c0' (by decide) 1 _
  have hor := own_below' h.orr hb
  refine ⟨c0'.set_ 1 vi2, ks (own_base ho h.bel.size), kr hr, ks hor, kr (h.rr.below hb), ?_, ?_, ?_⟩
  · cases hv : vr.ownBlock with
    | none => exact .inl rfl
    | some b =>
      right
      intro e
      have h1 := (h.orr.lt b hv).2
      have h2 := (ho.lt b e.symm).1
      omega
  · exact (((h.b1.below hb h.b1.lt).alloc o).far (by show w.heap.size + 1 ≠ w.heap.size; omega) _).far (by show w.heap.size + 1 ≠ w.heap.size; omega) _
  · exact (((below_end hb h.bel).alloc (below_end hb h.bel).size o).setCell (Nat.le_refl _) _).setCell (Nat.le_refl _) _
/-- one more received item -/
theorem PW.got (h : PW w wr cap Q R vi vs vr vsR) {x1 : World} {v1 : Value} {gq S : Nat} {q : List Int} (hq : Blk wr gq 3 (q.map Iz).toArray) (hg : wr.grownBy x1 vr.ownBlock)
    (ho : x1.ownsRow w.heap.size 25 1 v1 (R.length + 1) (vsR ++ [.slice (some ⟨gq, 0, none⟩) q.length q.length])) (hv : v1.ownBlock = vr.ownBlock ∨ v1.ownBlock = some S) (hS : wr.heap.size ≤ S) :
    PW w x1 cap Q (R ++ [q]) vi vs v1 (vsR ++ [.slice (some ⟨gq, 0, none⟩) q.length q.length]) := by
  refine ⟨h.b0.grown hg (Ne.symm (own_blk_ne h.orr h.b0 (by decide))), h.oi.kept hg ?_, h.ri.own h.orr (by decide) hg, by simpa using ho, (h.rr.snoc hq).own h.orr (by decide) hg, ?_, h.b1.grown hg (Ne.symm (own_blk_ne h.orr h.b1 (by decide))), h.bel.grown hg h.bel.size (fun b hb => (h.orr.lt b hb).1)⟩
  · cases hvi : vi.ownBlock with
    | none => exact .inl rfl
    | some b =>
      right
      rcases h.ne with h1 | h1
      · rw [h1]; simp
      · intro e; exact h1 (by rw [hvi, e])
  · right
    intro e
    rcases hv with hv | hv
    · rcases h.ne with h1 | h1
      · obtain ⟨g', c', e', _, _⟩ := ho.form (by omega)
        rw [h1, e'] at hv
        simp [Value.ownBlock] at hv
      · exact h1 (by rw [← hv, e])
    · rw [hv] at e
      have := (h.oi.lt S e.symm).2
      omega
end
end Go.Proofs.Ytpfhnpmcfjfmiaa
