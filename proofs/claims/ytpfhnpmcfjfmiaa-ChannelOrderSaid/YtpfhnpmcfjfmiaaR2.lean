/- ref41.Send, the last way. -/
import Derived.Test.YtpfhnpmcfjfmiaaR1
import Derived.Deep.RegionHeld3
namespace Go.Proofs.Ytpfhnpmcfjfmiaa
open Go.RowKit

theorem balloc {w X : World} (h : Below w.heap.size w X) (o : Obj) : Below w.heap.size w (X.alloc o) := h.alloc h.size o
theorem bdrw {w X : World} (h : Below w.heap.size w X) : Below w.heap.size w X.drew := h.drew
theorem bgrown {w X x : World} {e n : Nat} {v : Value} {xs : List Value} (h : Below w.heap.size w X) (ho : X.ownsRow w.heap.size e 1 v n xs) (hg : X.grownBy x v.ownBlock) : Below w.heap.size w x :=
  h.grown hg h.size (fun b hb => (ho.lt b hb).1)
theorem galloc {w X : World} {b : Nat} (h : w.grownBy X (some b)) (o : Obj) : w.grownBy (X.alloc o) (some b) :=
  ⟨h.os, h.tape, h.output, by simp; have := h.size; omega, fun j hj hn => (Below.heap_alloc X o j (Nat.lt_of_lt_of_le hj h.size)).trans (h.block j hj hn)⟩
theorem gbelow {w x : World} {b : Nat} (h : Below w.heap.size w x) : w.grownBy x (some b) := ⟨h.os, h.tape, h.output, h.size, fun j hj _ => h.block j hj⟩
theorem own_empty (w : World) (base e : Nat) (h : base ≤ w.heap.size) : (w.alloc (.cells #[] e)).ownsRow base e 1 (.slice (some ⟨w.heap.size, 0, none⟩) 0 0) 0 [] :=
  ⟨rfl, .inr ⟨w.heap.size, 0, #[], rfl, h, Blk.new w e #[], Nat.le_refl _, Nat.zero_le _, rfl, rfl⟩⟩
theorem own_eA (w : World) (e : Nat) : (w.alloc (.cells #[] e)).drew.ownsRow w.heap.size e 1 (.slice (some ⟨w.heap.size, 0, none⟩) 0 0) 0 [] := own_empty w _ e (Nat.le_refl _)
theorem own_eB (w : World) (e : Nat) (o : Obj) : ((w.alloc (.cells #[] e)).alloc o).drew.ownsRow w.heap.size e 1 (.slice (some ⟨w.heap.size, 0, none⟩) 0 0) 0 [] := (own_empty w _ e (Nat.le_refl _)).alloc o
theorem own_eC (w : World) (e : Nat) (o : Obj) : ((w.alloc o).alloc (.cells #[] e)).drew.ownsRow w.heap.size e 1 (.slice (some ⟨w.heap.size + 1, 0, none⟩) 0 0) 0 [] := by
  have := own_empty (w.alloc o) w.heap.size e (by simp)
  rw [World.size_alloc] at this
  exact this
theorem reads_kB {w x : World} {o : Obj} {u : Value} {t : Nat} (hg : ((w.alloc o).alloc (.cells #[u] t)).drew.grownBy x (some w.heap.size)) : Reads x (w.heap.size + 1 + 1) 1 (some ⟨w.heap.size + 1, 0, none⟩) 1 [u] := by
  have h0 := Blk.new (w.alloc o) t #[u]
  rw [World.size_alloc] at h0
  exact reads_blk (l := [u]) (h0.drew.grown hg (by simp)) (Nat.lt_succ_self _) rfl
theorem reads_kC {w x : World} {o : Obj} {u : Value} {t : Nat} (hg : ((w.alloc (.cells #[u] t)).alloc o).drew.grownBy x (some (w.heap.size + 1))) : Reads x (w.heap.size + 1) 1 (some ⟨w.heap.size, 0, none⟩) 1 [u] :=
  reads_blk (l := [u]) (((Blk.new w t #[u]).alloc o).drew.grown hg (by simp)) (Nat.lt_succ_self _) rfl
theorem bel1 (w : World) (o : Obj) : Below w.heap.size w (w.alloc o).drew := bdrw (balloc (Below.refl _ _) _)
theorem bel2 (w : World) (o o' : Obj) : Below w.heap.size w ((w.alloc o).alloc o').drew := bdrw (balloc (balloc (Below.refl _ _) _) _)
/-- append to a row of the call's own, under a bound -/
theorem step_app_b {P : Program} {w : World} (w1 : World) {ops : Array Oper} {o : Oper} {a : Act} {K : Act → World → Prop} {Q : Exit → Act → World → Prop} {E : Prop} (hgd : o.guard = none) (s x : Operand) (t : TypeId)
    (ho : o.op = .call { callee := .builtin .append, args := #[s, x], argTypes := #[t, t] })
    (e : TypeId) (i : TypeInfo) (z : Value) (bytes : Nat) (ht : P.underlying t = some (.slice e)) (hi : P.info? e = some i) (hz : i.zero = some z)
    (hsize : i.size = 1) (hby : i.bytes = bytes) (hzs : z.cells.size = 1)
    (v : Value) (n : Nat) (xs : List Value) (hs : a.eval s = v) (hown : w.ownsRow w1.heap.size e 1 v n xs) (hB : Below w1.heap.size w1 w)
    (B : Nat) (A : Option Addr) (m c : Nat) (news : List Value) (hx : a.eval x = .slice A m c) (hr : Reads w B 1 A m news) (h1 : ∀ u ∈ news, u.oneCell' = true)
    (h63 : n + m ≤ maxLen) (hbytes : (n + m) * bytes ≤ 140737488355328)
    (h : ∀ v' w', w'.ownsRow w1.heap.size e 1 v' (n + m) (xs ++ news) → Below w1.heap.size w1 w' → w.grownBy w' v.ownBlock → K (a.put o.dst v') w') :
    if Region.wanted o (yielded ops a.tmps) = true then Oper.wp P o a w K Q else E :=
  step_append_any w hgd s x t ho w1.heap.size e i z 1 bytes ht hi hz hsize hby hzs (by decide) v n xs hs hown B A m c news hx hr h1 h63 hbytes hB.size fun v' w' h2 h3 _ => h v' w' h2 (bgrown hB hown h3) h3
theorem own_le {w : World} {base e n c : Nat} {A : Option Addr} {xs : List Value} (h : w.ownsRow base e 1 (.slice A n c) n xs) : n ≤ c := by
  rcases h.2 with ⟨hv, h0⟩ | ⟨g, cap, cur, hv, _, _, h1, _⟩
  · omega
  · injection hv with _ _ hv
    subst hv
    exact h1
/-- the channel whose items lie in the row of the call's own, each where it lay -/
theorem ref_end {N : Nat → Prop} {w x : World} {base : Nat} {cap : Int} {Q : List (List Int)} {A : Option Addr} {n c : Nat} {rs : List Value} {b : Bool} {g : Nat} {cs : Array Value} (ho : x.ownsRow base 25 1 (.slice A n c) n rs) (hn : Q.length = n)
    (hr : ∀ (k : Nat) q, Q[k]? = some q → ∃ u, rs[k]? = some u ∧ IntsOff N w u q) (hb : Blk x g 24 cs) (hB : Below w.heap.size w x) (hg : w.heap.size ≤ g) (hN : ∀ b, N b → b < w.heap.size) (hbs : w.heap.size ≤ base) :
    RefPost N w cap Q b (.returned (.tuple #[.agg #[.int .i64 cap, .slice A n c], .bool b])) ((x.setCell ⟨g, 0, none⟩ (.int .i64 cap)).setCell ⟨g, 1, none⟩ (.slice A n c)) := by
  have h2 := ho.kept (set_grown _ ⟨g, 0, none⟩ (.int .i64 cap) g) (.inr (own_blk_ne ho hb (by decide)))
  have b2 := hb.set_ 0 (.int .i64 cap)
  have h3 := h2.kept (set_grown _ ⟨g, 1, none⟩ (.slice A n c) g) (.inr (own_blk_ne h2 b2 (by decide)))
  have hB3 := (hB.setCell (p := ⟨g, 0, none⟩) hg (.int .i64 cap)).setCell (p := ⟨g, 1, none⟩) hg (.slice A n c)
  subst hn
  refine ⟨_, rfl, ⟨_, rfl, A, c, rs, rfl, ⟨Reads.of_own h3, fun _ ad hA hn => ?_⟩, fun k q hq => let ⟨u, h4, h5⟩ := hr k q hq; ⟨u, h4, h5.go (.of_below hB3)⟩⟩, CapOk.mk (own_le ho), hB3⟩
  subst hA
  obtain ⟨g', c', e', hg', -⟩ := ho.form (by omega)
  injection e' with e'
  injection e' with e'
  subst e'
  have h6 := hN _ hn
  have : w.heap.size ≤ g' := Nat.le_trans hbs hg'
  exact absurd h6 (by show ¬ g' < _; omega)
theorem rows_snoc {N : Nat → Prop} {w : World} {Q : List (List Int)} {rows : List Value} {q : List Int} {u : Value} (hl : rows.length = Q.length * 1) (hk : ∀ (k : Nat) q, Q[k]? = some q → ∃ u, rows[k]? = some u ∧ IntsOff N w u q) (hu : IntsOff N w u q) :
    ∀ (k : Nat) q', (Q ++ [q])[k]? = some q' → ∃ u', ([] ++ rows ++ [u])[k]? = some u' ∧ IntsOff N w u' q' := by
  intro k q' h
  rw [List.nil_append]
  by_cases hlt : k < Q.length
  · rw [List.getElem?_append_left hlt] at h
    rw [List.getElem?_append_left (by omega)]
    exact hk k q' h
  · rw [List.getElem?_append_right (by omega)] at h
    have hk0 : k - Q.length = 0 := by
      have := (List.getElem?_eq_some_iff.1 h).1
      simp at this
      omega
    rw [hk0] at h
    injection h with h
    subst h
    refine ⟨u, ?_, hu⟩
    rw [List.getElem?_append_right (by omega), show k - rows.length = 0 by omega]
    rfl
theorem own_drw {w : World} {base e n : Nat} {v : Value} {xs : List Value} (h : w.ownsRow base e 1 v n xs) : w.drew.ownsRow base e 1 v n xs := h
theorem rows_one {w : World} {B : Nat} {A : Option Addr} {Q : List (List Int)} {rows : List Value} (h : Reads w B 1 A Q.length rows) (hk : ∀ (k : Nat) q, Q[k]? = some q → ∃ u, rows[k]? = some u ∧ IntsAt w B u q) : ∀ u ∈ rows, u.oneCell' = true := by
  intro u hu
  obtain ⟨k, hkl⟩ := List.getElem?_of_mem hu
  have hlt : k < Q.length := by have := (List.getElem?_eq_some_iff.1 hkl).1; have := h.1; omega
  obtain ⟨u', h1, A', c', rfl, -⟩ := hk k _ (List.getElem?_eq_getElem hlt)
  rw [hkl] at h1
  injection h1 with h1
  subst h1
  rfl

set_option maxHeartbeats 2000000 in
theorem rsend_ok (N : Nat → Prop) (cap : Int) (Q : List (List Int)) (hv : vldC cap Q = true) (q : List Int) (hf1 : (Q.length : Int) ≠ cap) (hf2 : q.length ≤ 6) (v : Value) (Ai : Option Addr) (ci : Nat) (w : World) (hN : ∀ b, N b → b < w.heap.size) (hO : ChanOff N w v cap Q) (hi : ReadsOff N w Ai q.length (q.map Iz)) :
    Calls Try.prog 10 #[v, .slice Ai q.length ci] w (RefPost N w cap (Q ++ [q]) true) := by
  have HC := Lib.hid hO.at
  have HN := Lib.hid hN
  obtain ⟨vq, rfl, A, c, rows, rfl, hro, hko⟩ := hO
  have hr := hro.1
  have hk := fun k q h => let ⟨u, h1, h2⟩ := hko k q h; (⟨u, h1, h2.at⟩ : ∃ u, rows[k]? = some u ∧ IntsAt w w.heap.size u q)
  have HV := Lib.hid hv
  obtain ⟨v1, v2, v3, v4⟩ := vldC_parts hv
  have HR := Lib.hid hr
  have HK := Lib.hid hko
  have HI := Lib.hid hi
  have HONE := Lib.hid (rows_one hr hk)
  clear hr hk hv hi v4 hro hko hN
  obtain ⟨b0, b1, hB0⟩ := two_new w 24 24 #[.int .i64 cap, .slice A Q.length c] #[.int .i64 0, .slice none 0 0]
  have HB0 := Lib.hid hB0
  clear hB0
  obtain ⟨i0, hi0, hz0, hz1, hz2⟩ := info_parts Try.infoInts
  go_enter Try.func10, Try.ntmps10
  go_wp2_with fail
  refine (crvalid_is cap Q _ true HV.out _ (HC.out.go HB0.out)).mono ?_
  rintro e w1 ⟨rfl, hb1⟩
  have HB1 := Lib.hid (below_end hb1 HB0.out)
  have b01 := b0.below hb1 b0.lt
  have b11 := b1.below hb1 b1.lt
  clear hb1 b0 b1
  obtain ⟨p0, p1, pf⟩ := blk2 b01
  obtain ⟨q0, q1, qf⟩ := blk2 b11
  have t1 : ((Q.length : Int) == cap) = false := beq_eq_false_iff_ne.2 hf1
  have t2 : ¬ 6 < q.length := by omega
  have HRS := Lib.hid (fun X (h : Below w1.heap.size w1 X) => HR.out.below (below_end h HB1.out))
  have l0 := b01.lt
  have l1 := b11.lt
  have hbz := HB1.out.size
  have B11 := Lib.hid b11
  clear b01 b11 hf1
  go_upto_region 5 with fail
  have rule := grown_rule w1 (w.heap.size + 1)
  have rule2 := grown_rule2 w1 (w.heap.size + 1)
  have l4 : w.heap.size ≠ w.heap.size + 1 := by omega
  have HLN := Lib.hid (show 0 + Q.length ≤ maxLen from len_ok (by omega))
  have HLN1 := Lib.hid (show 0 + Q.length + 1 ≤ maxLen from len_ok (by omega))
  go_region_held3 (fun x => w1.grownBy x (some (w.heap.size + 1))) (first | exact World.grownBy.refl _ _ | exact grown_drw (World.grownBy.refl _ _) | assumption | exact galloc (by assumption) _ | exact grown_put (grown_put (by assumption) _ _) _ _) (first
    | ((with_reducible refine step_app_b w1 rfl (.tmp 24) (.tmp 26) 22 rfl 25 i0 (.slice none 0 0) 24 Try.underlying22 hi0 hz0 hz1 hz2 rfl (.slice (some ⟨w1.heap.size, 0, none⟩) 0 0) 0 [] rfl ?_ ?_ w.heap.size A Q.length c rows rfl ?_ ?_ ?_ ?_ ?_); exact own_eA _ _; exact bel1 _ _; exact HRS.out _ (bel1 _ _); exact HONE.out; exact HLN.out; omega; intro v5 x5 ho5 hx5 hg5; have HG5 := gbelow (b := w.heap.size + 1) hx5)
    | ((with_reducible refine step_app_b w1 rfl (.tmp 24) (.tmp 26) 22 rfl 25 i0 (.slice none 0 0) 24 Try.underlying22 hi0 hz0 hz1 hz2 rfl (.slice (some ⟨w1.heap.size, 0, none⟩) 0 0) 0 [] rfl ?_ ?_ w.heap.size A Q.length c rows rfl ?_ ?_ ?_ ?_ ?_); exact own_eB _ _ _; exact bel2 _ _ _; exact HRS.out _ (bel2 _ _ _); exact HONE.out; exact HLN.out; omega; intro v5 x5 ho5 hx5 hg5; have HG5 := gbelow (b := w.heap.size + 1) hx5)
    | ((with_reducible refine step_app_b w1 rfl (.tmp 24) (.tmp 26) 22 rfl 25 i0 (.slice none 0 0) 24 Try.underlying22 hi0 hz0 hz1 hz2 rfl (.slice (some ⟨w1.heap.size + 1, 0, none⟩) 0 0) 0 [] rfl ?_ ?_ w.heap.size A Q.length c rows rfl ?_ ?_ ?_ ?_ ?_); exact own_eC _ _ _; exact bel2 _ _ _; exact HRS.out _ (bel2 _ _ _); exact HONE.out; exact HLN.out; omega; intro v5 x5 ho5 hx5 hg5; have HG5 := gbelow (b := w.heap.size + 1) hx5)
    | ((with_reducible refine step_app_b w1 rfl (.tmp 27) (.tmp 29) 22 rfl 25 i0 (.slice none 0 0) 24 Try.underlying22 hi0 hz0 hz1 hz2 rfl v5 (0 + Q.length) ([] ++ rows) rfl ?_ ?_ (x5.heap.size + 1) (some ⟨x5.heap.size, 0, none⟩) 1 1 [.slice Ai q.length ci] rfl ?_ ?_ ?_ ?_ ?_); exact ho5.alloc _; exact balloc hx5 _; exact reads_one _ _ _; exact one_S _ _ _; exact HLN1.out; omega; intro v6 x6 ho6 hx6 hg6; obtain ⟨A6, c6, rfl⟩ := own_form ho6; obtain ⟨r0, r1, rf⟩ := blk2 (B11.out.below hx6 l1); have HG6 := gbelow (b := w.heap.size + 1) hx6)
    | ((with_reducible refine step_app_b w1 rfl (.tmp 27) (.tmp 29) 22 rfl 25 i0 (.slice none 0 0) 24 Try.underlying22 hi0 hz0 hz1 hz2 rfl v5 (0 + Q.length) ([] ++ rows) rfl ?_ ?_ ((w1.heap.size + 1) + 1) (some ⟨(w1.heap.size + 1), 0, none⟩) 1 1 [.slice Ai q.length ci] rfl ?_ ?_ ?_ ?_ ?_); exact ho5; exact hx5; exact reads_kB hg5; exact one_S _ _ _; exact HLN1.out; omega; intro v6 x6 ho6 hx6 hg6; obtain ⟨A6, c6, rfl⟩ := own_form ho6; obtain ⟨r0, r1, rf⟩ := blk2 (B11.out.below hx6 l1); have HG6 := gbelow (b := w.heap.size + 1) hx6)
    | ((with_reducible refine step_app_b w1 rfl (.tmp 27) (.tmp 29) 22 rfl 25 i0 (.slice none 0 0) 24 Try.underlying22 hi0 hz0 hz1 hz2 rfl v5 (0 + Q.length) ([] ++ rows) rfl ?_ ?_ (w1.heap.size + 1) (some ⟨w1.heap.size, 0, none⟩) 1 1 [.slice Ai q.length ci] rfl ?_ ?_ ?_ ?_ ?_); exact ho5; exact hx5; exact reads_kC hg5; exact one_S _ _ _; exact HLN1.out; omega; intro v6 x6 ho6 hx6 hg6; obtain ⟨A6, c6, rfl⟩ := own_form ho6; obtain ⟨r0, r1, rf⟩ := blk2 (B11.out.below hx6 l1); have HG6 := gbelow (b := w.heap.size + 1) hx6))
  all_goals
    have HP := Lib.hid (ref_end (Q := Q ++ [q]) (cap := cap) (b := true) ho6 (by simp) (rows_snoc HR.out.1 HK.out ⟨Ai, ci, rfl, HI.out⟩) (B11.out.below hx6 l1) (below_end hx6 HB1.out) (by omega) HN.out HB1.out.size)
    rw [Nat.zero_add] at HP
    clear ho6 hx6 hg6 HG6 ho5 hx5 hg5 HG5 rule rule2
    go_wp2
    refine bodyPost_ret (v := .tuple #[.agg #[.int .i64 cap, .slice A6 (Q.length + 1) c6], .bool true]) ?_ rfl HP.out
    simp [results, Try.results10, go_sem, r0, r1]
end Go.Proofs.Ytpfhnpmcfjfmiaa
