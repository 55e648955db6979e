/- Rows of items that the call itself has made; channel.copiedAll. -/
import Derived.Test.YtpfhnpmcfjfmiaaD2
import Derived.Deep.RegionHeld3
import Derived.Deep.RegionLaw
import Derived.Deep.DeepCutAuto
namespace Go.Proofs.Ytpfhnpmcfjfmiaa
open Go.RowKit

def RowsB (w : World) (vs : List Value) (Q : List (List Int)) : Prop :=
  vs.length = Q.length ∧ ∀ j (h : j < vs.length) (h' : j < Q.length), ∃ gj, vs[j] = .slice (some ⟨gj, 0, none⟩) Q[j].length Q[j].length ∧ Blk w gj 3 (Q[j].map Iz).toArray

section
variable {w w' : World} {vs : List Value} {Q : List (List Int)}
theorem RowsB.nil (w : World) : RowsB w [] [] := ⟨rfl, fun _ h => absurd h (Nat.not_lt_zero _)⟩
theorem RowsB.keep (h : RowsB w vs Q) (hk : ∀ g cs, Blk w g 3 cs → Blk w' g 3 cs) : RowsB w' vs Q :=
  ⟨h.1, fun j h1 h2 => let ⟨gj, e, hb⟩ := h.2 j h1 h2; ⟨gj, e, hk _ _ hb⟩⟩
theorem RowsB.below (h : RowsB w vs Q) (hb : Below w.heap.size w w') : RowsB w' vs Q := h.keep fun _ _ hg => hg.below hb hg.lt
theorem RowsB.drew (h : RowsB w vs Q) : RowsB w.drew vs Q := h
theorem RowsB.set (h : RowsB w vs Q) {b t : Nat} {cs : Array Value} (hb : Blk w b t cs) (ht : t ≠ 3) (i : Nat) (u : Value) : RowsB (w.setCell ⟨b, i, none⟩ u) vs Q :=
  h.keep fun _ _ hg => hg.far (Blk.ne_ hg hb (Ne.symm ht)) u
theorem RowsB.own (h : RowsB w vs Q) {base e n : Nat} {v : Value} {xs : List Value} (ho : w.ownsRow base e 1 v n xs) (he : e ≠ 3) (hg : w.grownBy w' v.ownBlock) : RowsB w' vs Q :=
  h.keep fun _ _ hb => hb.grown hg (Ne.symm (own_blk_ne ho hb he))
theorem RowsB.snoc (h : RowsB w vs Q) {g : Nat} {q : List Int} (hb : Blk w g 3 (q.map Iz).toArray) : RowsB w (vs ++ [.slice (some ⟨g, 0, none⟩) q.length q.length]) (Q ++ [q]) := by
  refine ⟨by simp [h.1], fun j h1 h2 => ?_⟩
  rcases Nat.lt_or_ge j vs.length with hj | hj
  · have hj' : j < Q.length := by rw [← h.1]; exact hj
    rw [List.getElem_append_left hj]
    obtain ⟨gj, e, hbj⟩ := h.2 j hj hj'
    simp only [List.getElem_append_left hj']
    exact ⟨gj, e, hbj⟩
  · have e1 : j = vs.length := by simp at h1; omega
    subst e1
    simp only [List.getElem_append_right (Nat.le_refl _), Nat.sub_self, List.getElem_singleton]
    have : (Q ++ [q])[vs.length] = q := by simp [h.1]
    simp only [this]
    exact ⟨g, rfl, hb⟩
theorem RowsB.items {g c : Nat} (h : RowsB w vs Q) (hb : Blk w g 25 vs.toArray) : ItemsAt w w.heap.size (.slice (some ⟨g, 0, none⟩) Q.length c) Q := by
  refine ⟨_, c, vs, rfl, reads_blk hb hb.lt (by rw [h.1]; simp), fun k q hq => ?_⟩
  obtain ⟨hk, rfl⟩ := List.getElem?_eq_some_iff.1 hq
  have hk' : k < vs.length := by rw [h.1]; exact hk
  obtain ⟨gj, e, hbj⟩ := h.2 k hk' hk
  exact ⟨vs[k], List.getElem?_eq_getElem hk', ⟨_, _, e, reads_blk hbj hbj.lt (by simp)⟩⟩
theorem RowsB.items_own {base : Nat} {v : Value} (h : RowsB w vs Q) (ho : w.ownsRow base 25 1 v Q.length vs) : ItemsAt w w.heap.size v Q := by
  have hs : ∃ (A : Option Addr) (c : Nat), v = .slice A Q.length c := by
    rcases ho.2 with ⟨rfl, e0⟩ | ⟨g', cap, cur, rfl, _⟩
    · rw [e0]; exact ⟨_, _, rfl⟩
    · exact ⟨_, _, rfl⟩
  obtain ⟨A, c, rfl⟩ := hs
  refine ⟨A, c, vs, rfl, Reads.of_own ho, fun k q hq => ?_⟩
  obtain ⟨hk, rfl⟩ := List.getElem?_eq_some_iff.1 hq
  have hk' : k < vs.length := by rw [h.1]; exact hk
  obtain ⟨gj, e, hbj⟩ := h.2 k hk' hk
  exact ⟨vs[k], List.getElem?_eq_getElem hk', ⟨_, _, e, reads_blk hbj hbj.lt (by simp)⟩⟩
end

theorem below_of_drew {w x : World} (h : Below w.drew.heap.size w.drew x) : Below w.heap.size w x := ⟨h.os, h.tape, h.output, h.size, h.block⟩
theorem take_set_self {vs : List Value} {k : Nat} {u : Value} (hk : k < vs.length) : (vs.set k u).take (k + 1) = vs.take k ++ [u] := by
  rw [List.take_succ_eq_append_getElem (by simpa using hk), List.getElem_set_self, List.take_set_of_le (Nat.le_refl _)]

theorem four_new (w : World) (t0 t1 t2 t3 : Nat) (c0 c1 c2 c3 : Array Value) :
    let W := (((w.alloc (.cells c0 t0)).alloc (.cells c1 t1)).alloc (.cells c2 t2)).alloc (.cells c3 t3)
    Blk W w.heap.size t0 c0 ∧ Blk W (w.heap.size + 1) t1 c1 ∧ Blk W (w.heap.size + 1 + 1) t2 c2 ∧ Blk W (w.heap.size + 1 + 1 + 1) t3 c3 ∧ Below w.heap.size w W := by
  have a0 := Blk.new w t0 c0
  have a1 := Blk.new (w.alloc (.cells c0 t0)) t1 c1
  have a2 := Blk.new ((w.alloc (.cells c0 t0)).alloc (.cells c1 t1)) t2 c2
  have a3 := Blk.new (((w.alloc (.cells c0 t0)).alloc (.cells c1 t1)).alloc (.cells c2 t2)) t3 c3
  simp only [World.size_alloc] at a1 a2 a3
  exact ⟨((a0.alloc _).alloc _).alloc _, (a1.alloc _).alloc _, a2.alloc _, a3, ((((Below.refl _ _).alloc (Nat.le_refl _) _).alloc (by simp only [World.size_alloc]; omega) _).alloc (by simp only [World.size_alloc]; omega) _).alloc (by simp only [World.size_alloc]; omega) _⟩

/-- a channel in new memory -/
def ChanPost (w : World) (cap : Int) (Q : List (List Int)) (e : Ending) (w' : World) : Prop := ∃ v, e = .returned v ∧ ChanAt w' w'.heap.size v cap Q ∧ Below w.heap.size w w'

/-- a channel in new memory, its items in a row of the call's own -/
def ChanOwn (w : World) (cap : Int) (Q : List (List Int)) (e : Ending) (w' : World) : Prop :=
  ∃ (vi : Value) (vs : List Value), e = .returned (.agg #[.int .i64 cap, vi]) ∧ w'.ownsRow w.heap.size 25 1 vi Q.length vs ∧ RowsB w' vs Q ∧ Below w.heap.size w w'
theorem ChanOwn.post {w w' : World} {cap : Int} {Q : List (List Int)} {e : Ending} (h : ChanOwn w cap Q e w') : ChanPost w cap Q e w' :=
  let ⟨_, _, e1, ho, hr, hb⟩ := h; ⟨_, e1, ⟨_, rfl, hr.items_own ho⟩, hb⟩
theorem own_of_blk {w : World} {base g e n : Nat} {vs : List Value} (hb : Blk w g e vs.toArray) (hg : base ≤ g) (hl : vs.length = n) (hm : n ≤ 1099511627776) : w.ownsRow base e 1 (.slice (some ⟨g, 0, none⟩) n n) n vs :=
  ⟨by simpa using hl, .inr ⟨g, n, vs.toArray, rfl, hg, hb, Nat.le_refl _, len_ok hm, by simpa using hl, by simp [← hl]⟩⟩

set_option maxHeartbeats 1000000 in
theorem copiedAll_any (cap : Int) (Q : List (List Int)) (hQ : Q.length ≤ 1000000) (hq : ∀ k (h : k < Q.length), Q[k].length ≤ 1000000) (v : Value) (w : World) (hC : ChanAt w w.heap.size v cap Q) :
    Calls Try.prog 22 #[v] w (ChanOwn w cap Q) := by
  obtain ⟨vi, rfl, A, c, rows, rfl, hr, hk⟩ := hC
  have HR := Lib.hid hr
  have HK := Lib.hid hk
  have HQ := Lib.hid hq
  clear hr hk hq
  have hmk := run_make_row' (P := Try.prog) 22 25 (.slice none 0 0) 24 Try.underlying22 Try.infoInts rfl .i64 .i64 Q.length (by omega) (by omega)
  have ML := Lib.hid (made_list (.slice none 0 0) Q.length)
  go_enter Try.func22, Try.ntmps22
  go_upto_region 1 with fail
  go_cut [3] (fun s3 wx => ∃ g gi : Nat, s3 = .pointer (some ⟨g, 0, none⟩) ∧ w.heap.size + 1 < g ∧ w.heap.size + 1 < gi ∧ Blk wx g 24 #[.int .i64 cap, .slice (some ⟨gi, 0, none⟩) Q.length Q.length] ∧ Blk wx gi 25 (List.replicate Q.length (.slice none 0 0)).toArray ∧
    Blk wx w.heap.size 24 #[.int .i64 cap, .slice A Q.length c] ∧ Blk wx (w.heap.size + 1) 24 #[.int .i64 0, .slice none 0 0] ∧ Below w.heap.size w wx)
  case first =>
    go_region
    all_goals
      go_wp2_with fail
      go_meet
      first
        | (obtain ⟨f0, f1, f2, f3, f4⟩ := four_new w 24 24 25 24 #[.int .i64 cap, .slice A Q.length c] #[.int .i64 0, .slice none 0 0] (madeCells #[.slice none 0 0] Q.length) #[.int .i64 cap, .slice (some ⟨w.heap.size + 1 + 1, 0, none⟩) Q.length Q.length]
           rw [ML.out] at f2
           rw [ML.out] at f0 f1 f3 f4 ⊢
           exact ⟨w.heap.size + 1 + 1 + 1, w.heap.size + 1 + 1, rfl, by omega, by omega, f3, f2, f0, f1, f4.drew⟩)
        | (obtain ⟨f0, f1, f2, f3, f4⟩ := four_new w 24 24 24 25 #[.int .i64 cap, .slice A Q.length c] #[.int .i64 0, .slice none 0 0] #[.int .i64 cap, .slice (some ⟨w.heap.size + 1 + 1 + 1, 0, none⟩) Q.length Q.length] (madeCells #[.slice none 0 0] Q.length)
           rw [ML.out] at f0 f1 f2 f3 f4 ⊢
           exact ⟨w.heap.size + 1 + 1, w.heap.size + 1 + 1 + 1, rfl, by omega, by omega, f2, f3, f0, f1, f4.drew⟩)
  case rest =>
    obtain ⟨g, gi, rfl, hg1, hg2, bg, bi, b0, b1, hB⟩ := hcut
    clear hmk
    obtain ⟨p0, p1, pf⟩ := blk2 b0
    go_wp2_with fail
    go_loopw [16] (fun i wr => ∃ (k : Nat) (vs : List Value), k ≤ Q.length ∧ i = .int .i64 k ∧ vs.length = Q.length ∧ Blk wr gi 25 vs.toArray ∧ RowsB wr (vs.take k) (Q.take k) ∧
      Blk wr g 24 #[.int .i64 cap, .slice (some ⟨gi, 0, none⟩) Q.length Q.length] ∧ Blk wr (w.heap.size + 1) 24 #[.int .i64 0, .slice none 0 0] ∧ Below w.heap.size w wr) (fun i _ => Q.length - (intOf i).toNat)
    case atStart => exact ⟨0, _, Nat.zero_le _, rfl, by simp, bi, RowsB.nil _, bg, b1, hB⟩
    case round =>
      clear bg bi b0 b1 hB p0 p1 pf
      obtain ⟨k, vs, hk, rfl, hvs, bi, rb, bg, b1, hB⟩ := hrel
      by_cases hlt : k < Q.length
      · obtain ⟨ad, Ak, ck, rfl, hbl, cr, rk⟩ := qrow_at (HR.out.below hB) (fun k l hl => let ⟨u, hu, ha⟩ := HK.out k l hl; (⟨u, hu, ha.below hB⟩ : ∃ u, rows[k]? = some u ∧ IntsAt wr w.heap.size u l)) hlt
        have hql := HQ.out k hlt
        have hqt : Q.take (k + 1) = Q.take k ++ [Q[k]] := List.take_succ_eq_append_getElem hlt
        have HQT := Lib.hid hqt
        generalize Q[k] = q at *
        have RK := Lib.hid (rk.more hB.size)
        have HB := Lib.hid hB
        have RB := Lib.hid rb
        have k0 : (0 : Int) ≤ (k : Int) := by omega
        have k1 : (k : Int) < (Q.length : Int) := by omega
        obtain ⟨p0, p1, pf⟩ := blk2 bg
        have ci := bi.get (k := k) (by omega)
        have cf := bi.frozen k
        have BI := Lib.hid bi
        have BG := Lib.hid bg
        have B1 := Lib.hid b1
        have hne : g ≠ gi := Blk.ne_ bg bi (by decide)
        have hgl := bg.lt
        have hil := bi.lt
        clear hqt rk hB rb bi bg b1
        generalize hvk : vs[k] = vk at *
        clear hvk
        go_upto_region 5 with fail
        go_region_held3 (fun x => x.cell? ⟨g, 1, none⟩ = some (.slice (some ⟨gi, 0, none⟩) Q.length Q.length)) (first | exact p1 | exact p1' | exact p1'')
          ((go_at_call 23; (with_reducible refine (copied_any q hql Ak ck _ ?_).mono ?_); (exact RK.out); rintro e x1 ⟨rfl, hbc, hx1⟩; have p1' := (hx1.cell (p := ⟨g, 1, none⟩) hgl).trans p1; have ci' := (hx1.cell (p := ⟨gi, k, none⟩) hil).trans ci; have cf' := (hx1.frozen (p := ⟨gi, k, none⟩) hil).trans cf; have p1'' := (World.cell?_setCell_other x1 ⟨gi, k, none⟩ ⟨g, 1, none⟩ (.slice (some ⟨wr.heap.size, 0, none⟩) q.length q.length) (fun e => hne (congrArg Addr.block e).symm)).trans p1'; have HX := Lib.hid (below_of_drew hx1); have HBC := Lib.hid hbc; clear hx1 hbc))
        all_goals
          go_wp2
          refine ⟨⟨k + 1, vs.set k (.slice (some ⟨wr.heap.size, 0, none⟩) q.length q.length), by omega, by go_num, by simpa using hvs, ?_, ?_, ?_, ?_, ?_⟩, by simp [intOf]; omega⟩
          · exact (BI.out.below HX.out hil).setL k _
          · rw [take_set_self (by omega), HQT.out]
            exact ((RB.out.below HX.out).snoc HBC.out).set (BI.out.below HX.out hil) (by decide) k _
          · exact (BG.out.below HX.out hgl).far hne _
          · exact (B1.out.below HX.out B1.out.lt).far (by show w.heap.size + 1 ≠ gi; omega) _
          · exact (below_end HX.out HB.out).setCell (by simp; omega) _
      · obtain rfl : k = Q.length := by omega
        obtain ⟨p0, p1, pf⟩ := blk2 bg
        obtain ⟨q0, q1, qf⟩ := blk2 b1
        rw [List.take_of_length_le (by omega), List.take_of_length_le (Nat.le_refl _)] at rb
        have HF := Lib.hid (show ChanOwn w cap Q (.returned (.agg #[.int .i64 cap, .slice (some ⟨gi, 0, none⟩) Q.length Q.length])) ((wr.setCell ⟨w.heap.size + 1, 0, none⟩ (.int .i64 cap)).setCell ⟨w.heap.size + 1, 1, none⟩ (.slice (some ⟨gi, 0, none⟩) Q.length Q.length)) from
          ⟨_, vs, rfl, own_of_blk ((bi.far (by show gi ≠ w.heap.size + 1; omega) _).far (by show gi ≠ w.heap.size + 1; omega) _) (by omega) hvs (by omega), ((rb.set b1 (by decide) 0 _).set (b1.set_ 0 _) (by decide) 1 _), (hB.setCell (by simp) _).setCell (by simp) _⟩)
        clear rb hB bi bg b1
        go_wp2
        refine bodyPost_ret (v := .agg #[.int .i64 cap, .slice (some ⟨gi, 0, none⟩) Q.length Q.length]) ?_ rfl HF.out
        simp [results, Try.results22, go_sem, q0, q1]
end Go.Proofs.Ytpfhnpmcfjfmiaa
