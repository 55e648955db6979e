/- Lemmas of this seat, laid together out of 3 texts: no statement of the seat is proved here. -/
import Derived.Test.YtdfklagiafmoiaaGreatDoorG18
/- State, within and Check by the program. -/
namespace Go.Proofs.YtdfklagiafmoiaaGreatDoor
open Go.RowKit

def InB (b : List Tm) (s : List Int) : Prop := s.length = b.length ∧ ∀ k (h : k < b.length) (h' : k < s.length), b[k].1 ≤ s[k] ∧ s[k] ≤ b[k].2
def StRel (w : World) (n : Nat) (i : Value) (wr : World) : Prop := wr = w ∧ ∃ k : Nat, i = .int .i64 k ∧ k ≤ n
set_option maxRecDepth 100000 in
set_option maxHeartbeats 4000000 in
theorem state_p (b : List Tm) (s : List Int) (h : InB b s) (hn : b.length ≤ 1000) (Ab As : Option Addr) (cb cs : Nat) (w : World) (hb : PairsAt w w.heap.size (.slice Ab b.length cb) b) (hs : IntsAt w w.heap.size (.slice As s.length cs) s) :
    Calls Tryz.prog 103 #[.slice Ab b.length cb, .slice As s.length cs] w (YesPost w) := by
  have HB := Lib.hid hb
  have HS := Lib.hid hs
  have HH := Lib.hid h
  have hl := h.1
  obtain ⟨n, hnn⟩ : ∃ n, b.length = n := ⟨_, rfl⟩
  rw [hnn] at hn hl HB
  rw [hl] at HS
  rw [hl, hnn]
  have HL := Lib.hid hl
  have HN := Lib.hid hnn
  clear hb hs h hl hnn
  go_enter Tryz.func103, Tryz.ntmps103
  go_wp2
  go_loopw [14] (StRel w n) (fun i _ => n - (intOf i).toNat)
  case atStart => exact ⟨rfl, 0, rfl, Nat.zero_le _⟩
  case round =>
    obtain ⟨rfl, k, rfl, hk⟩ := hrel
    by_cases hlt : k < n
    · have h1 : k < b.length := by rw [HN.out]; exact hlt
      have h2 : k < s.length := by rw [HL.out]; exact hlt
      obtain ⟨ab, hA, hbb, c0, c1⟩ := pair_at HB.out h1
      subst hA
      obtain ⟨ax, hA, hbs, d0⟩ := int_at HS.out h2
      subst hA
      obtain ⟨l0, l1⟩ := HH.out.2 k h1 h2
      obtain ⟨x, hx⟩ : ∃ x : Tm, b[k]'h1 = x := ⟨_, rfl⟩
      obtain ⟨z, hz⟩ : ∃ z : Int, s[k]'h2 = z := ⟨_, rfl⟩
      rw [hx] at c0 c1 l0 l1
      rw [hz] at d0 l0 l1
      clear hx hz h1 h2
      have e0 : ¬ z < x.1 := by omega
      have e1 : ¬ x.2 < z := by omega
      have k0 : (0 : Int) ≤ (k : Int) := by omega
      have k1 : (k : Int) < (n : Int) := by omega
      have HLT := Lib.hid hlt
      go_wp2
      go_roundw
      case rel => exact ⟨rfl, k + 1, by go_num, HLT.out⟩
      case measure => simp [intOf]; omega
    · obtain rfl : k = n := by omega
      go_wp2
      go_ret
      exact ⟨rfl, Below.refl _ _⟩
def WiRel (w : World) (n : Nat) (i : Value) (wr : World) : Prop := ∃ k : Nat, i = .int .i64 k ∧ k ≤ n ∧ Below w.heap.size w wr
set_option maxRecDepth 100000 in
set_option maxHeartbeats 4000000 in
theorem within10_p (T : List (List Tm)) (c : Cfg) (hl : c.length = T.length) (hn : T.length ≤ 1000) (hr : ∀ k (h : k < T.length), T[k].length ≤ 1000) (h : ∀ k (h : k < T.length) (h' : k < c.length), InB T[k] c[k]) (At Ac : Option Addr) (ct cc : Nat) (w : World) (ht : PortsAt w w.heap.size (.slice At T.length ct) T) (hc : ConfAt w w.heap.size (.slice Ac c.length cc) c) :
    Calls Tryz.prog 68 #[.slice At T.length ct, .slice Ac c.length cc] w (YesPost w) := by
  have HT := Lib.hid ht
  have HC := Lib.hid hc
  have HH := Lib.hid h
  have HR := Lib.hid hr
  obtain ⟨n, hnn⟩ : ∃ n, T.length = n := ⟨_, rfl⟩
  rw [hnn] at hn hl HT
  rw [hl] at HC
  rw [hl, hnn]
  have HL := Lib.hid hl
  have HN := Lib.hid hnn
  clear ht hc h hl hnn hr
  go_enter Tryz.func68, Tryz.ntmps68
  go_wp2
  go_loopw [14] (WiRel w n) (fun i _ => n - (intOf i).toNat)
  case atStart => exact ⟨0, rfl, Nat.zero_le _, Below.refl _ _⟩
  case round =>
    obtain ⟨k, rfl, hk, hbel⟩ := hrel
    have HB := Lib.hid hbel
    clear hbel
    by_cases hlt : k < n
    · have h1 : k < T.length := by rw [HN.out]; exact hlt
      have h2 : k < c.length := by rw [HL.out]; exact hlt
      obtain ⟨ab, Ae, ce, hA, hbb, c0, he⟩ := row_at (PortsAt.to (Holds_.go HB.out) HT.out) h1
      subst hA
      obtain ⟨ax, Af, cf, hA, hbs, d0, hf⟩ := conf_at (ConfAt.to (Holds_.go HB.out) HC.out) h2
      subst hA
      have HS := Lib.hid (fun X (hX : Below wr.heap.size wr X) => state_p (T[k]'h1) (c[k]'h2) (HH.out k h1 h2) (HR.out k h1) Ae Af ce cf X (PairsAt.to (Holds_.go hX) he) (IntsAt.to (Holds_.go hX) hf))
      clear he hf
      have k0 : (0 : Int) ≤ (k : Int) := by omega
      have k1 : (k : Int) < (n : Int) := by omega
      have HLT := Lib.hid hlt
      go_wp2_with fail
      refine (HS.out _ (by first | exact Below.refl _ _ | exact Below.drew (Below.refl _ _))).mono ?_
      rintro e w2 ⟨rfl, hb2⟩
      have HB2 := Lib.hid (below_step hb2 HB.out)
      clear hb2 HS c0 d0 hbb hbs
      go_wp2
      go_roundw
      case rel => exact ⟨k + 1, by go_num, HLT.out, HB2.out⟩
      case measure => simp [intOf]; omega
    · obtain rfl : k = n := by omega
      go_wp2
      go_ret
      exact ⟨rfl, HB.out⟩
theorem tab_inb {p : Pg} {g : Gr} {c : Cfg} (h : CfOk p g c) : ∀ k (h1 : k < (tab p g).length) (h2 : k < c.length), InB (tab p g)[k] c[k] := by
  intro k h1 h2
  obtain ⟨_, hl, hv⟩ := h.at_ k h2
  have hg : k < g.ports.length := by have := h.len; omega
  refine ⟨by rw [hl]; simp [tab], fun j hj hj' => ?_⟩
  have := hv j hj' hj'
  have hjv : j < p.vars.length := by omega
  have e : (tab p g)[k][j] = lh p g k j := by
    simp [tab, lh, List.getD_eq_getElem?_getD, hg, hjv]
  rw [e]
  exact this
set_option maxRecDepth 100000 in
set_option maxHeartbeats 4000000 in
theorem ccheck_p (p : Pg) (g : Gr) (c : Cfg) (h : CfOk p g c) (hlg : LightG g) (vp vg : Value) (Ac : Option Addr) (cc : Nat) (w : World) (hP : ProgAt w w.heap.size vp p) (hG : GraphAt w w.heap.size vg g) (hC : ConfAt w w.heap.size (.slice Ac c.length cc) c) :
    Calls Tryz.prog 37 #[vp, vg, .slice Ac c.length cc] w (OkPost w) := by
  have HP := Lib.hid hP
  have HG := Lib.hid hG
  have HC := Lib.hid hC
  have HH := Lib.hid h
  obtain ⟨vv, vr, rfl, -, -⟩ := hP
  obtain ⟨vi, vq, rfl, -, -⟩ := hG
  have hM := ((Mem.start w).new 25 #[.string p.name, vv, vr]).new 29 #[vi, vq]
  simp only [World.size_alloc] at hM
  have HM0 := Lib.hid hM
  have HT1 := Lib.hid (show (tab p g).length = c.length by rw [h.len]; simp [tab])
  have HT2 := Lib.hid (show (tab p g).length ≤ 1000 by have := h.fit.gr.hi; simp [tab]; omega)
  have HT3 := Lib.hid (show ∀ k (h : k < (tab p g).length), (tab p g)[k].length ≤ 1000 by intro k hk; have := h.fit.pg.vhi; simp [tab]; omega)
  clear hC h hM
  go_enter Tryz.func37, Tryz.ntmps37
  go_wp2_with fail
  refine (fits_p p g HH.out.fit hlg _ _ _ (ProgAt.to (Holds_.go HM0.out.bel) HP.out) (GraphAt.to (Holds_.go HM0.out.bel) HG.out)).mono ?_
  rintro e w1 ⟨rfl, hb1⟩
  have HM1 := Lib.hid (HM0.out.below hb1)
  clear hb1 HM0
  obtain ⟨p0, p1, p2, pf⟩ := blk3 (HM1.out.get 1 rfl).2
  obtain ⟨q0, q1, qf⟩ := blk2 (HM1.out.get 0 rfl).2
  go_wp2_with fail
  refine (table_p p g HH.out.fit hlg _ _ _ (ProgAt.to (Holds_.go HM1.out.bel) HP.out) (GraphAt.to (Holds_.go HM1.out.bel) HG.out)).mono ?_
  rintro e w2 ⟨At, ct, rfl, hp, hb2, -⟩
  have HM2 := Lib.hid (HM1.out.below hb2)
  have HPT := Lib.hid hp
  clear hb2 HM1 p0 p1 p2 pf q0 q1 qf hp
  go_wp2_with fail
  refine (within10_p (tab p g) c HT1.out.symm HT2.out HT3.out (tab_inb HH.out) At Ac ct cc _ HPT.out (ConfAt.to (Holds_.go HM2.out.bel) HC.out)).mono ?_
  rintro e w3 ⟨rfl, hb3⟩
  have HB := Lib.hid (HM2.out.below hb3).bel
  clear hb3 HM2 HPT
  go_wp2
  go_ret
  exact ⟨rfl, HB.out⟩
end Go.Proofs.YtdfklagiafmoiaaGreatDoor

/- A configuration of the call's own: its outer block may be written; Copy. -/
namespace Go.Proofs.YtdfklagiafmoiaaGreatDoor
open Go.RowKit

/-- a row of numbers that does not lie in block g, and not below lo -/
def RowOff (w : World) (lo g : Nat) (v : Value) (l : List Int) : Prop := ∃ A c, v = .slice A l.length c ∧ (∀ ad, A = some ad → ad.block ≠ g ∧ lo ≤ ad.block) ∧ IntsAt w w.heap.size (.slice A l.length c) l
theorem ints_keep {w w' : World} {g : Nat} {A : Option Addr} {c : Nat} {l : List Int} (h : IntsAt w w.heap.size (.slice A l.length c) l) (hA : ∀ ad, A = some ad → ad.block ≠ g) (hg : w.grownBy w' (some g)) : IntsAt w' w'.heap.size (.slice A l.length c) l := by
  obtain ⟨A', c', vals, e, hr, hk⟩ := h
  injection e with e1 e2 e3
  subst e1 e3
  refine ⟨A, c, vals, rfl, ⟨hr.1, fun hn => ?_⟩, hk⟩
  obtain ⟨ad, hA', hb, hc⟩ := hr.2 hn
  refine ⟨ad, hA', Nat.lt_of_lt_of_le hb hg.size, fun j u hj => ?_⟩
  have e : w'.cell? (ad.add j) = w.cell? (ad.add j) := World.cell?_of_block (hg.block _ (by rw [block_of_add]; exact hb) (by rw [block_of_add]; exact fun e => hA ad hA' (by injection e)))
  rw [e]; exact hc j u hj
theorem RowOff.keep {w w' : World} {lo g : Nat} {v : Value} {l : List Int} (h : RowOff w lo g v l) (hg : w.grownBy w' (some g)) : RowOff w' lo g v l := by
  obtain ⟨A, c, rfl, hA, hi⟩ := h
  exact ⟨A, c, rfl, hA, ints_keep hi (fun ad e => (hA ad e).1) hg⟩
theorem RowOff.own {w : World} {base lo g n : Nat} {v : Value} {l : List Int} (h : w.ownsRow base 3 1 v n (iv l)) (hg : g < base) (hlo : lo ≤ base) : RowOff w lo g v l := by
  obtain ⟨A, c, rfl, hi⟩ := ints_own (l := l) h
  refine ⟨A, c, rfl, fun ad e => ?_, hi⟩
  subst e
  rcases h.2 with ⟨e, _⟩ | ⟨g', cap, cur, e, hb, _⟩
  · cases e
  · injection e with e
    injection e with e
    subst e
    refine ⟨fun e2 => ?_, ?_⟩
    · dsimp only at e2
      omega
    · show lo ≤ g'
      omega
structure CfW (w : World) (lo g : Nat) (vs : List Value) (c : Cfg) : Prop where
  lo_ : lo ≤ g
  len : vs.length = c.length
  blk : Blk w g 26 vs.toArray
  row : ∀ k (hv : k < vs.length) (hc : k < c.length), RowOff w lo g vs[k] c[k]
theorem CfW.conf {w : World} {lo g : Nat} {vs : List Value} {c : Cfg} (h : CfW w lo g vs c) : ConfAt w w.heap.size (.slice (some ⟨g, 0, none⟩) c.length c.length) c := by
  have hl := h.len
  refine ⟨_, _, vs, rfl, reads_blk h.blk h.blk.lt (by omega), fun k x hx => ?_⟩
  obtain ⟨hk, rfl⟩ := List.getElem?_eq_some_iff.1 hx
  obtain ⟨A, cc, hv, -, hi⟩ := h.row k (by omega) hk
  refine ⟨[vs[k]'(by omega)], rfl, ⟨_, rfl, by rw [hv]; exact hi⟩, fun j u hj => ?_⟩
  rcases j with _ | j
  · simp only [List.getElem?_cons_zero, Option.some.injEq] at hj
    subst hj
    rw [Nat.mul_one, Nat.add_zero, List.getElem?_eq_getElem]
  · simp at hj
theorem CfW.below {w w' : World} {lo g : Nat} {vs : List Value} {c : Cfg} (h : CfW w lo g vs c) (hb : Below w.heap.size w w') : CfW w' lo g vs c :=
  ⟨h.lo_, h.len, h.blk.below hb h.blk.lt, fun k hv hc => (h.row k hv hc).keep ((gbelow hb).but _)⟩
/-- the store of a row -/
theorem CfW.set {w : World} {lo g k : Nat} {vs : List Value} {c : Cfg} {v : Value} {l : List Int} (h : CfW w lo g vs c) (hr : RowOff w lo g v l) : CfW (w.setCell ⟨g, k, none⟩ v) lo g (vs.set k v) (c.set k l) := by
  refine ⟨h.lo_, by simp [h.len], h.blk.setL k v, fun j hv hc => ?_⟩
  by_cases e : k = j
  · subst e
    simp only [List.getElem_set_self]
    exact hr.keep (gset' w g k v)
  · rw [List.getElem_set_ne e, List.getElem_set_ne e]
    exact (h.row j (by simpa using hv) (by simpa using hc)).keep (gset' w g k v)
def CopyPost (w : World) (c : Cfg) (e : Ending) (w' : World) : Prop := ∃ g vs, e = .returned (.slice (some ⟨g, 0, none⟩) c.length c.length) ∧ CfW w' w.heap.size g vs c ∧ Below w.heap.size w w'
end Go.Proofs.YtdfklagiafmoiaaGreatDoor

/- The program's Copy. -/
namespace Go.Proofs.YtdfklagiafmoiaaGreatDoor
open Go.RowKit

theorem ints_reads {w : World} {B : Nat} {A : Option Addr} {n c : Nat} {l : List Int} (h : IntsAt w B (.slice A n c) l) : Reads w B 1 A l.length (iv l) := by
  obtain ⟨A', c', vals, e, hr, hk⟩ := h
  injection e with e1 e2 e3
  subst e1 e3
  have hv : vals = iv l := by
    apply List.ext_getElem?
    intro k
    have hl := hr.1
    rw [Nat.mul_one] at hl
    cases hx : l[k]? with
    | none =>
      have h1 : l.length ≤ k := List.getElem?_eq_none_iff.1 hx
      rw [List.getElem?_eq_none (by omega), List.getElem?_eq_none (by unfold iv; simpa using h1)]
    | some x =>
      obtain ⟨us, hu, e, hj⟩ := hk k x hx
      have e2 : us = [.int .i64 x] := e
      subst e2
      have := hj 0 _ rfl
      rw [Nat.mul_one, Nat.add_zero] at this
      rw [this]
      unfold iv
      rw [List.getElem?_map, hx]; rfl
  rw [← hv]; exact hr
theorem RowOff.nil_ (w : World) (lo g : Nat) : RowOff w lo g (.slice none 0 0) [] := ⟨none, 0, rfl, (fun _ h => by cases h), none, 0, [], rfl, Reads.none_, fun k x h => by simp at h⟩
def cpart (c : Cfg) (n k : Nat) : Cfg := c.take k ++ List.replicate (n - k) []
theorem cpart_set {c : Cfg} {n k : Nat} (hc : c.length = n) (hk : k < n) : (cpart c n k).set k (c[k]'(by omega)) = cpart c n (k + 1) := by
  unfold cpart
  have hl : (c.take k).length = k := by rw [List.length_take]; omega
  obtain ⟨q, hq⟩ : ∃ q, n - k = q + 1 := ⟨n - k - 1, by omega⟩
  rw [List.set_append_right _ _ (by omega), hl, Nat.sub_self, hq, List.replicate_succ, List.set_cons_zero, List.take_succ_eq_append_getElem (by omega), List.append_assoc, show n - (k + 1) = q by omega]
  rfl
theorem cpart_full {c : Cfg} {n : Nat} (hc : c.length = n) : cpart c n n = c := by unfold cpart; rw [Nat.sub_self, ← hc, List.take_length]; simp
theorem cpart_len {c : Cfg} {n k : Nat} (hc : c.length = n) (hk : k ≤ n) : (cpart c n k).length = n := by unfold cpart; simp; omega
def CoRel (w : World) (c : Cfg) (n : Nat) (i : Value) (wr : World) : Prop := ∃ (k : Nat) (vs : List Value), i = .int .i64 k ∧ k ≤ n ∧ CfW wr w.heap.size w.heap.size vs (cpart c n k) ∧ Below w.heap.size w wr
theorem Tryz.infoInts : (Tryz.prog.info? 26).map (fun i => (i.zero, i.size, i.bytes)) = some (some (.slice none 0 0), 1, 24) := by kernel_rfl
theorem one_iv (l : List Int) : ∀ u ∈ iv l, u.oneCell' = true := by
  intro u hu
  unfold iv at hu
  obtain ⟨z, _, rfl⟩ := List.mem_map.1 hu
  rfl
set_option maxRecDepth 100000 in
set_option maxHeartbeats 4000000 in
theorem copy_p (c : Cfg) (hn : c.length ≤ 1000) (hr : ∀ k (h : k < c.length), c[k].length ≤ 1000) (Ac : Option Addr) (cc : Nat) (w : World) (hc : ConfAt w w.heap.size (.slice Ac c.length cc) c) :
    Calls Tryz.prog 27 #[.slice Ac c.length cc] w (CopyPost w c) := by
  have HC := Lib.hid hc
  have HR := Lib.hid hr
  obtain ⟨n, hnn⟩ : ∃ n, c.length = n := ⟨_, rfl⟩
  rw [hnn] at hn HC
  rw [hnn]
  have HN := Lib.hid hnn
  obtain ⟨i0, hi0, hz0, hz1, hz2⟩ := info_parts Tryz.infoInt
  have hmk := run_make_row' (P := Tryz.prog) 30 26 (.slice none 0 0) 24 Tryz.underlying30 Tryz.infoInts rfl .i64 .i64 n (by omega) (by omega)
  have HW0 := Lib.hid (show CfW (w.alloc (.cells (madeCells #[.slice none 0 0] n) 26)) w.heap.size w.heap.size (List.replicate n (.slice none 0 0)) (cpart c n 0) from by
    rw [made_list]
    refine ⟨Nat.le_refl _, by unfold cpart; simp, Blk.new _ _ _, fun k hv hc => ?_⟩
    have e : (cpart c n 0)[k] = [] := by unfold cpart; simp
    rw [e, List.getElem_replicate]
    exact RowOff.nil_ _ _ _)
  clear hc hr hnn
  go_enter Tryz.func27, Tryz.ntmps27
  go_wp2_with fail
  clear hmk
  go_loopw [11] (CoRel w c n) (fun i _ => n - (intOf i).toNat)
  case atStart => exact ⟨0, _, rfl, Nat.zero_le _, HW0.out, balloc (Below.refl _ _) _⟩
  case round =>
    obtain ⟨k, vs, rfl, hk, hcf, hbel⟩ := hrel
    have HB := Lib.hid hbel
    have HCF := Lib.hid hcf
    clear hbel hcf HW0
    by_cases hlt : k < n
    · have hkc : k < c.length := by rw [HN.out]; exact hlt
      obtain ⟨ad, Ae, ce, hA, hb, c0, he⟩ := conf_at (ConfAt.to (Holds_.go HB.out) HC.out) hkc
      subst hA
      have hrl := HR.out k hkc
      have HPS := Lib.hid (cpart_set HN.out hlt)
      obtain ⟨row, hrow⟩ : ∃ row, c[k]'hkc = row := ⟨_, rfl⟩
      rw [hrow] at c0 he hrl HPS
      have HE := Lib.hid (ints_reads he)
      have hvl : k < vs.length := by rw [HCF.out.len, cpart_len HN.out hk]; exact hlt
      have d0 := HCF.out.blk.get (k := k) hvl
      have df := HCF.out.blk.frozen k
      have hg := HCF.out.blk.lt
      have hlo : w.heap.size ≤ wr.heap.size := HB.out.size
      obtain ⟨v0, hv0⟩ : ∃ v0, vs[k]'hvl = v0 := ⟨_, rfl⟩
      rw [hv0] at d0
      have k0 : (0 : Int) ≤ (k : Int) := by omega
      have k1 : (k : Int) < (n : Int) := by omega
      have HLT := Lib.hid hlt
      clear hrow he hkc hvl hv0
      go_wp2_with (at_builtin; refine wpList_append_any _ rfl (.const (.slice none 0 0)) (.tmp 18) 26 rfl wr.heap.size 3 i0 (.int .i64 0) 1 8 Tryz.underlying26 hi0 hz0 hz1 hz2 rfl (by decide) (.slice none 0 0) 0 [] rfl (World.ownsRow_nil _ _ _ _) wr.heap.size Ae row.length ce (iv row) rfl HE.out (one_iv row) (len_ok (by omega)) (by omega) (Nat.le_refl _) ?_; intro v1 x1 ho1 hg1 hv1; obtain ⟨A1, c1, rfl⟩ := own_sl ho1; have HRO := Lib.hid (RowOff.own (l := row) (lo := w.heap.size) (show x1.ownsRow wr.heap.size 3 1 _ _ (iv row) from ho1) hg hlo); have hbx := (Below.refl wr.heap.size wr).grown hg1 (Nat.le_refl _) (fun k hk => by cases hk); have HBX := Lib.hid hbx; have HCX := Lib.hid (HCF.out.below hbx); have d1 := (World.cell?_of_block (a := ⟨w.heap.size, k, none⟩) (hbx.block _ hg)).trans d0; have df1 := HCX.out.blk.frozen k; have hg2 := HCX.out.blk.lt; clear ho1 hg1 hv1 hbx)
      go_roundw
      case rel => exact ⟨k + 1, _, by go_num, HLT.out, by have h := HCX.out.set (k := k) HRO.out; rw [HPS.out, Nat.zero_add] at h; exact h, (below_step HBX.out HB.out).setCell (Nat.le_refl _) _⟩
      case measure => simp [intOf]; omega
    · obtain rfl : k = n := by omega
      go_wp2
      go_ret
      have h := HCF.out
      rw [cpart_full HN.out] at h
      refine ⟨w.heap.size, vs, ?_, h, HB.out⟩
      rw [HN.out]; rfl
end Go.Proofs.YtdfklagiafmoiaaGreatDoor
