/- ref19.Escape: the way through the core. -/
import Derived.Test.YtlhheglffododaaF6
import Derived.Deep.DeepCutAuto
import Derived.Deep.RegionLaw
namespace Go.Proofs.Ytlhheglffododaa
open Go.RowKit

def lenOf : Value → Nat
  | .slice _ n _ => n
  | _ => 0
/-- what the next state is worth -/
def EscNext (n : Nat) (nx : Nat → Option Nat) (R : List Nat × List Nat) (O : List Nat) : Option Nat → Prop
  | some t => t < n ∧ PlE.esc nx (n + 1 - O.length) O t = R
  | none => R = (O, [])
/-- the states behind lie in the call's own row; what comes out is R -/
def EscRel (w : World) (sp : Array Value) (n B1 : Nat) (vm : Value) (f : Nat → Bool) (nx : Nat → Option Nat) (R : List Nat × List Nat) (vr x : Value) (wr : World) : Prop :=
  ∃ (O : List Nat) (xo : Option Nat), x = .int .i64 (PlE.opt xo) ∧ wr.ownsRow w.heap.size 3 1 vr O.length (O.map I) ∧ O.Nodup ∧ (∀ k, k ∈ O → k < n) ∧ EscNext n nx R O xo ∧
    wr.ownsRow B1 4 1 vm n ((marks n f).map Value.bool) ∧ Blk wr w.heap.size 25 sp ∧ Below w.heap.size w wr
theorem esc_step {n : Nat} {nx : Nat → Option Nat} {R : List Nat × List Nat} {O : List Nat} {t : Nat} (h : PlE.esc nx (n + 1 - O.length) O t = R) (hO : O.length ≤ n) (ht : t ∉ O) (hn : ∀ y, nx t = some y → y < n) : EscNext n nx R (O ++ [t]) (nx t) := by
  have e : n + 1 - O.length = (n - O.length) + 1 := by omega
  rw [e, PlE.esc, if_neg ht] at h
  cases hy : nx t with
  | none => rw [hy] at h; exact h.symm
  | some y =>
    rw [hy] at h
    refine ⟨hn y hy, ?_⟩
    rw [List.length_append, List.length_singleton, show n + 1 - (O.length + 1) = n - O.length by omega]
    exact h
theorem esc_end {n : Nat} {nx : Nat → Option Nat} {R : List Nat × List Nat} {O : List Nat} {t : Nat} (h : PlE.esc nx (n + 1 - O.length) O t = R) (hO : O.length ≤ n) (ht : t ∈ O) : R = (O.take (O.idxOf t), O.drop (O.idxOf t)) := by
  have e : n + 1 - O.length = (n - O.length) + 1 := by omega
  rw [e, PlE.esc, if_pos ht] at h
  exact h.symm
theorem find_lt {n : Nat} {G : Nat → List Nat} {f : Nat → Bool} (hT : ∀ k t, t ∈ G k → t < n) (t y : Nat) (h : (G t).find? f = some y) : y < n := hT t y (List.mem_of_find?_eq_some h)

theorem own_ne {w : World} {base base' e e' n n' gb cm : Nat} {v : Value} {xs ys : List Value} (h : w.ownsRow base e 1 v n xs) (h' : w.ownsRow base' e' 1 (.slice (some ⟨gb, 0, none⟩) n' cm) n' ys) (hne : e ≠ e') : v.ownBlock ≠ some gb := by
  rcases h'.2 with ⟨hv, _⟩ | ⟨g, cap, cur, hv, _, hh, _⟩
  · cases hv
  · injection hv with hv
    injection hv with hv
    injection hv with hv
    subst hv
    exact own_blk_ne h hh hne

theorem gr_refl (w : World) : w.grownBy w none := World.grownBy.refl _ _
theorem gr_drw {w x : World} (h : w.grownBy x none) : w.grownBy x.drew none := ⟨h.os, h.tape, h.output, h.size, h.block⟩
theorem gr_trans {w x y : World} (h : w.grownBy x none) (h' : x.grownBy y none) : w.grownBy y none :=
  ⟨h'.os.trans h.os, h'.tape.trans h.tape, h'.output.trans h.output, Nat.le_trans h.size h'.size, fun j hj hn => (h'.block j (Nat.lt_of_lt_of_le hj h.size) hn).trans (h.block j hj hn)⟩
theorem kept_none {w x : World} {base e n : Nat} {v : Value} {xs : List Value} (h : w.ownsRow base e 1 v n xs) (hg : w.grownBy x none) : x.ownsRow base e 1 v n xs := by
  refine h.kept hg ?_
  cases hv : v.ownBlock with
  | none => exact .inl rfl
  | some b => exact .inr (by simp)
theorem map_I (l : List Nat) : ∀ u ∈ l.map I, u.oneCell' = true := by
  intro u hu
  obtain ⟨z, _, rfl⟩ := List.mem_map.1 hu
  rfl
theorem reads_take {x : World} {B B' gr i : Nat} {O : List Nat} (h : Reads x B 1 (some ⟨gr, 0, none⟩) O.length (O.map I)) (hB : gr < B') (hi : i ≤ O.length) : Reads x B' 1 (some ⟨gr, 0, none⟩) i ((O.take i).map I) := by
  refine ⟨by simp; omega, fun h0 => ⟨_, rfl, hB, fun k u hu => ?_⟩⟩
  obtain ⟨ad, hA, -, hc⟩ := h.2 (by omega)
  obtain rfl : ⟨gr, 0, none⟩ = ad := by injection hA
  refine hc k u ?_
  rw [List.map_take, List.getElem?_take] at hu
  split at hu
  · exact hu
  · cases hu
theorem reads_drop {x : World} {B B' gr i : Nat} {O : List Nat} (h : Reads x B 1 (some ⟨gr, 0, none⟩) O.length (O.map I)) (hB : gr < B') (hi : i ≤ O.length) : Reads x B' 1 (some ⟨gr, i, none⟩) (O.length - i) ((O.drop i).map I) := by
  refine ⟨by simp, fun h0 => ⟨_, rfl, hB, fun k u hu => ?_⟩⟩
  obtain ⟨ad, hA, -, hc⟩ := h.2 (by omega)
  obtain rfl : ⟨gr, 0, none⟩ = ad := by injection hA
  have := hc (i + k) u (by rw [List.map_drop, List.getElem?_drop] at hu; exact hu)
  have e : (⟨gr, 0, none⟩ : Addr).add (i + k) = (⟨gr, i, none⟩ : Addr).add k := by
    simp only [Addr.add]
    by_cases h1 : k = 0
    · subst h1
      by_cases h2 : i = 0
      · subst h2; rfl
      · simp [h2]
    · have h2 : i + k ≠ 0 := by omega
      simp [h1]
  rw [← e]
  exact this
theorem pair_of {w x : World} {b b' e e' n m c1 c2 : Nat} {P Q : List Nat} {A1 A2 : Option Addr} {z : Int} (h1 : x.ownsRow b e 1 (.slice A1 n c1) n ([] ++ P.map I)) (h2 : x.ownsRow b' e' 1 (.slice A2 m c2) m ([] ++ Q.map I)) (hn : P.length = n) (hm : Q.length = m) (hB : Below w.heap.size w x) :
    PairPost w P Q z (.returned (.tuple #[.slice A1 n c1, .slice A2 m c2, .int .i64 z])) x := by
  subst hn hm
  exact ⟨A1, A2, c1, c2, rfl, Reads.of_own h1, Reads.of_own h2, hB⟩
theorem own_cap {w : World} {base e n g c : Nat} {xs : List Value} (h : w.ownsRow base e 1 (.slice (some ⟨g, 0, none⟩) n c) n xs) : n ≤ c := by
  rcases h.2 with ⟨hv, _⟩ | ⟨g, cap, cur, hv, _, _, h1, _⟩
  · cases hv
  · injection hv with _ _ hv
    subst hv
    exact h1

set_option maxRecDepth 100000 in
set_option maxHeartbeats 2000000 in
theorem resc_ok (E : List Nat) (L : List (List Arc)) (v : Value) (hE : WfE E) (hL : WfL L) (hok : PlS.spaceOk E L = true) (S : List Bool) (hSl : S.length = E.length) (A : Option Addr) (c : Nat) (k0 : Nat) (hk0 : k0 < S.length) (g : Nat → Bool) (hg : ∀ k, k < S.length → (g k = true ↔ ¬ PlC.Att (PlG.tg L) (isIn S) k)) (hin : g k0 = true)
    (R : List Nat × List Nat) (hR : PlE.esc (fun k => (PlG.tg L k).find? g) (S.length + 1) [] k0 = R)
    (w : World) (hS : SpaceAt w w.heap.size v E L) (hSr : Reads w w.heap.size 1 A S.length (S.map Value.bool)) :
    Calls Try.prog 22 #[v, .slice A S.length c, .int .i64 k0] w (PairPost w R.1 R.2 0) := by
  have HS := Lib.hid hS
  obtain ⟨ve, va, rfl, ⟨Ae, ce, rfl, re⟩, ⟨Aa, ca, rows, rfl, ra, hk⟩⟩ := hS
  obtain ⟨hn1, hn2, hn3, hto⟩ := PlG.ok_parts hok
  obtain ⟨ad, hA, -⟩ := ra.2 (by omega)
  subst hA
  have HB0 := Lib.hid ((Below.refl w.heap.size w).alloc (Nat.le_refl _) (.cells #[.slice Ae E.length ce, .slice (some ad) L.length ca] 25))
  have RA := Lib.hid ra
  have HK := Lib.hid hk
  have HE := Lib.hid hE
  have HL := Lib.hid hL
  have HG := Lib.hid hg
  have HR := Lib.hid hR
  have SR := Lib.hid hSr
  have HSL := Lib.hid hSl
  have HSLL := Lib.hid (show S.length = L.length by omega)
  have hn0 : S.length ≤ 32768 := by omega
  have HTO := Lib.hid (fun k (hk : k < L.length) x (hx : x ∈ L[k]) => (show 0 ≤ x.2 ∧ x.2 < (S.length : Int) by have := hto k hk x hx; omega))
  have HT := Lib.hid (fun k t (ht : t ∈ PlG.tg L k) => (show t < S.length by have := PlG.tg_lt hok k t ht; omega))
  have HOK := Lib.hid hok
  clear hE hL re ra hk hg hSr hSl hok hR hn1 hn2 hn3 hto
  obtain ⟨i0, hi0, hz0, hz1, hz2⟩ := info_parts Try.infoInt
  go_enter Try.func22, Try.ntmps22
  go_wp2_with fail
  refine (rcore_ok E L _ HE.out HL.out HOK.out S HSL.out A c _ (HS.out.go HB0.out) (SR.out.go HB0.out)).mono ?_
  rintro e w1 ⟨vm, f, rfl, ho, hf, hb1⟩
  have HB1 := Lib.hid (below_end hb1 HB0.out)
  have bs := (Blk.new w 25 #[.slice Ae E.length ce, .slice (some ad) L.length ca]).below hb1 (by simp)
  obtain ⟨gb, cm, rfl, hgb, -⟩ := ho.form (by omega)
  have hfg : ∀ k, k < S.length → f k = g k := fun k hk => by
    have h1 := (hf k hk).trans (HG.out k hk).symm
    cases h : g k
    · exact Bool.eq_false_iff.2 fun h2 => by rw [h1.1 h2] at h; cases h
    · exact h1.2 h
  rw [marks_congr hfg] at ho
  clear hb1 hf hfg f HG
  have m1 := own_mark ho hk0
  obtain ⟨B1, HO⟩ : ∃ B1, Hid (w1.ownsRow B1 4 1 (.slice (some ⟨gb, 0, none⟩) S.length cm) S.length ((marks S.length g).map Value.bool)) := ⟨_, Lib.hid ho⟩
  rw [hin] at m1
  have z0 : (0 : Int) ≤ (k0 : Int) := by omega
  have z1 : (k0 : Int) < (S.length : Int) := by omega
  clear ho
  go_wp2_with fail
  refine (in_any _ _ _ _).mono ?_
  rintro e w2 ⟨rfl, rfl⟩
  rw [decide_eq_true z0, decide_eq_true (show (k0 : Int) ≤ (S.length : Int) - 1 by omega)]
  go_wp2_with fail
  clear m1
  go_loopw [11, 12] (EscRel w #[.slice Ae E.length ce, .slice (some ad) L.length ca] S.length B1 (.slice (some ⟨gb, 0, none⟩) S.length cm) g (fun k => (PlG.tg L k).find? g) R) (fun vr _ _ => S.length - lenOf vr)
  case atStart => exact ⟨[], some k0, rfl, World.ownsRow_nil _ _ _ _, List.nodup_nil, by simp, ⟨hk0, HR.out⟩, HO.out, bs, HB1.out⟩
  case round =>
    clear HB1 bs HO HR HB0
    obtain ⟨O, xo, hx, ho, hnd, hlt, hnx, hom, bs, hB⟩ := hrel
    obtain ⟨Ar, cr, rfl⟩ := own_slice ho
    have hOn : O.length ≤ S.length := PlC.nodup_length_le hnd hlt
    have HO := Lib.hid ho
    have HOM := Lib.hid hom
    have HB := Lib.hid hB
    have HND := Lib.hid hnd
    have HLT := Lib.hid hlt
    have hbz := hB.size
    cases xo with
    | none =>
      obtain rfl := hx
      obtain rfl : R = (O, []) := hnx
      have d0 : decide ((0 : Int) ≤ PlE.opt none) = false := rfl
      clear ho hom hB hnd hlt bs
      go_wp2
      refine bodyPost_ret (v := .tuple #[.slice Ar O.length cr, .slice none 0 0, .int .i64 0]) ?_ rfl ⟨Ar, none, cr, 0, rfl, Reads.of_own HO.out, Reads.none_, HB.out⟩
      simp [results, Try.results22, go_sem]
    | some t =>
      obtain rfl : _ = Value.int .i64 (t : Int) := hx
      obtain ⟨htn, hesc⟩ := hnx
      have t0 : (0 : Int) ≤ (t : Int) := by omega
      have t1 : (t : Int) < (L.length : Int) := by have := HSLL.out; omega
      have htL : t < L.length := by omega
      by_cases hmem : t ∈ O
      · have HF := Lib.hid (PlE.fnd_mem hmem)
        have HI := Lib.hid (esc_end hesc hOn hmem)
        have hil := PlE.idx_lt hmem
        generalize O.idxOf t = i at *
        obtain ⟨gr, cr', hfr, hgr, hgl⟩ := ho.form (by omega)
        injection hfr with hfr _ hcr
        subst hfr hcr
        have hcap : O.length ≤ cr := own_cap ho
        have i0' : (0 : Int) ≤ (i : Int) := by omega
        have i1 : (i : Int) ≤ (cr : Int) := by omega
        have i2 : (i : Int) ≤ (O.length : Int) := by omega
        clear ho hom hB hnd hlt hesc hmem bs
        go_wp2_with fail
        refine (find_any O (by omega) t i HF.out _ _ _ _ (Reads.of_own HO.out)).mono ?_
        rintro e w2 ⟨rfl, rfl⟩
        go_upto_region 12 with fail
        have RT1 := Lib.hid (fun x (h : wr.grownBy x none) => (show Reads x wr.heap.size 1 (some ⟨gr, 0, none⟩) i ((O.take i).map I) from reads_take (Reads.of_own (kept_none HO.out h)) hgl (by omega)))
        have RT2 := Lib.hid (fun x (h : wr.grownBy x none) => (show Reads x wr.heap.size 1 (if cr = i then some ⟨gr, 0, none⟩ else some ⟨gr, i, none⟩) (O.length - i) ((O.drop i).map I) by rw [if_neg (by omega)]; exact reads_drop (Reads.of_own (kept_none HO.out h)) hgl (by omega)))
        have GS := Lib.hid (fun x (h : wr.grownBy x none) => (show w.heap.size ≤ x.heap.size from Nat.le_trans hbz h.size))
        go_region_law (first
          | ((with_reducible refine step_append_any _ rfl (.const (.slice none 0 0)) (.tmp 53) 43 rfl w.heap.size 3 i0 (.int .i64 0) 1 8 Try.underlying43 hi0 hz0 hz1 hz2 rfl (by decide) (.slice none 0 0) 0 [] rfl ?_ wr.heap.size (some ⟨gr, 0, none⟩) i cr ((O.take i).map I) rfl ?_ ?_ ?_ ?_ ?_ ?_); exact World.ownsRow_nil _ _ _ _; (refine RT1.out _ ?_; first | exact gr_refl _ | exact gr_drw (gr_refl _) | assumption | (refine gr_drw ?_; assumption)); exact map_I _; exact len_ok (by omega); omega; (refine GS.out _ ?_; first | exact gr_refl _ | exact gr_drw (gr_refl _) | assumption | (refine gr_drw ?_; assumption)); intro v1 x1 ho1 hg1 hv1; have G1 : wr.grownBy x1 none := (by first | exact gr_trans (gr_refl _) hg1 | exact gr_trans (gr_drw (gr_refl _)) hg1 | exact gr_trans (by assumption) hg1 | exact gr_trans (gr_drw (by assumption)) hg1); clear hv1)
          | ((with_reducible refine step_append_any _ rfl (.const (.slice none 0 0)) (.tmp 57) 43 rfl w.heap.size 3 i0 (.int .i64 0) 1 8 Try.underlying43 hi0 hz0 hz1 hz2 rfl (by decide) (.slice none 0 0) 0 [] rfl ?_ wr.heap.size (if cr = i then some ⟨gr, 0, none⟩ else some ⟨gr, i, none⟩) (O.length - i) (cr - i) ((O.drop i).map I) rfl ?_ ?_ ?_ ?_ ?_ ?_); exact World.ownsRow_nil _ _ _ _; (refine RT2.out _ ?_; first | exact gr_refl _ | exact gr_drw (gr_refl _) | assumption | (refine gr_drw ?_; assumption)); exact map_I _; exact len_ok (by omega); omega; (refine GS.out _ ?_; first | exact gr_refl _ | exact gr_drw (gr_refl _) | assumption | (refine gr_drw ?_; assumption)); intro v2 x2 ho2 hg2 hv2; have G2 : wr.grownBy x2 none := (by first | exact gr_trans (gr_refl _) hg2 | exact gr_trans (gr_drw (gr_refl _)) hg2 | exact gr_trans (by assumption) hg2 | exact gr_trans (gr_drw (by assumption)) hg2); clear hv2))
        obtain rfl := HI.out
        have ho1' := kept_none ho1 (show x1.grownBy x2 none from (by first | exact hg2 | exact grown_drew hg2))
        obtain ⟨A1, c1, rfl⟩ := own_slice ho1
        obtain ⟨A2, c2, rfl⟩ := own_slice ho2
        have hB2 : Below w.heap.size w x2 := HB.out.grown G2 hbz (fun b hb => by cases hb)
        have HP := Lib.hid (show PairPost w (O.take i) (O.drop i) 0 (.returned (.tuple #[.slice A1 (0 + i) c1, .slice A2 (0 + (O.length - i)) c2, .int .i64 0])) x2 from pair_of ho1' ho2 (by simp; omega) (by simp) hB2)
        clear ho1 ho2 hg1 hg2 G1 G2 ho1' hB2
        go_wp2
        refine bodyPost_ret (v := .tuple #[.slice A1 (0 + i) c1, .slice A2 (0 + (O.length - i)) c2, .int .i64 0]) ?_ rfl HP.out
        simp [results, Try.results22, go_sem]
      · have HF := Lib.hid (PlE.fnd_miss hmem)
        have HN := Lib.hid (esc_step hesc hOn hmem (find_lt HT.out t))
        have HND1 := Lib.hid (show (O ++ [t]).Nodup from List.nodup_append.2 ⟨hnd, by simp, fun a ha b hb => by rw [List.mem_singleton] at hb; subst hb; exact fun h => hmem (h ▸ ha)⟩)
        have HLT1 := Lib.hid (show ∀ k, k ∈ O ++ [t] → k < S.length from fun k hk => by rcases List.mem_append.1 hk with h | h; exact hlt k h; rw [List.mem_singleton] at h; subst h; exact htn)
        have hOn1 : O.length + 1 ≤ S.length := by have := PlC.nodup_length_le HND1.out HLT1.out; simpa using this
        have BS := Lib.hid bs
        clear ho hom hB hnd hlt hesc hmem bs
        go_wp2_with fail
        refine (find_any O (by omega) t (-1) HF.out _ _ _ _ (Reads.of_own HO.out)).mono ?_
        rintro e w2 ⟨rfl, rfl⟩
        go_upto_region 9 with (at_builtin; refine wpList_append_any _ rfl (.tmp 59) (.tmp 61) 43 rfl w.heap.size 3 i0 (.int .i64 0) 1 8 Try.underlying43 hi0 hz0 hz1 hz2 rfl (by decide) (.slice Ar O.length cr) _ _ rfl (HO.out.alloc _) (wr.heap.size + 1) (some ⟨wr.heap.size, 0, none⟩) 1 1 [I t] rfl (reads_new1 _ _ _) (one_I t) (len_ok (by omega)) (by omega) (by simp; omega) ?_; intro v1 x1 ho1 hg1 hv1; have HO1 := Lib.hid ho1; have HB1 := Lib.hid ((HB.out.alloc hbz _).grown hg1 (by simp; omega) (fun b hb => (HO.out.lt b hb).1)); have HS1 := Lib.hid ((BS.out.alloc _).grown hg1 (Ne.symm (own_blk_ne HO.out BS.out (by decide)))); have HOM1 := Lib.hid ((HOM.out.alloc _).kept hg1 (.inr (Ne.symm (own_ne HO.out HOM.out (by decide))))); clear ho1 hg1 hv1)
        have hB1 := HB1.out
        have bs1 := HS1.out
        obtain ⟨ad', Ak, ck, hA, hbl, cr1, rk⟩ := row_at (RA.out.below hB1) (fun k l hl => let ⟨u, hu, ha⟩ := HK.out k l hl; (⟨u, hu, ha.below hB1⟩ : ∃ u, rows[k]? = some u ∧ ArcsAt x1 w.heap.size u l)) htL
        obtain rfl : ad = ad' := by injection hA
        have hll := (HL.out t htL).1
        have htg : PlG.tg L t = L[t].map fun x => x.2.toNat := by unfold PlG.tg; rw [List.getD_eq_getElem?_getD, List.getElem?_eq_getElem htL]; rfl
        have HTT := Lib.hid (HTO.out t htL)
        have HQ := Lib.hid (show (L[t].map fun x => x.2.toNat).find? g = (PlG.tg L t).find? g by rw [htg])
        obtain ⟨p0, p1, pf⟩ := blk2 bs1
        have RK := Lib.hid rk
        clear hA htg rk hB1 bs1
        generalize L[t] = l at *
        go_wp2_with fail
        refine (follow_any l (by omega) S.length g HTT.out _ HQ.out _ _ _ _ _ _ _ RK.out (Reads.of_own HOM1.out)).mono ?_
        rintro e w2 ⟨rfl, rfl⟩
        go_wp2
        have hO1 := HO1.out
        refine ⟨⟨O ++ [t], _, rfl, by rw [List.length_append, List.map_append]; exact hO1, HND1.out, HLT1.out, HN.out, HOM1.out, HS1.out, HB1.out⟩, ?_⟩
        obtain ⟨A1, c1, rfl⟩ := own_slice hO1
        simp only [lenOf]
        omega
end Go.Proofs.Ytlhheglffododaa
