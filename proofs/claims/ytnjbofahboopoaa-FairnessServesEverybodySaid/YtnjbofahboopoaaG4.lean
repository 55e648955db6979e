/- (*fairness.walk).search. -/
import Derived.Test.YtnjbofahboopoaaG3
import Derived.Test.YtnjbofahboopoaaPlU
import Derived.Test.YtnjbofahboopoaaPlG
import Derived.BigQuiet
import Derived.StillTailTactics
namespace Go.Proofs.Ytnjbofahboopoaa
open Go.RowKit

def isIn (S : List Bool) (k : Nat) : Bool := S.getD k false
theorem isIn_of {S : List Bool} {k : Nat} (h : k < S.length) : isIn S k = S[k] := by unfold isIn; rw [List.getD_eq_getElem?_getD, List.getElem?_eq_getElem h]; rfl
def fr (w : Nat × Nat) : List Value := [I w.1, I w.2]
theorem fr_len (W : List (Nat × Nat)) : (W.flatMap fr).length = W.length * 2 := by
  induction W with
  | nil => rfl
  | cons w W ih => rw [List.flatMap_cons, List.length_append, ih, List.length_cons]; show 2 + _ = _; omega
theorem fr_snoc (W : List (Nat × Nat)) (k a : Nat) : (W ++ [(k, a)]).flatMap fr = W.flatMap fr ++ [I k, I a] := by rw [List.flatMap_append]; rfl
theorem own_new {w : World} {base e size n : Nat} {xs : List Value} (hl : xs.length = n * size) (hb : base ≤ w.heap.size) (hn : n ≤ maxLen) : (w.alloc (.cells xs.toArray e)).ownsRow base e size (.slice (some ⟨w.heap.size, 0, none⟩) n n) n xs :=
  ⟨hl, .inr ⟨w.heap.size, n, xs.toArray, rfl, hb, Blk.new _ _ _, Nat.le_refl _, hn, by simpa using hl, by simp [← hl]⟩⟩
theorem TW.drewN {w0 wr : World} {B bw gi gl gr n : Nat} {ve va vl vp : Value} {s : PlT.St} (h : TW w0 B bw gi gl gr n ve va vl vp s wr) (d : Nat) : TW w0 B bw gi gl gr n ve va vl vp s (wr.drewN d) :=
  ⟨h.b.drewN d, h.bi.drewN d, h.bl.drewN d, h.br.drewN d, h.op, h.d1, h.d2, h.d3, h.ne, below_drewN h.bel d, h.hs, h.hB⟩
def SRel (n : Nat) (G : Nat → List Nat) (S : Nat → Bool) (s0 : PlT.St) (k0 : Nat) (w0 : World) (B bw gi gl gr : Nat) (ve va vl : Value) (wa : World) (gk : Nat) (v4 : Value) (W : World) : Prop :=
  ∃ (s : PlT.St) (Wy : List (Nat × Nat)) (A : Option Addr) (c : Nat), gk = PlT.mu n G s.ix Wy ∧ PlT.Found n G S s0 k0 s Wy ∧ TW w0 B bw gi gl gr n ve va vl (.slice A s.pd.length c) s W ∧ W.ownsRow wa.heap.size 66 2 v4 Wy.length (Wy.flatMap fr) ∧ KT wa W ∧ s.fd + PlT.cnt n s.ix = n
theorem cell_row (w : World) (g j : Nat) : w.cell? ((⟨g, 0, none⟩ : Addr).add j) = w.cell? ⟨g, j, none⟩ := by
  unfold Addr.add
  split
  · rename_i h; subst h; rfl
  · simp
theorem fr_at {W : World} {base g n c k a : Nat} {W0 : List (Nat × Nat)} (h : W.ownsRow base 66 2 (.slice (some ⟨g, 0, none⟩) n c) n ((W0 ++ [(k, a)]).flatMap fr)) :
    W.cell? ⟨g, W0.length * 2, none⟩ = some (.int .i64 (k : Int)) ∧ W.cell? ⟨g, W0.length * 2 + 1, none⟩ = some (.int .i64 (a : Int)) := by
  have hl := h.1
  rw [fr_len] at hl
  obtain ⟨ad, hA, _, hc⟩ := (Reads.of_own h).2 (by simp at hl; omega)
  injection hA with hA
  subst hA
  rw [fr_snoc] at hc
  have h0 := hc (W0.length * 2) (I k) (by rw [List.getElem?_append_right (by rw [fr_len]; omega), fr_len, Nat.sub_self]; rfl)
  have h1 := hc (W0.length * 2 + 1) (I a) (by rw [List.getElem?_append_right (by rw [fr_len]; omega), fr_len, Nat.add_sub_cancel_left]; rfl)
  rw [cell_row] at h0 h1
  exact ⟨h0, h1⟩
theorem own_frz {w : World} {base e size n g c : Nat} {xs : List Value} (h : w.ownsRow base e size (.slice (some ⟨g, 0, none⟩) n c) n xs) : ∃ cs, Blk w g e cs := by
  rcases h.2 with ⟨hv, _⟩ | ⟨g', cap, cur, hv, _, hh, _⟩
  · cases hv
  · injection hv with hv
    injection hv with hv
    injection hv with hv
    subst hv
    exact ⟨cur, hh⟩
theorem KT.drewN {w W : World} (h : KT w W) (d : Nat) : KT w (W.drewN d) := ⟨h.1, fun g t cs h1 h2 hb => (h.2 g t cs h1 h2 hb).drewN d⟩
theorem fr_set {W0 : List (Nat × Nat)} (k a b : Nat) : ((W0 ++ [(k, a)]).flatMap fr).set (W0.length * 2 + 1) (I b) = (W0 ++ [(k, b)]).flatMap fr := by
  rw [fr_snoc, fr_snoc, List.set_append_right _ _ (by rw [fr_len]; omega), fr_len, Nat.add_sub_cancel_left]
  rfl
theorem len_snoc (W0 : List (Nat × Nat)) (x : Nat × Nat) : (W0 ++ [x]).length = W0.length + 1 := by simp
theorem own_cross {w : World} {b b' e e' sz sz' n n' : Nat} {v v' : Value} {xs xs' : List Value} (h : w.ownsRow b e sz v n xs) (h' : w.ownsRow b' e' sz' v' n' xs') (he : e ≠ e') : v.ownBlock = none ∨ v.ownBlock ≠ v'.ownBlock := by
  rcases h'.2 with ⟨rfl, _⟩ | ⟨g, c, cur, rfl, _, hh, _⟩
  · cases v.ownBlock with
    | none => exact .inl rfl
    | some x => exact .inr (by simp [Value.ownBlock])
  · exact .inr (own_blk_ne h (show Blk w g e' cur from hh) he)
theorem own_ob {w : World} {b e sz n g t : Nat} {v : Value} {xs : List Value} {cs : Array Value} (h : w.ownsRow b e sz v n xs) (hb : Blk w g t cs) (he : e ≠ t) : some g ≠ v.ownBlock := Ne.symm (own_blk_ne h hb he)
/-- a row of another type grows -/
theorem TW.grown {w0 wr x : World} {B bw gi gl gr n b' e sz m : Nat} {ve va vl vp v : Value} {s : PlT.St} {xs : List Value} (h : TW w0 B bw gi gl gr n ve va vl vp s wr) (ho : wr.ownsRow b' e sz v m xs) (h1 : e ≠ 3) (h2 : e ≠ 57) (hb : B ≤ b') (hg : wr.grownBy x v.ownBlock) : TW w0 B bw gi gl gr n ve va vl vp s x :=
  ⟨h.b.grown hg (own_ob ho h.b h2), h.bi.grown hg (own_ob ho h.bi h1), h.bl.grown hg (own_ob ho h.bl h1), h.br.grown hg (own_ob ho h.br h1), h.op.kept hg (own_cross h.op ho (Ne.symm h1)), h.d1, h.d2, h.d3, h.ne, h.bel.grown hg h.hs (fun b hb' => Nat.le_trans hb (ho.lt b hb').1), Nat.le_trans h.hs hg.size, h.hB⟩
theorem KT.grownOwn {w W X : World} (h : KT w W) {e sz m : Nat} {v : Value} {xs : List Value} (ho : W.ownsRow w.heap.size e sz v m xs) (hg : W.grownBy X v.ownBlock) : KT w X :=
  ⟨Nat.le_trans h.1 hg.size, fun g t cs h1 h2 hb => (h.2 g t cs h1 h2 hb).grown hg (fun e' => by have := (ho.lt g e'.symm).1; have := hb.lt; omega)⟩
theorem reads_fr (w : World) (l : List Value) (n sz t : Nat) (hl : l.length = n * sz) (hb : ∀ (g : Nat), Blk (w.alloc (.cells l.toArray t)) g t l.toArray → ∀ j u, l[j]? = some u → (w.alloc (.cells l.toArray t)).cell? ((⟨g, 0, none⟩ : Addr).add j) = some u) : Reads (w.alloc (.cells l.toArray t)) (w.heap.size + 1) sz (some ⟨w.heap.size, 0, none⟩) n l :=
  ⟨hl, fun _ => ⟨_, rfl, Nat.lt_succ_self _, hb _ (Blk.new _ _ _)⟩⟩
theorem blk_reads {w : World} {g t : Nat} {l : List Value} (h : Blk w g t l.toArray) (j : Nat) (u : Value) (hu : l[j]? = some u) : w.cell? ((⟨g, 0, none⟩ : Addr).add j) = some u := by
  rw [cell_row, h.cell j, List.getElem?_toArray, hu]
theorem one_fr (k a : Nat) : ∀ u ∈ [I k, I a], u.oneCell' = true := by
  intro u hu
  simp only [List.mem_cons, List.not_mem_nil, or_false] at hu
  rcases hu with rfl | rfl <;> rfl
theorem own_take2 {w : World} {base e g m c : Nat} {xs : List Value} (h : w.ownsRow base e 2 (.slice (some ⟨g, 0, none⟩) (m + 1) c) (m + 1) xs) : w.ownsRow base e 2 (.slice (some ⟨g, 0, none⟩) m c) m (xs.take (m * 2)) := by
  obtain ⟨hl, h⟩ := h
  refine ⟨by rw [List.length_take]; omega, ?_⟩
  rcases h with ⟨hv, _⟩ | ⟨g', cap, cur, hv, hg, hh, h1, h2, h3, h4⟩
  · cases hv
  · injection hv with hv1 hv2 hv3
    injection hv1 with hv1
    injection hv1 with hv1
    subst hv1 hv3
    refine .inr ⟨g, c, cur, rfl, hg, hh, by omega, h2, h3, ?_⟩
    rw [← h4, List.take_take]
    congr 1
    omega
theorem fr_take (W0 : List (Nat × Nat)) (k a : Nat) : ((W0 ++ [(k, a)]).flatMap fr).take (W0.length * 2) = W0.flatMap fr := by
  rw [fr_snoc, ← fr_len W0, List.take_left']
  rfl
theorem Try.infoFrame : (Try.prog.info? 66).map (fun i => (i.zero, i.size, i.bytes)) = some (some (.agg #[.int .i64 0, .int .i64 0]), 2, 16) := by kernel_rfl

set_option maxRecDepth 100000 in
set_option maxHeartbeats 4000000 in
theorem search_any (L : List (List Arc)) (S : List Bool) (hSL : S.length = L.length) (hn : S.length ≤ 100000) (hL : WfL L) (hto : ∀ k (hk : k < L.length), ∀ x ∈ L[k], 0 ≤ x.2 ∧ x.2 < (S.length : Int))
    (w0 : World) (B bw gi gl gr : Nat) (ve : Value) (Aa Al : Option Addr) (ca cl : Nat) (rows : List Value) (hra : Reads w0 B 1 Aa L.length rows) (hkk : ∀ (k : Nat) l, L[k]? = some l → ∃ u, rows[k]? = some u ∧ ArcsAt w0 B u l) (hSr : Reads w0 B 1 Al S.length (S.map Value.bool))
    (s0 : PlT.St) (k0 : Nat) (hk0 : k0 < S.length) (hS0 : isIn S k0 = false) (hi0' : s0.ix k0 = 0) (hinv : PlT.Inv S.length (PlG.tg L) (isIn S) s0 []) (hfd : s0.fd + PlT.cnt S.length s0.ix = S.length) (A : Option Addr) (c : Nat) (wa : World) (h : TW w0 B bw gi gl gr S.length ve (.slice Aa L.length ca) (.slice Al S.length cl) (.slice A s0.pd.length c) s0 wa) :
    Calls Try.prog 35 #[.pointer (some ⟨bw, 0, none⟩), .int .i64 k0] wa fun e w' => (∃ v, e = .returned v) ∧ ∃ s A c, TW w0 B bw gi gl gr S.length ve (.slice Aa L.length ca) (.slice Al S.length cl) (.slice A s.pd.length c) s w' ∧ PlT.Found S.length (PlG.tg L) (isIn S) s0 k0 s [] ∧ s.fd + PlT.cnt S.length s.ix = S.length ∧ KT wa w' := by
  have hp0 : s0.pd = [] := by
    cases hp : s0.pd with
    | nil => rfl
    | cons x l => obtain ⟨w, hw, _⟩ := hinv.base x (by rw [hp]; exact List.mem_cons_self ..); cases hw
  have HF0 := Lib.hid (PlT.Found.begin hinv hk0 hS0 hi0')
  have HRA := Lib.hid hra
  have HKK := Lib.hid hkk
  have HSR := Lib.hid hSr
  have HL := Lib.hid hL
  have HTO := Lib.hid hto
  have HSL := Lib.hid hSL
  have hpl : s0.pd.length ≤ 100000 := by rw [hp0]; exact Nat.zero_le _
  have CE := Lib.hid (enter_any w0 B bw gi gl gr S.length ve (.slice Aa L.length ca) (.slice Al S.length cl) (.slice A s0.pd.length c) s0 k0 hk0 hn (by omega) hpl ⟨_, _, rfl⟩ wa h)
  have CX := Lib.hid (fun s k Ap cp => enter_any w0 B bw gi gl gr S.length ve (.slice Aa L.length ca) (.slice Al S.length cl) (.slice Ap s.pd.length cp) s k)
  have CC := Lib.hid (fun s k P1 P2 Ap cp => complete_any w0 B bw gi gl gr S.length ve (.slice Aa L.length ca) (.slice Al S.length cl) (.slice Ap (s : PlT.St).pd.length cp) s k P1 P2)
  obtain ⟨i0, hi0, hz0, hz1, hz2⟩ := info_parts Try.infoFrame
  have HH := Lib.hid h
  have HIX := Lib.hid hi0'
  have hsa := h.hs
  clear hra hkk hSr hL hto hSL hinv h hS0 hp0 hi0'
  go_enter Try.func35, Try.ntmps35
  go_wp2_with fail
  refine CE.out.mono ?_
  rintro e w1 ⟨rfl, A1, c1, hT1, hK1⟩
  have hs1 := hK1.1
  have HT1 := Lib.hid hT1
  have HK1 := Lib.hid hK1
  clear hT1 hK1 CE
  go_wp2_with fail
  go_loopg [4] (PlT.mu S.length (PlG.tg L) (PlT.enter s0 k0).ix [(k0, 0)]) (SRel S.length (PlG.tg L) (isIn S) s0 k0 w0 B bw gi gl gr ve (.slice Aa L.length ca) (.slice Al S.length cl) wa)
  case atStart =>
    refine ⟨PlT.enter s0 k0, [(k0, 0)], A1, c1, rfl, HF0.out, ?_, own_new (xs := [I k0, I 0]) rfl hs1 (len_ok (by omega)), HK1.out.trans (KT.alloc _ _), ?_⟩
    · have := HT1.out.alloc (.cells #[I k0, I 0] 66)
      rw [show (PlT.enter s0 k0).pd.length = s0.pd.length + 1 by simp [PlT.enter]]
      exact this
    · have := PlT.cnt_enter (v := s0.fd + 1) hk0 HIX.out (by omega)
      show s0.fd + 1 + PlT.cnt S.length (PlT.upd s0.ix k0 (s0.fd + 1)) = S.length
      omega
  case round =>
    clear HF0 HT1 HK1 HH HIX hfd hk0
    obtain ⟨s, Wy, A, c, rfl, hF, hT, hw, hK, hfd⟩ := hrel
    obtain ⟨A4, c4, rfl⟩ := own_sl hw
    have HF := Lib.hid hF
    have HT := Lib.hid hT
    have HK := Lib.hid hK
    have HW := Lib.hid hw
    have HFD := Lib.hid hfd
    rcases List.eq_nil_or_concat Wy with hWy | ⟨W0, ⟨k, a⟩, hWy⟩
    · subst hWy
      have HF := Lib.hid hF
      clear hF hT hK hw hfd
      go_wp2
      refine bodyPost_end (v := .tuple #[]) ?_ rfl ⟨⟨_, rfl⟩, s, A, c, HT.out, HF.out, HFD.out, HK.out⟩
      simp [results, Try.results35]
    · rw [List.concat_eq_append] at hWy
      subst hWy
      have hkp : k ∈ s.pd := hF.inv.way_pd k (by simp)
      have hkn : k < S.length := ((hF.inv.pd_iff k).1 hkp).1
      have hkL : k < L.length := by have := HSL.out; omega
      have hal : a ≤ (PlG.tg L k).length := hF.le (k, a) (by simp)
      have hWl : (W0 ++ [(k, a)]).length = W0.length + 1 := by simp
      rw [hWl] at hw
      obtain ⟨gw, c4', hv4, hgB, hgl⟩ := hw.form (by omega)
      injection hv4 with hv41 _ hv43
      subst hv41 hv43
      obtain ⟨q0, q1⟩ := fr_at hw
      have hWn : W0.length + 1 ≤ S.length := by
        have := PlC.nodup_length_le (n := S.length) (O := (W0 ++ [(k, a)]).map (·.1)) (List.Pairwise.imp (fun {x y} h (e : x = y) => by rw [e] at h; exact Nat.lt_irrefl _ h) hF.inv.way_asc) (fun x hx => ((hF.inv.pd_iff x).1 (hF.inv.way_pd x hx)).1)
        rw [List.length_map, hWl] at this
        exact this
      have hbb := hT.b
      unfold wkCells at hbb
      obtain ⟨x0, x1, x2, x3, x4, x5, x6, x7, xf⟩ := blk8 hbb
      have lbw := hbb.lt
      obtain ⟨ad, Ak, ck, hA, hbl, cr0, rk⟩ := row_at HRA.out HKK.out hkL
      subst hA
      have cr := (hT.bel.cell (p := ad.add k) (by rw [block_of_add]; exact hbl)).trans cr0
      have hll := (HL.out k hkL).1
      have HTL := Lib.hid (PlG.tg_len L k hkL)
      have HTG := Lib.hid (PlG.tg_get L k · hkL)
      have HTT := Lib.hid (HTO.out k hkL)
      have RK := Lib.hid rk
      have gwn : gw ≠ bw := fun e => own_blk_ne hw hbb (by decide) (by rw [← e]; rfl)
      have gwn' := Ne.symm gwn
      generalize L[k] = l at *
      have k0' : (0 : Int) ≤ (k : Int) := by omega
      have k1' : (k : Int) < (L.length : Int) := by omega
      have m1 := IntWalk.i64_in (W0.length : Int) (by omega)
      have m2 : ((W0.length : Int) + 1) - 1 = (W0.length : Int) := by omega
      obtain ⟨csw, hbw⟩ := own_frz hw
      have xgf := hbw.frozen
      have HBW := Lib.hid hbw
      have hcc := own_cp hw
      have hcc1 : (W0.length : Int) ≤ (c4 : Int) := by omega
      have HW' := Lib.hid hw
      rw [hWl]
      clear hF hT hK hw hfd hbb cr0 rk hWl hbw HW
      by_cases hlt : a < l.length
      · obtain ⟨bd, hA2, hbb2, c0, c1'⟩ := arc_at (RK.out.below HT.out.bel) hlt
        subst hA2
        have hx := HTT.out l[a] (List.getElem_mem _)
        have htg := HTG.out a hlt
        generalize l[a] = x at *
        obtain ⟨xs, xt⟩ := x
        dsimp only at c0 c1' hx htg
        obtain ⟨t, rfl⟩ : ∃ t : Nat, xt = (t : Int) := ⟨xt.toNat, by omega⟩
        rw [Int.toNat_natCast] at htg
        have htn : t < S.length := by omega
        have HTGT := Lib.hid htg
        have hMU := Lib.hid (PlT.mu_next (n := S.length) (ix := s.ix) (W := W0) (show a < (PlG.tg L k).length by rw [HTL.out]; exact hlt))
        have a0 : (0 : Int) ≤ (a : Int) := by omega
        have a1 : (a : Int) < (l.length : Int) := by omega
        have a2 := IntWalk.i64_in ((a : Int) + 1) (by omega)
        have t0 : (0 : Int) ≤ (t : Int) := by omega
        have t1 : (t : Int) < (S.length : Int) := by omega
        clear hx htg
        go_upto_region 4 with fail
        go_quiet (fail)
        go_upto_region 5 with fail
        go_quiet (fail)
        go_upto_region 8 with fail
        generalize hW1 : World.setCell _ _ _ = W1
        have hT1 : TW w0 B bw gi gl gr S.length ve (.slice (some ad) L.length ca) (.slice Al S.length cl) (.slice A s.pd.length c) s W1 := by rw [← hW1]; exact (HT.out.drewN _).other (HBW.out.drewN _) (by decide) (by decide) (by omega)
        have hw1 : W1.ownsRow wa.heap.size 66 2 (.slice (some ⟨gw, 0, none⟩) (W0 ++ [(k, a + 1)]).length c4) (W0 ++ [(k, a + 1)]).length ((W0 ++ [(k, a + 1)]).flatMap fr) := by
          rw [← hW1, len_snoc, ← fr_set k a (a + 1)]
          exact (World.ownsRow.stored (show (wr.drewN _).ownsRow wa.heap.size 66 2 (.slice (some ⟨gw, 0, none⟩) (W0.length + 1) c4) (W0.length + 1) ((W0 ++ [(k, a)]).flatMap fr) from HW'.out) _ _).1
        have hK1 : KT wa W1 := by rw [← hW1]; exact (HK.out.drewN _).far hgB
        have hbb := hT1.b
        unfold wkCells at hbb
        clear x0 x1 x2 x3 x4 x5 x6 x7 xf lbw
        obtain ⟨x0, x1, x2, x3, x4, x5, x6, x7, xf⟩ := blk8 hbb
        have lbw := hbb.lt
        obtain ⟨sd, hA3, hbs, cs⟩ := bool_at (HSR.out.below hT1.bel) htn
        subst hA3
        have yr := num_at hT1.br htn
        have yi := num_at hT1.bi htn
        have yl := num_at hT1.bl hkn
        have HT1 := Lib.hid hT1
        have HW1 := Lib.hid hw1
        have HK1 := Lib.hid hK1
        have HIN := Lib.hid (isIn_of htn)
        clear hW1 hT1 hw1 hK1 hbb q0 q1 cr c0 c1' HT HW' HK xgf
        generalize S[t] = st at *
        cases st
        · cases hrt : s.rt t with
          | some r =>
            have yr' : nR s.rt t = (r : Int) := by unfold nR; rw [hrt]; rfl
            rw [yr'] at yr
            have HP := Lib.hid (HF.out.pass HTGT.out (.inr (by rw [hrt]; simp)))
            clear hrt yr'
            go_wp2
            go_roundg (PlT.mu S.length (PlG.tg L) s.ix (W0 ++ [(k, a + 1)]))
            case measure => have := hMU.out; omega
            case rel => exact ⟨s, _, A, c, rfl, HP.out, HT1.out, by rw [len_snoc]; have := HW1.out; rw [len_snoc] at this; exact this, HK1.out, HFD.out⟩
          | none =>
            have yr' : nR s.rt t = -1 := by unfold nR; rw [hrt]; rfl
            rw [yr'] at yr
            have HRT := Lib.hid hrt
            clear hrt yr'
            have hpn : s.pd.length ≤ S.length := PlC.nodup_length_le (List.Pairwise.imp (fun {x y} h (e : x = y) => by rw [e] at h; exact Nat.lt_irrefl _ h) HF.out.inv.pd_asc) (fun x hx => ((HF.out.inv.pd_iff x).1 hx).1)
            by_cases hix : s.ix t = 0
            · have yi' : nI s.ix t = 0 := by unfold nI; rw [hix]; rfl
              rw [yi'] at yi
              have HP := Lib.hid (HF.out.enter HTGT.out htn HIN.out hix)
              have hcn := PlT.cnt_enter (v := s.fd + 1) htn hix (by omega)
              have hfd1 : s.fd + 1 ≤ S.length := by have := HFD.out; omega
              have HMU2 := Lib.hid (PlT.mu_enter (G := PlG.tg L) (W := W0 ++ [(k, a + 1)]) (v := s.fd + 1) htn hix (by omega))
              have HCN := Lib.hid hcn
              clear hix yi' hcn
              go_wp2_with fail
              refine (CX.out s t A c htn hn (by omega) (by omega) ⟨_, _, rfl⟩ W1 HT1.out).mono ?_
              rintro e w2 ⟨rfl, A2, c2, hT2, hK2⟩
              have hw2 := hK2.own HW1.out (by decide) (by decide)
              have HT2 := Lib.hid hT2
              have HK2 := Lib.hid (HK1.out.trans hK2)
              have HW2 := Lib.hid hw2
              have hs2 := (HK1.out.trans hK2).1
              clear hT2 hK2 hw2
              go_wp2_with (at_builtin; refine wpList_append_any _ rfl (.tmp 109) (.tmp 113) 68 rfl wa.heap.size 66 i0 (.agg #[.int .i64 0, .int .i64 0]) 2 16 Try.underlying68 hi0 hz0 hz1 hz2 rfl (by decide) (.slice (some ⟨gw, 0, none⟩) (W0.length + 1) c4) (W0.length + 1) ((W0 ++ [(k, a + 1)]).flatMap fr) rfl (by have := HW2.out; rw [len_snoc] at this; exact this.alloc _) (w2.heap.size + 1) (some ⟨w2.heap.size, 0, none⟩) 1 1 [I t, I 0] rfl (reads_fr _ _ _ _ _ rfl (fun _ hb => blk_reads hb)) (one_fr t 0) (len_ok (by omega)) (by omega) (by simp; omega) ?_; intro v5 q5 ho5 hg5 hv5; clear hv5)
              have hwa := HW2.out.alloc (.cells #[I t, I 0] 66)
              rw [len_snoc] at hwa
              have HT3 := Lib.hid ((HT2.out.alloc (.cells #[I t, I 0] 66)).grown hwa (by decide) (by decide) hsa hg5)
              have HK3 := Lib.hid ((HK2.out.trans (KT.alloc _ _)).grownOwn hwa hg5)
              have HO3 := Lib.hid ho5
              clear hwa ho5 hg5
              go_roundg (PlT.mu S.length (PlG.tg L) s.ix (W0 ++ [(k, a + 1)]))
              case measure => have := hMU.out; omega
              case rel =>
                refine ⟨PlT.enter s t, W0 ++ [(k, a + 1)] ++ [(t, 0)], A2, c2, HMU2.out.symm, HP.out, ?_, ?_, HK3.out, ?_⟩
                · rw [show (PlT.enter s t).pd.length = s.pd.length + 1 by simp [PlT.enter]]
                  exact HT3.out
                · rw [len_snoc, len_snoc, fr_snoc]
                  exact HO3.out
                · show s.fd + 1 + PlT.cnt S.length (PlT.upd s.ix t (s.fd + 1)) = S.length
                  have := HCN.out
                  have := HFD.out
                  omega
            · have hixz : ((nI s.ix t) == 0) = false := beq_eq_false_iff_ne.2 (by unfold nI; omega)
              have HP := Lib.hid (HF.out.low HTGT.out htn HIN.out HRT.out hix)
              have hfl := HT1.out.bl.frozen
              have ngl := HT1.out.bi_ne.2.1
              have ngl' := Ne.symm ngl
              have kk0 : (0 : Int) ≤ (k : Int) := by omega
              have kk1 : (k : Int) < (S.length : Int) := by omega
              unfold nI at yi yl hixz
              clear hix
              have HLO := Lib.hid (fun v (hv : min (s.lo k) (s.ix t) = v) => (show TW w0 B bw gi gl gr S.length ve (.slice (some ad) L.length ca) (.slice (some sd) S.length cl) (.slice A s.pd.length c) (PlT.lower s k (s.ix t)) (W1.setCell ⟨gl, k, none⟩ (.int .i64 (v : Int))).drew by
                have h1 := (HT1.out.setLo k v).drew
                unfold PlT.lower
                rw [hv]
                exact h1))
              have HWO := Lib.hid (fun v => (show (W1.setCell ⟨gl, k, none⟩ v).drew.ownsRow wa.heap.size 66 2 (.slice (some ⟨gw, 0, none⟩) (W0 ++ [(k, a + 1)]).length c4) (W0 ++ [(k, a + 1)]).length ((W0 ++ [(k, a + 1)]).flatMap fr) from (KT.setInt HT1.out.bl).own HW1.out (by decide) (by decide)))
              have HKO := Lib.hid (fun v => (show KT wa (W1.setCell ⟨gl, k, none⟩ v).drew from HK1.out.trans (KT.setInt HT1.out.bl)))
              by_cases hmin : s.lo k ≤ s.ix t
              · have hm1 : (s.lo k : Int) ≤ (s.ix t : Int) := by omega
                go_upto_region 7 with fail
                go_still_tail 21, (by kernel_rfl)
                change wpList _ _ _ _ _ W1.drew
                go_wp2
                go_roundg (PlT.mu S.length (PlG.tg L) s.ix (W0 ++ [(k, a + 1)]))
                case measure => have := hMU.out; omega
                case rel => exact ⟨PlT.lower s k (s.ix t), _, A, c, rfl, HP.out, HLO.out _ (Nat.min_eq_left hmin), by have := HWO.out (.int .i64 (s.lo k : Int)); rw [len_snoc] at this ⊢; exact this, HKO.out _, HFD.out⟩
              · have hm1 : ¬ (s.lo k : Int) ≤ (s.ix t : Int) := by omega
                have hm2 : (s.ix t : Int) ≤ (s.lo k : Int) := by omega
                have hm3 : (s.ix t : Int) < (s.lo k : Int) := by omega
                go_upto_region 7 with fail
                go_still_tail 21, (by kernel_rfl)
                change wpList _ _ _ _ _ W1.drew
                go_wp2
                go_roundg (PlT.mu S.length (PlG.tg L) s.ix (W0 ++ [(k, a + 1)]))
                case measure => have := hMU.out; omega
                case rel => exact ⟨PlT.lower s k (s.ix t), _, A, c, rfl, HP.out, HLO.out _ (Nat.min_eq_right (by omega)), by have := HWO.out (.int .i64 (s.ix t : Int)); rw [len_snoc] at this ⊢; exact this, HKO.out _, HFD.out⟩
        · have HP := Lib.hid (HF.out.pass HTGT.out (.inl HIN.out))
          go_wp2
          go_roundg (PlT.mu S.length (PlG.tg L) s.ix (W0 ++ [(k, a + 1)]))
          case measure => have := hMU.out; omega
          case rel => exact ⟨s, _, A, c, rfl, HP.out, HT1.out, by rw [len_snoc]; have := HW1.out; rw [len_snoc] at this; exact this, HK1.out, HFD.out⟩
      · have hal2 : (PlG.tg L k).length ≤ a := by rw [HTL.out]; omega
        have HMP := Lib.hid (PlT.mu_pop (n := S.length) (ix := s.ix) (W := W0) hal)
        obtain ⟨P1, P2, hpd⟩ := List.append_of_mem hkp
        have HPL := Lib.hid (fun x (hx : x ∈ s.pd) => ((HF.out.inv.pd_iff x).1 hx).1)
        have HPN := Lib.hid (show s.pd.Nodup from List.Pairwise.imp (fun {x y} h (e : x = y) => by rw [e] at h; exact Nat.lt_irrefl _ h) HF.out.inv.pd_asc)
        have HWP := Lib.hid (show wr.ownsRow wa.heap.size 66 2 (.slice (some ⟨gw, 0, none⟩) W0.length c4) W0.length (W0.flatMap fr) by have := own_take2 HW'.out; rw [fr_take] at this; exact this)
        have HPD := Lib.hid hpd
        have yl := num_at HT.out.bl hkn
        have yi := num_at HT.out.bi hkn
        have kk0 : (0 : Int) ≤ (k : Int) := by omega
        have kk1 : (k : Int) < (S.length : Int) := by omega
        unfold nI at yl yi
        clear hpd
        go_upto_region 4 with fail
        go_quiet (fail)
        go_upto_region 12 with fail
        clear q0 q1 cr xgf m1 m2 hcc1
        rcases List.eq_nil_or_concat W0 with hW0 | ⟨W00, ⟨u, b⟩, hW0⟩
        · subst hW0
          have honly := HF.out.only
          have HR := Lib.hid (HF.out.root hal2 honly HPD.out)
          have e1 : ((s.lo k : Int) == (s.ix k : Int)) = true := by rw [honly]; exact beq_self_eq_true _
          have hpd := HPD.out
          clear honly
          go_upto_region 15 with fail
          go_quiet (fail)
          go_wp2_with fail
          refine (CC.out s k P1 P2 A c hpd HPL.out HPN.out hn _ (HT.out.drewN _)).mono ?_
          rintro e w2 ⟨⟨v9, rfl⟩, A2, c2, hT2, hK2⟩
          have HT2 := Lib.hid hT2
          have HW2 := Lib.hid (hK2.own (show World.ownsRow (World.drewN _ _) _ _ _ _ _ _ from HWP.out) (by decide) (by decide))
          have HK2 := Lib.hid ((HK.out.drewN _).trans hK2)
          clear hT2 hK2
          go_wp2
          go_roundg (PlT.mu S.length (PlG.tg L) s.ix [])
          case measure => (first | exact HMP.out | (have := HMP.out; simpa using this))
          case rel => exact ⟨PlT.complete s P1 (k :: P2) k, [], A2, c2, rfl, HR.out, HT2.out, HW2.out, HK2.out, HFD.out⟩
        · rw [List.concat_eq_append] at hW0
          subst hW0
          generalize hWq : World.drewN _ _ = Wq
          have hTq : TW w0 B bw gi gl gr S.length ve (.slice (some ad) L.length ca) (.slice Al S.length cl) (.slice A s.pd.length c) s Wq := by rw [← hWq]; exact HT.out.drewN _
          have hKq : KT wa Wq := by rw [← hWq]; exact HK.out.drewN _
          have hWPq : Wq.ownsRow wa.heap.size 66 2 (.slice (some ⟨gw, 0, none⟩) (W00 ++ [(u, b)]).length c4) (W00 ++ [(u, b)]).length ((W00 ++ [(u, b)]).flatMap fr) := by rw [← hWq]; exact HWP.out
          clear hWq x0 x1 x2 x3 x4 x5 x6 x7 xf lbw yl yi HT HK HWP
          have hbb := hTq.b
          unfold wkCells at hbb
          obtain ⟨x0, x1, x2, x3, x4, x5, x6, x7, xf⟩ := blk8 hbb
          have lbw := hbb.lt
          have yl := num_at hTq.bl hkn
          have yi := num_at hTq.bi hkn
          unfold nI at yl yi
          have HT := Lib.hid hTq
          have HK := Lib.hid hKq
          have HWP := Lib.hid hWPq
          clear hTq hKq hWPq hbb
          have hinv := HF.out.inv
          rw [PlT.map_snoc, PlT.map_snoc] at hinv
          have hup : u ∈ s.pd := hinv.way_pd u (by simp)
          have hun : u < S.length := ((hinv.pd_iff u).1 hup).1
          have huk : s.ix u < s.ix k := PlT.asc_last hinv.way_asc (by simp)
          have hku : k ≠ u := fun e => by rw [e] at huk; exact Nat.lt_irrefl _ huk
          have hul0 := (hinv.low u hup).1
          have hkl0 := (hinv.low k hkp).1
          have yu := num_at HT.out.bl hun
          unfold nI at yu
          have hfl := HT.out.bl.frozen
          have ngl := HT.out.bi_ne.2.1
          have ngl' := Ne.symm ngl
          have qu := (fr_at HWP.out).1
          have u0 : (0 : Int) ≤ (u : Int) := by omega
          have u1 : (u : Int) < (S.length : Int) := by omega
          have hWn' : W00.length + 2 ≤ S.length := by rw [len_snoc] at hWn; omega
          have mm1 := IntWalk.i64_in (W00.length : Int) (by omega)
          have mm2 : ((W00.length : Int) + 1) - 1 = (W00.length : Int) := by omega
          have hnz : (0 : Int) < (W00.length : Int) + 1 := by omega
          clear hinv
          rw [len_snoc]
          by_cases hroot : s.lo k = s.ix k
          · have hul : s.lo u ≤ s.lo k := by omega
            have HR := Lib.hid (HF.out.root hal2 hroot HPD.out)
            have e1 : ((s.lo k : Int) == (s.ix k : Int)) = true := by rw [hroot]; exact beq_self_eq_true _
            have hm1 : (s.lo u : Int) ≤ (s.lo k : Int) := by omega
            clear hroot
            go_upto_region 14 with fail
            go_still_tail 21, (by kernel_rfl)
            change wpList _ _ _ _ _ Wq.drew
            go_upto_region 15 with fail
            generalize hW1 : World.drew _ = W1
            have hT1 : TW w0 B bw gi gl gr S.length ve (.slice (some ad) L.length ca) (.slice Al S.length cl) (.slice A s.pd.length c) (PlT.lower s u (s.lo k)) W1 := by
              have h1 := (HT.out.setLo u (s.lo u)).drew
              rw [← hW1]
              unfold PlT.lower
              rw [Nat.min_eq_left hul]
              exact h1
            have hK1 : KT wa W1 := by rw [← hW1]; exact HK.out.trans (KT.setInt HT.out.bl)
            have hw1 : W1.ownsRow wa.heap.size 66 2 (.slice (some ⟨gw, 0, none⟩) (W00 ++ [(u, b)]).length c4) (W00 ++ [(u, b)]).length ((W00 ++ [(u, b)]).flatMap fr) := by rw [← hW1]; exact (KT.setInt HT.out.bl).own HWP.out (by decide) (by decide)
            have hbb := hT1.b
            unfold wkCells at hbb
            clear x0 x1 x2 x3 x4 x5 x6 x7 xf lbw yl yi yu hfl
            obtain ⟨x0, x1, x2, x3, x4, x5, x6, x7, xf⟩ := blk8 hbb
            have yl := num_at hT1.bl hkn
            have yi := num_at hT1.bi hkn
            unfold nI at yl yi
            rw [PlT.lower_ne s (s.lo k) hku] at yl
            have yi2 : W1.cell? ⟨gi, k, none⟩ = some (.int .i64 (s.ix k : Int)) := yi
            clear yi
            have HT1 := Lib.hid hT1
            have HK1 := Lib.hid hK1
            have HW1 := Lib.hid hw1
            clear hW1 hT1 hK1 hw1 hbb HT HK HWP qu
            go_quiet (fail)
            have hTs : TW w0 B bw gi gl gr S.length ve (.slice (some ad) L.length ca) (.slice Al S.length cl) (.slice A s.pd.length c) s (W1.drewN nq) := by
              have h1 := HT1.out.drewN nq
              rw [PlT.lower_self s hul] at h1
              exact h1
            have HTS := Lib.hid hTs
            clear hTs
            go_wp2_with fail
            refine (CC.out s k P1 P2 A c HPD.out HPL.out HPN.out hn _ HTS.out).mono ?_
            rintro e w2 ⟨⟨v9, rfl⟩, A2, c2, hT2, hK2⟩
            have HT2 := Lib.hid hT2
            have HW2 := Lib.hid (hK2.own (show (W1.drewN nq).ownsRow wa.heap.size 66 2 _ _ _ from HW1.out) (by decide) (by decide))
            have HK2 := Lib.hid ((HK1.out.drewN _).trans hK2)
            clear hT2 hK2
            go_wp2
            go_roundg (PlT.mu S.length (PlG.tg L) s.ix (W00 ++ [(u, b)]))
            case measure => (first | exact HMP.out | (have := HMP.out; simpa using this))
            case rel => exact ⟨PlT.complete s P1 (k :: P2) k, W00 ++ [(u, b)], A2, c2, rfl, HR.out, HT2.out, by have := HW2.out; rw [len_snoc] at this ⊢; exact this, HK2.out, HFD.out⟩
          · have HR := Lib.hid (HF.out.back hal2 (by omega))
            have e1 : ((s.lo k : Int) == (s.ix k : Int)) = false := beq_eq_false_iff_ne.2 (by omega)
            have e2 : (s.lo k == s.ix k) = false := beq_eq_false_iff_ne.2 hroot
            clear hroot
            by_cases hul : s.lo u ≤ s.lo k
            · have hm1 : (s.lo u : Int) ≤ (s.lo k : Int) := by omega
              go_upto_region 14 with fail
              go_still_tail 21, (by kernel_rfl)
              change wpList _ _ _ _ _ Wq.drew
              go_upto_region 15 with fail
              generalize hW1 : World.drew _ = W1
              have hT1 : TW w0 B bw gi gl gr S.length ve (.slice (some ad) L.length ca) (.slice Al S.length cl) (.slice A s.pd.length c) (PlT.lower s u (s.lo k)) W1 := by
                have h1 := (HT.out.setLo u (s.lo u)).drew
                rw [← hW1]
                unfold PlT.lower
                rw [Nat.min_eq_left hul]
                exact h1
              have hK1 : KT wa W1 := by rw [← hW1]; exact HK.out.trans (KT.setInt HT.out.bl)
              have hw1 : W1.ownsRow wa.heap.size 66 2 (.slice (some ⟨gw, 0, none⟩) (W00 ++ [(u, b)]).length c4) (W00 ++ [(u, b)]).length ((W00 ++ [(u, b)]).flatMap fr) := by rw [← hW1]; exact (KT.setInt HT.out.bl).own HWP.out (by decide) (by decide)
              have hbb := hT1.b
              unfold wkCells at hbb
              clear x0 x1 x2 x3 x4 x5 x6 x7 xf lbw yl yi yu hfl
              obtain ⟨x0, x1, x2, x3, x4, x5, x6, x7, xf⟩ := blk8 hbb
              have yl := num_at hT1.bl hkn
              have yi := num_at hT1.bi hkn
              unfold nI at yl yi
              rw [PlT.lower_ne s (s.lo k) hku] at yl
              have yi2 : W1.cell? ⟨gi, k, none⟩ = some (.int .i64 (s.ix k : Int)) := yi
              clear yi
              have HT1 := Lib.hid hT1
              have HK1 := Lib.hid hK1
              have HW1 := Lib.hid hw1
              clear hW1 hT1 hK1 hw1 hbb HT HK HWP qu
              go_quiet (fail)
              go_wp2
              go_roundg (PlT.mu S.length (PlG.tg L) s.ix (W00 ++ [(u, b)]))
              case measure => (first | exact HMP.out | (have := HMP.out; simpa using this))
              case rel => exact ⟨PlT.lower s u (s.lo k), W00 ++ [(u, b)], A, c, rfl, HR.out, HT1.out.drewN _, by have := HW1.out; rw [len_snoc] at this ⊢; exact this, HK1.out.drewN _, HFD.out⟩
            · have hm1 : ¬ (s.lo u : Int) ≤ (s.lo k : Int) := by omega
              have hm2 : (s.lo k : Int) ≤ (s.lo u : Int) := by omega
              have hm3 : (s.lo k : Int) < (s.lo u : Int) := by omega
              go_upto_region 14 with fail
              go_still_tail 21, (by kernel_rfl)
              change wpList _ _ _ _ _ Wq.drew
              go_upto_region 15 with fail
              generalize hW1 : World.drew _ = W1
              have hT1 : TW w0 B bw gi gl gr S.length ve (.slice (some ad) L.length ca) (.slice Al S.length cl) (.slice A s.pd.length c) (PlT.lower s u (s.lo k)) W1 := by
                have h1 := (HT.out.setLo u (s.lo k)).drew
                rw [← hW1]
                unfold PlT.lower
                rw [Nat.min_eq_right (by omega)]
                exact h1
              have hK1 : KT wa W1 := by rw [← hW1]; exact HK.out.trans (KT.setInt HT.out.bl)
              have hw1 : W1.ownsRow wa.heap.size 66 2 (.slice (some ⟨gw, 0, none⟩) (W00 ++ [(u, b)]).length c4) (W00 ++ [(u, b)]).length ((W00 ++ [(u, b)]).flatMap fr) := by rw [← hW1]; exact (KT.setInt HT.out.bl).own HWP.out (by decide) (by decide)
              have hbb := hT1.b
              unfold wkCells at hbb
              clear x0 x1 x2 x3 x4 x5 x6 x7 xf lbw yl yi yu hfl
              obtain ⟨x0, x1, x2, x3, x4, x5, x6, x7, xf⟩ := blk8 hbb
              have yl := num_at hT1.bl hkn
              have yi := num_at hT1.bi hkn
              unfold nI at yl yi
              rw [PlT.lower_ne s (s.lo k) hku] at yl
              have yi2 : W1.cell? ⟨gi, k, none⟩ = some (.int .i64 (s.ix k : Int)) := yi
              clear yi
              have HT1 := Lib.hid hT1
              have HK1 := Lib.hid hK1
              have HW1 := Lib.hid hw1
              clear hW1 hT1 hK1 hw1 hbb HT HK HWP qu
              go_quiet (fail)
              go_wp2
              go_roundg (PlT.mu S.length (PlG.tg L) s.ix (W00 ++ [(u, b)]))
              case measure => (first | exact HMP.out | (have := HMP.out; simpa using this))
              case rel => exact ⟨PlT.lower s u (s.lo k), W00 ++ [(u, b)], A, c, rfl, HR.out, HT1.out.drewN _, by have := HW1.out; rw [len_snoc] at this ⊢; exact this, HK1.out.drewN _, HFD.out⟩
end Go.Proofs.Ytnjbofahboopoaa
