/- ref21.Core. -/
import Derived.Test.YtnjbofahboopoaaB5
import Derived.Test.YtnjbofahboopoaaPlY
namespace Go.Proofs.Ytnjbofahboopoaa
open Go.RowKit

theorem marks_made (n : Nat) : madeCells #[.bool false] n = ((marks n (fun _ => false)).map Value.bool).toArray := by
  have e : (marks n (fun _ => false)).map Value.bool = List.replicate n (.bool false) := by
    rw [marks, List.map_map]
    apply List.ext_getElem
    · simp
    · intro i h1 h2; simp
  rw [e, made_list]
theorem marks_set' (n : Nat) (f : Nat → Bool) (k : Nat) (b : Bool) : ((marks n f).map Value.bool).toArray.setIfInBounds k (.bool b) = ((marks n (PlT.upd f k b)).map Value.bool).toArray := by
  rw [List.setIfInBounds_toArray, ← List.map_set, marks_set]
  rfl
theorem own_mark {w : World} {base g n c k : Nat} {f : Nat → Bool} (h : w.ownsRow base 4 1 (.slice (some ⟨g, 0, none⟩) n c) n ((marks n f).map Value.bool)) (hk : k < n) : w.cell? ⟨g, k, none⟩ = some (.bool (f k)) := by
  rw [h.cellAt k (by omega), List.getElem?_map, List.getElem?_eq_getElem (by rw [marks_len]; exact hk), marks_get]; rfl
abbrev RcL (w : World) (sp : Array Value) (go gb : Nat) (vs : List Value) (R : List (List Nat)) (vc vk : Value) (n m : Nat) (cf : Nat → Int) (Kf M : Nat → Bool) : List (Ch w.heap.size) :=
  [cB w.heap.size go 4 ((marks n M).map Value.bool).toArray, cR w.heap.size 4 1 vk m ((marks m Kf).map Value.bool), cG w.heap.size gb 33 3 vs R, cR w.heap.size 3 1 vc n (nums n cf), cB w.heap.size w.heap.size 25 sp]
def RcA (w : World) (sp : Array Value) (go gb : Nat) (vs : List Value) (R : List (List Nat)) (vc vk : Value) (n m : Nat) (cf : Nat → Int) (Kf S good : Nat → Bool) (gh : Nat) (vt i : Value) (wr : World) : Prop :=
  ∃ k, gh = n - k ∧ k ≤ n ∧ i = .int .i64 (k : Int) ∧ Mem w (cR w.heap.size 3 1 vt (PlT.q0 S good k).length ((PlT.q0 S good k).map I) :: RcL w sp go gb vs R vc vk n m cf Kf (fun j => decide (j ∈ PlT.q0 S good k))) wr
def RcB (w : World) (sp : Array Value) (go gb : Nat) (vs : List Value) (R : List (List Nat)) (vc vk : Value) (n m : Nat) (cf : Nat → Int) (Kf : Nat → Bool) (G : Nat → List Nat) (S good : Nat → Bool) (gh : Nat) (vt : Value) (wr : World) : Prop :=
  ∃ M T, gh = 2 * PlT.falseC n M + T.length ∧ gh ≤ 3 * n ∧ Mem w (cR w.heap.size 3 1 vt T.length (T.map I) :: RcL w sp go gb vs R vc vk n m cf Kf M) wr ∧ PlT.CI n G S good M T
def RcC (w : World) (sp : Array Value) (go gb : Nat) (vs : List Value) (R : List (List Nat)) (vc vk : Value) (n m : Nat) (cf : Nat → Int) (Kf : Nat → Bool) (G : Nat → List Nat) (S good : Nat → Bool) (k : Nat) (row : List Nat) (mm : Nat) (gh : Nat) (vt jv : Value) (wr : World) : Prop :=
  ∃ M T j, gh = row.length - j ∧ j ≤ row.length ∧ jv = .int .i64 (j : Int) ∧ 2 * PlT.falseC n M + T.length < mm ∧ Mem w (cR w.heap.size 3 1 vt T.length (T.map I) :: RcL w sp go gb vs R vc vk n m cf Kf M) wr ∧ PlT.CJ n G S good M T k row j

set_option maxRecDepth 100000 in
set_option maxHeartbeats 8000000 in
theorem rfcore_ok (E : List Nat) (L : List (List Arc)) (v : Value) (hE : WfE E) (hL : WfL L) (hok : PlS.spaceOk E L = true) (S : List Bool) (hSl : S.length = E.length) (A : Option Addr) (c : Nat) (w : World) (hS : SpaceAt w w.heap.size v E L) (hSr : Reads w w.heap.size 1 A S.length (S.map Value.bool)) :
    Calls Try.prog 13 #[v, .slice A S.length c] w (MarksPost w S.length (fun f => ∀ k, k < S.length → (f k = true ↔ PlT.FCore S.length E L (isIn S) k))) := by
  have HS := Lib.hid hS
  obtain ⟨ve, va, rfl, ⟨Ae, ce, rfl, re⟩, ⟨Aa, ca, rows, rfl, ra, hk⟩⟩ := hS
  obtain ⟨hn1, hn2, hn3, hto⟩ := PlG.ok_parts hok
  obtain ⟨ad, hA, -⟩ := ra.2 (by omega)
  subst hA
  obtain ⟨sd, hA, -⟩ := hSr.2 (by omega)
  subst hA
  have HB0 := Lib.hid ((Below.refl w.heap.size w).alloc (Nat.le_refl _) (.cells #[.slice Ae E.length ce, .slice (some ad) L.length ca] 25))
  have RA := Lib.hid ra
  have HK := Lib.hid hk
  have HE := Lib.hid hE
  have HL := Lib.hid hL
  have SR := Lib.hid hSr
  have HOK := Lib.hid hok
  have HSE := Lib.hid hSl
  have H := Lib.hid (chk_ok hok hSl)
  have HSL := Lib.hid (show S.length = L.length by omega)
  have HN := Lib.hid (show 1 ≤ S.length ∧ S.length ≤ 32768 by omega)
  have HTO := Lib.hid (show ∀ k (hk : k < L.length), ∀ x ∈ L[k], 0 ≤ x.2 ∧ x.2 < (S.length : Int) from fun k hk x hx => by have := hto k hk x hx; omega)
  have HGL := Lib.hid (show ∀ k t, t ∈ PlG.tg L k → t < S.length from fun k t ht => tg_lt' HTO.out ht)
  have hn5 : S.length ≤ 32768 := by omega
  have hn6 : L.length ≤ 32768 := by omega
  clear hE hL hok hSr re ra hk hSl hn1 hn2 hn3 hto
  go_enter Try.func13, Try.ntmps13
  go_wp2_with fail
  refine (rbegin_is E L _ HE.out HL.out (some sd) S.length c 0 H.out _ (HS.out.go HB0.out)).mono ?_
  rintro e w1 ⟨rfl, hb1⟩
  have hM1 := ((Mem.start w).new 25 #[.slice Ae E.length ce, .slice (some ad) L.length ca]).below hb1
  obtain ⟨p0, p1, pf⟩ := blk2 (hM1.get 0 rfl).2
  have lbs := (hM1.get 0 rfl).2.lt
  have HM1 := Lib.hid hM1
  clear hb1 hM1 HB0
  go_upto_region 4 with fail
  have rule := below_rule w1
  have HC1 := Lib.hid (fun X (hX : Below w1.heap.size w1 X) => rcomponents_ok E L _ HL.out S HSL.out HN.out.1 HN.out.2 HTO.out (some sd) c X (HS.out.go (below_end hX HM1.out.bel)) (SR.out.go (below_end hX HM1.out.bel)))
  have HC2 := Lib.hid (fun X (hX : Below w1.heap.size w1 X) => back_ok E L _ HL.out S HSL.out HN.out.1 HN.out.2 HTO.out (some sd) c X (HS.out.go (below_end hX HM1.out.bel)) (SR.out.go (below_end hX HM1.out.bel)))
  go_cut [7, 8] (fun p q wx => ∃ (gb : Nat) (vs : List Value) (R : List (List Nat)) (vc : Value), q = .slice (some ⟨gb, 0, none⟩) S.length S.length ∧ p = vc ∧ Mem w [cG w.heap.size gb 33 3 vs R, cR w.heap.size 3 1 vc S.length (nums S.length (PlT.num S.length (PlG.tg L) (isIn S))), cB w.heap.size w.heap.size 25 #[.slice Ae E.length ce, .slice (some ad) L.length ca]] wx ∧ PlT.SrcS L S.length (isIn S) (fun t => !isIn S t) R S.length 0)
  case first =>
    go_region_held3 (fun X => Below w1.heap.size w1 X) (first | exact Below.refl _ _ | exact Below.drew (Below.refl _ _) | assumption | exact below_step (by assumption) (by assumption)) (first
      | (go_at_call 29; (with_reducible refine (HC1.out _ ?_).mono ?_); (first | exact Below.refl _ _ | exact Below.drew (Below.refl _ _) | assumption | exact below_step (by assumption) (by assumption)); rintro e wb ⟨vb, rfl, hob, hbb⟩)
      | (go_at_call 30; (with_reducible refine (HC2.out _ ?_).mono ?_); (first | exact Below.refl _ _ | exact Below.drew (Below.refl _ _) | assumption | exact below_step (by assumption) (by assumption)); rintro e wa ⟨ga, vsa, Ra, rfl, hga, bga, hsa, hba⟩))
    all_goals
      go_wp2_with fail
      go_meet
      have h1 := HM1.out.drew.pushRow hbb hob
      have h2 := h1.pushGrid hba hga bga
      exact ⟨ga, vsa, Ra, vb, rfl, rfl, h2, hsa⟩
  case rest =>
    obtain ⟨gb, vs, R, vc, rfl, rfl, hM2, hsrc⟩ := hcut
    obtain ⟨Ac, cc, hvc⟩ := own_sl (hM2.get 1 rfl)
    subst hvc
    have HM2 := Lib.hid hM2
    have HSRC := Lib.hid hsrc
    clear HC1 HC2 rule p0 p1 pf lbs HM1 hsrc
    obtain ⟨p0, p1, pf⟩ := blk2 (hM2.get 2 rfl).2
    clear hM2
    go_wp2_with fail
    refine (rkept_num E L _ HE.out HL.out HOK.out S HSE.out w.heap.size Ac cc _ (HS.out.go HM2.out.bel) (HM2.out.get 1 rfl)).mono ?_
    rintro e w3 ⟨vk, rfl, hok3, hb3⟩
    have hM3 := HM2.out.pushRow hb3 hok3
    obtain ⟨Ak, ckk, hvk⟩ := own_sl hok3
    subst hvk
    have hmk2 := run_make_row' (P := Try.prog) 26 4 (.bool false) 1 Try.underlying26 Try.infoBool rfl .i64 .i64 S.length (by omega) (by omega)
    have HM3 := Lib.hid (show Mem w (cR w.heap.size 3 1 (.slice none 0 0) (PlT.q0 (isIn S) (PlT.goodB S.length E L (isIn S)) 0).length ((PlT.q0 (isIn S) (PlT.goodB S.length E L (isIn S)) 0).map I) :: RcL w #[.slice Ae E.length ce, .slice (some ad) L.length ca] w3.heap.size gb vs R (.slice Ac S.length cc) (.slice Ak (PlT.cnum S.length (PlG.tg L) (isIn S) S.length) ckk) S.length (PlT.cnum S.length (PlG.tg L) (isIn S) S.length) (PlT.num S.length (PlG.tg L) (isIn S)) (PlT.keptN S.length E L (isIn S)) (fun j => decide (j ∈ PlT.q0 (isIn S) (PlT.goodB S.length E L (isIn S)) 0))) (w3.alloc (.cells (madeCells #[.bool false] S.length) 4)) from by
      have h := (hM3.new 4 (madeCells #[.bool false] S.length)).nil_ 3 1
      rw [marks_made] at h
      rw [marks_made]
      exact h)
    have hbz := hM3.size
    have hb3z := hb3.size
    clear hM3 hok3 hb3 p0 p1 pf HM2
    go_wp2_with fail
    clear hmk2
    generalize hgo : w3.heap.size = go at *
    have HGD := Lib.hid (show ∀ y, PlT.goodB S.length E L (isIn S) y = ((PlG.tg L y).isEmpty || PlT.keptN S.length E L (isIn S) (PlT.num S.length (PlG.tg L) (isIn S) y).toNat) from fun _ => rfl)
    have HFC := Lib.hid (show ∀ k, PlT.FC (PlG.tg L) (isIn S) (PlT.goodB S.length E L (isIn S)) k ↔ PlT.FCore S.length E L (isIn S) k from fun _ => Iff.rfl)
    have HNL := Lib.hid (fun k (hk : k < S.length) hs => PlT.num_lt (G := PlG.tg L) (S := isIn S) hk hs)
    have hmn : PlT.cnum S.length (PlG.tg L) (isIn S) S.length ≤ S.length := PlT.cnum_le _ _ _ _
    generalize PlT.goodB S.length E L (isIn S) = good at *
    generalize PlT.cnum S.length (PlG.tg L) (isIn S) S.length = m at *
    generalize PlT.keptN S.length E L (isIn S) = Kf at *
    generalize PlT.num S.length (PlG.tg L) (isIn S) = cf at *
    obtain ⟨i0, hi0, hz0, hz1, hz2⟩ := info_parts Try.infoIntG
    clear hgo
    go_loopg [11, 12] S.length (RcA w #[.slice Ae E.length ce, .slice (some ad) L.length ca] go gb vs R (.slice Ac S.length cc) (.slice Ak m ckk) S.length m cf Kf (isIn S) good)
    case atStart => exact ⟨0, rfl, Nat.zero_le _, rfl, HM3.out⟩
    case round =>
      clear HM3
      obtain ⟨k, hgh, hk, rfl, hM⟩ := hrel
      have HM := Lib.hid hM
      obtain ⟨At, ct, hvt⟩ := own_sl (hM.get 0 rfl)
      subst hvt
      have hql := PlT.q0_len (isIn S) good k
      by_cases hlt : k < S.length
      · obtain ⟨sd', hA, hbl, cS⟩ := bool_at (SR.out.below hM.bel) hlt
        obtain rfl : sd = sd' := by injection hA
        rw [← isIn_of hlt] at cS
        have k0 : (0 : Int) ≤ (k : Int) := by omega
        have k1 : (k : Int) < (S.length : Int) := by omega
        have HQS := Lib.hid (PlT.q0_succ (isIn S) good k)
        have lsz := hM.size
        clear hA
        cases hs : isIn S k
        · rw [hs] at cS
          have hkL : k < L.length := by have := HSL.out; omega
          obtain ⟨aL, Akk, ck, hAL, hbla, cr, rk⟩ := row_at (RA.out.below hM.bel) (fun k l hl => let ⟨u, hu, ha⟩ := HK.out k l hl; (⟨u, hu, ha.below hM.bel⟩ : ∃ u, rows[k]? = some u ∧ ArcsAt wr w.heap.size u l)) hkL
          obtain rfl : ad = aL := by injection hAL
          have hll := (HL.out k hkL).1
          have HTL := Lib.hid (PlG.tg_len L k hkL)
          have hgd := HGD.out k
          have hemp : (PlG.tg L k).isEmpty = decide (L[k].length = 0) := by rw [← HTL.out]; cases PlG.tg L k <;> simp
          rw [hemp] at hgd
          generalize L[k] = l at *
          have hnl := HNL.out k hlt hs
          obtain ⟨ac, hAc, -, cK⟩ := num_rd (Reads.of_own (hM.get 4 rfl)) hlt
          subst hAc
          obtain ⟨J, hJ⟩ : ∃ J : Nat, cf k = (J : Int) := ⟨_, (Int.toNat_of_nonneg hnl.1).symm⟩
          rw [hJ] at hgd hnl cK
          rw [Int.toNat_natCast] at hgd
          have hJm : J < m := by omega
          have J0 : (0 : Int) ≤ (J : Int) := by omega
          have J1 : (J : Int) < (m : Int) := by omega
          obtain ⟨gk2, ck2, hfk, -, -⟩ := World.ownsRow.form (hM.get 2 rfl) (by omega)
          injection hfk with hfk _ hck2
          subst hfk hck2
          have cB0 := own_mark (hM.get 2 rfl) hJm
          have cO := mark_at (hM.get 1 rfl).2 hlt
          have cOf := (hM.get 1 rfl).2.frozen k
          have lO := (hM.get 1 rfl).2.lt
          obtain ⟨p0, p1, pf⟩ := blk2 (hM.get 5 rfl).2
          have hqs := HQS.out
          rw [hs] at hqs
          simp only [Bool.not_false, Bool.true_and] at hqs
          by_cases hg : good k = true
          · rw [hg] at hqs
            simp only [if_true] at hqs
            have HQG := Lib.hid hqs
            have HM1 := Lib.hid ((hM.set_ 1 rfl k (.bool true) (marks_set' _ _ k true)).blkc 1 rfl (show ((marks S.length (PlT.upd (fun j => decide (j ∈ PlT.q0 (isIn S) good k)) k true)).map Value.bool).toArray = ((marks S.length (fun j => decide (j ∈ PlT.q0 (isIn S) good k ++ [k]))).map Value.bool).toArray by
              rw [marks_congr (g := fun j => decide (j ∈ PlT.q0 (isIn S) good k ++ [k])) (fun j _ => by
                unfold PlT.upd
                by_cases e : j = k
                · subst e; rw [if_pos rfl]; simp
                · rw [if_neg e]; simp [e])]))
            rw [hg] at hgd
            by_cases hl0 : l.length = 0
            · have t1 : ((l.length : Int) == 0) = true := by rw [hl0]; rfl
              clear hM hAL rk hJ hs hgd hqs HQS hemp hg hl0
              go_upto_region 13 with fail
              generalize hW5 : wr.setCell _ _ = W5
              rw [hW5] at HM1
              have HOW := Lib.hid (HM1.out.get 0 rfl)
              have lsz5 := HM1.out.size
              clear hW5 HM cS cK cB0 cr cO cOf lO p0 p1 pf
              go_wp2_with (at_builtin; refine wpList_append_any _ rfl (.tmp 66) (.tmp 68) 33 rfl w.heap.size 3 i0 (.int .i64 0) 1 8 Try.underlying33 hi0 hz0 hz1 hz2 rfl (by decide) (.slice At (PlT.q0 (isIn S) good k).length ct) (PlT.q0 (isIn S) good k).length ((PlT.q0 (isIn S) good k).map I) rfl (World.ownsRow.alloc HOW.out _) (W5.heap.size + 1) (some ⟨W5.heap.size, 0, none⟩) 1 1 [I k] rfl (reads_new1 _ _ _) (one_I k) (len_ok (by omega)) (by omega) (by simp; omega) ?_; intro v1 x1 ho1 hg1 hv1; have HA := Lib.hid (HM1.out.app 0 (S := W5.heap.size + 1) rfl (grown_pre hg1) ho1 (by simpa using hv1) (by omega)); clear ho1 hg1 hv1)
              go_roundg (S.length - (k + 1))
              case measure => omega
              case rel =>
                refine ⟨k + 1, rfl, by omega, by go_num, ?_⟩
                rw [HQG.out, List.length_append, List.map_append]
                exact HA.out
            · have t1 : ((l.length : Int) == 0) = false := beq_eq_false_iff_ne.2 (by omega)
              rw [decide_eq_false hl0, Bool.false_or] at hgd
              rw [← hgd] at cB0
              clear hM hAL rk hJ hs hgd hqs HQS hemp hg hl0
              go_upto_region 13 with fail
              generalize hW5 : wr.setCell _ _ = W5
              rw [hW5] at HM1
              have HOW := Lib.hid (HM1.out.get 0 rfl)
              have lsz5 := HM1.out.size
              clear hW5 HM cS cK cB0 cr cO cOf lO p0 p1 pf
              go_wp2_with (at_builtin; refine wpList_append_any _ rfl (.tmp 66) (.tmp 68) 33 rfl w.heap.size 3 i0 (.int .i64 0) 1 8 Try.underlying33 hi0 hz0 hz1 hz2 rfl (by decide) (.slice At (PlT.q0 (isIn S) good k).length ct) (PlT.q0 (isIn S) good k).length ((PlT.q0 (isIn S) good k).map I) rfl (World.ownsRow.alloc HOW.out _) (W5.heap.size + 1) (some ⟨W5.heap.size, 0, none⟩) 1 1 [I k] rfl (reads_new1 _ _ _) (one_I k) (len_ok (by omega)) (by omega) (by simp; omega) ?_; intro v1 x1 ho1 hg1 hv1; have HA := Lib.hid (HM1.out.app 0 (S := W5.heap.size + 1) rfl (grown_pre hg1) ho1 (by simpa using hv1) (by omega)); clear ho1 hg1 hv1)
              go_roundg (S.length - (k + 1))
              case measure => omega
              case rel =>
                refine ⟨k + 1, rfl, by omega, by go_num, ?_⟩
                rw [HQG.out, List.length_append, List.map_append]
                exact HA.out
          · have hg' : good k = false := by simpa using hg
            rw [hg'] at hqs
            simp only [Bool.false_eq_true, if_false, List.append_nil] at hqs
            have HQG := Lib.hid hqs
            rw [hg'] at hgd
            have hgd2 := (Bool.or_eq_false_iff.1 hgd.symm)
            have t1 : ((l.length : Int) == 0) = false := by rw [beq_eq_false_iff_ne]; have := of_decide_eq_false hgd2.1; omega
            rw [hgd2.2] at cB0
            clear hM hAL rk hJ hs hgd hqs HQS hemp hg hg' hgd2
            go_wp2
            go_roundg (S.length - (k + 1))
            case measure => omega
            case rel => exact ⟨k + 1, rfl, by omega, by go_num, by rw [HQG.out]; exact HM.out⟩
        · rw [hs] at cS
          have hqs := HQS.out
          rw [hs] at hqs
          simp only [Bool.not_true, Bool.false_and, Bool.false_eq_true, if_false, List.append_nil] at hqs
          have HQG := Lib.hid hqs
          clear hM hs hqs HQS
          go_wp2
          go_roundg (S.length - (k + 1))
          case measure => omega
          case rel => exact ⟨k + 1, rfl, by omega, by go_num, by rw [HQG.out]; exact HM.out⟩
      · obtain rfl : S.length = k := by omega
        have HCI := Lib.hid (PlT.CI.start (n := S.length) (G := PlG.tg L) (S := isIn S) (good := good))
        have hfl := PlT.falseC_le S.length (fun j => decide (j ∈ PlT.q0 (isIn S) good S.length))
        clear hM
        generalize (fun j => decide (j ∈ PlT.q0 (isIn S) good S.length)) = M0 at *
        generalize PlT.q0 (isIn S) good S.length = T0 at *
        go_wp2_with fail
        go_loopg [11] (2 * PlT.falseC S.length M0 + T0.length) (RcB w #[.slice Ae E.length ce, .slice (some ad) L.length ca] go gb vs R (.slice Ac S.length cc) (.slice Ak m ckk) S.length m cf Kf (PlG.tg L) (isIn S) good)
        case atStart => exact ⟨M0, T0, rfl, by omega, HM.out, HCI.out⟩
        case round =>
          clear HM HCI hfl hql
          obtain ⟨M, T, hgh, hle2, hM, hB⟩ := hrel
          obtain ⟨At, ct, hvt⟩ := own_sl (hM.get 0 rfl)
          subst hvt
          rcases List.eq_nil_or_concat T with rfl | ⟨T0, y, rfl⟩
          · have HF := Lib.hid (show MarksPost w S.length (fun f => ∀ k, k < S.length → (f k = true ↔ PlT.FCore S.length E L (isIn S) k)) (.returned (.tuple #[.slice (some ⟨go, 0, none⟩) S.length S.length, .int .i64 0])) wr from
              ⟨go, M, rfl, (hM.get 1 rfl).1, (hM.get 1 rfl).2, fun k hk => (hB.end_ HGL.out k hk).trans (HFC.out k), hM.bel⟩)
            clear hM hB
            go_wp2
            go_ret2
            exact HF.out
          · rw [List.concat_eq_append] at hM hB hgh ⊢
            have hlen : (T0 ++ [y]).length = T0.length + 1 := by simp
            rw [hlen] at hM hgh ⊢
            have hrt := hM.get 0 rfl
            obtain ⟨gt, ct', hft, -, -⟩ := World.ownsRow.form hrt (by omega)
            injection hft with hft _ hct
            subst hft hct
            have cy := own_at hrt (k := T0.length) (x := y) (by simp)
            have hcap := own_cap hrt
            have hpop := own_take hrt
            rw [List.map_append, List.take_left' (by simp)] at hpop
            have HMP := Lib.hid (hM.slice_ 0 rfl hpop rfl)
            obtain ⟨hyn, hys⟩ := hB.lt (y := y) (by simp)
            have HGR := Lib.hid (hM.get 3 rfl).2
            have hyR : y < R.length := by rw [HSRC.out.len]; exact hyn
            have hyv : y < vs.length := by rw [HGR.out.len]; exact hyR
            have gcell := HGR.out.blk.get hyv
            obtain ⟨Ay, cyy, hvy⟩ := own_sl (HGR.out.row y hyv hyR)
            rw [hvy] at gcell
            have HVY := Lib.hid hvy
            have HSF := Lib.hid (fun t => HSRC.out.fin (t := y) (x := t) hyn)
            have hsize := HSRC.out.size y
            rw [List.getD_eq_getElem?_getD, List.getElem?_eq_getElem hyR, Option.getD_some] at hsize
            have hgr' : R.getD y [] = R[y] := by rw [List.getD_eq_getElem?_getD, List.getElem?_eq_getElem hyR, Option.getD_some]
            rw [hgr'] at HSF
            have HJ := Lib.hid (hB.pop R[y])
            have HGX := Lib.hid (fun (X : World) (vt : Value) (mm : Nat) (xs : List Value) (M' : Nat → Bool) (hX : Mem w (cR w.heap.size 3 1 vt mm xs :: RcL w #[.slice Ae E.length ce, .slice (some ad) L.length ca] go gb vs R (.slice Ac S.length cc) (.slice Ak m ckk) S.length m cf Kf M') X) =>
              (show X.cell? ⟨gb, y, none⟩ = some (.slice Ay R[y].length cyy) ∧ X.ownsRow w.heap.size 3 1 (.slice Ay R[y].length cyy) R[y].length (R[y].map I) from by
                have hg := (hX.get 3 rfl).2
                have h1 := hg.blk.get hyv
                have h2 := hg.row y hyv hyR
                rw [HVY.out] at h1 h2
                exact ⟨h1, h2⟩))
            have hrl : R[y].length ≤ 40000000000 := by omega
            generalize R[y] = row at *
            have y0 : (0 : Int) ≤ (y : Int) := by omega
            have y1 : (y : Int) < (S.length : Int) := by omega
            have w1 := IntWalk.i64_in (T0.length : Int) (by omega)
            have w2 : ((T0.length : Int) + 1) - 1 = (T0.length : Int) := by omega
            have w3 : (0 : Int) < (T0.length : Int) + 1 := by omega
            have c0 : (0 : Int) ≤ (T0.length : Int) := by omega
            have c1 : (T0.length : Int) ≤ (ct : Int) := by omega
            have c2 : (T0.length : Int) ≤ (T0.length : Int) + 1 := by omega
            have hgh' : 2 * PlT.falseC S.length M + T0.length < gk := by omega
            clear hM hB hrt hpop hlen HGR hvy hgr' hsize
            go_wp2_with fail
            go_loopg [11, 14] row.length (RcC w #[.slice Ae E.length ce, .slice (some ad) L.length ca] go gb vs R (.slice Ac S.length cc) (.slice Ak m ckk) S.length m cf Kf (PlG.tg L) (isIn S) good y row gk)
            case atStart => exact ⟨M, T0, 0, rfl, Nat.zero_le _, rfl, hgh', HMP.out, HJ.out⟩
            case round =>
              clear HMP HJ cy gcell w1 w2 w3 c0 c1 c2 hcap hgh hgh'
              obtain ⟨M, T, j, hgh3, hjl, rfl, hms, hM, hJ⟩ := hrel
              obtain ⟨At, ct, hvt⟩ := own_sl (hM.get 0 rfl)
              subst hvt
              obtain ⟨cg, hown⟩ := HGX.out _ _ _ _ _ hM
              have HM := Lib.hid hM
              have HJ := Lib.hid hJ
              have hszM := hM.size
              by_cases hj : j < row.length
              · obtain ⟨gy, cy', hfy, -, -⟩ := World.ownsRow.form hown (by omega)
                injection hfy with hfy _ hcy
                subst hfy hcy
                have hrow : row[j]? = some row[j] := List.getElem?_eq_getElem hj
                have ct1 := own_at hown hrow
                obtain ⟨-, hts, htn, htg⟩ := (HSF.out row[j]).1 (List.getElem_mem hj)
                have HROW := Lib.hid hrow
                generalize row[j] = t at *
                have br := (hM.get 1 rfl).2
                have cr := mark_at br htn
                have fr := br.frozen t
                have lr := br.lt
                have t1 : decide ((j : Int) < (row.length : Int)) = true := decide_eq_true (by omega)
                have t1' : decide (j < row.length) = true := decide_eq_true hj
                have j0 : (0 : Int) ≤ (j : Int) := by omega
                have j1 : (j : Int) < (row.length : Int) := by omega
                have t0 : (0 : Int) ≤ (t : Int) := by omega
                have t2 : (t : Int) < (S.length : Int) := by omega
                clear hM hJ hown br hrow
                cases hr : M t with
                | true =>
                  rw [hr] at cr
                  have HJ1 := Lib.hid (HJ.out.skip HROW.out hr)
                  clear hr
                  go_wp2
                  go_roundg (row.length - (j + 1))
                  case measure => omega
                  case rel => exact ⟨M, T, j + 1, rfl, by omega, by go_num, hms, HM.out, HJ1.out⟩
                | false =>
                  rw [hr] at cr
                  have HJ1 := Lib.hid (HJ.out.mark HROW.out htn hts htg)
                  have HM1 := Lib.hid (HM.out.set_ 1 rfl t (.bool true) (marks_set' S.length M t true))
                  have hnc := PlT.falseC_upd htn hr
                  clear hr
                  go_upto_region 23 with fail
                  generalize hW5 : wr.setCell _ _ = W5
                  rw [hW5] at HM1
                  have HOW := Lib.hid (HM1.out.get 0 rfl)
                  have lsz5 := HM1.out.size
                  clear hW5 HM cr fr lr cg ct1
                  go_wp2_with (at_builtin; refine wpList_append_any _ rfl (.tmp 108) (.tmp 110) 33 rfl w.heap.size 3 i0 (.int .i64 0) 1 8 Try.underlying33 hi0 hz0 hz1 hz2 rfl (by decide) (.slice At T.length ct) T.length (T.map I) rfl (World.ownsRow.alloc HOW.out _) (W5.heap.size + 1) (some ⟨W5.heap.size, 0, none⟩) 1 1 [I t] rfl (reads_new1 _ _ _) (one_I t) (len_ok (by omega)) (by omega) (by simp; omega) ?_; intro v1 x1 ho1 hg1 hv1; have HA := Lib.hid (HM1.out.app 0 (S := W5.heap.size + 1) rfl (grown_pre hg1) ho1 (by simpa using hv1) (by omega)); clear ho1 hg1 hv1)
                  go_roundg (row.length - (j + 1))
                  case measure => omega
                  case rel => exact ⟨_, T ++ [t], j + 1, rfl, by omega, by go_num, by simp; omega, by rw [List.length_append, List.map_append]; exact HA.out, HJ1.out⟩
              · have t1 : decide ((j : Int) < (row.length : Int)) = false := decide_eq_false (by omega)
                have t1' : decide (j < row.length) = false := decide_eq_false hj
                have HJ2 := Lib.hid (HJ.out.end_ (by omega) (fun z hz hs hg => (HSF.out z).2 ⟨by rw [hys]; rfl, hs, hz, hg⟩))
                clear hM hJ hown
                go_wp2
                go_roundg (2 * PlT.falseC S.length M + T.length)
                case measure => omega
                case rel => exact ⟨M, T, rfl, by omega, HM.out, HJ2.out⟩
end Go.Proofs.Ytnjbofahboopoaa
