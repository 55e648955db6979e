/- ref21.components. -/
import Derived.Test.YtnjbofahboopoaaMC
import Derived.Test.YtnjbofahboopoaaPlB
import Derived.Test.YtnjbofahboopoaaB2
import Derived.Deep.RegionHeld3
namespace Go.Proofs.Ytnjbofahboopoaa
open Go.RowKit

theorem tg_lt' {L : List (List Arc)} {n : Nat} (hto : ∀ k (hk : k < L.length), ∀ x ∈ L[k], 0 ≤ x.2 ∧ x.2 < (n : Int)) {k t : Nat} (h : t ∈ PlG.tg L k) : t < n := by
  unfold PlG.tg at h
  obtain ⟨a, ha, rfl⟩ := List.mem_map.1 h
  by_cases hk : k < L.length
  · rw [List.getD_eq_getElem?_getD, List.getElem?_eq_getElem hk] at ha
    have := hto k hk a ha
    omega
  · rw [List.getD_eq_getElem?_getD, List.getElem?_eq_none (by omega)] at ha
    cases ha
theorem one_Z (z : Int) : ∀ u ∈ [Value.int .i64 z], u.oneCell' = true := by simp [Value.oneCell']
theorem nums_snoc (k : Nat) (f : Nat → Int) : nums (k + 1) f = nums k f ++ [.int .i64 (f k)] := by
  unfold nums; rw [List.range_succ, List.map_append]; rfl
theorem nums_set_nR (n : Nat) (r : Nat → Option Nat) (k i : Nat) : (nums n (nR r)).toArray.setIfInBounds k (.int .i64 (i : Int)) = (nums n (nR (PlT.upd r k (some i)))).toArray := by
  rw [List.setIfInBounds_toArray]
  congr 1
  unfold nums
  apply List.ext_getElem
  · simp
  · intro j h1 h2
    rw [List.getElem_set]
    simp only [List.getElem_map, List.getElem_range]
    by_cases e : k = j
    · subst e; rw [if_pos rfl]; unfold nR; rw [PlT.upd_same]; rfl
    · rw [if_neg e]; unfold nR; rw [PlT.upd_ne _ _ (Ne.symm e)]
theorem nums_set_f (n : Nat) (f g : Nat → Int) (k : Nat) (z : Int) (h : ∀ q, g q = PlT.upd f k z q) : (nums n f).toArray.setIfInBounds k (.int .i64 z) = (nums n g).toArray := by
  rw [List.setIfInBounds_toArray]
  congr 1
  unfold nums
  apply List.ext_getElem
  · simp
  · intro j h1 h2
    rw [List.getElem_set]
    simp only [List.getElem_map, List.getElem_range]
    rw [h]
    by_cases e : k = j
    · subst e; rw [if_pos rfl, PlT.upd_same]
    · rw [if_neg e, PlT.upd_ne _ _ (Ne.symm e)]

theorem own_at {w : World} {base e g n c k x : Nat} {l : List Nat} (h : w.ownsRow base e 1 (.slice (some ⟨g, 0, none⟩) n c) n (l.map I)) (hk : l[k]? = some x) : w.cell? ⟨g, k, none⟩ = some (.int .i64 (x : Int)) := by
  have hl : k < l.length := (List.getElem?_eq_some_iff.1 hk).1
  have h1 := h.1
  have := h.cellAt k (by rw [List.length_map] at h1; omega)
  rw [this, List.getElem?_map, hk]
  rfl
/-- what ref21.components returns: a slice of the call's own -/
def OwnNums (w : World) (n : Nat) (f : Nat → Int) (e : Ending) (w' : World) : Prop :=
  ∃ v, e = .returned v ∧ w'.ownsRow w.heap.size 3 1 v n (nums n f) ∧ Below w.heap.size w w'
abbrev CpL (w : World) (sp : Array Value) (gr gb : Nat) (vs : List Value) (R : List (List Nat)) (vo : Value) (O : List Nat) (n : Nat) (r : Nat → Option Nat) : List (Ch w.heap.size) :=
  [cR w.heap.size 3 1 vo O.length (O.map I), cG w.heap.size gb 33 3 vs R, cB w.heap.size gr 3 (nums n (nR r)).toArray, cB w.heap.size w.heap.size 25 sp]
def CpA (w : World) (sp : Array Value) (gr gb : Nat) (vs : List Value) (R : List (List Nat)) (vo : Value) (O : List Nat) (n : Nat) (G : Nat → List Nat) (S : Nat → Bool) (gh : Nat) (i : Value) (wr : World) : Prop :=
  ∃ r, gh ≤ O.length ∧ ((gh = 0 ∧ i = .int .i64 (-1)) ∨ ∃ k, gh = k + 1 ∧ i = .int .i64 (k : Int)) ∧ Mem w (CpL w sp gr gb vs R vo O n r) wr ∧ PlT.KI n G S O gh r
def CpB (w : World) (sp : Array Value) (gr gb : Nat) (vs : List Value) (R : List (List Nat)) (vo : Value) (O : List Nat) (n : Nat) (G : Nat → List Nat) (S : Nat → Bool) (i x : Nat) (r0 : Nat → Option Nat) (gh : Nat) (vt : Value) (wr : World) : Prop :=
  ∃ r T, gh = 2 * PlT.noneC n r + T.length ∧ gh ≤ 2 * n + 1 ∧ Mem w (cR w.heap.size 3 1 vt T.length (T.map I) :: CpL w sp gr gb vs R vo O n r) wr ∧ PlT.SBI n G S i x r0 r T
def CpC (w : World) (sp : Array Value) (gr gb : Nat) (vs : List Value) (R : List (List Nat)) (vo : Value) (O : List Nat) (n : Nat) (G : Nat → List Nat) (S : Nat → Bool) (i x : Nat) (r0 : Nat → Option Nat) (k : Nat) (row : List Nat) (m : Nat) (gh : Nat) (vt jv : Value) (wr : World) : Prop :=
  ∃ r T j, gh = row.length - j ∧ j ≤ row.length ∧ jv = .int .i64 (j : Int) ∧ 2 * PlT.noneC n r + T.length < m ∧ Mem w (cR w.heap.size 3 1 vt T.length (T.map I) :: CpL w sp gr gb vs R vo O n r) wr ∧ PlT.SBJ n G S i x r0 r T k row j

set_option maxRecDepth 100000 in
set_option maxHeartbeats 8000000 in
theorem rcomponents_ok (E : List Nat) (L : List (List Arc)) (v : Value) (hL : WfL L) (S : List Bool) (hSL : S.length = L.length) (hn1 : 1 ≤ S.length) (hn : S.length ≤ 32768) (hto : ∀ k (hk : k < L.length), ∀ x ∈ L[k], 0 ≤ x.2 ∧ x.2 < (S.length : Int))
    (Al : Option Addr) (cl : Nat) (w : World) (hS : SpaceAt w w.heap.size v E L) (hSr : Reads w w.heap.size 1 Al S.length (S.map Value.bool)) :
    Calls Try.prog 29 #[v, .slice Al S.length cl] w (OwnNums w S.length (PlT.num S.length (PlG.tg L) (isIn S))) := by
  have HSP := Lib.hid hS
  obtain ⟨ve, va, rfl, ⟨Ae, ce, rfl, re⟩, ⟨Aa, ca, rows, rfl, ra, hk⟩⟩ := hS
  obtain ⟨sd, hA, -⟩ := hSr.2 (by omega)
  subst hA
  have HL := Lib.hid hL
  have SR := Lib.hid hSr
  have HSL := Lib.hid hSL
  have HTO := Lib.hid hto
  have HGL := Lib.hid (show ∀ k t, t ∈ PlG.tg L k → t < S.length from fun k t ht => tg_lt' hto ht)
  clear re ra hk hL hSr hto hSL
  have hmk := run_make_row' (P := Try.prog) 33 3 (.int .i64 0) 8 Try.underlying33 Try.infoIntG rfl .i64 .i64 S.length (by omega) (by omega)
  obtain ⟨i0, hi0, hz0, hz1, hz2⟩ := info_parts Try.infoIntG
  have HST := Lib.hid (show Mem w [cB w.heap.size (w.heap.size + 1) 3 (nums S.length (fun j => if j < 0 then -1 else 0)).toArray, cB w.heap.size w.heap.size 25 #[.slice Ae E.length ce, .slice Aa L.length ca]]
      ((w.alloc (.cells #[.slice Ae E.length ce, .slice Aa L.length ca] 25)).alloc (.cells (madeCells #[.int .i64 0] S.length) 3)) from by
    have h := ((Mem.start w).new 25 #[.slice Ae E.length ce, .slice Aa L.length ca]).new 3 (madeCells #[.int .i64 0] S.length)
    rw [nums_made, World.size_alloc] at h
    rw [nums_made, nums_congr (g := fun _ => 0) (fun j => if_neg (Nat.not_lt_zero j))]
    exact h)
  go_enter Try.func29, Try.ntmps29
  go_wp2_with fail
  go_loopw [6] (fun i wr => ∃ k : Nat, k ≤ S.length ∧ i = .int .i64 k ∧ Mem w [cB w.heap.size (w.heap.size + 1) 3 (nums S.length (fun j => if j < k then -1 else 0)).toArray, cB w.heap.size w.heap.size 25 #[.slice Ae E.length ce, .slice Aa L.length ca]] wr) (fun i _ => S.length - (intOf i).toNat)
  case atStart => exact ⟨0, Nat.zero_le _, rfl, HST.out⟩
  case round =>
    clear HST
    obtain ⟨k, hk, rfl, hM⟩ := hrel
    by_cases hlt : k < S.length
    · have b1 := (hM.get 0 rfl).2
      have f1 := b1.frozen k
      have c1 := num_at b1 hlt
      have l1 := b1.lt
      have HM1 := Lib.hid (hM.set_ 0 rfl k (.int .i64 (-1)) (nums_set_f _ _ (fun j => if j < k + 1 then -1 else 0) k (-1) (fun q => by
        unfold PlT.upd
        dsimp only
        by_cases e : q = k
        · rw [if_pos e, if_pos (by omega)]
        · rw [if_neg e]
          by_cases h1 : q < k
          · rw [if_pos h1, if_pos (by omega)]
          · rw [if_neg h1, if_neg (by omega)])))
      have k0 : (0 : Int) ≤ (k : Int) := by omega
      have k1 : (k : Int) < (S.length : Int) := by omega
      clear hM b1
      go_wp2
      exact ⟨⟨k + 1, by omega, by go_num, HM1.out⟩, by simp [intOf]; omega⟩
    · obtain rfl : S.length = k := by omega
      have hM1 : Mem w [cB w.heap.size (w.heap.size + 1) 3 (nums S.length (nR (fun _ => none))).toArray, cB w.heap.size w.heap.size 25 #[.slice Ae E.length ce, .slice Aa L.length ca]] wr :=
        hM.blkc 0 rfl (by rw [nums_congr_lt (g := nR (fun _ => none)) (fun j hj => by rw [if_pos hj]; rfl)])
      clear hM hmk
      have HM := Lib.hid hM1
      have hbz := hM1.size
      obtain ⟨p0, p1, pf⟩ := blk2 (hM1.get 1 rfl).2
      have lbs := (hM1.get 1 rfl).2.lt
      have hz1' := (hM1.get 0 rfl).2.lt
      clear hM1
      go_upto_region 6 with fail
      have rule := below_rule wr
      have HC1 := Lib.hid (fun X (hX : Below wr.heap.size wr X) => back_ok E L _ HL.out S HSL.out hn1 hn HTO.out (some sd) cl X (HSP.out.go (below_end hX HM.out.bel)) (SR.out.go (below_end hX HM.out.bel)))
      have HC2 := Lib.hid (fun X (hX : Below wr.heap.size wr X) => finished_ok E L _ HL.out S HSL.out hn1 hn HTO.out (some sd) cl X (HSP.out.go (below_end hX HM.out.bel)) (SR.out.go (below_end hX HM.out.bel)))
      go_cut [7, 8] (fun p q wx => ∃ (gb : Nat) (vs : List Value) (R : List (List Nat)) (vo : Value) (O : List Nat), p = .slice (some ⟨gb, 0, none⟩) S.length S.length ∧ q = vo ∧ Mem w (CpL w #[.slice Ae E.length ce, .slice Aa L.length ca] (w.heap.size + 1) gb vs R vo O S.length (fun _ => none)) wx ∧ PlT.SrcS L S.length (isIn S) (fun t => !isIn S t) R S.length 0 ∧ PlT.FinO S.length (PlG.tg L) (isIn S) O)
      case first =>
        go_region_held3 (fun X => Below wr.heap.size wr X) (first | exact Below.refl _ _ | exact Below.drew (Below.refl _ _) | assumption | exact below_step (by assumption) (by assumption)) (first
          | (go_at_call 30; (with_reducible refine (HC1.out _ ?_).mono ?_); (first | exact Below.refl _ _ | exact Below.drew (Below.refl _ _) | assumption | exact below_step (by assumption) (by assumption)); rintro e wa ⟨ga, vsa, Ra, rfl, hga, bga, hsa, hba⟩)
          | (go_at_call 36; (with_reducible refine (HC2.out _ ?_).mono ?_); (first | exact Below.refl _ _ | exact Below.drew (Below.refl _ _) | assumption | exact below_step (by assumption) (by assumption)); rintro e wb ⟨Ob, vb, rfl, hob, hfb, hbb⟩))
        all_goals
          go_wp2_with fail
          go_meet
          have h1 := HM.out.drew.pushGrid hba hga bga
          have h2 := h1.pushRow hbb hob
          exact ⟨ga, vsa, Ra, vb, Ob, rfl, rfl, h2, hsa, hfb⟩
      case rest =>
        obtain ⟨gb, vs, R, vo, O, rfl, rfl, hM, hsrc, hfin⟩ := hcut
        clear HC1 HC2 rule p0 p1 pf lbs hbz HM hz1'
        obtain ⟨Ao, co, hvo⟩ := own_sl (hM.get 0 rfl)
        subst hvo
        have hOl : O.length ≤ S.length := PlC.nodup_length_le hfin.nodup (fun y hy => (hfin.ok y hy).1)
        have HM := Lib.hid hM
        have HSRC := Lib.hid hsrc
        have HFIN := Lib.hid hfin
        have hgr : w.heap.size ≤ w.heap.size + 1 := by omega
        generalize hgg : w.heap.size + 1 = gr at *
        clear hM hsrc hfin hgg
        go_wp2_with fail
        go_loopg [9] O.length (CpA w #[.slice Ae E.length ce, .slice Aa L.length ca] gr gb vs R (.slice Ao O.length co) O S.length (PlG.tg L) (isIn S))
        case atStart =>
          refine ⟨_, Nat.le_refl _, ?_, HM.out, PlT.KI.start⟩
          rcases Nat.eq_zero_or_pos O.length with h | h
          · exact .inl ⟨h, by rw [h]; rfl⟩
          · exact .inr ⟨O.length - 1, by omega, by rw [show ((O.length - 1 : Nat) : Int) = (O.length : Int) - 1 by omega]⟩
        case round =>
          clear HM
          obtain ⟨r, hle, hcase, hM, hI⟩ := hrel
          have HM := Lib.hid hM
          have HI := Lib.hid hI
          rcases hcase with ⟨rfl, rfl⟩ | ⟨k, rfl, rfl⟩
          · obtain ⟨hsome, hparts⟩ := hI.parts HFIN.out.all
            have hrl : ∀ x, x < S.length → isIn S x = false → (r x).getD 0 < O.length := fun x hx hs => by
              obtain ⟨-, -, y, hy, -⟩ := hI.root x _ (hsome x hx hs)
              exact (List.getElem?_eq_some_iff.1 hy).1
            have HNUM := Lib.hid (fun k hk => hparts.num k hk)
            obtain ⟨q, hq⟩ : ∃ q : Nat → Nat, q = fun x => (r x).getD 0 := ⟨_, rfl⟩
            rw [← hq] at HNUM
            have hrl' : ∀ x, x < S.length → isIn S x = false → q x < O.length := by rw [hq]; exact hrl
            have hsome' : ∀ x, x < S.length → isIn S x = false → r x = some (q x) := by rw [hq]; exact hsome
            have HQL := Lib.hid hrl'
            have HSOME := Lib.hid hsome'
            have HM5 := Lib.hid (show Mem w (cR w.heap.size 3 1 (.slice none 0 0) 0 (nums 0 (PlT.numOf (isIn S) q S.length)) :: cB w.heap.size wr.heap.size 3 (nums O.length (PlT.numF (isIn S) q 0)).toArray :: CpL w #[.slice Ae E.length ce, .slice Aa L.length ca] gr gb vs R (.slice Ao O.length co) O S.length r) (wr.alloc (.cells (madeCells #[.int .i64 0] O.length) 3)) from by
              have h := (hM.new 3 (madeCells #[.int .i64 0] O.length)).nil_ 3 1
              rw [nums_made, nums_congr (g := PlT.numF (isIn S) q 0) (fun j => (PlT.numF_zero _ _ _).symm)] at h
              rw [nums_made, nums_congr (g := PlT.numF (isIn S) q 0) (fun j => (PlT.numF_zero _ _ _).symm)]
              exact h)
            have hmk2 := run_make_row' (P := Try.prog) 33 3 (.int .i64 0) 8 Try.underlying33 Try.infoIntG rfl .i64 .i64 O.length (by omega) (by omega)
            have hbz := hM.size
            clear hM hI hsome hparts hrl hrl' hsome' hq HM HI HSRC HFIN hle
            go_wp2_with fail
            clear hmk2
            generalize hgn : wr.heap.size = gn at *
            go_loopw [15, 16, 17] (fun nv v i wx => ∃ k : Nat, k ≤ S.length ∧ i = .int .i64 k ∧ nv = .int .i64 ((PlT.roots (isIn S) q k).length : Int) ∧ Mem w (cR w.heap.size 3 1 v k (nums k (PlT.numOf (isIn S) q S.length)) :: cB w.heap.size gn 3 (nums O.length (PlT.numF (isIn S) q k)).toArray :: CpL w #[.slice Ae E.length ce, .slice Aa L.length ca] gr gb vs R (.slice Ao O.length co) O S.length r) wx) (fun _ _ i _ => S.length - (intOf i).toNat)
            case atStart => exact ⟨0, Nat.zero_le _, rfl, rfl, HM5.out⟩
            case round =>
              clear HM5 hgn
              obtain ⟨k, hk, rfl, rfl, hM⟩ := hrel
              have HM := Lib.hid hM
              obtain ⟨Av, cv, hvv⟩ := own_sl (hM.get 0 rfl)
              subst hvv
              have hroots := PlT.roots_len (isIn S) q k
              by_cases hlt : k < S.length
              · obtain ⟨sd', hA, hbl, cS⟩ := bool_at (SR.out.below hM.bel) hlt
                obtain rfl : sd = sd' := by injection hA
                rw [← isIn_of hlt] at cS
                have k0 : (0 : Int) ≤ (k : Int) := by omega
                have k1 : (k : Int) < (S.length : Int) := by omega
                have lsz := hM.size
                have HOW := Lib.hid (hM.get 0 rfl)
                have bn := (hM.get 1 rfl).2
                have br := (hM.get 4 rfl).2
                have cr := num_at br hlt
                have lr := br.lt
                have ln := bn.lt
                have HSN := Lib.hid (nums_snoc k (PlT.numOf (isIn S) q S.length))
                rcases PlT.numF_next (S := isIn S) (r := q) hlt with ⟨hs, hn1', hf, hl⟩ | ⟨hs, h0, hn1', hf, hl⟩ | ⟨hs, h0, hn1', hf, hl⟩
                · rw [hs] at cS
                  have HNX := Lib.hid hn1'
                  have HFX := Lib.hid hf
                  have HLX := Lib.hid hl
                  clear hs hn1' hf hl hM bn br cr
                  go_wp2_with (at_builtin; refine wpList_append_any _ rfl (.tmp 119) (.tmp 120) 33 rfl w.heap.size 3 i0 (.int .i64 0) 1 8 Try.underlying33 hi0 hz0 hz1 hz2 rfl (by decide) (.slice Av k cv) k (nums k (PlT.numOf (isIn S) q S.length)) rfl (World.ownsRow.alloc HOW.out _) (wr.heap.size + 1) (some ⟨wr.heap.size, 0, none⟩) 1 1 [.int .i64 (-1)] rfl (reads_new1 _ _ _) (one_Z _) (len_ok (by omega)) (by omega) (by simp; omega) ?_; intro v1 x1 ho1 hg1 hv1; have HA := Lib.hid (HM.out.app 0 (S := wr.heap.size + 1) rfl (grown_pre hg1) ho1 (by simpa using hv1) (by omega)); clear ho1 hg1 hv1)
                  refine ⟨⟨k + 1, by omega, by go_num, by rw [HLX.out], ?_⟩, by simp [intOf]; omega⟩
                  rw [HSN.out, HNX.out, nums_congr (n := O.length) (fun j => HFX.out j)]
                  exact HA.out
                · rw [hs] at cS
                  have hql := HQL.out k hlt hs
                  have e1 : nR r k = (q k : Int) := by unfold nR; rw [HSOME.out k hlt hs]; rfl
                  rw [e1] at cr
                  have cn := num_at bn hql
                  have fn := bn.frozen (q k)
                  have q0 : (0 : Int) ≤ (q k : Int) := by omega
                  have q1 : (q k : Int) < (O.length : Int) := by omega
                  have hzb := PlT.numF_le (S := isIn S) (r := q) (k := k) (q := q k)
                  have HNX := Lib.hid hn1'
                  have HFX := Lib.hid hf
                  have HLX := Lib.hid hl
                  generalize PlT.numF (isIn S) q k (q k) = z at *
                  have hz : (z == 0) = false := beq_eq_false_iff_ne.2 h0
                  have hzw := IntWalk.i64_in (z - 1) (by omega)
                  clear hs hn1' hf hl hM bn br h0 e1
                  go_wp2_with (at_builtin; refine wpList_append_any _ rfl (.tmp 139) (.tmp 148) 33 rfl w.heap.size 3 i0 (.int .i64 0) 1 8 Try.underlying33 hi0 hz0 hz1 hz2 rfl (by decide) (.slice Av k cv) k (nums k (PlT.numOf (isIn S) q S.length)) rfl (World.ownsRow.alloc HOW.out _) (wr.heap.size + 1) (some ⟨wr.heap.size, 0, none⟩) 1 1 [.int .i64 (z - 1)] rfl (reads_new1 _ _ _) (one_Z _) (len_ok (by omega)) (by omega) (by simp; omega) ?_; intro v1 x1 ho1 hg1 hv1; have HA := Lib.hid (HM.out.app 0 (S := wr.heap.size + 1) rfl (grown_pre hg1) ho1 (by simpa using hv1) (by omega)); clear ho1 hg1 hv1)
                  refine ⟨⟨k + 1, by omega, by go_num, by rw [HLX.out], ?_⟩, by simp [intOf]; omega⟩
                  rw [HSN.out, HNX.out, nums_congr (n := O.length) (fun j => HFX.out j)]
                  exact HA.out
                · rw [hs] at cS
                  have hql := HQL.out k hlt hs
                  have e1 : nR r k = (q k : Int) := by unfold nR; rw [HSOME.out k hlt hs]; rfl
                  rw [e1] at cr
                  have cn := num_at bn hql
                  have fn := bn.frozen (q k)
                  have q0 : (0 : Int) ≤ (q k : Int) := by omega
                  have q1 : (q k : Int) < (O.length : Int) := by omega
                  rw [h0] at cn
                  have HNX := Lib.hid hn1'
                  have HLX := Lib.hid hl
                  have hrw := IntWalk.i64_in (((PlT.roots (isIn S) q k).length : Int) + 1) (by omega)
                  have HMS := Lib.hid (HM.out.set_ 1 rfl (q k) (.int .i64 (((PlT.roots (isIn S) q k).length : Int) + 1)) (nums_set_f _ _ (PlT.numF (isIn S) q (k + 1)) (q k) _ hf))
                  have HE1 := Lib.hid e1
                  have HQK := Lib.hid ((hf (q k)).trans (PlT.upd_same ..))
                  generalize (PlT.roots (isIn S) q k).length = z at *
                  clear hs hn1' hf hl hM bn br h0 e1
                  go_upto_region 33 with fail
                  generalize hW5 : wr.setCell _ _ = W5
                  rw [hW5] at HMS
                  have lsz5 := HMS.out.size
                  have cr5 := num_at (HMS.out.get 4 rfl).2 hlt
                  rw [HE1.out] at cr5
                  have cn5 := num_at (HMS.out.get 1 rfl).2 hql
                  rw [HQK.out] at cn5
                  have HOW5 := Lib.hid (HMS.out.get 0 rfl)
                  clear hW5 HM HOW cr cn fn cS hrw lr ln lsz
                  have hzz : ((z : Int) + 1) - 1 = (z : Int) := by omega
                  go_wp2_with (at_builtin; refine wpList_append_any _ rfl (.tmp 139) (.tmp 148) 33 rfl w.heap.size 3 i0 (.int .i64 0) 1 8 Try.underlying33 hi0 hz0 hz1 hz2 rfl (by decide) (.slice Av k cv) k (nums k (PlT.numOf (isIn S) q S.length)) rfl (World.ownsRow.alloc HOW5.out _) (W5.heap.size + 1) (some ⟨W5.heap.size, 0, none⟩) 1 1 [.int .i64 (z : Int)] rfl (reads_new1 _ _ _) (one_Z _) (len_ok (by omega)) (by omega) (by simp; omega) ?_; intro v1 x1 ho1 hg1 hv1; have HA := Lib.hid (HMS.out.app 0 (S := W5.heap.size + 1) rfl (grown_pre hg1) ho1 (by simpa using hv1) (by omega)); clear ho1 hg1 hv1)
                  refine ⟨⟨k + 1, by omega, by go_num, by rw [HLX.out]; go_num, ?_⟩, by simp [intOf]; omega⟩
                  rw [HSN.out, HNX.out]
                  exact HA.out
              · obtain rfl : S.length = k := by omega
                have HF := Lib.hid (show OwnNums w S.length (PlT.num S.length (PlG.tg L) (isIn S)) (.returned (.slice Av S.length cv)) wr from by
                  refine ⟨_, rfl, ?_, hM.bel⟩
                  rw [← nums_congr_lt (f := PlT.numOf (isIn S) q S.length) (fun j hj => HNUM.out j hj)]
                  exact hM.get 0 rfl)
                clear hM
                go_wp2
                go_ret
                exact HF.out
          · have hkO : k < O.length := by omega
            have hro := hM.get 0 rfl
            obtain ⟨go, co', hfo, -, hgo⟩ := World.ownsRow.form hro (by omega)
            injection hfo with hfo _ hco
            subst hfo hco
            have hOk : O[k]? = some O[k] := List.getElem?_eq_getElem hkO
            have cx := own_at hro hOk
            obtain ⟨hxn, hxs⟩ := HFIN.out.ok _ (List.getElem_mem hkO)
            have HOK := Lib.hid hOk
            generalize O[k] = x at *
            have br := (hM.get 2 rfl).2
            have cr := num_at br hxn
            have fr := br.frozen x
            have lr := br.lt
            have lsz := hM.size
            have k0 : (0 : Int) ≤ (k : Int) := by omega
            have k1 : (k : Int) < (O.length : Int) := by omega
            have x0 : (0 : Int) ≤ (x : Int) := by omega
            have x1 : (x : Int) < (S.length : Int) := by omega
            clear hM hI hro br hOk
            cases hr : r x with
            | some q =>
              have e1 : nR r x = (q : Int) := by unfold nR; rw [hr]; rfl
              rw [e1] at cr
              have HKI := Lib.hid (HI.out.skip HOK.out (by rw [hr]; simp))
              have q0 : decide ((0 : Int) ≤ (q : Int)) = true := decide_eq_true (by omega)
              clear hr e1
              go_wp2
              go_roundg k
              case measure => omega
              case rel =>
                refine ⟨r, by omega, ?_, HM.out, HKI.out⟩
                rcases k with _ | k
                · exact .inl ⟨rfl, rfl⟩
                · exact .inr ⟨k, rfl, by go_num⟩
            | none =>
              have e1 : nR r x = -1 := by unfold nR; rw [hr]; rfl
              rw [e1] at cr
              have HR0 := Lib.hid hr
              have HM1 := Lib.hid (HM.out.set_ 2 rfl x (.int .i64 (k : Int)) (nums_set_nR S.length r x k))
              have HSB := Lib.hid (PlT.SBI.start (G := PlG.tg L) (i := k) hr hxn hxs)
              have hnc := PlT.noneC_upd hxn hr k
              have hnl := PlT.noneC_le S.length r
              clear hr e1
              go_upto_region 12 with fail
              generalize hW3 : wr.setCell _ _ = W3
              rw [hW3] at HM1
              have HM2 := Lib.hid (HM1.out.one 3 (I x))
              have lsz3 := HM1.out.size
              have cx3 := own_at (HM1.out.get 0 rfl) HOK.out
              clear hW3 HM1 HM cx cr fr lr
              go_wp2_with fail
              go_loopg [10] (2 * PlT.noneC S.length (PlT.upd r x (some k)) + 1) (CpB w #[.slice Ae E.length ce, .slice Aa L.length ca] gr gb vs R (.slice (some ⟨go, 0, none⟩) O.length co) O S.length (PlG.tg L) (isIn S) k x r)
              case atStart => exact ⟨_, [x], rfl, by omega, HM2.out, HSB.out⟩
              case round =>
                clear HM2 HSB hnc hnl cx3 lsz3
                obtain ⟨r1, T, hgh, hle2, hM, hB⟩ := hrel
                obtain ⟨At, ct, hvt⟩ := own_sl (hM.get 0 rfl)
                subst hvt
                rcases List.eq_nil_or_concat T with rfl | ⟨T0, y, rfl⟩
                · have HM := Lib.hid (hM.erase 0)
                  have HKI := Lib.hid (hB.end_ HI.out HOK.out HR0.out hxn hxs HGL.out)
                  clear hM hB
                  go_wp2
                  go_roundg k
                  case measure => omega
                  case rel =>
                    refine ⟨r1, by omega, ?_, HM.out, HKI.out⟩
                    rcases k with _ | k
                    · exact .inl ⟨rfl, rfl⟩
                    · exact .inr ⟨k, rfl, by go_num⟩
                · rw [List.concat_eq_append] at hM hB hgh ⊢
                  have hlen : (T0 ++ [y]).length = T0.length + 1 := by simp
                  rw [hlen] at hM hgh ⊢
                  have hrt := hM.get 0 rfl
                  obtain ⟨gt, ct', hft, -, -⟩ := World.ownsRow.form hrt (by omega)
                  injection hft with hft _ hct
                  subst hft hct
                  have cy := own_at hrt (k := T0.length) (x := y) (by simp)
                  have hcap := own_cap hrt
                  have hpop := own_take hrt
                  rw [List.map_append, List.take_left' (by simp)] at hpop
                  have HMP := Lib.hid (hM.slice_ 0 rfl hpop rfl)
                  obtain ⟨hyn, hys⟩ := hB.lt (y := y) (by simp)
                  have HGR := Lib.hid (hM.get 2 rfl).2
                  have hyR : y < R.length := by rw [HSRC.out.len]; exact hyn
                  have hyv : y < vs.length := by rw [HGR.out.len]; exact hyR
                  have gcell := HGR.out.blk.get hyv
                  obtain ⟨Ay, cyy, hvy⟩ := own_sl (HGR.out.row y hyv hyR)
                  rw [hvy] at gcell
                  have HVY := Lib.hid hvy
                  have HSF := Lib.hid (fun t => HSRC.out.fin (t := y) (x := t) hyn)
                  have hsize := HSRC.out.size y
                  rw [List.getD_eq_getElem?_getD, List.getElem?_eq_getElem hyR, Option.getD_some] at hsize
                  have hgr' : R.getD y [] = R[y] := by rw [List.getD_eq_getElem?_getD, List.getElem?_eq_getElem hyR, Option.getD_some]
                  rw [hgr'] at HSF
                  have HJ := Lib.hid (hB.pop R[y])
                  have HRI := Lib.hid (show ∀ X, Mem w (CpL w #[.slice Ae E.length ce, .slice Aa L.length ca] gr gb vs R (.slice (some ⟨go, 0, none⟩) O.length co) O S.length r) X → True from fun _ _ => trivial)
                  have HGX := Lib.hid (fun (X : World) (vt : Value) (m : Nat) (xs : List Value) (r' : Nat → Option Nat) (hX : Mem w (cR w.heap.size 3 1 vt m xs :: CpL w #[.slice Ae E.length ce, .slice Aa L.length ca] gr gb vs R (.slice (some ⟨go, 0, none⟩) O.length co) O S.length r') X) =>
                    (show X.cell? ⟨gb, y, none⟩ = some (.slice Ay R[y].length cyy) ∧ X.ownsRow w.heap.size 3 1 (.slice Ay R[y].length cyy) R[y].length (R[y].map I) from by
                      have hg := (hX.get 2 rfl).2
                      have h1 := hg.blk.get hyv
                      have h2 := hg.row y hyv hyR
                      rw [HVY.out] at h1 h2
                      exact ⟨h1, h2⟩))
                  have hrl : R[y].length ≤ 40000000000 := by omega
                  generalize R[y] = row at *
                  have y0 : (0 : Int) ≤ (y : Int) := by omega
                  have y1 : (y : Int) < (S.length : Int) := by omega
                  have w1 := IntWalk.i64_in (T0.length : Int) (by omega)
                  have w2 : ((T0.length : Int) + 1) - 1 = (T0.length : Int) := by omega
                  have w3 : (0 : Int) < (T0.length : Int) + 1 := by omega
                  have c0 : (0 : Int) ≤ (T0.length : Int) := by omega
                  have c1 : (T0.length : Int) ≤ (ct : Int) := by omega
                  have c2 : (T0.length : Int) ≤ (T0.length : Int) + 1 := by omega
                  have hgh' : 2 * PlT.noneC S.length r1 + T0.length < gk := by omega
                  clear hM hB hrt hpop hlen HGR HRI hvy hgr' hsize
                  go_wp2_with fail
                  go_loopg [10, 12] row.length (CpC w #[.slice Ae E.length ce, .slice Aa L.length ca] gr gb vs R (.slice (some ⟨go, 0, none⟩) O.length co) O S.length (PlG.tg L) (isIn S) k x r y row gk)
                  case atStart => exact ⟨r1, T0, 0, rfl, Nat.zero_le _, rfl, hgh', HMP.out, HJ.out⟩
                  case round =>
                    clear HMP HJ cy gcell w1 w2 w3 c0 c1 c2 hcap hgh hgh'
                    obtain ⟨r1, T, j, hgh3, hjl, rfl, hms, hM, hJ⟩ := hrel
                    obtain ⟨At, ct, hvt⟩ := own_sl (hM.get 0 rfl)
                    subst hvt
                    obtain ⟨cg, hown⟩ := HGX.out _ _ _ _ _ hM
                    have HM := Lib.hid hM
                    have HJ := Lib.hid hJ
                    have hszM := hM.size
                    by_cases hj : j < row.length
                    · obtain ⟨gy, cy', hfy, -, -⟩ := World.ownsRow.form hown (by omega)
                      injection hfy with hfy _ hcy
                      subst hfy hcy
                      have hrow : row[j]? = some row[j] := List.getElem?_eq_getElem hj
                      have ct1 := own_at hown hrow
                      obtain ⟨-, hts, htn, htg⟩ := (HSF.out row[j]).1 (List.getElem_mem hj)
                      have HROW := Lib.hid hrow
                      generalize row[j] = t at *
                      have br := (hM.get 3 rfl).2
                      have cr := num_at br htn
                      have fr := br.frozen t
                      have lr := br.lt
                      have t1 : decide ((j : Int) < (row.length : Int)) = true := decide_eq_true (by omega)
                      have t1' : decide (j < row.length) = true := decide_eq_true hj
                      have j0 : (0 : Int) ≤ (j : Int) := by omega
                      have j1 : (j : Int) < (row.length : Int) := by omega
                      have t0 : (0 : Int) ≤ (t : Int) := by omega
                      have t2 : (t : Int) < (S.length : Int) := by omega
                      clear hM hJ hown br hrow
                      cases hr : r1 t with
                      | some q =>
                        have e1 : nR r1 t = (q : Int) := by unfold nR; rw [hr]; rfl
                        rw [e1] at cr
                        have HJ1 := Lib.hid (HJ.out.skip HROW.out (by rw [hr]; simp))
                        have q0 : decide ((q : Int) < 0) = false := decide_eq_false (by omega)
                        clear hr e1
                        go_wp2
                        go_roundg (row.length - (j + 1))
                        case measure => omega
                        case rel => exact ⟨r1, T, j + 1, rfl, by omega, by go_num, hms, HM.out, HJ1.out⟩
                      | none =>
                        have e1 : nR r1 t = -1 := by unfold nR; rw [hr]; rfl
                        rw [e1] at cr
                        have HJ1 := Lib.hid (HJ.out.mark HI.out HFIN.out HOK.out HROW.out hr htn hts htg)
                        have HM1 := Lib.hid (HM.out.set_ 3 rfl t (.int .i64 (k : Int)) (nums_set_nR S.length r1 t k))
                        have hnc := PlT.noneC_upd htn hr k
                        clear hr e1
                        go_upto_region 22 with fail
                        generalize hW5 : wr.setCell _ _ = W5
                        rw [hW5] at HM1
                        have HOW := Lib.hid (HM1.out.get 0 rfl)
                        have lsz5 := HM1.out.size
                        have lsz6 : wr.heap.size = W5.heap.size := by rw [← hW5]; simp [World.setCell]
                        clear hW5 HM cr fr lr cg ct1
                        go_wp2_with (at_builtin; refine wpList_append_any _ rfl (.tmp 102) (.tmp 104) 33 rfl w.heap.size 3 i0 (.int .i64 0) 1 8 Try.underlying33 hi0 hz0 hz1 hz2 rfl (by decide) (.slice At T.length ct) T.length (T.map I) rfl (World.ownsRow.alloc HOW.out _) (W5.heap.size + 1) (some ⟨W5.heap.size, 0, none⟩) 1 1 [I t] rfl (reads_new1 _ _ _) (one_I t) (len_ok (by omega)) (by omega) (by simp; omega) ?_; intro v1 x1 ho1 hg1 hv1; have HA := Lib.hid (HM1.out.app 0 (S := W5.heap.size + 1) rfl (grown_pre hg1) ho1 (by simpa using hv1) (by omega)); clear ho1 hg1 hv1)
                        go_roundg (row.length - (j + 1))
                        case measure => omega
                        case rel => exact ⟨_, T ++ [t], j + 1, rfl, by omega, by go_num, by simp; omega, by rw [List.length_append, List.map_append]; exact HA.out, HJ1.out⟩
                    · have t1 : decide ((j : Int) < (row.length : Int)) = false := decide_eq_false (by omega)
                      have t1' : decide (j < row.length) = false := decide_eq_false hj
                      have HJ2 := Lib.hid (HJ.out.end_ (by omega) (fun z hz hs hg => (HSF.out z).2 ⟨by rw [hys]; rfl, hs, hz, hg⟩))
                      clear hM hJ hown
                      go_wp2
                      go_roundg (2 * PlT.noneC S.length r1 + T.length)
                      case measure => omega
                      case rel => exact ⟨r1, T, rfl, by omega, HM.out, HJ2.out⟩
end Go.Proofs.Ytnjbofahboopoaa
