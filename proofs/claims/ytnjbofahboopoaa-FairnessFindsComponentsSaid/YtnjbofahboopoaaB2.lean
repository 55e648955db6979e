/- ref21.finished. -/
import Derived.Test.YtnjbofahboopoaaM5
import Derived.Test.YtnjbofahboopoaaB1
import Derived.Test.YtnjbofahboopoaaPlZ
import Derived.BigQuiet
import Derived.Deep.LoopGhost
import Derived.Deep.DeepCutAuto
namespace Go.Proofs.Ytnjbofahboopoaa
open Go.RowKit

theorem own_cap {w : World} {base e n g c : Nat} {xs : List Value} (h : w.ownsRow base e 1 (.slice (some ⟨g, 0, none⟩) n c) n xs) : n ≤ c := by
  rcases h.2 with ⟨hv, _⟩ | ⟨g, cap, cur, hv, _, _, h1, _⟩
  · cases hv
  · injection hv with _ _ hv
    subst hv
    exact h1

theorem FinW.noW {w wr : World} {sp : Array Value} {gf gn n : Nat} {fo : Nat → Bool} {nx : Nat → Nat} {vo vw : Value} {O W : List Nat} (h : FinW w wr sp gf gn n fo nx vo vw O W) : FinW w wr sp gf gn n fo nx vo (.slice none 0 0) O [] := by
  refine ⟨h.sp_, h.f_, h.n_, h.o_, World.ownsRow_nil _ _ _ _, h.on, by simp [Value.ownBlock], ?_, h.lo, h.bel⟩
  cases hv : vo.ownBlock with
  | none => exact .inl rfl
  | some b => exact .inr (by simp [Value.ownBlock])
def FnA (w : World) (sp : Array Value) (gf gn n : Nat) (G : Nat → List Nat) (S : Nat → Bool) (gh : Nat) (vo i : Value) (wr : World) : Prop :=
  ∃ (k : Nat) (fo : Nat → Bool) (nx : Nat → Nat) (O : List Nat), gh = n - k ∧ k ≤ n ∧ i = .int .i64 k ∧ FinW w wr sp gf gn n fo nx vo (.slice none 0 0) O [] ∧ PlT.FI n G S O [] fo nx ∧ ∀ x, x < k → S x = false → fo x = true
def FnB (w : World) (sp : Array Value) (gf gn n : Nat) (G : Nat → List Nat) (S : Nat → Bool) (k : Nat) (gh : Nat) (vo vw : Value) (wr : World) : Prop :=
  ∃ (fo : Nat → Bool) (nx : Nat → Nat) (O W : List Nat), gh = 2 * PlT.left n G nx + W.length ∧ FinW w wr sp gf gn n fo nx vo vw O W ∧ PlT.FI n G S O W fo nx ∧ ∀ x, x < k + 1 → S x = false → fo x = true
def FinPost (w : World) (n : Nat) (G : Nat → List Nat) (S : Nat → Bool) (e : Ending) (w' : World) : Prop :=
  ∃ (O : List Nat) (v : Value), e = .returned v ∧ w'.ownsRow w.heap.size 3 1 v O.length (O.map I) ∧ PlT.FinO n G S O ∧ Below w.heap.size w w'

set_option maxRecDepth 100000 in
set_option maxHeartbeats 8000000 in
theorem finished_ok (E : List Nat) (L : List (List Arc)) (v : Value) (hL : WfL L) (S : List Bool) (hSL : S.length = L.length) (hn1 : 1 ≤ S.length) (hn : S.length ≤ 32768) (hto : ∀ k (hk : k < L.length), ∀ x ∈ L[k], 0 ≤ x.2 ∧ x.2 < (S.length : Int))
    (Al : Option Addr) (cl : Nat) (w : World) (hS : SpaceAt w w.heap.size v E L) (hSr : Reads w w.heap.size 1 Al S.length (S.map Value.bool)) :
    Calls Try.prog 36 #[v, .slice Al S.length cl] w (FinPost w S.length (PlG.tg L) (isIn S)) := by
  obtain ⟨ve, va, rfl, ⟨Ae, ce, rfl, re⟩, ⟨Aa, ca, rows, rfl, ra, hk⟩⟩ := hS
  obtain ⟨ad, hA, -⟩ := ra.2 (by omega)
  subst hA
  obtain ⟨sd, hA, -⟩ := hSr.2 (by omega)
  subst hA
  have RA := Lib.hid ra
  have HK := Lib.hid hk
  have HL := Lib.hid hL
  have SR := Lib.hid hSr
  have HSL := Lib.hid hSL
  have HTO := Lib.hid hto
  have hn6 : L.length ≤ 32768 := by omega
  clear re ra hk hL hSr hto hSL
  have hmk1 := run_make_row' (P := Try.prog) 26 4 (.bool false) 1 Try.underlying26 Try.infoBool rfl .i64 .i64 S.length (by omega) (by omega)
  have hmk2 := run_make_row' (P := Try.prog) 33 3 (.int .i64 0) 8 Try.underlying33 Try.infoIntG rfl .i64 .i64 S.length (by omega) (by omega)
  obtain ⟨i0, hi0, hz0, hz1, hz2⟩ := info_parts Try.infoIntG
  go_enter Try.func36, Try.ntmps36
  go_upto_region 2 with fail
  generalize hW : World.alloc _ _ = W
  have bsW : Blk W w.heap.size 25 #[.slice Ae E.length ce, .slice (some ad) L.length ca] := by rw [← hW]; exact Blk.new _ _ _
  have hBW : Below w.heap.size w W := by rw [← hW]; exact (Below.refl _ _).alloc (Nat.le_refl _) _
  have hWs := hBW.size
  have HBW := Lib.hid hBW
  have BSW := Lib.hid bsW
  clear hW hBW bsW
  go_cut [6, 7] (fun p q wx => ∃ gf gn, p = .slice (some ⟨gf, 0, none⟩) S.length S.length ∧ q = .slice (some ⟨gn, 0, none⟩) S.length S.length ∧ Blk wx gf 4 (madeCells #[.bool false] S.length) ∧ Blk wx gn 3 (madeCells #[.int .i64 0] S.length) ∧ W.heap.size ≤ gf ∧ W.heap.size ≤ gn ∧ Below W.heap.size W wx)
  case first =>
    go_region_held3 (fun x => Below W.heap.size W x) (repeat (with_reducible first | exact Below.refl _ _ | assumption | refine balloc ?_ _ | refine Below.drew ?_)) (first | fail)
    all_goals
      go_wp2_with fail
      go_meet
      case rel =>
        apply Exists.intro
        apply Exists.intro
        refine ⟨rfl, rfl, ?_, ?_, ?_, ?_, ?_⟩
        · repeat (with_reducible first | (refine blk_new_at ?_; simp only [World.size_alloc]; done) | refine Blk.alloc ?_ _ | refine Blk.drew ?_)
        · repeat (with_reducible first | (refine blk_new_at ?_; simp only [World.size_alloc]; done) | refine Blk.alloc ?_ _ | refine Blk.drew ?_)
        · omega
        · omega
        · repeat (with_reducible first | exact Below.refl _ _ | assumption | refine balloc ?_ _ | refine Below.drew ?_)
  case rest =>
    obtain ⟨gf, gn, rfl, rfl, bf, bn, hgf, hgn, hbel⟩ := hcut
    have hb0 := below_end hbel HBW.out
    have HST := Lib.hid (show FinW w wc #[.slice Ae E.length ce, .slice (some ad) L.length ca] gf gn S.length (fun _ => false) (fun _ => 0) (.slice none 0 0) (.slice none 0 0) [] [] from by
      refine ⟨BSW.out.below hbel BSW.out.lt, ?_, ?_, World.ownsRow_nil _ _ _ _, World.ownsRow_nil _ _ _ _, by simp [Value.ownBlock], by simp [Value.ownBlock], .inl rfl, ⟨by omega, by omega⟩, hb0⟩
      · rw [made_list] at bf
        have e : (marks S.length (fun _ => false)).map Value.bool = List.replicate S.length (.bool false) := by
          rw [marks, List.map_map]
          apply List.ext_getElem
          · simp
          · intro i h1 h2; simp
        rw [e]; exact bf
      · rw [nums_made] at bn; exact bn)
    clear bf bn hbel hb0 BSW HBW hmk1 hmk2
    go_wp2_with fail
    go_loopg [5, 8] S.length (FnA w #[.slice Ae E.length ce, .slice (some ad) L.length ca] gf gn S.length (PlG.tg L) (isIn S))
    case atStart => exact ⟨0, _, _, [], rfl, Nat.zero_le _, rfl, HST.out, PlT.FI.start _ _ _, fun x hx => absurd hx (Nat.not_lt_zero x)⟩
    case round =>
      clear HST
      obtain ⟨k, fo, nx, O, hgh, hk, rfl, hW, hI, hall⟩ := hrel
      have HW := Lib.hid hW
      have HI := Lib.hid hI
      have HALL := Lib.hid hall
      obtain ⟨Ao, co, hvo⟩ := own_sl hW.o_
      subst hvo
      by_cases hlt : k < S.length
      · obtain ⟨sd', hA, hbl, cS⟩ := bool_at (SR.out.below hW.bel) hlt
        obtain rfl : sd = sd' := by injection hA
        rw [← isIn_of hlt] at cS
        have cF := mark_at hW.f_ hlt
        have cFf := hW.f_.frozen k
        have lf := hW.f_.lt
        have k0 : (0 : Int) ≤ (k : Int) := by omega
        have k1 : (k : Int) < (S.length : Int) := by omega
        clear hA hW hI hall
        cases hs : isIn S k
        · rw [hs] at cS
          cases hf : fo k
          · rw [hf] at cF
            have HR := Lib.hid (HI.out.root hlt hs hf)
            have hW1 := HW.out.setF k true
            have HAL1 := Lib.hid (show ∀ x, x < k + 1 → isIn S x = false → PlT.upd fo k true x = true from fun x hx hsx => by
              unfold PlT.upd
              split
              · rfl
              · exact HALL.out x (by omega) hsx)
            have HW1 := Lib.hid hW1
            have lg := hW1.sp_.lt
            clear hs hf hW1 HI HALL
            go_upto_region 8 with fail
            generalize hW3 : wr.setCell ⟨gf, k, none⟩ (.bool true) = W3 at *
            clear hW3
            have HW2 := Lib.hid (HW1.out.newW k)
            go_wp2_with fail
            go_loopg [5, 9] (2 * PlT.left S.length (PlG.tg L) nx + 1) (FnB w #[.slice Ae E.length ce, .slice (some ad) L.length ca] gf gn S.length (PlG.tg L) (isIn S) k)
            case atStart => exact ⟨_, nx, O, [k], rfl, HW2.out, HR.out, HAL1.out⟩
            case round =>
              clear HW1 HW2 HR HAL1 HW lf lg cF cFf cS
              obtain ⟨fo, nx, O, Wy, hgh2, hW, hI, hall⟩ := hrel
              obtain ⟨Ao, co, hvo⟩ := own_sl hW.o_
              subst hvo
              obtain ⟨Aw, cw, hvw⟩ := own_sl hW.w_
              subst hvw
              rcases List.eq_nil_or_concat Wy with rfl | ⟨W0, x, rfl⟩
              · have HW := Lib.hid hW.noW
                have HI := Lib.hid hI
                have HALL := Lib.hid hall
                clear hW hI hall
                go_wp2
                go_roundg (S.length - (k + 1))
                case measure => omega
                case rel => exact ⟨k + 1, fo, nx, O, rfl, by omega, by go_num, HW.out, HI.out, HALL.out⟩
              · rw [List.concat_eq_append] at hW hI hgh2 ⊢
                have hlen : (W0 ++ [x]).length = W0.length + 1 := by simp
                obtain ⟨hxn, hxs⟩ := hI.ok x (by simp)
                have hnd := PlC.nodup_length_le hI.nodup (fun y hy => (hI.ok y hy).1)
                rw [List.length_append, hlen] at hnd
                have hxL : x < L.length := by have := HSL.out; omega
                have hw0 := hW.w_
                rw [hlen] at hw0 hgh2 ⊢
                obtain ⟨gw, cw', hfw, -, -⟩ := hw0.form (by omega)
                injection hfw with hfw _ hcw
                subst hfw hcw
                have cx := hw0.cellAt W0.length (by omega)
                rw [List.map_append, List.getElem?_append_right (by simp)] at cx
                simp only [List.length_map, Nat.sub_self, List.map_cons, List.map_nil, List.getElem?_cons_zero] at cx
                have hIx : (I x) = .int .i64 (x : Int) := rfl
                rw [hIx] at cx
                have cN := num_at hW.n_ hxn
                have cNf := hW.n_.frozen x
                have ln := hW.n_.lt
                have lf := hW.f_.lt
                unfold nI at cN
                obtain ⟨p0, p1, pf⟩ := blk2 hW.sp_
                obtain ⟨aL, Ak, ck, hAL, hbla, cr, rk⟩ := row_at (RA.out.below hW.bel) (fun k l hl => let ⟨u, hu, ha⟩ := HK.out k l hl; (⟨u, hu, ha.below hW.bel⟩ : ∃ u, rows[k]? = some u ∧ ArcsAt wr w.heap.size u l)) hxL
                obtain rfl : ad = aL := by injection hAL
                have hll := (HL.out x hxL).1
                have HTS := Lib.hid (HTO.out x hxL)
                have HTG := Lib.hid (PlG.tg_get L x · hxL)
                have htl := PlG.tg_len L x hxL
                have hnx := (hI.look x (by simp)).1
                rw [htl] at hnx
                have HTL := Lib.hid htl
                generalize L[x] = l at *
                have HW := Lib.hid (show FinW w wr #[.slice Ae E.length ce, .slice (some ad) L.length ca] gf gn S.length fo nx (.slice Ao O.length co) (.slice (some ⟨gw, 0, none⟩) (W0.length + 1) cw) O (W0 ++ [x]) by rw [hlen] at hW; exact hW)
                have HI := Lib.hid hI
                have HALL := Lib.hid hall
                have hbz := hW.bel.size
                have x0 : (0 : Int) ≤ (x : Int) := by omega
                have x1 : (x : Int) < (S.length : Int) := by omega
                have x2 : (x : Int) < (L.length : Int) := by omega
                have w1 := IntWalk.i64_in (W0.length : Int) (by omega)
                have w2 : ((W0.length : Int) + 1) - 1 = (W0.length : Int) := by omega
                have w3 : (0 : Int) < (W0.length : Int) + 1 := by omega
                clear hAL hIx htl hW hI hall hw0 hlen
                by_cases hfin : nx x = l.length
                · have t1 : ((nx x : Int) == (l.length : Int)) = true := by rw [beq_iff_eq]; omega
                  have t1' : (nx x == l.length) = true := by rw [beq_iff_eq]; exact hfin
                  have HFI := Lib.hid (HI.out.fin (by rw [HTL.out]; exact hfin))
                  have hcap : W0.length + 1 ≤ cw := own_cap (by have h := HW.out.w_; rw [show (W0 ++ [x]).length = W0.length + 1 by simp] at h; exact h)
                  have c0 : (0 : Int) ≤ (W0.length : Int) := by omega
                  have c1 : (W0.length : Int) ≤ (cw : Int) := by omega
                  have c2 : (W0.length : Int) ≤ (W0.length : Int) + 1 := by omega
                  clear hfin HTG HTS rk
                  go_wp2_with fail
                  go_quiet (fail)
                  go_upto_region 12 with fail
                  generalize hWq : wr.drewN nq = W5
                  have HW5 : Hid (FinW w W5 #[.slice Ae E.length ce, .slice (some ad) L.length ca] gf gn S.length fo nx (.slice Ao O.length co) (.slice (some ⟨gw, 0, none⟩) (W0.length + 1) cw) O (W0 ++ [x])) := by rw [← hWq]; exact Lib.hid (HW.out.drewN _)
                  have hbz5 := HW5.out.bel.size
                  clear hWq p0 p1 pf cx cN cNf cr HW
                  go_region_law (first
                    | ((with_reducible refine step_append_any _ rfl (.tmp 59) (.tmp 61) 33 rfl w.heap.size 3 i0 (.int .i64 0) 1 8 Try.underlying33 hi0 hz0 hz1 hz2 rfl (by decide) (.slice Ao O.length co) O.length (O.map I) rfl ?_ (W5.heap.size + 1) (some ⟨W5.heap.size, 0, none⟩) 1 1 [I x] rfl ?_ ?_ ?_ ?_ ?_ ?_); exact HW5.out.o_.alloc _; exact reads_new1 _ _ _; exact one_I x; exact len_ok (by omega); omega; (simp; omega); intro v1 x1 ho1 hg1 hv1; obtain ⟨gv, cv, rfl, -, -⟩ := ho1.form (by omega); have HA := Lib.hid (HW5.out.appO (grown_pre (grown_drew hg1)) ho1 (S := W5.heap.size + 1) (by simpa using hv1) (by omega)).popW; clear ho1 hg1 hv1))
                  all_goals
                    go_wp2
                    go_roundg (2 * PlT.left S.length (PlG.tg L) nx + W0.length)
                    case measure => omega
                    case rel => exact ⟨fo, nx, O ++ [x], W0, rfl, by first | exact HA.out | exact HA.out.drew, HFI.out, HALL.out⟩
                · have hlt2 : nx x < l.length := by omega
                  have t1 : ((nx x : Int) == (l.length : Int)) = false := beq_eq_false_iff_ne.2 (by omega)
                  have t1' : (nx x == l.length) = false := beq_eq_false_iff_ne.2 hfin
                  obtain ⟨ad2, hA, hbl2, a0, a1⟩ := arc_at rk hlt2
                  subst hA
                  have hx' := HTS.out l[nx x] (List.getElem_mem _)
                  have htg := HTG.out (nx x) hlt2
                  generalize l[nx x] = y at *
                  obtain ⟨ys, yt⟩ := y
                  dsimp only at a0 a1 hx' htg
                  obtain ⟨t, rfl⟩ : ∃ t : Nat, yt = (t : Int) := ⟨yt.toNat, by omega⟩
                  rw [Int.toNat_natCast] at htg
                  have htn : t < S.length := by omega
                  have HLN := Lib.hid (PlT.left_next (G := PlG.tg L) (nx := nx) hxn (by rw [HTL.out]; exact hlt2))
                  have HTT := Lib.hid htg
                  have HW3 := Lib.hid (fun d => (HW.out.drewN d).setN x (nx x + 1))
                  have n0 : (0 : Int) ≤ (nx x : Int) := by omega
                  have n1 : (nx x : Int) < (l.length : Int) := by omega
                  have n2 : (((nx x + 1 : Nat) : Int)) = (nx x : Int) + 1 := by omega
                  have t0 : (0 : Int) ≤ (t : Int) := by omega
                  have t2 : (t : Int) < (S.length : Int) := by omega
                  clear hfin htg rk hx'
                  go_wp2_with fail
                  go_quiet (fail)
                  go_wp2_with fail
                  go_quiet (fail)
                  go_upto_region 15 with fail
                  generalize hW4 : World.setCell _ _ _ = W4
                  have HW4 : Hid (FinW w W4 #[.slice Ae E.length ce, .slice (some ad) L.length ca] gf gn S.length fo (PlT.upd nx x (nx x + 1)) (.slice Ao O.length co) (.slice (some ⟨gw, 0, none⟩) (W0.length + 1) cw) O (W0 ++ [x])) := by rw [← hW4, ← n2]; exact Lib.hid (HW3.out _)
                  clear hW4 p0 p1 pf cx cN cNf cr HW HW3 a0 a1 ln lf hbz
                  have hW := HW4.out
                  obtain ⟨sd', hA, hbl, cS⟩ := bool_at (SR.out.below hW.bel) htn
                  obtain rfl : sd = sd' := by injection hA
                  rw [← isIn_of htn] at cS
                  have cF := mark_at hW.f_ htn
                  have cFf := hW.f_.frozen t
                  have lf := hW.f_.lt
                  have hbz := hW.bel.size
                  clear hA hW
                  cases hs : isIn S t
                  · rw [hs] at cS
                    cases hf : fo t
                    · rw [hf] at cF
                      have HP := Lib.hid (HI.out.push HTT.out hs hf htn)
                      have HWF := Lib.hid (HW4.out.setF t true)
                      have HAL1 := Lib.hid (show ∀ y, y < k + 1 → isIn S y = false → PlT.upd fo t true y = true from fun y hy hsy => by
                        unfold PlT.upd
                        split
                        · rfl
                        · exact HALL.out y hy hsy)
                      clear hs hf
                      go_upto_region 17 with fail
                      generalize hW6 : World.setCell _ _ _ = W6
                      have HW6 : Hid (FinW w W6 #[.slice Ae E.length ce, .slice (some ad) L.length ca] gf gn S.length (PlT.upd fo t true) (PlT.upd nx x (nx x + 1)) (.slice Ao O.length co) (.slice (some ⟨gw, 0, none⟩) (W0.length + 1) cw) O (W0 ++ [x])) := by rw [← hW6]; exact HWF
                      have hbz6 := HW6.out.bel.size
                      have HWW : Hid (W6.ownsRow w.heap.size 3 1 (.slice (some ⟨gw, 0, none⟩) (W0.length + 1) cw) (W0.length + 1) ((W0 ++ [x]).map I)) := by have h := HW6.out.w_; rw [show (W0 ++ [x]).length = W0.length + 1 by simp] at h; exact Lib.hid h
                      clear hW6 HWF HW4 cS cF cFf lf
                      go_wp2_with (at_builtin; refine wpList_append_any _ rfl (.tmp 101) (.tmp 103) 33 rfl w.heap.size 3 i0 (.int .i64 0) 1 8 Try.underlying33 hi0 hz0 hz1 hz2 rfl (by decide) (.slice (some ⟨gw, 0, none⟩) (W0.length + 1) cw) (W0.length + 1) ((W0 ++ [x]).map I) rfl (HWW.out.alloc _) (W6.heap.size + 1) (some ⟨W6.heap.size, 0, none⟩) 1 1 [I t] rfl (reads_new1 _ _ _) (one_I t) (len_ok (by omega)) (by omega) (by simp; omega) ?_; intro v1 x1 ho1 hg1 hv1; obtain ⟨gv, cv, rfl, -, -⟩ := ho1.form (by omega); have HA := Lib.hid (HW6.out.appW (grown_pre hg1) (S := W6.heap.size + 1) (by rw [show (W0 ++ [x]).length = W0.length + 1 by simp]; exact ho1) (by simpa using hv1) (by omega)); clear ho1 hg1 hv1)
                      go_roundg (2 * PlT.left S.length (PlG.tg L) (PlT.upd nx x (nx x + 1)) + (W0.length + 1 + 1))
                      case measure => have := HLN.out; omega
                      case rel => exact ⟨_, PlT.upd nx x (nx x + 1), O, W0 ++ [x] ++ [t], by simp, HA.out, HP.out, HAL1.out⟩
                    · rw [hf] at cF
                      have HP := Lib.hid (HI.out.skip HTT.out (.inr hf))
                      clear hs hf
                      go_wp2
                      go_roundg (2 * PlT.left S.length (PlG.tg L) (PlT.upd nx x (nx x + 1)) + (W0.length + 1))
                      case measure => have := HLN.out; omega
                      case rel => exact ⟨fo, PlT.upd nx x (nx x + 1), O, W0 ++ [x], by simp, HW4.out, HP.out, HALL.out⟩
                  · rw [hs] at cS
                    have HP := Lib.hid (HI.out.skip HTT.out (.inl hs))
                    clear hs
                    go_wp2
                    go_roundg (2 * PlT.left S.length (PlG.tg L) (PlT.upd nx x (nx x + 1)) + (W0.length + 1))
                    case measure => have := HLN.out; omega
                    case rel => exact ⟨fo, PlT.upd nx x (nx x + 1), O, W0 ++ [x], by simp, HW4.out, HP.out, HALL.out⟩
          · rw [hf] at cF
            have HF0 := Lib.hid hf
            clear hs hf
            go_wp2
            go_roundg (S.length - (k + 1))
            case measure => omega
            case rel => exact ⟨k + 1, fo, nx, O, rfl, by omega, by go_num, HW.out, HI.out, fun x hx hsx => by
              rcases Nat.lt_or_ge x k with h | h
              · exact HALL.out x h hsx
              · obtain rfl : x = k := by omega
                exact HF0.out⟩
        · rw [hs] at cS
          have HS0 := Lib.hid hs
          clear hs
          go_wp2
          go_roundg (S.length - (k + 1))
          case measure => omega
          case rel => exact ⟨k + 1, fo, nx, O, rfl, by omega, by go_num, HW.out, HI.out, fun x hx hsx => by
            rcases Nat.lt_or_ge x k with h | h
            · exact HALL.out x h hsx
            · obtain rfl : x = k := by omega
              rw [HS0.out] at hsx; cases hsx⟩
      · obtain rfl : S.length = k := by omega
        have HF := Lib.hid (show FinPost w S.length (PlG.tg L) (isIn S) (.returned (.slice Ao O.length co)) wr from ⟨O, _, rfl, hW.o_, hI.finO hall, hW.bel⟩)
        clear hW hI hall
        go_wp2
        go_ret
        exact HF.out
end Go.Proofs.Ytnjbofahboopoaa
