/- fairness.Kept and Core. -/
import Derived.Test.YtnjbofahboopoaaG7
namespace Go.Proofs.Ytnjbofahboopoaa
open Go.RowKit

theorem kept_num (E : List Nat) (L : List (List Arc)) (v : Value) (hE : WfE E) (hL : WfL L) (hok : PlS.spaceOk E L = true) (S : List Bool) (hSl : S.length = E.length) (g : Nat) (w : World) (hS : SpaceAt w w.heap.size v E L) (hb : Blk w g 3 (nums S.length (PlT.num S.length (PlG.tg L) (isIn S))).toArray) :
    Calls Try.prog 27 #[v, .slice (some ⟨g, 0, none⟩) S.length S.length] w (KpPost w (PlT.cnum S.length (PlG.tg L) (isIn S) S.length) (PlT.keptN S.length E L (isIn S))) := by
  obtain ⟨hn1, hn2, hn3, hto⟩ := PlG.ok_parts hok
  exact kept_ok S.length E L v hE hL (by omega) (by omega) (by omega) (by omega) (fun k hk x hx => by have := hto k hk x hx; omega) _ _ (PlT.cnum S.length (PlG.tg L) (isIn S)) (PlT.cnum_zero _ _ _) rfl (cnum_step _ _ _) (fun k _ => PlT.cnum_le _ _ _ k) (num_bd _ _ _)
    (some ⟨g, 0, none⟩) S.length w hS (reads_blk hb hb.lt (by rw [nums_len]; omega))

set_option maxRecDepth 100000 in
set_option maxHeartbeats 4000000 in
theorem keptF_ok (E : List Nat) (L : List (List Arc)) (v : Value) (hE : WfE E) (hL : WfL L) (hok : PlS.spaceOk E L = true) (S : List Bool) (hSl : S.length = E.length) (A : Option Addr) (c : Nat) (w : World) (hS : SpaceAt w w.heap.size v E L) (hSr : Reads w w.heap.size 1 A S.length (S.map Value.bool)) :
    Calls Try.prog 21 #[v, .slice A S.length c] w (MarksPost w (PlT.cnum S.length (PlG.tg L) (isIn S) S.length) (fun f => f = PlT.keptN S.length E L (isIn S))) := by
  have HS := Lib.hid hS
  obtain ⟨ve, va, rfl, ⟨Ae, ce, rfl, re⟩, ⟨Aa, ca, rows, rfl, ra, hk⟩⟩ := hS
  obtain ⟨hn1, hn2, hn3, hto⟩ := PlG.ok_parts hok
  have HB0 := Lib.hid ((Below.refl w.heap.size w).alloc (Nat.le_refl _) (.cells #[.slice Ae E.length ce, .slice Aa L.length ca] 25))
  have HE := Lib.hid hE
  have HL := Lib.hid hL
  have SR := Lib.hid hSr
  have HOK := Lib.hid hok
  have HSE := Lib.hid hSl
  have H := Lib.hid (chk_ok hok hSl)
  have HSL := Lib.hid (show S.length = L.length by omega)
  have HN := Lib.hid (show 1 ≤ S.length ∧ S.length ≤ 32768 by omega)
  have HTO := Lib.hid (show ∀ k (hk : k < L.length), ∀ x ∈ L[k], 0 ≤ x.2 ∧ x.2 < (S.length : Int) from fun k hk x hx => by have := hto k hk x hx; omega)
  clear hE hL hok hSr re ra hk hSl hn1 hn2 hn3 hto
  go_enter Try.func21, Try.ntmps21
  go_wp2_with fail
  refine (check_is E L _ HE.out HL.out A S.length c 0 H.out _ (HS.out.go HB0.out)).mono ?_
  rintro e w1 ⟨rfl, hb1⟩
  have HB1 := Lib.hid (below_end hb1 HB0.out)
  have bs := (Blk.new w 25 #[.slice Ae E.length ce, .slice Aa L.length ca]).below hb1 (by simp)
  obtain ⟨p0, p1, pf⟩ := blk2 bs
  have lbs := bs.lt
  clear hb1
  go_upto_region 4 with fail
  have rule := below_rule w1
  have HC1 := Lib.hid (fun x (hx : Below w1.heap.size w1 x) => components_ok E L _ HL.out S HSL.out HN.out.1 HN.out.2 HTO.out A c x (HS.out.go (below_end hx HB1.out)) (SR.out.go (below_end hx HB1.out)))
  have HC2 := Lib.hid (fun x (hx : Below w1.heap.size w1 x) g hb => kept_num E L _ HE.out HL.out HOK.out S HSE.out g x (HS.out.go (below_end hx HB1.out)) hb)
  go_region_held3 (fun x => Below w1.heap.size w1 x) (first | exact Below.refl _ _ | exact Below.drew (Below.refl _ _) | assumption | exact below_step (by assumption) (by assumption)) (first
    | (go_at_call 26; refine (HC1.out _ ?_).mono ?_; (first | exact Below.refl _ _ | exact Below.drew (Below.refl _ _) | assumption | exact below_step (by assumption) (by assumption)); rintro e w2 ⟨g, rfl, hg, bk, hb2⟩)
    | (go_at_call 27; refine (HC2.out _ ?_ g bk).mono ?_; (first | exact Below.refl _ _ | exact Below.drew (Below.refl _ _) | assumption | exact below_step (by assumption) (by assumption)); rintro e w3 ⟨g3, rfl, hg3, bk3, hb3⟩))
  all_goals
    have hbb : Below w1.heap.size w1 w3 := by assumption
    have hg3' : w.heap.size ≤ g3 := by have h1 := HB1.out.size; have h2 : w1.heap.size ≤ w2.heap.size := hb2.size; omega
    have HF := Lib.hid (show MarksPost w (PlT.cnum S.length (PlG.tg L) (isIn S) S.length) (fun f => f = PlT.keptN S.length E L (isIn S)) (.returned (.tuple #[.slice (some ⟨g3, 0, none⟩) (PlT.cnum S.length (PlG.tg L) (isIn S) S.length) (PlT.cnum S.length (PlG.tg L) (isIn S) S.length), .int .i64 0])) w3 from
      ⟨g3, _, rfl, hg3', bk3, rfl, below_end hbb HB1.out⟩)
    clear hbb bk bk3 hb2 hb3 rule HC1 HC2
    go_wp2
    go_ret2
    exact HF.out
end Go.Proofs.Ytnjbofahboopoaa
