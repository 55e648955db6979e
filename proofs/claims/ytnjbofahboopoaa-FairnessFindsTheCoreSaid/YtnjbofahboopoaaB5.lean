/- ref21.Components, Kept and Core. -/
import Derived.Test.YtnjbofahboopoaaB4
import Derived.Test.YtnjbofahboopoaaG8
namespace Go.Proofs.Ytnjbofahboopoaa
open Go.RowKit

theorem rbegin_is (E : List Nat) (L : List (List Arc)) (v : Value) (hE : WfE E) (hL : WfL L) (A : Option Addr) (m c : Nat) (z : Int) (h : chk E L m = z) (w : World) (hS : SpaceAt w w.heap.size v E L) :
    Calls Try.prog 28 #[v, .slice A m c] w fun e w' => e = .returned (.int .i64 z) ∧ Below w.heap.size w w' := by rw [← h]; exact begin_any E L v hE hL A m c w hS
set_option maxHeartbeats 1000000 in
theorem rcomps_err (E : List Nat) (L : List (List Arc)) (v : Value) (hE : WfE E) (hL : WfL L) (A : Option Addr) (m c : Nat) (z : Int) (hz : z ≠ 0) (h : chk E L m = z) (w : World) (hS : SpaceAt w w.heap.size v E L) :
    Calls Try.prog 20 #[v, .slice A m c] w fun e w' => e = .returned (.tuple #[.slice none 0 0, .int .i64 z]) ∧ Below w.heap.size w w' := by
  have HS := Lib.hid hS
  obtain ⟨ve, va, rfl, ⟨Ae, ce, rfl, re⟩, ⟨Aa, ca, rows, rfl, ra, hk⟩⟩ := hS
  have HB0 := Lib.hid ((Below.refl w.heap.size w).alloc (Nat.le_refl _) (.cells #[.slice Ae E.length ce, .slice Aa L.length ca] 25))
  have HE := Lib.hid hE
  have HL := Lib.hid hL
  have H := Lib.hid h
  have t1 : (z != 0) = true := by rw [bne_iff_ne]; exact hz
  clear hE hL h re ra hk
  go_enter Try.func20, Try.ntmps20
  go_wp2_with fail
  refine (rbegin_is E L _ HE.out HL.out A m c z H.out _ (HS.out.go HB0.out)).mono ?_
  rintro e w1 ⟨rfl, hb1⟩
  have HB1 := Lib.hid (below_end hb1 HB0.out)
  clear hb1
  go_wp2
  go_ret2
  exact ⟨rfl, HB1.out⟩
set_option maxHeartbeats 1000000 in
theorem rkeptF_err (E : List Nat) (L : List (List Arc)) (v : Value) (hE : WfE E) (hL : WfL L) (A : Option Addr) (m c : Nat) (z : Int) (hz : z ≠ 0) (h : chk E L m = z) (w : World) (hS : SpaceAt w w.heap.size v E L) :
    Calls Try.prog 22 #[v, .slice A m c] w fun e w' => e = .returned (.tuple #[.slice none 0 0, .int .i64 z]) ∧ Below w.heap.size w w' := by
  have HS := Lib.hid hS
  obtain ⟨ve, va, rfl, ⟨Ae, ce, rfl, re⟩, ⟨Aa, ca, rows, rfl, ra, hk⟩⟩ := hS
  have HB0 := Lib.hid ((Below.refl w.heap.size w).alloc (Nat.le_refl _) (.cells #[.slice Ae E.length ce, .slice Aa L.length ca] 25))
  have HE := Lib.hid hE
  have HL := Lib.hid hL
  have H := Lib.hid h
  have t1 : (z != 0) = true := by rw [bne_iff_ne]; exact hz
  clear hE hL h re ra hk
  go_enter Try.func22, Try.ntmps22
  go_wp2_with fail
  refine (rbegin_is E L _ HE.out HL.out A m c z H.out _ (HS.out.go HB0.out)).mono ?_
  rintro e w1 ⟨rfl, hb1⟩
  have HB1 := Lib.hid (below_end hb1 HB0.out)
  clear hb1
  go_wp2
  go_ret2
  exact ⟨rfl, HB1.out⟩
set_option maxHeartbeats 1000000 in
theorem rfcore_err (E : List Nat) (L : List (List Arc)) (v : Value) (hE : WfE E) (hL : WfL L) (A : Option Addr) (m c : Nat) (z : Int) (hz : z ≠ 0) (h : chk E L m = z) (w : World) (hS : SpaceAt w w.heap.size v E L) :
    Calls Try.prog 13 #[v, .slice A m c] w fun e w' => e = .returned (.tuple #[.slice none 0 0, .int .i64 z]) ∧ Below w.heap.size w w' := by
  have HS := Lib.hid hS
  obtain ⟨ve, va, rfl, ⟨Ae, ce, rfl, re⟩, ⟨Aa, ca, rows, rfl, ra, hk⟩⟩ := hS
  have HB0 := Lib.hid ((Below.refl w.heap.size w).alloc (Nat.le_refl _) (.cells #[.slice Ae E.length ce, .slice Aa L.length ca] 25))
  have HE := Lib.hid hE
  have HL := Lib.hid hL
  have H := Lib.hid h
  have t1 : (z != 0) = true := by rw [bne_iff_ne]; exact hz
  clear hE hL h re ra hk
  go_enter Try.func13, Try.ntmps13
  go_wp2_with fail
  refine (rbegin_is E L _ HE.out HL.out A m c z H.out _ (HS.out.go HB0.out)).mono ?_
  rintro e w1 ⟨rfl, hb1⟩
  have HB1 := Lib.hid (below_end hb1 HB0.out)
  clear hb1
  go_wp2
  go_ret2
  exact ⟨rfl, HB1.out⟩
/-- a new list of numbers, or of marks, of the call's own, and no error -/
def OwnNumsT (w : World) (n : Nat) (f : Nat → Int) (e : Ending) (w' : World) : Prop :=
  ∃ v, e = .returned (.tuple #[v, .int .i64 0]) ∧ w'.ownsRow w.heap.size 3 1 v n (nums n f) ∧ Below w.heap.size w w'
def OwnMkT (w : World) (m : Nat) (f : Nat → Bool) (e : Ending) (w' : World) : Prop :=
  ∃ v, e = .returned (.tuple #[v, .int .i64 0]) ∧ w'.ownsRow w.heap.size 4 1 v m ((marks m f).map Value.bool) ∧ Below w.heap.size w w'

theorem rkept_num (E : List Nat) (L : List (List Arc)) (v : Value) (hE : WfE E) (hL : WfL L) (hok : PlS.spaceOk E L = true) (S : List Bool) (hSl : S.length = E.length) (B : Nat) (A : Option Addr) (c : Nat) (w : World) (hS : SpaceAt w w.heap.size v E L) (ho : w.ownsRow B 3 1 (.slice A S.length c) S.length (nums S.length (PlT.num S.length (PlG.tg L) (isIn S)))) :
    Calls Try.prog 31 #[v, .slice A S.length c] w (OwnMk w (PlT.cnum S.length (PlG.tg L) (isIn S) S.length) (PlT.keptN S.length E L (isIn S))) := by
  obtain ⟨hn1, hn2, hn3, hto⟩ := PlG.ok_parts hok
  exact rall_ok S.length E L v hE hL (by omega) (by omega) (by omega) (by omega) (fun k hk x hx => by have := hto k hk x hx; omega) _ _ (PlT.cnum S.length (PlG.tg L) (isIn S)) (PlT.cnum_zero _ _ _) rfl (cnum_step _ _ _) (fun k _ => PlT.cnum_le _ _ _ k) (num_bd _ _ _)
    A c w hS (Reads.of_own ho)

set_option maxRecDepth 100000 in
set_option maxHeartbeats 4000000 in
theorem rcomps_ok (E : List Nat) (L : List (List Arc)) (v : Value) (hE : WfE E) (hL : WfL L) (hok : PlS.spaceOk E L = true) (S : List Bool) (hSl : S.length = E.length) (A : Option Addr) (c : Nat) (w : World) (hS : SpaceAt w w.heap.size v E L) (hSr : Reads w w.heap.size 1 A S.length (S.map Value.bool)) :
    Calls Try.prog 20 #[v, .slice A S.length c] w (OwnNumsT w S.length (PlT.num S.length (PlG.tg L) (isIn S))) := by
  have HS := Lib.hid hS
  obtain ⟨ve, va, rfl, ⟨Ae, ce, rfl, re⟩, ⟨Aa, ca, rows, rfl, ra, hk⟩⟩ := hS
  obtain ⟨hn1, hn2, hn3, hto⟩ := PlG.ok_parts hok
  have HB0 := Lib.hid ((Below.refl w.heap.size w).alloc (Nat.le_refl _) (.cells #[.slice Ae E.length ce, .slice Aa L.length ca] 25))
  have HE := Lib.hid hE
  have HL := Lib.hid hL
  have SR := Lib.hid hSr
  have H := Lib.hid (chk_ok hok hSl)
  have HSL := Lib.hid (show S.length = L.length by omega)
  have HN := Lib.hid (show 1 ≤ S.length ∧ S.length ≤ 32768 by omega)
  have HTO := Lib.hid (show ∀ k (hk : k < L.length), ∀ x ∈ L[k], 0 ≤ x.2 ∧ x.2 < (S.length : Int) from fun k hk x hx => by have := hto k hk x hx; omega)
  clear hE hL hok hSr re ra hk hSl hn1 hn2 hn3 hto
  go_enter Try.func20, Try.ntmps20
  go_wp2_with fail
  refine (rbegin_is E L _ HE.out HL.out A S.length c 0 H.out _ (HS.out.go HB0.out)).mono ?_
  rintro e w1 ⟨rfl, hb1⟩
  have HB1 := Lib.hid (below_end hb1 HB0.out)
  have bs := (Blk.new w 25 #[.slice Ae E.length ce, .slice Aa L.length ca]).below hb1 (by simp)
  obtain ⟨p0, p1, pf⟩ := blk2 bs
  clear hb1
  go_wp2_with fail
  refine (rcomponents_ok E L _ HL.out S HSL.out HN.out.1 HN.out.2 HTO.out A c _ (HS.out.go HB1.out) (SR.out.go HB1.out)).mono ?_
  rintro e w2 ⟨v2, rfl, ho2, hb2⟩
  have HF := Lib.hid (show OwnNumsT w S.length (PlT.num S.length (PlG.tg L) (isIn S)) (.returned (.tuple #[v2, .int .i64 0])) w2 from
    ⟨v2, rfl, own_base ho2 HB1.out.size, below_end hb2 HB1.out⟩)
  clear ho2 hb2 p0 p1 pf bs
  go_wp2
  go_ret2
  exact HF.out
set_option maxRecDepth 100000 in
set_option maxHeartbeats 4000000 in
theorem rkeptF_ok (E : List Nat) (L : List (List Arc)) (v : Value) (hE : WfE E) (hL : WfL L) (hok : PlS.spaceOk E L = true) (S : List Bool) (hSl : S.length = E.length) (A : Option Addr) (c : Nat) (w : World) (hS : SpaceAt w w.heap.size v E L) (hSr : Reads w w.heap.size 1 A S.length (S.map Value.bool)) :
    Calls Try.prog 22 #[v, .slice A S.length c] w (OwnMkT w (PlT.cnum S.length (PlG.tg L) (isIn S) S.length) (PlT.keptN S.length E L (isIn S))) := by
  have HS := Lib.hid hS
  obtain ⟨ve, va, rfl, ⟨Ae, ce, rfl, re⟩, ⟨Aa, ca, rows, rfl, ra, hk⟩⟩ := hS
  obtain ⟨hn1, hn2, hn3, hto⟩ := PlG.ok_parts hok
  have HB0 := Lib.hid ((Below.refl w.heap.size w).alloc (Nat.le_refl _) (.cells #[.slice Ae E.length ce, .slice Aa L.length ca] 25))
  have HE := Lib.hid hE
  have HL := Lib.hid hL
  have SR := Lib.hid hSr
  have HOK := Lib.hid hok
  have HSE := Lib.hid hSl
  have H := Lib.hid (chk_ok hok hSl)
  have HSL := Lib.hid (show S.length = L.length by omega)
  have HN := Lib.hid (show 1 ≤ S.length ∧ S.length ≤ 32768 by omega)
  have HTO := Lib.hid (show ∀ k (hk : k < L.length), ∀ x ∈ L[k], 0 ≤ x.2 ∧ x.2 < (S.length : Int) from fun k hk x hx => by have := hto k hk x hx; omega)
  clear hE hL hok hSr re ra hk hSl hn1 hn2 hn3 hto
  go_enter Try.func22, Try.ntmps22
  go_wp2_with fail
  refine (rbegin_is E L _ HE.out HL.out A S.length c 0 H.out _ (HS.out.go HB0.out)).mono ?_
  rintro e w1 ⟨rfl, hb1⟩
  have HB1 := Lib.hid (below_end hb1 HB0.out)
  have bs := (Blk.new w 25 #[.slice Ae E.length ce, .slice Aa L.length ca]).below hb1 (by simp)
  obtain ⟨p0, p1, pf⟩ := blk2 bs
  have lbs := bs.lt
  clear hb1
  go_upto_region 4 with fail
  have rule := below_rule w1
  have HC1 := Lib.hid (fun x (hx : Below w1.heap.size w1 x) => rcomponents_ok E L _ HL.out S HSL.out HN.out.1 HN.out.2 HTO.out A c x (HS.out.go (below_end hx HB1.out)) (SR.out.go (below_end hx HB1.out)))
  have HC2 := Lib.hid (fun x (hx : Below w1.heap.size w1 x) B A c ho => rkept_num E L _ HE.out HL.out HOK.out S HSE.out B A c x (HS.out.go (below_end hx HB1.out)) ho)
  go_region_held3 (fun x => Below w1.heap.size w1 x) (first | exact Below.refl _ _ | exact Below.drew (Below.refl _ _) | assumption | exact below_step (by assumption) (by assumption)) (first
    | (go_at_call 29; refine (HC1.out _ ?_).mono ?_; (first | exact Below.refl _ _ | exact Below.drew (Below.refl _ _) | assumption | exact below_step (by assumption) (by assumption)); rintro e w2 ⟨v2, rfl, ho2, hb2⟩; obtain ⟨A2, c2, rfl⟩ := own_sl ho2)
    | (go_at_call 31; refine (HC2.out _ ?_ _ A2 c2 ho2).mono ?_; (first | exact Below.refl _ _ | exact Below.drew (Below.refl _ _) | assumption | exact below_step (by assumption) (by assumption)); rintro e w3 ⟨v3, rfl, ho3, hb3⟩))
  all_goals
    have hbb : Below w1.heap.size w1 w3 := by assumption
    have hsz : w.heap.size ≤ w2.heap.size := by have h1 := HB1.out.size; have h2 : w1.heap.size ≤ w2.heap.size := hb2.size; omega
    have HF := Lib.hid (show OwnMkT w (PlT.cnum S.length (PlG.tg L) (isIn S) S.length) (PlT.keptN S.length E L (isIn S)) (.returned (.tuple #[v3, .int .i64 0])) w3 from
      ⟨v3, rfl, own_base ho3 hsz, below_end hbb HB1.out⟩)
    clear hbb ho2 ho3 hb2 hb3 rule HC1 HC2
    go_wp2
    go_ret2
    exact HF.out
end Go.Proofs.Ytnjbofahboopoaa
