/- fairness.Components, Kept and Core. -/
import Derived.Test.YtnjbofahboopoaaG5
import Derived.Test.YtnjbofahboopoaaG6
import Derived.Test.YtnjbofahboopoaaM4
import Derived.Test.YtnjbofahboopoaaPlQ
import Derived.Deep.RegionLaw
import Derived.Deep.LoopGhost
namespace Go.Proofs.Ytnjbofahboopoaa
open Go.RowKit

theorem Try.infoIntsG : (Try.prog.info? 33).map (fun i => (i.zero, i.size, i.bytes)) = some (some (.slice none 0 0), 1, 24) := by kernel_rfl
theorem reads_blk {w : World} {g t B size n : Nat} {l : List Value} (h : Blk w g t l.toArray) (hB : g < B) (hl : l.length = n * size) : Reads w B size (some ⟨g, 0, none⟩) n l :=
  ⟨hl, fun _ => ⟨_, rfl, hB, fun j u hu => by
    have := h.cell j
    rw [List.getElem?_toArray, hu] at this
    unfold Addr.add
    split
    · rename_i h0; subst h0; exact this
    · simpa using this⟩⟩
/-- a valid system -/
theorem sys_of {E : List Nat} {L : List (List Arc)} (hE : WfE E) (hok : PlS.spaceOk E L = true) {n : Nat} (hn : n = E.length) : PlT.Sys n E L := by
  subst hn
  refine ⟨fun x => ?_, fun x hx => PlG.tg_dom hok x hx, fun x t ht => PlG.tg_lt hok x t ht⟩
  by_cases h : x < E.length
  · rw [getD_l 0 h]; exact hE x h
  · rw [List.getD_eq_getElem?_getD, List.getElem?_eq_none (by omega)]; exact (by decide : 0 < 4294967296)
theorem cnum_step (n : Nat) (G : Nat → List Nat) (S : Nat → Bool) (k : Nat) (hk : k < n) : (PlT.cnum n G S (k + 1) : Int) = max (PlT.cnum n G S k : Int) (PlT.num n G S k + 1) := by
  rw [Int.max_def]
  rcases PlT.num_next (G := G) (S := S) hk with ⟨_, h2, h3⟩ | ⟨_, h2, h3, h4⟩ | ⟨_, h2, h3⟩
  · split <;> omega
  · split <;> omega
  · split <;> omega
theorem num_bd (n : Nat) (G : Nat → List Nat) (S : Nat → Bool) (k : Nat) (hk : k < n) : -1 ≤ PlT.num n G S k ∧ PlT.num n G S k < (PlT.cnum n G S n : Nat) := by
  cases hs : S k
  · have := PlT.num_lt (G := G) hk hs; omega
  · rw [PlT.num_mem n G S hs]; omega

/-- a new list of numbers, and no error -/
def IntsPost (w : World) (n : Nat) (f : Nat → Int) (e : Ending) (w' : World) : Prop :=
  ∃ g, e = .returned (.tuple #[.slice (some ⟨g, 0, none⟩) n n, .int .i64 0]) ∧ w.heap.size ≤ g ∧ Blk w' g 3 (nums n f).toArray ∧ Below w.heap.size w w'

set_option maxHeartbeats 1000000 in
theorem comps_err (E : List Nat) (L : List (List Arc)) (v : Value) (hE : WfE E) (hL : WfL L) (A : Option Addr) (m c : Nat) (z : Int) (hz : z ≠ 0) (h : chk E L m = z) (w : World) (hS : SpaceAt w w.heap.size v E L) :
    Calls Try.prog 16 #[v, .slice A m c] w fun e w' => e = .returned (.tuple #[.slice none 0 0, .int .i64 z]) ∧ Below w.heap.size w w' := by
  have HS := Lib.hid hS
  obtain ⟨ve, va, rfl, ⟨Ae, ce, rfl, re⟩, ⟨Aa, ca, rows, rfl, ra, hk⟩⟩ := hS
  have HB0 := Lib.hid ((Below.refl w.heap.size w).alloc (Nat.le_refl _) (.cells #[.slice Ae E.length ce, .slice Aa L.length ca] 25))
  have HE := Lib.hid hE
  have HL := Lib.hid hL
  have H := Lib.hid h
  have t1 : (z != 0) = true := by rw [bne_iff_ne]; exact hz
  clear hE hL h re ra hk
  go_enter Try.func16, Try.ntmps16
  go_wp2_with fail
  refine (check_is E L _ HE.out HL.out A m c z H.out _ (HS.out.go HB0.out)).mono ?_
  rintro e w1 ⟨rfl, hb1⟩
  have HB1 := Lib.hid (below_end hb1 HB0.out)
  clear hb1
  go_wp2
  go_ret2
  exact ⟨rfl, HB1.out⟩
set_option maxHeartbeats 1000000 in
theorem keptF_err (E : List Nat) (L : List (List Arc)) (v : Value) (hE : WfE E) (hL : WfL L) (A : Option Addr) (m c : Nat) (z : Int) (hz : z ≠ 0) (h : chk E L m = z) (w : World) (hS : SpaceAt w w.heap.size v E L) :
    Calls Try.prog 21 #[v, .slice A m c] w fun e w' => e = .returned (.tuple #[.slice none 0 0, .int .i64 z]) ∧ Below w.heap.size w w' := by
  have HS := Lib.hid hS
  obtain ⟨ve, va, rfl, ⟨Ae, ce, rfl, re⟩, ⟨Aa, ca, rows, rfl, ra, hk⟩⟩ := hS
  have HB0 := Lib.hid ((Below.refl w.heap.size w).alloc (Nat.le_refl _) (.cells #[.slice Ae E.length ce, .slice Aa L.length ca] 25))
  have HE := Lib.hid hE
  have HL := Lib.hid hL
  have H := Lib.hid h
  have t1 : (z != 0) = true := by rw [bne_iff_ne]; exact hz
  clear hE hL h re ra hk
  go_enter Try.func21, Try.ntmps21
  go_wp2_with fail
  refine (check_is E L _ HE.out HL.out A m c z H.out _ (HS.out.go HB0.out)).mono ?_
  rintro e w1 ⟨rfl, hb1⟩
  have HB1 := Lib.hid (below_end hb1 HB0.out)
  clear hb1
  go_wp2
  go_ret2
  exact ⟨rfl, HB1.out⟩
set_option maxHeartbeats 1000000 in
theorem fcore_err (E : List Nat) (L : List (List Arc)) (v : Value) (hE : WfE E) (hL : WfL L) (A : Option Addr) (m c : Nat) (z : Int) (hz : z ≠ 0) (h : chk E L m = z) (w : World) (hS : SpaceAt w w.heap.size v E L) :
    Calls Try.prog 12 #[v, .slice A m c] w fun e w' => e = .returned (.tuple #[.slice none 0 0, .int .i64 z]) ∧ Below w.heap.size w w' := by
  have HS := Lib.hid hS
  obtain ⟨ve, va, rfl, ⟨Ae, ce, rfl, re⟩, ⟨Aa, ca, rows, rfl, ra, hk⟩⟩ := hS
  have HB0 := Lib.hid ((Below.refl w.heap.size w).alloc (Nat.le_refl _) (.cells #[.slice Ae E.length ce, .slice Aa L.length ca] 25))
  have HE := Lib.hid hE
  have HL := Lib.hid hL
  have H := Lib.hid h
  have t1 : (z != 0) = true := by rw [bne_iff_ne]; exact hz
  clear hE hL h re ra hk
  go_enter Try.func12, Try.ntmps12
  go_wp2_with fail
  refine (check_is E L _ HE.out HL.out A m c z H.out _ (HS.out.go HB0.out)).mono ?_
  rintro e w1 ⟨rfl, hb1⟩
  have HB1 := Lib.hid (below_end hb1 HB0.out)
  clear hb1
  go_wp2
  go_ret2
  exact ⟨rfl, HB1.out⟩
set_option maxHeartbeats 1000000 in
theorem comps_ok (E : List Nat) (L : List (List Arc)) (v : Value) (hE : WfE E) (hL : WfL L) (hok : PlS.spaceOk E L = true) (S : List Bool) (hSl : S.length = E.length) (A : Option Addr) (c : Nat) (w : World) (hS : SpaceAt w w.heap.size v E L) (hSr : Reads w w.heap.size 1 A S.length (S.map Value.bool)) :
    Calls Try.prog 16 #[v, .slice A S.length c] w (IntsPost w S.length (PlT.num S.length (PlG.tg L) (isIn S))) := by
  have HS := Lib.hid hS
  obtain ⟨ve, va, rfl, ⟨Ae, ce, rfl, re⟩, ⟨Aa, ca, rows, rfl, ra, hk⟩⟩ := hS
  obtain ⟨hn1, hn2, hn3, hto⟩ := PlG.ok_parts hok
  have HB0 := Lib.hid ((Below.refl w.heap.size w).alloc (Nat.le_refl _) (.cells #[.slice Ae E.length ce, .slice Aa L.length ca] 25))
  have HE := Lib.hid hE
  have HL := Lib.hid hL
  have SR := Lib.hid hSr
  have H := Lib.hid (chk_ok hok hSl)
  have HSL := Lib.hid (show S.length = L.length by omega)
  have HN := Lib.hid (show 1 ≤ S.length ∧ S.length ≤ 32768 by omega)
  have HTO := Lib.hid (show ∀ k (hk : k < L.length), ∀ x ∈ L[k], 0 ≤ x.2 ∧ x.2 < (S.length : Int) from fun k hk x hx => by have := hto k hk x hx; omega)
  clear hE hL hok hSr re ra hk hSl hn1 hn2 hn3 hto
  go_enter Try.func16, Try.ntmps16
  go_wp2_with fail
  refine (check_is E L _ HE.out HL.out A S.length c 0 H.out _ (HS.out.go HB0.out)).mono ?_
  rintro e w1 ⟨rfl, hb1⟩
  have HB1 := Lib.hid (below_end hb1 HB0.out)
  have bs := (Blk.new w 25 #[.slice Ae E.length ce, .slice Aa L.length ca]).below hb1 (by simp)
  obtain ⟨p0, p1, pf⟩ := blk2 bs
  clear hb1
  go_wp2_with fail
  refine (components_ok E L _ HL.out S HSL.out HN.out.1 HN.out.2 HTO.out A c _ (HS.out.go HB1.out) (SR.out.go HB1.out)).mono ?_
  rintro e w2 ⟨g, rfl, hg, bk, hb2⟩
  have HF := Lib.hid (show IntsPost w S.length (PlT.num S.length (PlG.tg L) (isIn S)) (.returned (.tuple #[.slice (some ⟨g, 0, none⟩) S.length S.length, .int .i64 0])) w2 from
    ⟨g, rfl, Nat.le_trans HB1.out.size hg, bk, below_end hb2 HB1.out⟩)
  clear bk hb2 p0 p1 pf bs
  go_wp2
  go_ret2
  exact HF.out
end Go.Proofs.Ytnjbofahboopoaa
