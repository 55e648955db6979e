/- ref19.Escape: the ways that answer an error. -/
import Derived.Test.YtlhheglffododaaN5
import Derived.Test.YtlhheglffododaaF5
namespace Go.Proofs.Ytlhheglffododaa
open Go.RowKit

/-- two lists of states that lie somewhere, and an error -/
def PairPost (w : World) (P Q : List Nat) (z : Int) (e : Ending) (w' : World) : Prop :=
  ∃ (A A' : Option Addr) (c c' : Nat), e = .returned (.tuple #[.slice A P.length c, .slice A' Q.length c', .int .i64 z]) ∧ Reads w' w'.heap.size 1 A P.length (P.map I) ∧ Reads w' w'.heap.size 1 A' Q.length (Q.map I) ∧ Below w.heap.size w w'
theorem pair_nil {w w' : World} {z : Int} {e : Ending} (h : e = .returned (.tuple #[.slice none 0 0, .slice none 0 0, .int .i64 z])) (hb : Below w.heap.size w w') : PairPost w [] [] z e w' :=
  ⟨none, none, 0, 0, h, Reads.none_, Reads.none_, hb⟩

set_option maxRecDepth 100000 in
set_option maxHeartbeats 1000000 in
theorem resc_err (E : List Nat) (L : List (List Arc)) (v : Value) (hE : WfE E) (hL : WfL L) (A : Option Addr) (m c : Nat) (z from_ : Int) (hz : z ≠ 0) (h : chk E L m = z) (w : World) (hS : SpaceAt w w.heap.size v E L) :
    Calls Try.prog 22 #[v, .slice A m c, .int .i64 from_] w (PairPost w [] [] z) := by
  have HS := Lib.hid hS
  obtain ⟨ve, va, rfl, ⟨Ae, ce, rfl, re⟩, ⟨Aa, ca, rows, rfl, ra, hk⟩⟩ := hS
  have HB0 := Lib.hid ((Below.refl w.heap.size w).alloc (Nat.le_refl _) (.cells #[.slice Ae E.length ce, .slice Aa L.length ca] 25))
  have HE := Lib.hid hE
  have HL := Lib.hid hL
  have H := Lib.hid h
  have HZ := Lib.hid hz
  have t1 : (z != 0) = true := by rw [bne_iff_ne]; exact hz
  clear hE hL h re ra hk hz
  go_enter Try.func22, Try.ntmps22
  go_wp2_with fail
  refine (rcore_err E L _ HE.out HL.out A m c z HZ.out H.out _ (HS.out.go HB0.out)).mono ?_
  rintro e w1 ⟨rfl, hb1⟩
  have HB1 := Lib.hid (below_end hb1 HB0.out)
  clear hb1
  go_wp2
  refine bodyPost_ret (v := .tuple #[.slice none 0 0, .slice none 0 0, .int .i64 z]) ?_ rfl (pair_nil rfl ?_)
  · simp [results, Try.results22, go_sem]
  · exact HB1.out

/-- whether from_ is a state of the core -/
def inC (n : Nat) (f : Nat → Bool) (from_ : Int) : Bool := decide (0 ≤ from_) && decide (from_ < n) && f from_.toNat

set_option maxRecDepth 100000 in
set_option maxHeartbeats 1000000 in
theorem resc_no (E : List Nat) (L : List (List Arc)) (v : Value) (hE : WfE E) (hL : WfL L) (hok : PlS.spaceOk E L = true) (S : List Bool) (hSl : S.length = E.length) (A : Option Addr) (c : Nat) (from_ : Int) (g : Nat → Bool) (hg : ∀ k, k < S.length → (g k = true ↔ ¬ PlC.Att (PlG.tg L) (isIn S) k)) (hno : inC S.length g from_ = false)
    (w : World) (hS : SpaceAt w w.heap.size v E L) (hSr : Reads w w.heap.size 1 A S.length (S.map Value.bool)) :
    Calls Try.prog 22 #[v, .slice A S.length c, .int .i64 from_] w (PairPost w [] [] 2) := by
  have HS := Lib.hid hS
  obtain ⟨ve, va, rfl, ⟨Ae, ce, rfl, re⟩, ⟨Aa, ca, rows, rfl, ra, hk⟩⟩ := hS
  have HB0 := Lib.hid ((Below.refl w.heap.size w).alloc (Nat.le_refl _) (.cells #[.slice Ae E.length ce, .slice Aa L.length ca] 25))
  have HE := Lib.hid hE
  have HL := Lib.hid hL
  have HG := Lib.hid hg
  have SR := Lib.hid hSr
  have HN := Lib.hid hno
  have HSL := Lib.hid hSl
  have hn0 : S.length ≤ 32768 := by have := (PlG.ok_parts hok).2.1; omega
  have HOK := Lib.hid hok
  clear hE hL re ra hk hg hno hSr hSl hok
  go_enter Try.func22, Try.ntmps22
  go_wp2_with fail
  refine (rcore_ok E L _ HE.out HL.out HOK.out S HSL.out A c _ (HS.out.go HB0.out) (SR.out.go HB0.out)).mono ?_
  rintro e w1 ⟨vm, f, rfl, ho, hf, hb1⟩
  have HB1 := Lib.hid (below_end hb1 HB0.out)
  obtain ⟨Am, cm, rfl⟩ := own_slice ho
  have HO := Lib.hid ho
  clear hb1 ho
  by_cases h0 : 0 ≤ from_ ∧ from_ ≤ (S.length : Int) - 1
  · obtain ⟨k, rfl⟩ : ∃ k : Nat, from_ = k := ⟨from_.toNat, by omega⟩
    have hk : k < S.length := by omega
    obtain ⟨gb, cb, hfm, -, -⟩ := HO.out.form (by omega)
    injection hfm with hfm _ hcm
    subst hfm hcm
    have m1 := own_mark HO.out hk
    have hfk : f k = false := by
      have hn := HN.out
      unfold inC at hn
      rw [decide_eq_true (by omega), decide_eq_true (by omega), Int.toNat_natCast] at hn
      simp only [Bool.true_and] at hn
      cases h : f k
      · rfl
      · rw [(HG.out k hk).2 ((hf k hk).1 h)] at hn; cases hn
    rw [hfk] at m1
    have k0 : (0 : Int) ≤ (k : Int) := by omega
    have k1 : (k : Int) < (S.length : Int) := by omega
    clear hfk hf
    go_wp2_with fail
    refine (in_any _ _ _ _).mono ?_
    rintro e w2 ⟨rfl, rfl⟩
    rw [decide_eq_true h0.1, decide_eq_true h0.2]
    go_wp2
    refine bodyPost_ret (v := .tuple #[.slice none 0 0, .slice none 0 0, .int .i64 2]) ?_ rfl (pair_nil rfl ?_)
    · simp [results, Try.results22, go_sem]
    · exact HB1.out
  · have d0 : (decide (0 ≤ from_) && decide (from_ ≤ (S.length : Int) - 1)) = false := by
      rw [← Bool.decide_and]; exact decide_eq_false h0
    go_wp2_with fail
    refine (in_any _ _ _ _).mono ?_
    rintro e w2 ⟨rfl, rfl⟩
    rw [d0]
    go_wp2
    refine bodyPost_ret (v := .tuple #[.slice none 0 0, .slice none 0 0, .int .i64 2]) ?_ rfl (pair_nil rfl ?_)
    · simp [results, Try.results22, go_sem]
    · exact HB1.out
end Go.Proofs.Ytlhheglffododaa
