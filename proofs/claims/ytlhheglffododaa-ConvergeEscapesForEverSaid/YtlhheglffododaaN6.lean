/- The walk of ConvergeEscapes. -/
import Derived.Test.YtlhheglffododaaF9
import Derived.Test.YtlhheglffododaaN5
namespace Go.Proofs.Ytlhheglffododaa
open Go.RowKit

theorem PlE.esc_len (nx : Nat → Option Nat) : ∀ (fuel : Nat) (O : List Nat) (x : Nat), (PlE.esc nx fuel O x).1.length + (PlE.esc nx fuel O x).2.length ≤ O.length + fuel
  | 0, O, x => by simp [PlE.esc]
  | fuel + 1, O, x => by
    unfold PlE.esc
    by_cases h : x ∈ O
    · rw [if_pos h]
      simp only [List.length_take, List.length_drop]
      omega
    · rw [if_neg h]
      cases nx x with
      | none => simp
      | some y =>
        have := PlE.esc_len nx fuel (O ++ [x]) y
        simp only [List.length_append, List.length_singleton] at this
        show (PlE.esc nx fuel (O ++ [x]) y).1.length + (PlE.esc nx fuel (O ++ [x]) y).2.length ≤ _
        omega

/-- the core, as marks -/
noncomputable def coreG (L : List (List Arc)) (S : List Bool) (k : Nat) : Bool := @decide (¬ PlC.Att (PlG.tg L) (isIn S) k) (Classical.propDecidable _)
theorem coreG_iff (L : List (List Arc)) (S : List Bool) (k : Nat) : coreG L S k = true ↔ ¬ PlC.Att (PlG.tg L) (isIn S) k := by
  unfold coreG
  exact @decide_eq_true_iff _ (Classical.propDecidable _)
/-- what both sides of Escape answer -/
noncomputable def escL (E : List Nat) (L : List (List Arc)) (S : List Bool) (x : Int) : (List Nat × List Nat) × Int :=
  if chk E L S.length = 0 then (if inC S.length (coreG L S) x = true then (PlE.esc (fun k => (PlG.tg L k).find? (coreG L S)) (S.length + 1) [] x.toNat, 0) else (([], []), 2)) else (([], []), chk E L S.length)
theorem inC_parts {n : Nat} {f : Nat → Bool} {x : Int} (h : inC n f x = true) : ∃ k : Nat, x = (k : Int) ∧ k < n ∧ f k = true := by
  unfold inC at h
  simp only [Bool.and_eq_true, decide_eq_true_eq] at h
  exact ⟨x.toNat, by omega, by omega, h.2⟩
section
variable (E : List Nat) (L : List (List Arc)) (v : Value) (hE : WfE E) (hL : WfL L) (S : List Bool) (A : Option Addr) (c : Nat) (x : Int) (w : World) (hS : SpaceAt w w.heap.size v E L) (hSr : Reads w w.heap.size 1 A S.length (S.map Value.bool))
include hE hL hS hSr
theorem esc_any : Calls Try.prog 21 #[v, .slice A S.length c, .int .i64 x] w (PairPost w (escL E L S x).1.1 (escL E L S x).1.2 (escL E L S x).2) := by
  unfold escL
  by_cases h0 : chk E L S.length = 0
  · rw [if_pos h0]
    obtain ⟨h1, h2⟩ := chk_zero h0
    by_cases hi : inC S.length (coreG L S) x = true
    · rw [if_pos hi]
      obtain ⟨k, rfl, hk, hf⟩ := inC_parts hi
      rw [Int.toNat_natCast]
      exact esc_ok E L v hE hL h1 S h2 A c k hk (coreG L S) (fun k _ => coreG_iff L S k) hf _ rfl w hS hSr
    · rw [if_neg hi]
      exact esc_no E L v hE hL h1 S h2 A c x (coreG L S) (fun k _ => coreG_iff L S k) (Bool.eq_false_iff.2 hi) w hS hSr
  · rw [if_neg h0]
    exact esc_err E L v hE hL A S.length c _ x h0 rfl w hS
theorem resc_any : Calls Try.prog 22 #[v, .slice A S.length c, .int .i64 x] w (PairPost w (escL E L S x).1.1 (escL E L S x).1.2 (escL E L S x).2) := by
  unfold escL
  by_cases h0 : chk E L S.length = 0
  · rw [if_pos h0]
    obtain ⟨h1, h2⟩ := chk_zero h0
    by_cases hi : inC S.length (coreG L S) x = true
    · rw [if_pos hi]
      obtain ⟨k, rfl, hk, hf⟩ := inC_parts hi
      rw [Int.toNat_natCast]
      exact resc_ok E L v hE hL h1 S h2 A c k hk (coreG L S) (fun k _ => coreG_iff L S k) hf _ rfl w hS hSr
    · rw [if_neg hi]
      exact resc_no E L v hE hL h1 S h2 A c x (coreG L S) (fun k _ => coreG_iff L S k) (Bool.eq_false_iff.2 hi) w hS hSr
  · rw [if_neg h0]
    exact resc_err E L v hE hL A S.length c _ x h0 rfl w hS
end
theorem escL_len (E : List Nat) (L : List (List Arc)) (S : List Bool) (x : Int) : (escL E L S x).1.1.length + (escL E L S x).1.2.length ≤ S.length + 1 := by
  unfold escL
  by_cases h0 : chk E L S.length = 0
  · rw [if_pos h0]
    by_cases hi : inC S.length (coreG L S) x = true
    · rw [if_pos hi]
      have := PlE.esc_len (fun k => (PlG.tg L k).find? (coreG L S)) (S.length + 1) [] x.toNat
      simpa using this
    · rw [if_neg hi]; simp
  · rw [if_neg h0]; simp
theorem mapI_int (l : List Nat) : l.map I = (l.map Int.ofNat).map (fun z => Value.int .i64 z) := by
  rw [List.map_map]; rfl
theorem sameNats (l : List Nat) (hl : l.length ≤ 1000000) (A B : Option Addr) (ca cb B1 B2 : Nat) (w : World) (hA : Reads w B1 1 A l.length (l.map I)) (hB : Reads w B2 1 B l.length (l.map I)) :
    Calls Try.prog 23 #[.slice A l.length ca, .slice B l.length cb] w fun e w' => e = .returned (.bool true) ∧ ∃ d, w' = w.drewN d := by
  rw [mapI_int] at hA hB
  exact sameInts_n (l.map Int.ofNat) l.length (by simp) hl A B ca cb B1 B2 w hA hB

set_option maxRecDepth 100000 in
set_option maxHeartbeats 2000000 in
theorem escapes_law (w : World) (E : List Nat) (L : List (List Arc)) (v : Value) (hE : WfE E) (hV : WfV L) (hS : SpaceAt w w.heap.size v E L) (S : List Bool) (A : Option Addr) (c : Nat) (_hm : S.length ≤ 9223372036854775807)
    (hSr : Reads w w.heap.size 1 A S.length (S.map Value.bool)) (from_ : Int) (_hfr : -9223372036854775808 ≤ from_ ∧ from_ ≤ 9223372036854775807) :
    Calls Try.prog 8 #[v, .slice A S.length c, .int .i64 from_] w fun e w' => e = .returned (.bool true) ∧ Below w.heap.size w w' := by
  have HS := Lib.hid hS
  obtain ⟨ve, va, rfl, ⟨Ae, ce, rfl, re⟩, ⟨Aa, ca, rows, rfl, ra, hk⟩⟩ := hS
  have HE := Lib.hid hE
  have HV := Lib.hid hV
  have SR := Lib.hid hSr
  clear re ra hk hE hV hSr
  have hb0 := (Below.refl w.heap.size w).alloc (Nat.le_refl _) (.cells #[.slice Ae E.length ce, .slice Aa L.length ca] 25)
  have HB0 := Lib.hid hb0
  clear hb0
  cases h1 : lightB E L S.length
  · have H1 := Lib.hid h1
    clear h1
    go_enter Try.func8, Try.ntmps8
    go_wp2_with fail
    refine (light_is E L _ A S.length c false H1.out _ (HS.out.go HB0.out)).mono ?_
    rintro e w1 ⟨rfl, hb1⟩
    have HB1 := Lib.hid (below_end hb1 HB0.out)
    clear hb1
    go_wp2_with fail
    refine (awake_any _).mono ?_
    rintro e w2 ⟨rfl, hb2⟩
    go_wp2
    go_ret
    exact ⟨rfl, below_end hb2 HB1.out⟩
  · have HL := Lib.hid (wfl_light HV.out h1)
    have H1 := Lib.hid h1
    have hn : S.length ≤ 210 := (light_parts h1).2.2.1
    have la := escL_len E L S from_
    have C1 := Lib.hid (esc_any E L (.agg #[.slice Ae E.length ce, .slice Aa L.length ca]) HE.out HL.out S A c from_ · · ·)
    have C2 := Lib.hid (resc_any E L (.agg #[.slice Ae E.length ce, .slice Aa L.length ca]) HE.out HL.out S A c from_ · · ·)
    generalize escL E L S from_ = Z at *
    obtain ⟨⟨P, Q⟩, z⟩ := Z
    dsimp only at la C1 C2
    clear h1
    go_enter Try.func8, Try.ntmps8
    go_wp2_with fail
    refine (light_is E L _ A S.length c true H1.out _ (HS.out.go HB0.out)).mono ?_
    rintro e w1 ⟨rfl, hb1⟩
    have HB1 := Lib.hid (below_end hb1 HB0.out)
    have bs := (Blk.new w 25 #[.slice Ae E.length ce, .slice Aa L.length ca]).below hb1 (by simp)
    obtain ⟨p0, p1, pf⟩ := blk2 bs
    clear hb1
    go_wp2_with fail
    refine (C1.out _ (HS.out.go HB1.out) (SR.out.go HB1.out)).mono ?_
    rintro e w2 ⟨A1, A2, c1, c2, rfl, hr1, hr2, hb2⟩
    have HB2 := Lib.hid (below_end hb2 HB1.out)
    have bs2 := bs.below hb2 bs.lt
    have HR1 := Lib.hid hr1
    have HR2 := Lib.hid hr2
    clear hb2 p0 p1 pf bs hr1 hr2
    obtain ⟨p0, p1, pf⟩ := blk2 bs2
    go_wp2_with fail
    refine (C2.out _ (HS.out.go HB2.out) (SR.out.go HB2.out)).mono ?_
    rintro e w3 ⟨A3, A4, c3, c4, rfl, hr3, hr4, hb3⟩
    have HB3 := Lib.hid (below_end hb3 HB2.out)
    have HR13 := Lib.hid (HR1.out.go hb3)
    have HR23 := Lib.hid (HR2.out.go hb3)
    have HR3 := Lib.hid hr3
    have HR4 := Lib.hid hr4
    clear hb3 p0 p1 pf bs2 hr3 hr4 HR1 HR2 C1 C2
    have hz1 : (z == z) = true := beq_self_eq_true z
    go_wp2_with fail
    refine (awake_any _).mono ?_
    rintro e w8 ⟨rfl, hb8⟩
    have HB8 := Lib.hid (below_end hb8 HB3.out)
    have HR18 := Lib.hid (HR13.out.go hb8)
    have HR28 := Lib.hid (HR23.out.go hb8)
    have HR38 := Lib.hid (HR3.out.go hb8)
    have HR48 := Lib.hid (HR4.out.go hb8)
    clear hb8
    go_wp2_with fail
    refine (sameNats _ (by omega) _ _ _ _ _ _ _ HR18.out HR38.out).mono ?_
    rintro e w9 ⟨rfl, d9, rfl⟩
    go_wp2_with fail
    refine (sameNats _ (by omega) _ _ _ _ _ _ _ (HR28.out.go below_drew') (HR48.out.go below_drew')).mono ?_
    rintro e w9 ⟨rfl, d10, rfl⟩
    go_wp2
    go_ret
    exact ⟨rfl, below_end below_drew' HB8.out⟩
end Go.Proofs.Ytlhheglffododaa
