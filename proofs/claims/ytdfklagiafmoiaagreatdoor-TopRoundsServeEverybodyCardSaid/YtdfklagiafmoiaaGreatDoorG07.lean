/- Lemmas of this seat, laid together out of 9 texts: no statement of the seat is proved here. -/
import Derived.Test.YtdfklagiafmoiaaGreatDoorG06
import Derived.Lib.Bytealg
import Derived.Test.YtdfklagiafmoiaaGreatDoorG03
/- The lexer: blanks; the end of a word. -/
namespace Go.Proofs.YtdfklagiafmoiaaGreatDoor
open Go.RowKit

def SkRel (a e : Nat) (i : Value) : Prop := ∃ k : Nat, i = .int .i64 k ∧ a ≤ k ∧ k ≤ e
set_option maxRecDepth 100000 in
set_option maxHeartbeats 4000000 in
theorem skip_p (T : ByteArray) (a e : Nat) (hT : T.size ≤ 16384) (hae : a ≤ e) (he : e ≤ T.size) (hb : ∀ i (h : i < T.size), a ≤ i → i < e → T[i].toNat = 32) (hst : ∀ h : e < T.size, 35 < T[e].toNat) (w : World) :
    Calls Tryz.prog 50 #[.string T, .int .i64 (a : Int)] w fun r w' => r = .returned (.int .i64 (e : Int)) ∧ w = w' := by
  have HB := Lib.hid hb
  have HS := Lib.hid hst
  clear hb hst
  go_enter Tryz.func50, Tryz.ntmps50
  go_wp2
  go_loop [1] (SkRel a e) (fun i => e - (intOf i).toNat)
  case atStart => exact ⟨a, rfl, Nat.le_refl _, hae⟩
  case round =>
    obtain ⟨k, rfl, hk1, hk2⟩ := hrel
    by_cases hlt : k < e
    · have hk : k < T.size := by omega
      have hc := HB.out k hk hk1 hlt
      have w1 := IntWalk.i64_in ((k : Int) + 1) (by omega)
      have k0 : (0 : Int) ≤ (k : Int) := by omega
      have k1 : (k : Int) < (T.size : Int) := by omega
      go_wp2
      go_round
      case rel => exact ⟨k + 1, by go_num, by omega, hlt⟩
      case measure => simp [intOf]; omega
    · obtain rfl : k = e := by omega
      by_cases hk : k < T.size
      · have hc := HS.out hk
        have k0 : (0 : Int) ≤ (k : Int) := by omega
        have k1 : (k : Int) < (T.size : Int) := by omega
        obtain ⟨c, hcc⟩ : ∃ c : Nat, T[k].toNat = c := ⟨_, rfl⟩
        rw [hcc] at hc
        have d1 : ((c : Int) == 32) = false := beq_eq_false_iff_ne.2 (by omega)
        have d2 : ((c : Int) == 9) = false := beq_eq_false_iff_ne.2 (by omega)
        have d3 : ((c : Int) == 10) = false := beq_eq_false_iff_ne.2 (by omega)
        have d4 : ((c : Int) == 13) = false := beq_eq_false_iff_ne.2 (by omega)
        have d5 : ((c : Int) == 35) = false := beq_eq_false_iff_ne.2 (by omega)
        go_wp2
        go_ret
        exact ⟨rfl, rfl⟩
      · have k1 : ¬ (k : Int) < (T.size : Int) := by omega
        go_wp2
        go_ret
        exact ⟨rfl, rfl⟩
def WhRel (a e : Nat) (w : World) (i : Value) (wr : World) : Prop := wr = w ∧ ∃ k : Nat, i = .int .i64 k ∧ a ≤ k ∧ k ≤ e
section
variable (T : ByteArray) (a e : Nat) (hT : T.size ≤ 16384) (hae : a ≤ e) (he : e ≤ T.size) (b d : Nat) (w : World) (h0 : w.cell? ⟨b, 0, none⟩ = some (.int .i64 (a : Int))) (h1 : w.cell? ⟨d, 0, none⟩ = some (.string T))
include hT hae he h0 h1
set_option maxRecDepth 100000 in
set_option maxHeartbeats 4000000 in
theorem while_w (hb : ∀ i (h : i < T.size), a ≤ i → i < e → wordB (T[i].toNat : Int) = true) (hst : ∀ h : e < T.size, wordB (T[e].toNat : Int) = false) :
    Calls Tryz.prog 80 #[.func (.func 82) #[] #[], .pointer (some ⟨b, 0, none⟩), .pointer (some ⟨d, 0, none⟩)] w fun r w' => r = .returned (.int .i64 (e : Int)) ∧ w = w' := by
  have HB := Lib.hid hb
  have HS := Lib.hid hst
  clear hb hst
  go_enter Tryz.func80, Tryz.ntmps80
  go_wp2
  go_loopw [5] (WhRel a e w) (fun i _ => e - (intOf i).toNat)
  case atStart => exact ⟨rfl, a, rfl, Nat.le_refl _, hae⟩
  case round =>
    obtain ⟨rfl, k, rfl, hk1, hk2⟩ := hrel
    have k0 : (0 : Int) ≤ (k : Int) := by omega
    by_cases hlt : k < e
    · have hk : k < T.size := by omega
      have HC := Lib.hid (HB.out k hk hk1 hlt)
      have w1 := IntWalk.i64_in ((k : Int) + 1) (by omega)
      have k1 : (k : Int) < (T.size : Int) := by omega
      go_wp2_with (go_at_call 82; refine (inWord_p _ _).mono ?_; rintro e w' ⟨rfl, rfl⟩; rw [HC.out])
      go_roundw
      case rel => exact ⟨rfl, k + 1, by go_num, by omega, hlt⟩
      case measure => simp [intOf]; omega
    · obtain rfl : k = e := by omega
      by_cases hk : k < T.size
      · have HC := Lib.hid (HS.out hk)
        have k1 : (k : Int) < (T.size : Int) := by omega
        go_wp2_with (go_at_call 82; refine (inWord_p _ _).mono ?_; rintro e w' ⟨rfl, rfl⟩; rw [HC.out])
        go_ret
        exact ⟨rfl, rfl⟩
      · have k1 : ¬ (k : Int) < (T.size : Int) := by omega
        go_wp2
        go_ret
        exact ⟨rfl, rfl⟩
set_option maxRecDepth 100000 in
set_option maxHeartbeats 4000000 in
theorem while_d (hb : ∀ i (h : i < T.size), a ≤ i → i < e → digB (T[i].toNat : Int) = true) (hst : ∀ h : e < T.size, digB (T[e].toNat : Int) = false) :
    Calls Tryz.prog 80 #[.func (.func 83) #[] #[], .pointer (some ⟨b, 0, none⟩), .pointer (some ⟨d, 0, none⟩)] w fun r w' => r = .returned (.int .i64 (e : Int)) ∧ w = w' := by
  have HB := Lib.hid hb
  have HS := Lib.hid hst
  clear hb hst
  go_enter Tryz.func80, Tryz.ntmps80
  go_wp2
  go_loopw [5] (WhRel a e w) (fun i _ => e - (intOf i).toNat)
  case atStart => exact ⟨rfl, a, rfl, Nat.le_refl _, hae⟩
  case round =>
    obtain ⟨rfl, k, rfl, hk1, hk2⟩ := hrel
    have k0 : (0 : Int) ≤ (k : Int) := by omega
    by_cases hlt : k < e
    · have hk : k < T.size := by omega
      have HC := Lib.hid (HB.out k hk hk1 hlt)
      have w1 := IntWalk.i64_in ((k : Int) + 1) (by omega)
      have k1 : (k : Int) < (T.size : Int) := by omega
      go_wp2_with (go_at_call 83; refine (digit_p _ _).mono ?_; rintro e w' ⟨rfl, rfl⟩; rw [HC.out])
      go_roundw
      case rel => exact ⟨rfl, k + 1, by go_num, by omega, hlt⟩
      case measure => simp [intOf]; omega
    · obtain rfl : k = e := by omega
      by_cases hk : k < T.size
      · have HC := Lib.hid (HS.out hk)
        have k1 : (k : Int) < (T.size : Int) := by omega
        go_wp2_with (go_at_call 83; refine (digit_p _ _).mono ?_; rintro e w' ⟨rfl, rfl⟩; rw [HC.out])
        go_ret
        exact ⟨rfl, rfl⟩
      · have k1 : ¬ (k : Int) < (T.size : Int) := by omega
        go_wp2
        go_ret
        exact ⟨rfl, rfl⟩
end
end Go.Proofs.YtdfklagiafmoiaaGreatDoor

/- The lexer: signs. -/
namespace Go.Proofs.YtdfklagiafmoiaaGreatDoor
open Go.RowKit

set_option maxRecDepth 100000 in
set_option maxHeartbeats 4000000 in
theorem pre_p (s p : ByteArray) (w : World) : Calls Tryz.prog 145 #[.string s, .string p] w fun r w' => r = .returned (.bool (decide (p.size ≤ s.size) && (s.extract 0 p.size).toList == p.toList)) ∧ w = w' := by
  by_cases h : p.size ≤ s.size
  · have h1 : (p.size : Int) ≤ (s.size : Int) := by omega
    go_enter Tryz.func145, Tryz.ntmps145
    go_wp2
    go_ret
    exact ⟨ret_bool (by simp [h]), rfl⟩
  · have h1 : ¬ (p.size : Int) ≤ (s.size : Int) := by omega
    go_enter Tryz.func145, Tryz.ntmps145
    go_wp2
    go_ret
    exact ⟨ret_bool (by simp []), rfl⟩
theorem pre2_p (s p : ByteArray) (w : World) : Calls Tryz.prog 118 #[.string s, .string p] w fun r w' => r = .returned (.bool (decide (p.size ≤ s.size) && (s.extract 0 p.size).toList == p.toList)) ∧ w = w' := by
  go_enter Tryz.func118, Tryz.ntmps118
  go_wp2_with (go_at_call 145; refine (pre_p _ _ _).mono ?_; rintro e w' ⟨rfl, rfl⟩)
  go_ret
  exact ⟨rfl, rfl⟩
set_option maxRecDepth 100000 in
set_option maxHeartbeats 4000000 in
theorem idx0_p (s : ByteArray) (c : Int) (w : World) : Calls Tryz.prog 146 #[.string s, .int .u8 c] w fun r w' => r = .returned (.int .i64 (Lib.indexByte s.data.toList c.toNat.toUInt8)) ∧ w = w' := by
  have hx : (callFunc 165 #[.string s, .int .u8 c]).run Tryz.prog w = .ok (.value (.int .i64 (Lib.indexByte s.data.toList c.toNat.toUInt8))) w := by
    rw [run_callFunc_extern Tryz.func165 (by kernel_rfl) (by kernel_rfl) (by kernel_rfl) (e := Extern.BytealgIndexByte.indexByte) (by kernel_rfl), Lib.run_indexByteString]
    rfl
  go_enter Tryz.func146, Tryz.ntmps146
  go_wp2
  go_ret
  exact ⟨rfl, rfl⟩
theorem idxb_p (s : ByteArray) (c : Int) (w : World) : Calls Tryz.prog 119 #[.string s, .int .u8 c] w fun r w' => r = .returned (.int .i64 (Lib.indexByte s.data.toList c.toNat.toUInt8)) ∧ w = w' := by
  go_enter Tryz.func119, Tryz.ntmps119
  go_wp2_with (go_at_call 146; refine (idx0_p _ _ _).mono ?_; rintro e w' ⟨rfl, rfl⟩)
  go_ret
  exact ⟨rfl, rfl⟩
end Go.Proofs.YtdfklagiafmoiaaGreatDoor

/- The lexer: a sign's length; the number nought. -/
namespace Go.Proofs.YtdfklagiafmoiaaGreatDoor
open Go.RowKit

def sg2 : List ByteArray := [⟨#[46, 46]⟩, ⟨#[45, 62]⟩, ⟨#[58, 61]⟩, ⟨#[38, 38]⟩, ⟨#[124, 124]⟩, ⟨#[61, 61]⟩, ⟨#[33, 61]⟩, ⟨#[60, 61]⟩, ⟨#[62, 61]⟩]
def sg1 : ByteArray := ⟨#[59, 58, 44, 40, 41, 46, 63, 60, 62, 43, 45, 42, 47, 37, 33]⟩
def isPre (s p : ByteArray) : Bool := decide (p.size ≤ s.size) && (s.extract 0 p.size).toList == p.toList
def sgn1 (c : Int) : Bool := decide (0 ≤ Lib.indexByte sg1.data.toList c.toNat.toUInt8)
def sgnZ (s : ByteArray) (hs : 0 < s.size) : Int := if sg2.any (isPre s) then 2 else if sgn1 (s[0].toNat : Int) then 1 else 0
theorem sgnZ_two {s : ByteArray} {hs : 0 < s.size} (h : sg2.any (isPre s) = true) : (2 : Int) = sgnZ s hs := by unfold sgnZ; rw [if_pos h]
theorem sgnZ_one {s : ByteArray} {hs : 0 < s.size} (h : sg2.any (isPre s) = false) (h1 : sgn1 (s[0].toNat : Int) = true) : (1 : Int) = sgnZ s hs := by unfold sgnZ; rw [if_neg (by rw [h]; simp), if_pos h1]
theorem sgnZ_no {s : ByteArray} {hs : 0 < s.size} (h : sg2.any (isPre s) = false) (h1 : sgn1 (s[0].toNat : Int) = false) : (0 : Int) = sgnZ s hs := by unfold sgnZ; rw [if_neg (by rw [h]; simp), if_neg (by rw [h1]; simp)]
def SgRel (s : ByteArray) (W : World) (i : Value) (wr : World) : Prop := wr = W ∧ ∃ k : Nat, i = .int .i64 k ∧ k ≤ 9 ∧ ∀ j (h : j < sg2.length), j < k → isPre s sg2[j] = false
set_option maxRecDepth 100000 in
set_option maxHeartbeats 4000000 in
theorem sign_p (s : ByteArray) (hs : 0 < s.size) (w : World) :
    Calls Tryz.prog 85 #[.string s] w fun r w' => r = .returned (.int .i64 (sgnZ s hs)) ∧ Below w.heap.size w w' := by
  have HBL := Lib.hid (Blk.new w 9 (sg2.map Value.string).toArray)
  have HBE := Lib.hid (balloc (Below.refl w.heap.size w) (.cells (sg2.map Value.string).toArray 9))
  obtain ⟨W, hW⟩ : ∃ W, w.alloc (.cells (sg2.map Value.string).toArray 9) = W := ⟨_, rfl⟩
  rw [hW] at HBL HBE
  go_enter Tryz.func85, Tryz.ntmps85
  go_wp2_with fail
  generalize hW2 : World.alloc w _ = W2
  obtain rfl : W2 = W := hW2.symm.trans hW
  clear hW hW2
  go_loopw [7] (SgRel s W2) (fun i _ => 9 - (intOf i).toNat)
  case atStart => exact ⟨rfl, 0, rfl, by omega, fun j _ h => absurd h (Nat.not_lt_zero _)⟩
  case round =>
    obtain ⟨rfl, k, rfl, hk, hno⟩ := hrel
    have HNO := Lib.hid hno
    have HK := Lib.hid hk
    clear hno hk
    have k0 : (0 : Int) ≤ (k : Int) := by omega
    by_cases hlt : k < 9
    · have hks : k < sg2.length := hlt
      have c0 : wr.cell? ⟨w.heap.size, k, none⟩ = some (.string sg2[k]) := by
        have := HBL.out.get (k := k) (by rw [List.length_map]; exact hks)
        rw [this, List.getElem_map]
      have HP := Lib.hid (pre2_p s sg2[k] wr)
      obtain ⟨b, hb⟩ : ∃ b, isPre s sg2[k] = b := ⟨_, rfl⟩
      have hb' : (decide ((sg2[k]).size ≤ s.size) && (s.extract 0 (sg2[k]).size).toList == (sg2[k]).toList) = b := hb
      rw [hb'] at HP
      obtain ⟨q, hq⟩ : ∃ q, sg2[k] = q := ⟨_, rfl⟩
      rw [hq] at HP c0
      have k1 : (k : Int) < 9 := by omega
      have HLT := Lib.hid hlt
      clear hb'
      cases b
      · have HN2 := Lib.hid (show ∀ j (h : j < sg2.length), j < k + 1 → isPre s sg2[j] = false from fun j hj hjk => by
          rcases (by omega : j < k ∨ j = k) with h1 | rfl
          · exact HNO.out j hj h1
          · exact hb)
        clear hb hq hks
        go_wp2_with (go_at_call 118; refine HP.out.mono ?_; rintro e w' ⟨rfl, rfl⟩)
        go_roundw
        case rel => exact ⟨rfl, k + 1, by go_num, HLT.out, HN2.out⟩
        case measure => simp [intOf]; omega
      · have HAN := Lib.hid (sgnZ_two (hs := hs) (List.any_eq_true.2 ⟨_, List.getElem_mem hks, hb⟩))
        clear hb hq hks
        go_wp2_with (go_at_call 118; refine HP.out.mono ?_; rintro e w' ⟨rfl, rfl⟩)
        go_ret
        exact ⟨ret_int HAN.out, HBE.out⟩
    · obtain rfl : k = 9 := by have := HK.out; omega
      have HAN := Lib.hid (show sg2.any (isPre s) = false from by
        rw [List.any_eq_false]
        intro q hq
        obtain ⟨j, hj, rfl⟩ := List.getElem_of_mem hq
        rw [HNO.out j hj hj]; simp)
      have HS1 := Lib.hid (show sgn1 (s[0].toNat : Int) = decide (0 ≤ Lib.indexByte sg1.data.toList ((s[0].toNat : Int)).toNat.toUInt8) from rfl)
      have HX := Lib.hid (idxb_p sg1 (s[0].toNat : Int) wr)
      have i0 : (0 : Int) < (s.size : Int) := by omega
      obtain ⟨z, hz⟩ : ∃ z, Lib.indexByte sg1.data.toList ((s[0].toNat : Int)).toNat.toUInt8 = z := ⟨_, rfl⟩
      rw [hz] at HX HS1
      clear hz
      by_cases h0 : 0 ≤ z
      · have d0 : decide (0 ≤ z) = true := decide_eq_true h0
        go_wp2_with (go_at_call 119; refine HX.out.mono ?_; rintro e w' ⟨rfl, rfl⟩)
        go_ret
        exact ⟨ret_int (sgnZ_one HAN.out (HS1.out.trans d0)), HBE.out⟩
      · have d0 : decide (0 ≤ z) = false := decide_eq_false h0
        go_wp2_with (go_at_call 119; refine HX.out.mono ?_; rintro e w' ⟨rfl, rfl⟩)
        go_ret
        exact ⟨ret_int (sgnZ_no HAN.out (HS1.out.trans d0)), HBE.out⟩
def N0Rel (w : World) (v i : Value) (wr : World) : Prop := wr = w ∧ v = .int .i64 0 ∧ ∃ k : Nat, i = .int .i64 k ∧ k ≤ 1
set_option maxRecDepth 100000 in
set_option maxHeartbeats 4000000 in
theorem nought_p (s : ByteArray) (hs : s.size = 1) (h0 : s[0]'(by omega) = 48) (w : World) :
    Calls Tryz.prog 84 #[.string s] w fun r w' => r = .returned (.tuple #[.int .i64 0, .bool true]) ∧ w = w' := by
  have i0 : (0 : Int) < (s.size : Int) := by omega
  have hz : (s.size : Int) = 1 := by omega
  have hc : (s[0]'(by omega)).toNat = 48 := by rw [h0]; rfl
  go_enter Tryz.func84, Tryz.ntmps84
  go_wp2
  go_loopw [4, 16] (N0Rel w) (fun _ i _ => 1 - (intOf i).toNat)
  case atStart => exact ⟨rfl, rfl, 0, rfl, by omega⟩
  case round =>
    obtain ⟨rfl, rfl, k, rfl, hk⟩ := hrel
    rcases (by omega : k = 0 ∨ k = 1) with rfl | rfl
    · go_wp2
      go_roundw
      case rel => exact ⟨rfl, rfl, 1, rfl, by omega⟩
      case measure => simp [intOf]
    · go_wp2
      go_ret2
      exact ⟨rfl, rfl⟩
end Go.Proofs.YtdfklagiafmoiaaGreatDoor

/- The lexer: a token. -/
namespace Go.Proofs.YtdfklagiafmoiaaGreatDoor
open Go.RowKit

def tokV (k a e n : Int) : Value := .agg #[.int .i64 k, .int .i64 a, .int .i64 e, .int .i64 n]
def NxPost (w : World) (k a e n : Int) (r : Ending) (w' : World) : Prop := r = .returned (.tuple #[tokV k a e n, .int .i64 0]) ∧ Below w.heap.size w w'
section
variable (T : ByteArray) (a e : Nat) (hT : T.size ≤ 16384) (hae : a < e) (he : e ≤ T.size) (w : World)
include hT hae he
set_option maxRecDepth 100000 in
set_option maxHeartbeats 4000000 in
theorem next_word (hl : letB (T[a].toNat : Int) = true) (hb : ∀ i (h : i < T.size), a ≤ i → i < e → wordB (T[i].toNat : Int) = true) (hst : ∀ h : e < T.size, wordB (T[e].toNat : Int) = false) (h24 : e - a ≤ 24) :
    Calls Tryz.prog 51 #[.string T, .int .i64 (a : Int)] w (NxPost w 1 a e 0) := by
  have HB := Lib.hid hb
  have HS := Lib.hid hst
  have HL := Lib.hid hl
  have a0 : (0 : Int) ≤ (a : Int) := by omega
  have a1 : (a : Int) < (T.size : Int) := by omega
  have h25 : ¬ (24 : Int) < (e : Int) - (a : Int) := by omega
  have w1 := IntWalk.i64_in ((e : Int) - (a : Int)) (by omega)
  have hM := (((Mem.start w).new 9 #[.string T]).new 3 #[.int .i64 (a : Int)]).new 111 #[.int .i64 0, .int .i64 0, .int .i64 0, .int .i64 0]
  simp only [World.size_alloc] at hM
  have HM := Lib.hid hM
  have c1 := (hM.get 1 rfl).2.cell 0
  have c2 := (hM.get 2 rfl).2.cell 0
  have HW := Lib.hid (while_w T a e hT (by omega) he _ _ _ c1 c2 hb hst)
  clear hM c1 c2 hb hst hl
  go_enter Tryz.func51, Tryz.ntmps51
  go_wp2_with (go_at_call 81; refine (letter_p _ _).mono ?_; rintro e w' ⟨rfl, rfl⟩; rw [HL.out])
  refine HW.out.mono ?_
  rintro r w' ⟨rfl, rfl⟩
  go_wp2
  refine bodyPost_ret (v := .tuple #[tokV 1 a e 0, .int .i64 0]) ?_ rfl ⟨rfl, ?_⟩
  · simp [results, Tryz.results51, go_sem, tokV]
  · (repeat (with_reducible first | exact Below.refl _ _ | refine Below.setCell ?_ (by first | exact Nat.le_refl _ | (simp only [World.size_alloc]; omega)) _ | refine below_drewN ?_ _ | refine Below.drew ?_ | refine Below.alloc ?_ (by first | exact Nat.le_refl _ | (simp only [World.size_alloc]; omega)) _ | assumption))
set_option maxRecDepth 100000 in
set_option maxHeartbeats 4000000 in
theorem next_nought (h48 : T[a] = 48) (hst : ∀ h : e < T.size, digB (T[e].toNat : Int) = false) (ha : e = a + 1) :
    Calls Tryz.prog 51 #[.string T, .int .i64 (a : Int)] w (NxPost w 2 a e 0) := by
  have HA := Lib.hid ha
  clear ha
  have hc : T[a].toNat = 48 := by rw [h48]; rfl
  have HL := Lib.hid (show letB (T[a].toNat : Int) = false by rw [hc]; decide)
  have HD := Lib.hid (show digB (T[a].toNat : Int) = true by rw [hc]; decide)
  have a0 : (0 : Int) ≤ (a : Int) := by omega
  have a1 : (a : Int) < (T.size : Int) := by omega
  have e1 : (e : Int) ≤ (T.size : Int) := by omega
  have e2 : (a : Int) ≤ (e : Int) := by omega
  have e0 : (0 : Int) ≤ (e : Int) := by omega
  have hM := (((Mem.start w).new 9 #[.string T]).new 3 #[.int .i64 (a : Int)]).new 111 #[.int .i64 0, .int .i64 0, .int .i64 0, .int .i64 0]
  simp only [World.size_alloc] at hM
  have HM := Lib.hid hM
  have c1 := (hM.get 1 rfl).2.cell 0
  have c2 := (hM.get 2 rfl).2.cell 0
  have hb : ∀ i (h : i < T.size), a ≤ i → i < e → digB (T[i].toNat : Int) = true := fun i h h1 h2 => by
    obtain rfl : i = a := by have := HA.out; omega
    exact HD.out
  have HW := Lib.hid (while_d T a e hT (by omega) he _ _ _ c1 c2 hb hst)
  clear hb
  have hx : (T.extract a e).size = 1 := by rw [ByteArray.size_extract]; have := HA.out; omega
  have HN := Lib.hid (fun (X : World) => nought_p (T.extract a e) hx (by rw [ByteArray.getElem_extract]; simpa using h48) X)
  clear hM c1 c2 hst hc h48 hx
  go_enter Tryz.func51, Tryz.ntmps51
  go_wp2_with (first | (go_at_call 81; refine (letter_p _ _).mono ?_; rintro e w' ⟨rfl, rfl⟩; rw [HL.out]) | (go_at_call 83; refine (digit_p _ _).mono ?_; rintro e w' ⟨rfl, rfl⟩; rw [HD.out]))
  refine HW.out.mono ?_
  rintro r w' ⟨rfl, rfl⟩
  go_wp2_with fail
  refine (HN.out _).mono ?_
  rintro r w' ⟨rfl, rfl⟩
  go_wp2
  refine bodyPost_ret (v := .tuple #[tokV 2 a e 0, .int .i64 0]) ?_ rfl ⟨rfl, ?_⟩
  · simp [results, Tryz.results51, go_sem, tokV]
  · (repeat (with_reducible first | exact Below.refl _ _ | refine Below.setCell ?_ (by first | exact Nat.le_refl _ | (simp only [World.size_alloc]; omega)) _ | refine below_drewN ?_ _ | refine Below.drew ?_ | refine Below.alloc ?_ (by first | exact Nat.le_refl _ | (simp only [World.size_alloc]; omega)) _ | assumption))
set_option maxRecDepth 100000 in
set_option maxHeartbeats 4000000 in
theorem next_sign (hl : letB (T[a].toNat : Int) = false) (hd : digB (T[a].toNat : Int) = false) (hx : 0 < (T.extract a T.size).size) (hs : sgnZ (T.extract a T.size) hx = (e : Int) - (a : Int)) :
    Calls Tryz.prog 51 #[.string T, .int .i64 (a : Int)] w (NxPost w 3 a e 0) := by
  have HL := Lib.hid hl
  have HD := Lib.hid hd
  have a0 : (0 : Int) ≤ (a : Int) := by omega
  have a1 : (a : Int) < (T.size : Int) := by omega
  have a2 : (a : Int) ≤ (T.size : Int) := by omega
  have HN := Lib.hid (fun (X : World) => sign_p (T.extract a T.size) hx X)
  rw [hs] at HN
  obtain ⟨z, hz⟩ : ∃ z : Int, (e : Int) - (a : Int) = z := ⟨_, rfl⟩
  rw [hz] at HN
  have z0 : (z == 0) = false := beq_eq_false_iff_ne.2 (by omega)
  have w1 := IntWalk.i64_in ((a : Int) + z) (by omega)
  have HZ := Lib.hid (show (e : Int) = (a : Int) + z by omega)
  have hM := (((Mem.start w).new 9 #[.string T]).new 3 #[.int .i64 (a : Int)]).new 111 #[.int .i64 0, .int .i64 0, .int .i64 0, .int .i64 0]
  simp only [World.size_alloc] at hM
  have HM := Lib.hid hM
  clear hM hl hd hs hz
  go_enter Tryz.func51, Tryz.ntmps51
  go_wp2_with (first | (go_at_call 81; refine (letter_p _ _).mono ?_; rintro e w' ⟨rfl, rfl⟩; rw [HL.out]) | (go_at_call 83; refine (digit_p _ _).mono ?_; rintro e w' ⟨rfl, rfl⟩; rw [HD.out]))
  refine (HN.out _).mono ?_
  rintro r w2 ⟨rfl, hb2⟩
  have HM2 := Lib.hid (HM.out.below hb2)
  have n0 : w.heap.size + 1 + 1 < w2.heap.size := (HM2.out.get 0 rfl).2.lt
  obtain ⟨t0, tf⟩ := blk1 (HM2.out.get 1 rfl).2
  obtain ⟨p0, p1, p2, p3, pf⟩ := blk4 (HM2.out.get 0 rfl).2
  clear hb2 HM
  have HM3 := Lib.hid ((((HM2.out.set_ 0 rfl 0 (.int .i64 3) rfl).set_ 0 rfl 1 (.int .i64 (a : Int)) rfl).set_ 0 rfl 2 (.int .i64 ((a : Int) + z)) rfl).set_ 0 rfl 3 (.int .i64 0) rfl)
  go_wp2
  generalize World.setCell _ _ _ = X at *
  obtain ⟨q0, q1, q2, q3, qf⟩ := blk4 (HM3.out.get 0 rfl).2
  refine bodyPost_ret (v := .tuple #[tokV 3 a e 0, .int .i64 0]) ?_ rfl ⟨rfl, HM3.out.bel⟩
  simp [results, Tryz.results51, go_sem, tokV, HZ.out, q0, q1, q2, q3]
end
end Go.Proofs.YtdfklagiafmoiaaGreatDoor

/- The lexer: all tokens of a text. -/
namespace Go.Proofs.YtdfklagiafmoiaaGreatDoor
open Go.RowKit

/-- a token: its kind, where it begins, where it ends (numbers are noughts) -/
structure Tk where
  k : Nat
  a : Nat
  e : Nat
def tkc (t : Tk) : List Value := [.int .i64 (t.k : Nat), .int .i64 (t.a : Nat), .int .i64 (t.e : Nat), .int .i64 0]
def tkv (l : List Tk) : List Value := l.flatMap tkc
theorem tkv_len (l : List Tk) : (tkv l).length = l.length * 4 := by
  unfold tkv
  induction l with
  | nil => rfl
  | cons t l ih => rw [List.flatMap_cons, List.length_append, ih, List.length_cons]; simp [tkc]; omega
/-- a token is read from where it begins -/
structure TkOk (T : ByteArray) (t : Tk) : Prop where
  lt : t.a < t.e
  le : t.e ≤ T.size
  rd : ∀ w : World, Calls Tryz.prog 51 #[.string T, .int .i64 (t.a : Int)] w (NxPost w t.k t.a t.e 0)
/-- blanks from a on end at e -/
structure SkOk (T : ByteArray) (a e : Nat) : Prop where
  ae : a ≤ e
  le : e ≤ T.size
  bl : ∀ i (h : i < T.size), a ≤ i → i < e → T[i].toNat = 32
  st : ∀ h : e < T.size, 35 < T[e].toNat
/-- where the k-th token begins; the text's end behind the last -/
def tkA (T : ByteArray) (l : List Tk) (k : Nat) : Nat := match l[k]? with | some t => t.a | none => T.size
structure LxOk (T : ByteArray) (l : List Tk) : Prop where
  tk : ∀ k (h : k < l.length), TkOk T l[k]
  s0 : SkOk T 0 (tkA T l 0)
  sk : ∀ k (h : k < l.length), SkOk T l[k].e (tkA T l (k + 1))
theorem Tryz.infoTok : (Tryz.prog.info? 111).map (fun i => (i.zero, i.size, i.bytes)) = some (some (.agg #[.int .i64 0, .int .i64 0, .int .i64 0, .int .i64 0]), 4, 32) := by kernel_rfl
theorem tkv_snoc (l : List Tk) (k : Nat) (h : k < l.length) : tkv (l.take (k + 1)) = tkv (l.take k) ++ tkc l[k] := by
  rw [List.take_succ_eq_append_getElem h]; unfold tkv; rw [List.flatMap_append]; simp
theorem one_tk (t : Tk) : ∀ u ∈ tkc t, u.oneCell' = true := by
  intro u hu
  unfold tkc at hu
  simp only [List.mem_cons, List.not_mem_nil, or_false] at hu
  rcases hu with rfl | rfl | rfl | rfl <;> rfl
def ScRel (w : World) (T : ByteArray) (l : List Tk) (v i : Value) (wr : World) : Prop := ∃ k : Nat, i = .int .i64 (tkA T l k : Nat) ∧ k ≤ l.length ∧ Mem w [cR w.heap.size 111 4 v k (tkv (l.take k))] wr
def ScPost' (w : World) (l : List Tk) (e : Ending) (w' : World) : Prop := ∃ v, e = .returned (.tuple #[v, .int .i64 0, .int .i64 0]) ∧ Mem w [cR w.heap.size 111 4 v l.length (tkv l)] w'
set_option maxRecDepth 100000 in
set_option maxHeartbeats 8000000 in
theorem scan_p (T : ByteArray) (l : List Tk) (hT : T.size ≤ 16384) (hl : l.length ≤ 1000) (hx : LxOk T l) (w : World) : Calls Tryz.prog 31 #[.string T] w (ScPost' w l) := by
  have HX := Lib.hid hx
  have h0 := Lib.hid (skip_p T 0 (tkA T l 0) hT hx.s0.ae hx.s0.le hx.s0.bl hx.s0.st w)
  have e0 : ¬ (16384 : Int) < (T.size : Int) := by omega
  have HT := Lib.hid hT
  obtain ⟨i0, hi0, hz0, hz1, hz2⟩ := info_parts Tryz.infoTok
  clear hx
  go_enter Tryz.func31, Tryz.ntmps31
  go_wp2_with (go_at_call 50; refine h0.out.mono ?_; rintro e w' ⟨rfl, rfl⟩)
  go_loopw [5, 6] (ScRel w T l) (fun _ i _ => T.size - (intOf i).toNat)
  case atStart => exact ⟨0, rfl, Nat.zero_le _, (Mem.start w).nil_ _ _⟩
  case round =>
    obtain ⟨k, rfl, hk, hM⟩ := hrel
    obtain ⟨Av, cv, rfl⟩ := own_sl (hM.get 0 rfl)
    have HM := Lib.hid hM
    clear hM h0
    by_cases hlt : k < l.length
    · have htk := HX.out.tk k hlt
      have hsk := HX.out.sk k hlt
      have hA : tkA T l k = l[k].a := by unfold tkA; rw [List.getElem?_eq_getElem hlt]
      have HSN := Lib.hid (tkv_snoc l k hlt)
      rw [hA]
      obtain ⟨t, ht⟩ : ∃ t, l[k] = t := ⟨_, rfl⟩
      rw [ht] at htk hsk HSN ⊢
      have HNX := Lib.hid htk.rd
      have HSK := Lib.hid (skip_p T t.e (tkA T l (k + 1)) HT.out hsk.ae hsk.le hsk.bl hsk.st)
      have hta := htk.lt
      have hte := htk.le
      have HGR := Lib.hid (show t.a < tkA T l (k + 1) ∧ tkA T l (k + 1) ≤ T.size from ⟨by have := hsk.ae; omega, hsk.le⟩)
      obtain ⟨kk, aa, ee⟩ := t
      dsimp only at HNX HSK HSN HGR hta hte ⊢
      obtain ⟨nx, hnx⟩ : ∃ nx, tkA T l (k + 1) = nx := ⟨_, rfl⟩
      rw [hnx] at HSK HGR
      have HNXT := Lib.hid hnx
      have HLT := Lib.hid hlt
      have a1 : (aa : Int) < (T.size : Int) := by omega
      have n1 : ((k : Int) == 4096) = false := beq_eq_false_iff_ne.2 (by omega)
      clear ht htk hsk hA hlt hnx
      go_wp2_with fail
      refine (HNX.out wr).mono ?_
      rintro e w2 ⟨rfl, hb2⟩
      unfold tokV
      have HM2 := Lib.hid ((HM.out.below hb2).new 111 #[.int .i64 (kk : Nat), .int .i64 (aa : Nat), .int .i64 (ee : Nat), .int .i64 0])
      clear hb2 HM HNX
      have HK1 := Lib.hid (show k ≤ 1000 by have := HLT.out; omega)
      have hk1 := HK1.out
      go_wp2_with (first
        | (at_builtin; refine wpList_append_any _ rfl (.tmp 32) (.tmp 34) 81 rfl w.heap.size 111 i0 _ 4 32 Tryz.underlying81 hi0 hz0 hz1 hz2 rfl (by decide) _ k (tkv (l.take k)) rfl (World.ownsRow.alloc (HM2.out.get 1 rfl) _) (w2.heap.size + 2) _ 1 1 (tkc ⟨kk, aa, ee⟩) rfl (reads_blk (l := tkc ⟨kk, aa, ee⟩) (blk_new_at (by rw [World.size_alloc])) (Nat.lt_succ_self _) rfl) (one_tk _) (len_ok (by omega)) (by omega) (Nat.le_trans HM2.out.size (by simp)) ?_; intro v1 x1 ho1 hg1 hv1; obtain ⟨A5, c5, rfl⟩ := own_sl ho1; have HM3 := Lib.hid (HM2.out.app 1 rfl (grown_pre hg1) ho1 hv1 (by simp)); clear ho1 hg1 hv1; obtain ⟨t0, t1, t2, t3, tf⟩ := blk4 (HM3.out.get 0 rfl).2; have n0 : w2.heap.size < x1.heap.size := (HM3.out.get 0 rfl).2.lt)
        | (go_at_call 50; refine (HSK.out _).mono ?_; rintro e w' ⟨rfl, rfl⟩))
      go_roundw
      case rel => exact ⟨k + 1, by rw [HNXT.out], HLT.out, by rw [HSN.out]; exact HM3.out.erase 0⟩
      case measure => have := HGR.out; simp [intOf]; omega
    · obtain rfl : k = l.length := by omega
      have hA : tkA T l l.length = T.size := by unfold tkA; rw [List.getElem?_eq_none (Nat.le_refl _)]
      rw [hA]
      have k1 : ¬ (T.size : Int) < (T.size : Int) := by omega
      rw [List.take_length] at HM
      have HMF := Lib.hid HM.out
      clear hA hlt hk
      go_wp2
      go_ret3
      exact ⟨_, rfl, HMF.out⟩
end Go.Proofs.YtdfklagiafmoiaaGreatDoor

/- The lexer: the tokens of the text that the laws' check reads. (Printed by genLF.py.) -/
namespace Go.Proofs.YtdfklagiafmoiaaGreatDoor
open Go.RowKit

def colT : ByteArray := ⟨#[112, 114, 111, 103, 114, 97, 109, 32, 99, 111, 108, 111, 117, 114, 115, 59, 32, 118, 97, 114, 32, 99, 32, 58, 32, 48, 32, 46, 46, 32, 110, 59, 32, 114, 117, 108, 101, 32, 102, 105, 120, 58, 32, 115, 111, 109, 101, 40, 113, 46, 99, 32, 61, 61, 32, 99, 41, 32, 45, 62, 32, 99, 32, 58, 61, 32, 109, 101, 120, 40, 113, 46, 99, 41, 59]⟩
def colL : List Tk := [⟨1, 0, 7⟩, ⟨1, 8, 15⟩, ⟨3, 15, 16⟩, ⟨1, 17, 20⟩, ⟨1, 21, 22⟩, ⟨3, 23, 24⟩, ⟨2, 25, 26⟩, ⟨3, 27, 29⟩, ⟨1, 30, 31⟩, ⟨3, 31, 32⟩, ⟨1, 33, 37⟩, ⟨1, 38, 41⟩, ⟨3, 41, 42⟩, ⟨1, 43, 47⟩, ⟨3, 47, 48⟩, ⟨1, 48, 49⟩, ⟨3, 49, 50⟩, ⟨1, 50, 51⟩, ⟨3, 52, 54⟩, ⟨1, 55, 56⟩, ⟨3, 56, 57⟩, ⟨3, 58, 60⟩, ⟨1, 61, 62⟩, ⟨3, 63, 65⟩, ⟨1, 66, 69⟩, ⟨3, 69, 70⟩, ⟨1, 70, 71⟩, ⟨3, 71, 72⟩, ⟨1, 72, 73⟩, ⟨3, 73, 74⟩, ⟨3, 74, 75⟩]
theorem colT_size : colT.size = 75 := by decide
theorem tk0 : TkOk colT ⟨1, 0, 7⟩ := ⟨by decide, by decide, fun w => next_word colT 0 7 (by decide) (by decide) (by decide) w (by decide +kernel) (by decide +kernel) (by decide +kernel) (by decide)⟩
theorem tk1 : TkOk colT ⟨1, 8, 15⟩ := ⟨by decide, by decide, fun w => next_word colT 8 15 (by decide) (by decide) (by decide) w (by decide +kernel) (by decide +kernel) (by decide +kernel) (by decide)⟩
theorem tk2 : TkOk colT ⟨3, 15, 16⟩ := ⟨by decide, by decide, fun w => next_sign colT 15 16 (by decide) (by decide) (by decide) w (by decide +kernel) (by decide +kernel) (by decide +kernel) (by decide +kernel)⟩
theorem tk3 : TkOk colT ⟨1, 17, 20⟩ := ⟨by decide, by decide, fun w => next_word colT 17 20 (by decide) (by decide) (by decide) w (by decide +kernel) (by decide +kernel) (by decide +kernel) (by decide)⟩
theorem tk4 : TkOk colT ⟨1, 21, 22⟩ := ⟨by decide, by decide, fun w => next_word colT 21 22 (by decide) (by decide) (by decide) w (by decide +kernel) (by decide +kernel) (by decide +kernel) (by decide)⟩
theorem tk5 : TkOk colT ⟨3, 23, 24⟩ := ⟨by decide, by decide, fun w => next_sign colT 23 24 (by decide) (by decide) (by decide) w (by decide +kernel) (by decide +kernel) (by decide +kernel) (by decide +kernel)⟩
theorem tk6 : TkOk colT ⟨2, 25, 26⟩ := ⟨by decide, by decide, fun w => next_nought colT 25 26 (by decide) (by decide) (by decide) w (by decide +kernel) (by decide +kernel) (by decide)⟩
theorem tk7 : TkOk colT ⟨3, 27, 29⟩ := ⟨by decide, by decide, fun w => next_sign colT 27 29 (by decide) (by decide) (by decide) w (by decide +kernel) (by decide +kernel) (by decide +kernel) (by decide +kernel)⟩
theorem tk8 : TkOk colT ⟨1, 30, 31⟩ := ⟨by decide, by decide, fun w => next_word colT 30 31 (by decide) (by decide) (by decide) w (by decide +kernel) (by decide +kernel) (by decide +kernel) (by decide)⟩
theorem tk9 : TkOk colT ⟨3, 31, 32⟩ := ⟨by decide, by decide, fun w => next_sign colT 31 32 (by decide) (by decide) (by decide) w (by decide +kernel) (by decide +kernel) (by decide +kernel) (by decide +kernel)⟩
theorem tk10 : TkOk colT ⟨1, 33, 37⟩ := ⟨by decide, by decide, fun w => next_word colT 33 37 (by decide) (by decide) (by decide) w (by decide +kernel) (by decide +kernel) (by decide +kernel) (by decide)⟩
theorem tk11 : TkOk colT ⟨1, 38, 41⟩ := ⟨by decide, by decide, fun w => next_word colT 38 41 (by decide) (by decide) (by decide) w (by decide +kernel) (by decide +kernel) (by decide +kernel) (by decide)⟩
theorem tk12 : TkOk colT ⟨3, 41, 42⟩ := ⟨by decide, by decide, fun w => next_sign colT 41 42 (by decide) (by decide) (by decide) w (by decide +kernel) (by decide +kernel) (by decide +kernel) (by decide +kernel)⟩
theorem tk13 : TkOk colT ⟨1, 43, 47⟩ := ⟨by decide, by decide, fun w => next_word colT 43 47 (by decide) (by decide) (by decide) w (by decide +kernel) (by decide +kernel) (by decide +kernel) (by decide)⟩
theorem tk14 : TkOk colT ⟨3, 47, 48⟩ := ⟨by decide, by decide, fun w => next_sign colT 47 48 (by decide) (by decide) (by decide) w (by decide +kernel) (by decide +kernel) (by decide +kernel) (by decide +kernel)⟩
theorem tk15 : TkOk colT ⟨1, 48, 49⟩ := ⟨by decide, by decide, fun w => next_word colT 48 49 (by decide) (by decide) (by decide) w (by decide +kernel) (by decide +kernel) (by decide +kernel) (by decide)⟩
theorem tk16 : TkOk colT ⟨3, 49, 50⟩ := ⟨by decide, by decide, fun w => next_sign colT 49 50 (by decide) (by decide) (by decide) w (by decide +kernel) (by decide +kernel) (by decide +kernel) (by decide +kernel)⟩
theorem tk17 : TkOk colT ⟨1, 50, 51⟩ := ⟨by decide, by decide, fun w => next_word colT 50 51 (by decide) (by decide) (by decide) w (by decide +kernel) (by decide +kernel) (by decide +kernel) (by decide)⟩
theorem tk18 : TkOk colT ⟨3, 52, 54⟩ := ⟨by decide, by decide, fun w => next_sign colT 52 54 (by decide) (by decide) (by decide) w (by decide +kernel) (by decide +kernel) (by decide +kernel) (by decide +kernel)⟩
theorem tk19 : TkOk colT ⟨1, 55, 56⟩ := ⟨by decide, by decide, fun w => next_word colT 55 56 (by decide) (by decide) (by decide) w (by decide +kernel) (by decide +kernel) (by decide +kernel) (by decide)⟩
theorem tk20 : TkOk colT ⟨3, 56, 57⟩ := ⟨by decide, by decide, fun w => next_sign colT 56 57 (by decide) (by decide) (by decide) w (by decide +kernel) (by decide +kernel) (by decide +kernel) (by decide +kernel)⟩
theorem tk21 : TkOk colT ⟨3, 58, 60⟩ := ⟨by decide, by decide, fun w => next_sign colT 58 60 (by decide) (by decide) (by decide) w (by decide +kernel) (by decide +kernel) (by decide +kernel) (by decide +kernel)⟩
theorem tk22 : TkOk colT ⟨1, 61, 62⟩ := ⟨by decide, by decide, fun w => next_word colT 61 62 (by decide) (by decide) (by decide) w (by decide +kernel) (by decide +kernel) (by decide +kernel) (by decide)⟩
theorem tk23 : TkOk colT ⟨3, 63, 65⟩ := ⟨by decide, by decide, fun w => next_sign colT 63 65 (by decide) (by decide) (by decide) w (by decide +kernel) (by decide +kernel) (by decide +kernel) (by decide +kernel)⟩
theorem tk24 : TkOk colT ⟨1, 66, 69⟩ := ⟨by decide, by decide, fun w => next_word colT 66 69 (by decide) (by decide) (by decide) w (by decide +kernel) (by decide +kernel) (by decide +kernel) (by decide)⟩
theorem tk25 : TkOk colT ⟨3, 69, 70⟩ := ⟨by decide, by decide, fun w => next_sign colT 69 70 (by decide) (by decide) (by decide) w (by decide +kernel) (by decide +kernel) (by decide +kernel) (by decide +kernel)⟩
theorem tk26 : TkOk colT ⟨1, 70, 71⟩ := ⟨by decide, by decide, fun w => next_word colT 70 71 (by decide) (by decide) (by decide) w (by decide +kernel) (by decide +kernel) (by decide +kernel) (by decide)⟩
theorem tk27 : TkOk colT ⟨3, 71, 72⟩ := ⟨by decide, by decide, fun w => next_sign colT 71 72 (by decide) (by decide) (by decide) w (by decide +kernel) (by decide +kernel) (by decide +kernel) (by decide +kernel)⟩
theorem tk28 : TkOk colT ⟨1, 72, 73⟩ := ⟨by decide, by decide, fun w => next_word colT 72 73 (by decide) (by decide) (by decide) w (by decide +kernel) (by decide +kernel) (by decide +kernel) (by decide)⟩
theorem tk29 : TkOk colT ⟨3, 73, 74⟩ := ⟨by decide, by decide, fun w => next_sign colT 73 74 (by decide) (by decide) (by decide) w (by decide +kernel) (by decide +kernel) (by decide +kernel) (by decide +kernel)⟩
theorem tk30 : TkOk colT ⟨3, 74, 75⟩ := ⟨by decide, by decide, fun w => next_sign colT 74 75 (by decide) (by decide) (by decide) w (by decide +kernel) (by decide +kernel) (by decide +kernel) (by decide +kernel)⟩
theorem col_tk : ∀ k (h : k < colL.length), TkOk colT colL[k] := by
  intro k h
  match k, h with
  | 0, _ => exact tk0
  | 1, _ => exact tk1
  | 2, _ => exact tk2
  | 3, _ => exact tk3
  | 4, _ => exact tk4
  | 5, _ => exact tk5
  | 6, _ => exact tk6
  | 7, _ => exact tk7
  | 8, _ => exact tk8
  | 9, _ => exact tk9
  | 10, _ => exact tk10
  | 11, _ => exact tk11
  | 12, _ => exact tk12
  | 13, _ => exact tk13
  | 14, _ => exact tk14
  | 15, _ => exact tk15
  | 16, _ => exact tk16
  | 17, _ => exact tk17
  | 18, _ => exact tk18
  | 19, _ => exact tk19
  | 20, _ => exact tk20
  | 21, _ => exact tk21
  | 22, _ => exact tk22
  | 23, _ => exact tk23
  | 24, _ => exact tk24
  | 25, _ => exact tk25
  | 26, _ => exact tk26
  | 27, _ => exact tk27
  | 28, _ => exact tk28
  | 29, _ => exact tk29
  | 30, _ => exact tk30
  | n + 31, h => exact absurd h (by show ¬ n + 31 < 31; omega)
theorem sk0 : SkOk colT 0 0 := ⟨by decide, by decide, by decide +kernel, by decide +kernel⟩
theorem sk1 : SkOk colT 7 8 := ⟨by decide, by decide, by decide +kernel, by decide +kernel⟩
theorem sk2 : SkOk colT 15 15 := ⟨by decide, by decide, by decide +kernel, by decide +kernel⟩
theorem sk3 : SkOk colT 16 17 := ⟨by decide, by decide, by decide +kernel, by decide +kernel⟩
theorem sk4 : SkOk colT 20 21 := ⟨by decide, by decide, by decide +kernel, by decide +kernel⟩
theorem sk5 : SkOk colT 22 23 := ⟨by decide, by decide, by decide +kernel, by decide +kernel⟩
theorem sk6 : SkOk colT 24 25 := ⟨by decide, by decide, by decide +kernel, by decide +kernel⟩
theorem sk7 : SkOk colT 26 27 := ⟨by decide, by decide, by decide +kernel, by decide +kernel⟩
theorem sk8 : SkOk colT 29 30 := ⟨by decide, by decide, by decide +kernel, by decide +kernel⟩
theorem sk9 : SkOk colT 31 31 := ⟨by decide, by decide, by decide +kernel, by decide +kernel⟩
theorem sk10 : SkOk colT 32 33 := ⟨by decide, by decide, by decide +kernel, by decide +kernel⟩
theorem sk11 : SkOk colT 37 38 := ⟨by decide, by decide, by decide +kernel, by decide +kernel⟩
theorem sk12 : SkOk colT 41 41 := ⟨by decide, by decide, by decide +kernel, by decide +kernel⟩
theorem sk13 : SkOk colT 42 43 := ⟨by decide, by decide, by decide +kernel, by decide +kernel⟩
theorem sk14 : SkOk colT 47 47 := ⟨by decide, by decide, by decide +kernel, by decide +kernel⟩
theorem sk15 : SkOk colT 48 48 := ⟨by decide, by decide, by decide +kernel, by decide +kernel⟩
theorem sk16 : SkOk colT 49 49 := ⟨by decide, by decide, by decide +kernel, by decide +kernel⟩
theorem sk17 : SkOk colT 50 50 := ⟨by decide, by decide, by decide +kernel, by decide +kernel⟩
theorem sk18 : SkOk colT 51 52 := ⟨by decide, by decide, by decide +kernel, by decide +kernel⟩
theorem sk19 : SkOk colT 54 55 := ⟨by decide, by decide, by decide +kernel, by decide +kernel⟩
theorem sk20 : SkOk colT 56 56 := ⟨by decide, by decide, by decide +kernel, by decide +kernel⟩
theorem sk21 : SkOk colT 57 58 := ⟨by decide, by decide, by decide +kernel, by decide +kernel⟩
theorem sk22 : SkOk colT 60 61 := ⟨by decide, by decide, by decide +kernel, by decide +kernel⟩
theorem sk23 : SkOk colT 62 63 := ⟨by decide, by decide, by decide +kernel, by decide +kernel⟩
theorem sk24 : SkOk colT 65 66 := ⟨by decide, by decide, by decide +kernel, by decide +kernel⟩
theorem sk25 : SkOk colT 69 69 := ⟨by decide, by decide, by decide +kernel, by decide +kernel⟩
theorem sk26 : SkOk colT 70 70 := ⟨by decide, by decide, by decide +kernel, by decide +kernel⟩
theorem sk27 : SkOk colT 71 71 := ⟨by decide, by decide, by decide +kernel, by decide +kernel⟩
theorem sk28 : SkOk colT 72 72 := ⟨by decide, by decide, by decide +kernel, by decide +kernel⟩
theorem sk29 : SkOk colT 73 73 := ⟨by decide, by decide, by decide +kernel, by decide +kernel⟩
theorem sk30 : SkOk colT 74 74 := ⟨by decide, by decide, by decide +kernel, by decide +kernel⟩
theorem sk31 : SkOk colT 75 75 := ⟨by decide, by decide, by decide +kernel, by decide +kernel⟩
theorem col_sk : ∀ k (h : k < colL.length), SkOk colT colL[k].e (tkA colT colL (k + 1)) := by
  intro k h
  match k, h with
  | 0, _ => exact sk1
  | 1, _ => exact sk2
  | 2, _ => exact sk3
  | 3, _ => exact sk4
  | 4, _ => exact sk5
  | 5, _ => exact sk6
  | 6, _ => exact sk7
  | 7, _ => exact sk8
  | 8, _ => exact sk9
  | 9, _ => exact sk10
  | 10, _ => exact sk11
  | 11, _ => exact sk12
  | 12, _ => exact sk13
  | 13, _ => exact sk14
  | 14, _ => exact sk15
  | 15, _ => exact sk16
  | 16, _ => exact sk17
  | 17, _ => exact sk18
  | 18, _ => exact sk19
  | 19, _ => exact sk20
  | 20, _ => exact sk21
  | 21, _ => exact sk22
  | 22, _ => exact sk23
  | 23, _ => exact sk24
  | 24, _ => exact sk25
  | 25, _ => exact sk26
  | 26, _ => exact sk27
  | 27, _ => exact sk28
  | 28, _ => exact sk29
  | 29, _ => exact sk30
  | 30, _ => exact sk31
  | n + 31, h => exact absurd h (by show ¬ n + 31 < 31; omega)
theorem col_lx : LxOk colT colL := ⟨col_tk, sk0, col_sk⟩
theorem col_scan (w : World) : Calls Tryz.prog 31 #[.string colT] w (ScPost' w colL) := scan_p colT colL (by decide) (by decide) col_lx w
end Go.Proofs.YtdfklagiafmoiaaGreatDoor

/- The reader of tokens: what it holds; a look at the next token. -/
namespace Go.Proofs.YtdfklagiafmoiaaGreatDoor
open Go.RowKit

def txt (t : Tk) : ByteArray := colT.extract t.a t.e
def TokS (X : World) (r : Nat) (v : Value) (l : List Tk) : Prop := ∃ A c, v = .slice A l.length c ∧ Reads X r 4 A l.length (tkv l) ∧ l.length ≤ c
def rdA (v nm x3 x4 x5 x6 : Value) : Array Value := #[.string colT, v, nm, x3, x4, x5, x6]
/-- a reader in block r before the tokens l -/
def RdS (X : World) (r : Nat) (l : List Tk) (nm x3 x4 x5 x6 : Value) : Prop := ∃ v, Blk X r 89 (rdA v nm x3 x4 x5 x6) ∧ TokS X r v l
theorem TokS.keep {X Y : World} {r : Nat} {v : Value} {l : List Tk} {row : Option Nat} (h : TokS X r v l) (hg : X.grownBy Y row) (hr : r ≤ X.heap.size) (hrow : ∀ b, row = some b → r ≤ b) : TokS Y r v l := by
  obtain ⟨A, c, e, h1, h2⟩ := h
  exact ⟨A, c, e, h1.grown hg hr hrow, h2⟩
theorem RdS.keep {X Y : World} {r : Nat} {l : List Tk} {nm x3 x4 x5 x6 : Value} (h : RdS X r l nm x3 x4 x5 x6) (hg : X.grownBy Y none) : RdS Y r l nm x3 x4 x5 x6 := by
  obtain ⟨v, hb, ht⟩ := h
  exact ⟨v, hb.grown hg (by simp), ht.keep hg (Nat.le_of_lt hb.lt) (fun b e => by cases e)⟩
theorem RdS.lt {X : World} {r : Nat} {l : List Tk} {nm x3 x4 x5 x6 : Value} (h : RdS X r l nm x3 x4 x5 x6) : r < X.heap.size := by
  obtain ⟨v, hb, -⟩ := h
  exact hb.lt
/-- the next token's cells -/
theorem TokS.head {X : World} {r : Nat} {v : Value} {t : Tk} {l : List Tk} (h : TokS X r v (t :: l)) : ∃ ad c, v = .slice (some ad) (l.length + 1) c ∧ ad.block < r ∧ l.length + 1 ≤ c ∧
    X.cell? ad = some (.int .i64 (t.k : Nat)) ∧ X.cell? ⟨ad.block, ad.off + 1, none⟩ = some (.int .i64 (t.a : Nat)) ∧ X.cell? ⟨ad.block, ad.off + 2, none⟩ = some (.int .i64 (t.e : Nat)) ∧ X.cell? ⟨ad.block, ad.off + 3, none⟩ = some (.int .i64 0) := by
  obtain ⟨A, c, rfl, h1, h2⟩ := h
  obtain ⟨ad, rfl, hb, hc⟩ := h1.2 (by simp)
  have e0 := hc 0 _ rfl
  have e1 := hc 1 _ rfl
  have e2 := hc 2 _ rfl
  have e3 := hc 3 _ rfl
  exact ⟨ad, c, rfl, hb, h2, e0, e1, e2, e3⟩
theorem TokS.tail {X : World} {r : Nat} {ad : Addr} {n c : Nat} {t : Tk} {l : List Tk} (h : TokS X r (.slice (some ad) n c) (t :: l)) : TokS X r (.slice (if c = 1 then some ad else some (ad.add 4)) l.length (c - 1)) l := by
  obtain ⟨A, c', e, h1, h2⟩ := h
  injection e with e1 e2 e3
  subst e1 e2 e3
  have := h1.cut (k := 1) (by simp) h2
  refine ⟨_, _, rfl, ?_, by simp at h2; omega⟩
  have e : (tkv (t :: l)).drop (1 * 4) = tkv l := by unfold tkv; rw [List.flatMap_cons]; rfl
  rw [e] at this
  exact this
theorem blk7r {w : World} {g : Nat} {v nm x3 x4 x5 x6 : Value} (h : Blk w g 89 (rdA v nm x3 x4 x5 x6)) :
    w.cell? ⟨g, 0, none⟩ = some (.string colT) ∧ w.cell? ⟨g, 1, none⟩ = some v ∧ w.cell? ⟨g, 2, none⟩ = some nm ∧ w.cell? ⟨g, 3, none⟩ = some x3 ∧ w.cell? ⟨g, 4, none⟩ = some x4 ∧ w.cell? ⟨g, 5, none⟩ = some x5 ∧ w.cell? ⟨g, 6, none⟩ = some x6 ∧ ∀ o, w.frozen? ⟨g, o, none⟩ = false :=
  ⟨h.cell 0, h.cell 1, h.cell 2, h.cell 3, h.cell 4, h.cell 5, h.cell 6, h.frozen⟩
section
variable {X : World} {r : Nat} {t : Tk} {l : List Tk} {nm x3 x4 x5 x6 : Value} (h : RdS X r (t :: l) nm x3 x4 x5 x6)
include h
set_option maxRecDepth 100000 in
set_option maxHeartbeats 4000000 in
theorem kind_q : Calls Tryz.prog 88 #[.pointer (some ⟨r, 0, none⟩)] X fun e w' => e = .returned (.int .i64 (t.k : Nat)) ∧ X = w' := by
  obtain ⟨v, hb, ht⟩ := h
  obtain ⟨ad, c, rfl, hbl, -, c0, c1, c2, c3⟩ := ht.head
  obtain ⟨s0, s1, s2, s3, s4, s5, s6, sf⟩ := blk7r hb
  have n0 : ((l.length : Int) + 1 == 0) = false := beq_eq_false_iff_ne.2 (by omega)
  have i1 : (0 : Int) < (l.length : Int) + 1 := by omega
  go_enter Tryz.func88, Tryz.ntmps88
  go_wp2
  go_ret
  exact ⟨rfl, rfl⟩
set_option maxRecDepth 100000 in
set_option maxHeartbeats 4000000 in
theorem peek_q (h1 : t.a ≤ t.e) (h2 : t.e ≤ colT.size) : Calls Tryz.prog 87 #[.pointer (some ⟨r, 0, none⟩)] X fun e w' => e = .returned (.string (txt t)) ∧ X.grownBy w' none := by
  obtain ⟨v, hb, ht⟩ := h
  obtain ⟨ad, c, rfl, hbl, -, c0, c1, c2, c3⟩ := ht.head
  obtain ⟨s0, s1, s2, s3, s4, s5, s6, sf⟩ := blk7r hb
  have n0 : ((l.length : Int) + 1 == 0) = false := beq_eq_false_iff_ne.2 (by omega)
  have i1 : (0 : Int) < (l.length : Int) + 1 := by omega
  have a0 : (0 : Int) ≤ (t.a : Int) := by omega
  have a1 : (t.a : Int) ≤ (t.e : Int) := by omega
  have a2 : (t.e : Int) ≤ (colT.size : Int) := by omega
  unfold txt
  generalize colT = T at *
  clear ht hb h1 h2
  obtain ⟨kk, aa, ee⟩ := t
  dsimp only at *
  go_enter Tryz.func87, Tryz.ntmps87
  go_upto_region 3 with fail
  go_quiet (fail)
  go_wp2
  go_ret
  exact ⟨rfl, gdrewN _ _⟩
end
end Go.Proofs.YtdfklagiafmoiaaGreatDoor

/- The reader of tokens: take, accept, expect. -/
namespace Go.Proofs.YtdfklagiafmoiaaGreatDoor
open Go.RowKit

/-- one token taken, nothing else written -/
def TkPost (X : World) (r : Nat) (l : List Tk) (nm x3 x4 x5 x6 : Value) (w' : World) : Prop := RdS w' r l nm x3 x4 x5 x6 ∧ X.grownBy w' (some r)
theorem TokS.tail1 {X : World} {r : Nat} {ad : Addr} {n c : Nat} {t : Tk} {l : List Tk} (h : TokS X r (.slice (some ad) n c) (t :: l)) (hc : c = 1) : TokS X r (.slice (some ad) l.length 0) l := by
  have := h.tail
  rw [if_pos hc, hc] at this
  exact this
theorem TokS.tail2 {X : World} {r : Nat} {ad : Addr} {n c : Nat} {t : Tk} {l : List Tk} (h : TokS X r (.slice (some ad) n c) (t :: l)) (hc : ¬ c = 1) : TokS X r (.slice (some ⟨ad.block, ad.off + 4, none⟩) l.length (c - 1)) l := by
  have := h.tail
  rw [if_neg hc] at this
  exact this
theorem tk_post {X : World} {r : Nat} {l : List Tk} {v v' nm x3 x4 x5 x6 : Value} (hb : Blk X r 89 (rdA v nm x3 x4 x5 x6)) (ht : TokS X r v' l) (o1 o2 : Obj) : TkPost X r l nm x3 x4 x5 x6 (((X.setCell ⟨r, 1, none⟩ v').alloc o1).alloc o2) := by
  have hg : X.grownBy (((X.setCell ⟨r, 1, none⟩ v').alloc o1).alloc o2) (some r) := ((gset' X r 1 v').trans ((galloc _ o1).but _)).trans ((galloc _ o2).but _)
  refine ⟨⟨v', ((hb.set_ 1 v').alloc o1).alloc o2, ht.keep hg (Nat.le_of_lt hb.lt) (fun b e => by injection e with e; omega)⟩, hg⟩
section
variable {X : World} {r : Nat} {t : Tk} {l : List Tk} {nm x3 x4 x5 x6 : Value} (h : RdS X r (t :: l) nm x3 x4 x5 x6)
include h
set_option maxRecDepth 100000 in
set_option maxHeartbeats 4000000 in
theorem take_q : Calls Tryz.prog 90 #[.pointer (some ⟨r, 0, none⟩)] X fun e w' => e = .returned (tokV t.k t.a t.e 0) ∧ TkPost X r l nm x3 x4 x5 x6 w' := by
  obtain ⟨v, hb, ht⟩ := h
  obtain ⟨ad, c, rfl, hbl, hc, c0, c1, c2, c3⟩ := ht.head
  have HT := Lib.hid ht
  have HB := Lib.hid hb
  obtain ⟨s0, s1, s2, s3, s4, s5, s6, sf⟩ := blk7r hb
  have n0 : ((l.length : Int) + 1 == 0) = false := beq_eq_false_iff_ne.2 (by omega)
  have i1 : (0 : Int) < (l.length : Int) + 1 := by omega
  have hr : r < X.heap.size := hb.lt
  have hax : ad.block < X.heap.size := by omega
  clear ht hb
  obtain ⟨kk, aa, ee⟩ := t
  dsimp only at *
  by_cases h1 : c = 1
  · subst h1
    obtain rfl : l = [] := List.length_eq_zero_iff.1 (by omega)
    go_enter Tryz.func90, Tryz.ntmps90
    go_wp2
    refine bodyPost_ret (v := tokV kk aa ee 0) (by simp [results, Tryz.results90, go_sem, tokV]) rfl ⟨rfl, ?_⟩
    exact tk_post HB.out (HT.out.tail1 rfl) _ _
  · go_enter Tryz.func90, Tryz.ntmps90
    go_wp2
    refine bodyPost_ret (v := tokV kk aa ee 0) (by simp [results, Tryz.results90, go_sem, tokV]) rfl ⟨rfl, ?_⟩
    exact tk_post HB.out (HT.out.tail2 h1) _ _
set_option maxRecDepth 100000 in
set_option maxHeartbeats 4000000 in
theorem accept_no (h1 : t.a ≤ t.e) (h2 : t.e ≤ colT.size) (s : ByteArray) (hne : ((txt t).toList == s.toList) = false) : Calls Tryz.prog 86 #[.pointer (some ⟨r, 0, none⟩), .string s] X fun e w' => e = .returned (.bool false) ∧ X.grownBy w' none := by
  have HPK := Lib.hid (peek_q h h1 h2)
  clear h h1 h2
  generalize txt t = q at *
  go_enter Tryz.func86, Tryz.ntmps86
  go_wp2_with fail
  refine HPK.out.mono ?_
  rintro e w1 ⟨rfl, hg⟩
  have HG := Lib.hid hg
  clear hg
  go_wp2
  go_ret
  exact ⟨rfl, HG.out⟩
set_option maxRecDepth 100000 in
set_option maxHeartbeats 4000000 in
theorem accept_yes (h1 : t.a ≤ t.e) (h2 : t.e ≤ colT.size) (s : ByteArray) (he : ((txt t).toList == s.toList) = true) : Calls Tryz.prog 86 #[.pointer (some ⟨r, 0, none⟩), .string s] X fun e w' => e = .returned (.bool true) ∧ TkPost X r l nm x3 x4 x5 x6 w' := by
  have HPK := Lib.hid (peek_q h h1 h2)
  have HH := Lib.hid h
  clear h h1 h2
  generalize txt t = q at *
  go_enter Tryz.func86, Tryz.ntmps86
  go_wp2_with fail
  refine HPK.out.mono ?_
  rintro e w1 ⟨rfl, hg⟩
  have HG := Lib.hid hg
  have HTK := Lib.hid (take_q (HH.out.keep hg))
  clear hg HPK
  go_wp2_with fail
  refine HTK.out.mono ?_
  rintro e w2 ⟨rfl, hs, hg2⟩
  have HS := Lib.hid hs
  have HG2 := Lib.hid ((HG.out.but _).trans hg2)
  clear hs hg2
  go_wp2
  go_ret
  exact ⟨rfl, HS.out, HG2.out⟩
set_option maxRecDepth 100000 in
set_option maxHeartbeats 4000000 in
theorem expect_q (h1 : t.a ≤ t.e) (h2 : t.e ≤ colT.size) (s : ByteArray) (he : ((txt t).toList == s.toList) = true) : Calls Tryz.prog 54 #[.pointer (some ⟨r, 0, none⟩), .string s] X fun e w' => (∃ v, e = .returned v) ∧ TkPost X r l nm x3 x4 x5 x6 w' := by
  have HA := Lib.hid (accept_yes h h1 h2 s he)
  clear h h1 h2 he
  go_enter Tryz.func54, Tryz.ntmps54
  go_wp2_with fail
  refine HA.out.mono ?_
  rintro e w2 ⟨rfl, hs⟩
  have HS := Lib.hid hs
  clear hs
  go_wp2
  go_end0
  exact ⟨⟨_, rfl⟩, HS.out⟩
end
end Go.Proofs.YtdfklagiafmoiaaGreatDoor

/- Words looked up in the parser's lists. (Printed by genPA3.py.) -/
namespace Go.Proofs.YtdfklagiafmoiaaGreatDoor
open Go.RowKit

/-- what a word's place in a list says -/
def FdOk (s : ByteArray) (f : Int) (L : List ByteArray) (z : Int) : Prop :=
  (s.toList == ([] : List UInt8)) = false ∧ ((∃ i : Nat, z = f + i ∧ ∃ h : i < L.length, (L[i].toList == s.toList) = true ∧ ∀ j (hj : j < L.length), j < i → (L[j].toList == s.toList) = false) ∨ (z = 0 ∧ ∀ j (hj : j < L.length), (L[j].toList == s.toList) = false))
def FdRel (L : List ByteArray) (s : ByteArray) (X : World) (i : Value) (wr : World) : Prop := wr = X ∧ ∃ k : Nat, i = .int .i64 k ∧ k ≤ L.length ∧ ∀ j (hj : j < L.length), j < k → (L[j].toList == s.toList) = false
set_option maxRecDepth 100000 in
set_option maxHeartbeats 4000000 in
theorem find_q (s : ByteArray) (f : Int) (hf : 0 ≤ f ∧ f ≤ 100) (L : List ByteArray) (hL : L.length ≤ 100) (z : Int) (h : FdOk s f L z) (b : Nat) (X : World) (hb : Blk X b 9 (L.map Value.string).toArray) :
    Calls Tryz.prog 167 #[.string s, .int .i64 f, .slice (some ⟨b, 0, none⟩) L.length L.length] X fun e w' => e = .returned (.int .i64 z) ∧ X = w' := by
  have HB := Lib.hid hb
  obtain ⟨h0, h1⟩ := h
  have H1 := Lib.hid h1
  obtain ⟨n, hn⟩ : ∃ n, L.length = n := ⟨_, rfl⟩
  have HN := Lib.hid hn
  rw [hn] at hL
  rw [hn]
  clear hb h1 hn
  go_enter Tryz.func167, Tryz.ntmps167
  go_wp2
  go_loopw [13] (FdRel L s X) (fun i _ => n - (intOf i).toNat)
  case atStart => exact ⟨rfl, 0, rfl, Nat.zero_le _, fun j _ hj => absurd hj (Nat.not_lt_zero _)⟩
  case round =>
    obtain ⟨rfl, k, rfl, hk, hno⟩ := hrel
    rw [HN.out] at hk
    have HNO := Lib.hid hno
    clear hno
    have k0 : (0 : Int) ≤ (k : Int) := by omega
    by_cases hlt : k < n
    · have hkL : k < L.length := by rw [HN.out]; exact hlt
      have c0 : wr.cell? ⟨b, k, none⟩ = some (.string L[k]) := by
        have := HB.out.get (k := k) (by rw [List.length_map]; exact hkL)
        rw [this, List.getElem_map]
      have k1 : (k : Int) < (n : Int) := by omega
      have w1 := IntWalk.i64_in (f + (k : Int)) (by omega)
      by_cases hq : (L[k].toList == s.toList) = true
      · have hz : z = f + k := by
          rcases H1.out with ⟨i, hz, hi, hit, hbe⟩ | ⟨_, hno⟩
          · rcases Nat.lt_trichotomy i k with h2 | h2 | h2
            · have := HNO.out i hi h2; rw [this] at hit; cases hit
            · subst h2; exact hz
            · have := hbe k hkL h2; rw [this] at hq; cases hq
          · have := hno k hkL; rw [this] at hq; cases hq
        have HZ := Lib.hid hz
        obtain ⟨qq, hqq⟩ : ∃ qq, L[k] = qq := ⟨_, rfl⟩
        rw [hqq] at c0 hq
        clear hz hqq
        go_wp2
        go_ret
        exact ⟨ret_int HZ.out.symm, rfl⟩
      · have hq : (L[k].toList == s.toList) = false := by simpa using hq
        have HN2 := Lib.hid (show ∀ j (hj : j < L.length), j < k + 1 → (L[j].toList == s.toList) = false from fun j hj hjk => by
          rcases (by omega : j < k ∨ j = k) with h2 | rfl
          · exact HNO.out j hj h2
          · exact hq)
        have HLT := Lib.hid hkL
        obtain ⟨qq, hqq⟩ : ∃ qq, L[k]'hkL = qq := ⟨_, rfl⟩
        rw [hqq] at c0 hq
        clear hqq
        go_wp2
        go_roundw
        case rel => exact ⟨rfl, k + 1, by go_num, HLT.out, HN2.out⟩
        case measure => simp [intOf]; omega
    · obtain rfl : k = n := by omega
      have HZ := Lib.hid (show (0 : Int) = z from by
        rcases H1.out with ⟨i, hz, hi, hit, hbe⟩ | ⟨hz, _⟩
        · have := HNO.out i hi (by have := HN.out; omega); rw [this] at hit; cases hit
        · exact hz.symm)
      go_wp2
      go_ret
      exact ⟨ret_int HZ.out, rfl⟩
def binaryL : List ByteArray := [⟨#[42]⟩, ⟨#[47]⟩, ⟨#[37]⟩, ⟨#[43]⟩, ⟨#[45]⟩, ⟨#[61, 61]⟩, ⟨#[33, 61]⟩, ⟨#[60]⟩, ⟨#[60, 61]⟩, ⟨#[62]⟩, ⟨#[62, 61]⟩, ⟨#[38, 38]⟩, ⟨#[124, 124]⟩]
set_option maxRecDepth 100000 in
theorem binaryL_q (X : World) : Calls Tryz.prog 168 #[] X fun e w' => e = .returned (.slice (some ⟨X.heap.size, 0, none⟩) 13 13) ∧ X.alloc (.cells (binaryL.map Value.string).toArray 9) = w' := by
  go_enter Tryz.func168, Tryz.ntmps168
  go_wp2
  go_ret
  exact ⟨rfl, rfl⟩
set_option maxRecDepth 100000 in
set_option maxHeartbeats 4000000 in
theorem binaryOp_q (s : ByteArray) (z : Int) (h : FdOk s 30 binaryL z) (X : World) : Calls Tryz.prog 149 #[.string s] X fun e w' => e = .returned (.int .i64 z) ∧ X.grownBy w' none := by
  have HG := Lib.hid (galloc X (.cells (binaryL.map Value.string).toArray 9))
  have HF := Lib.hid (find_q s 30 (by decide) binaryL (by decide) z h X.heap.size (X.alloc (.cells (binaryL.map Value.string).toArray 9)) (Blk.new _ _ _))
  obtain ⟨W, hW⟩ : ∃ W, X.alloc (.cells (binaryL.map Value.string).toArray 9) = W := ⟨_, rfl⟩
  have HL := Lib.hid (binaryL_q X)
  rw [hW] at HG HF HL
  clear h hW
  go_enter Tryz.func149, Tryz.ntmps149
  go_wp2_with (first | (go_at_call 168; refine HL.out.mono ?_; rintro e w' ⟨rfl, rfl⟩) | (go_at_call 167; refine HF.out.mono ?_; rintro e w' ⟨rfl, rfl⟩))
  go_ret
  exact ⟨rfl, HG.out⟩
def aggregateL : List ByteArray := [⟨#[97, 108, 108]⟩, ⟨#[115, 111, 109, 101]⟩, ⟨#[99, 111, 117, 110, 116]⟩, ⟨#[102, 105, 114, 115, 116]⟩, ⟨#[109, 105, 110]⟩, ⟨#[109, 97, 120]⟩, ⟨#[115, 117, 109]⟩, ⟨#[109, 101, 120]⟩, ⟨#[115, 101, 99, 111, 110, 100]⟩, ⟨#[104, 101, 97, 100]⟩]
set_option maxRecDepth 100000 in
theorem aggregateL_q (X : World) : Calls Tryz.prog 201 #[] X fun e w' => e = .returned (.slice (some ⟨X.heap.size, 0, none⟩) 10 10) ∧ X.alloc (.cells (aggregateL.map Value.string).toArray 9) = w' := by
  go_enter Tryz.func201, Tryz.ntmps201
  go_wp2
  go_ret
  exact ⟨rfl, rfl⟩
set_option maxRecDepth 100000 in
set_option maxHeartbeats 4000000 in
theorem aggregateOp_q (s : ByteArray) (z : Int) (h : FdOk s 20 aggregateL z) (X : World) : Calls Tryz.prog 189 #[.string s] X fun e w' => e = .returned (.int .i64 z) ∧ X.grownBy w' none := by
  have HG := Lib.hid (galloc X (.cells (aggregateL.map Value.string).toArray 9))
  have HF := Lib.hid (find_q s 20 (by decide) aggregateL (by decide) z h X.heap.size (X.alloc (.cells (aggregateL.map Value.string).toArray 9)) (Blk.new _ _ _))
  obtain ⟨W, hW⟩ : ∃ W, X.alloc (.cells (aggregateL.map Value.string).toArray 9) = W := ⟨_, rfl⟩
  have HL := Lib.hid (aggregateL_q X)
  rw [hW] at HG HF HL
  clear h hW
  go_enter Tryz.func189, Tryz.ntmps189
  go_wp2_with (first | (go_at_call 201; refine HL.out.mono ?_; rintro e w' ⟨rfl, rfl⟩) | (go_at_call 167; refine HF.out.mono ?_; rintro e w' ⟨rfl, rfl⟩))
  go_ret
  exact ⟨rfl, HG.out⟩
def constantL : List ByteArray := [⟨#[116, 114, 117, 101]⟩, ⟨#[102, 97, 108, 115, 101]⟩, ⟨#[110, 111, 110, 101]⟩, ⟨#[]⟩, ⟨#[110]⟩, ⟨#[105, 100, 115]⟩, ⟨#[105, 100]⟩, ⟨#[100, 101, 103]⟩, ⟨#[114, 111, 111, 116]⟩]
set_option maxRecDepth 100000 in
theorem constantL_q (X : World) : Calls Tryz.prog 200 #[] X fun e w' => e = .returned (.slice (some ⟨X.heap.size, 0, none⟩) 9 9) ∧ X.alloc (.cells (constantL.map Value.string).toArray 9) = w' := by
  go_enter Tryz.func200, Tryz.ntmps200
  go_wp2
  go_ret
  exact ⟨rfl, rfl⟩
set_option maxRecDepth 100000 in
set_option maxHeartbeats 4000000 in
theorem constantOp_q (s : ByteArray) (z : Int) (h : FdOk s 2 constantL z) (X : World) : Calls Tryz.prog 188 #[.string s] X fun e w' => e = .returned (.int .i64 z) ∧ X.grownBy w' none := by
  have HG := Lib.hid (galloc X (.cells (constantL.map Value.string).toArray 9))
  have HF := Lib.hid (find_q s 2 (by decide) constantL (by decide) z h X.heap.size (X.alloc (.cells (constantL.map Value.string).toArray 9)) (Blk.new _ _ _))
  obtain ⟨W, hW⟩ : ∃ W, X.alloc (.cells (constantL.map Value.string).toArray 9) = W := ⟨_, rfl⟩
  have HL := Lib.hid (constantL_q X)
  rw [hW] at HG HF HL
  clear h hW
  go_enter Tryz.func188, Tryz.ntmps188
  go_wp2_with (first | (go_at_call 200; refine HL.out.mono ?_; rintro e w' ⟨rfl, rfl⟩) | (go_at_call 167; refine HF.out.mono ?_; rintro e w' ⟨rfl, rfl⟩))
  go_ret
  exact ⟨rfl, HG.out⟩
def fieldL : List ByteArray := [⟨#[105, 100]⟩, ⟨#[100, 101, 103]⟩, ⟨#[114, 111, 111, 116]⟩, ⟨#[119, 101, 105, 103, 104, 116]⟩, ⟨#[98, 97, 99, 107]⟩]
set_option maxRecDepth 100000 in
theorem fieldL_q (X : World) : Calls Tryz.prog 207 #[] X fun e w' => e = .returned (.slice (some ⟨X.heap.size, 0, none⟩) 5 5) ∧ X.alloc (.cells (fieldL.map Value.string).toArray 9) = w' := by
  go_enter Tryz.func207, Tryz.ntmps207
  go_wp2
  go_ret
  exact ⟨rfl, rfl⟩
set_option maxRecDepth 100000 in
set_option maxHeartbeats 4000000 in
theorem fieldOp_q (s : ByteArray) (z : Int) (h : FdOk s 13 fieldL z) (X : World) : Calls Tryz.prog 199 #[.string s] X fun e w' => e = .returned (.int .i64 z) ∧ X.grownBy w' none := by
  have HG := Lib.hid (galloc X (.cells (fieldL.map Value.string).toArray 9))
  have HF := Lib.hid (find_q s 13 (by decide) fieldL (by decide) z h X.heap.size (X.alloc (.cells (fieldL.map Value.string).toArray 9)) (Blk.new _ _ _))
  obtain ⟨W, hW⟩ : ∃ W, X.alloc (.cells (fieldL.map Value.string).toArray 9) = W := ⟨_, rfl⟩
  have HL := Lib.hid (fieldL_q X)
  rw [hW] at HG HF HL
  clear h hW
  go_enter Tryz.func199, Tryz.ntmps199
  go_wp2_with (first | (go_at_call 207; refine HL.out.mono ?_; rintro e w' ⟨rfl, rfl⟩) | (go_at_call 167; refine HF.out.mono ?_; rintro e w' ⟨rfl, rfl⟩))
  go_ret
  exact ⟨rfl, HG.out⟩
end Go.Proofs.YtdfklagiafmoiaaGreatDoor
