/- Lemmas of this seat, laid together out of 3 texts: no statement of the seat is proved here. -/
import Derived.Test.YtdfklagiafmoiaaGreatDoorG05
/- The reference's type of an expression. -/
namespace Go.Proofs.YtdfklagiafmoiaaGreatDoor
open Go.RowKit

theorem drop_head {α : Type} {l : List α} {k : Nat} {x : α} {r : List α} (h : l.drop k = x :: r) : ∃ hk : k < l.length, l[k] = x ∧ l.drop (k + 1) = r := by
  have hk : k < l.length := by
    rcases Nat.lt_or_ge k l.length with h1 | h1
    · exact h1
    · rw [List.drop_eq_nil_of_le h1] at h; cases h
  rw [List.drop_eq_getElem_cons hk] at h
  injection h with h1 h2
  exact ⟨hk, h1, h2⟩
theorem drop_more {α : Type} {l a r : List α} {k : Nat} (h : l.drop k = a ++ r) : l.drop (k + a.length) = r := by
  rw [← List.drop_drop, h, List.drop_left]
theorem endAt_z {l r : List Tm} {k : Nat} {t : Ex} (h : l.drop k = t.flat ++ r) (ht : t.ok) : endAt l k = ((k + t.flat.length : Nat) : Int) := by rw [endAt_tree h ht]; omega

section
variable (l : List Tm) (hl : l.length ≤ 1000000) (k : Nat) (hk : k < l.length) (h0 : 0 ≤ endAt l k) (A : Option Addr) (c : Nat) (w : World) (h : PairsAt w w.heap.size (.slice A l.length c) l)
include hl hk h0 h
theorem opnd1_r (har : 1 < ar l[k].1) (a : Ex) (ha : a.ok) (r : List Tm) (hd : l.drop (k + 1) = a.flat ++ r) :
    Calls Tryz.prog 186 #[.slice A l.length c, .int .i64 (k : Int), .int .i64 1] w fun e w' => e = .returned (.int .i64 ((k + 1 + a.flat.length : Nat) : Int)) ∧ w = w' := by
  have := opnd_r l (by omega) k 1 (fun i => if i = 0 then k + 1 else k + 1 + a.flat.length) hk h0 har rfl (fun i hi => by
    obtain rfl : i = 0 := by omega
    exact endAt_z hd ha) A c w.heap.size w h
  simpa using this
theorem opnd2_r (har : 2 < ar l[k].1) (a d : Ex) (ha : a.ok) (hd_ : d.ok) (r : List Tm) (hd : l.drop (k + 1) = a.flat ++ (d.flat ++ r)) :
    Calls Tryz.prog 186 #[.slice A l.length c, .int .i64 (k : Int), .int .i64 2] w fun e w' => e = .returned (.int .i64 ((k + 1 + a.flat.length + d.flat.length : Nat) : Int)) ∧ w = w' := by
  have := opnd_r l (by omega) k 2 (fun i => if i = 0 then k + 1 else if i = 1 then k + 1 + a.flat.length else k + 1 + a.flat.length + d.flat.length) hk h0 har rfl (fun i hi => by
    rcases (by omega : i = 0 ∨ i = 1) with rfl | rfl
    · exact endAt_z hd ha
    · exact endAt_z (drop_more hd) hd_) A c w.heap.size w h
  simpa using this
end
def KindPost (w : World) (z : Int) (e : Ending) (w' : World) : Prop := e = .returned (.int .i64 z) ∧ Below w.heap.size w w'
set_option maxRecDepth 100000 in
set_option maxHeartbeats 8000000 in
theorem kind_r (l : List Tm) (hl : l.length ≤ 1000000) (ks : List Int) (A Ak : Option Addr) (c ck : Nat) (t : Ex) : ∀ (_ht : t.ok) (k : Nat) (z : Int) (_hz : z = k) (r : List Tm) (bd : Bool) (w : World) (_hd : l.drop k = t.flat ++ r) (_ha : ∀ x ∈ t.flat, argIn ks.length x)
    (_h : PairsAt w w.heap.size (.slice A l.length c) l) (_hk : IntsAt w w.heap.size (.slice Ak ks.length ck) ks),
    Calls Tryz.prog 164 #[.slice A l.length c, .int .i64 z, .slice Ak ks.length ck, .bool bd] w (KindPost w (t.ty ks bd)) := by
  induction t with
  | z t =>
    intro ht k z hz r bd w hd hav h hks
    subst hz
    obtain ⟨hkl, hx, -⟩ := drop_head (x := t) (r := r) hd
    obtain ⟨ad, rfl, hb, c0, c1⟩ := pair_at h hkl
    rw [hx] at c0 c1
    have HA := Lib.hid (hav t (by simp [Ex.flat]))
    have HK := Lib.hid hks
    have ht' : ar t.1 = 0 := ht
    have k0 : (0 : Int) ≤ (k : Int) := by omega
    have k1 : (k : Int) < (l.length : Int) := by omega
    clear h hd hav hx hks ht
    go_enter Tryz.func164, Tryz.ntmps164
    go_wp2_with (first | (go_at_call 181; refine (ar_r _ _).mono ?_; rintro e w' ⟨rfl, rfl⟩) | (go_at_call 182; refine (leaf_r t ks bd HA.out Ak ck _ HK.out).mono ?_; rintro e w' ⟨rfl, hb⟩))
    go_ret
    exact ⟨rfl, hb⟩
  | u t a iha =>
    intro ht k z hz r bd w hd hav h hks
    subst hz
    obtain ⟨ht', hta⟩ := ht
    have IH := Lib.hid (iha hta)
    obtain ⟨hkl, hx, hd1⟩ := drop_head (x := t) (r := a.flat ++ r) hd
    obtain ⟨ad, hA, hb, c0, c1⟩ := pair_at h hkl
    subst hA
    rw [hx] at c0 c1
    have HD1 := Lib.hid hd1
    have HAV := Lib.hid (fun x (hx : x ∈ a.flat) => hav x (by simp [Ex.flat, hx]))
    have HK := Lib.hid hks
    have H := Lib.hid h
    have k0 : (0 : Int) ≤ (k : Int) := by omega
    have k1 : (k : Int) < (l.length : Int) := by omega
    clear h hd hav hx hks hd1 iha
    cases bd
    · cases hag : agg t.1
      all_goals
        have HG := Lib.hid hag
        clear hag
        go_enter Tryz.func164, Tryz.ntmps164
        go_wp2_with (first | (go_at_call 181; refine (ar_r _ _).mono ?_; rintro e w' ⟨rfl, rfl⟩) | (go_at_call 184; refine (agg_r _ _).mono ?_; rintro e w' ⟨rfl, rfl⟩; rw [HG.out]) | (go_at_call 164; refine (IH.out (k + 1) _ (by omega) r _ _ HD1.out HAV.out H.out HK.out).mono ?_; rintro e w' ⟨rfl, hb⟩) | (go_at_call 183; refine (single_r _ _ _).mono ?_; rintro e w' ⟨rfl, rfl⟩))
        go_ret
        exact ⟨ret_int (by simp only [Ex.ty, HG.out]; rfl), hb⟩
    · go_enter Tryz.func164, Tryz.ntmps164
      go_wp2_with (first | (go_at_call 181; refine (ar_r _ _).mono ?_; rintro e w' ⟨rfl, rfl⟩) | (go_at_call 164; refine (IH.out (k + 1) _ (by omega) r _ _ HD1.out HAV.out H.out HK.out).mono ?_; rintro e w' ⟨rfl, hb⟩) | (go_at_call 183; refine (single_r _ _ _).mono ?_; rintro e w' ⟨rfl, rfl⟩))
      go_ret
      exact ⟨ret_int (by simp only [Ex.ty, Bool.true_or]), hb⟩
  | b t a d iha ihd =>
    intro ht k z hz r bd w hd hav h hks
    subst hz
    have htw := ht
    obtain ⟨ht', hta, htd⟩ := ht
    have IH := Lib.hid (iha hta)
    have IH2 := Lib.hid (ihd htd)
    obtain ⟨hkl, hx, hd1⟩ := drop_head (x := t) (r := a.flat ++ (d.flat ++ r)) (by rw [hd]; simp [Ex.flat])
    have hd2 := drop_more hd1
    obtain ⟨ad, hA, hb, c0, c1⟩ := pair_at h hkl
    subst hA
    have HOP := Lib.hid (fun (w : World) h => opnd1_r l hl k hkl (by rw [endAt_z hd htw]; omega) (some ad) c w h (by rw [hx, ht']; decide) a hta _ hd1)
    rw [hx] at c0 c1
    have HD1 := Lib.hid hd1
    have HD2 := Lib.hid hd2
    have HAV := Lib.hid (fun x (hx : x ∈ a.flat) => hav x (by simp [Ex.flat, hx]))
    have HDV := Lib.hid (fun x (hx : x ∈ d.flat) => hav x (by simp [Ex.flat, hx]))
    have HK := Lib.hid hks
    have H := Lib.hid h
    have k0 : (0 : Int) ≤ (k : Int) := by omega
    have k1 : (k : Int) < (l.length : Int) := by omega
    clear h hd hav hx hks hd1 hd2 iha ihd
    go_enter Tryz.func164, Tryz.ntmps164
    go_wp2_with (go_at_call 181; refine (ar_r _ _).mono ?_; rintro e w' ⟨rfl, rfl⟩)
    refine (IH.out (k + 1) _ (by omega) (d.flat ++ r) _ _ HD1.out HAV.out H.out HK.out).mono ?_
    rintro e w1 ⟨rfl, hb1⟩
    have HB1 := Lib.hid hb1
    clear hb1
    go_wp2_with fail
    refine (HOP.out _ (PairsAt.to (Holds_.go HB1.out) H.out)).mono ?_
    rintro e w1 ⟨rfl, rfl⟩
    go_wp2_with fail
    refine (IH2.out (k + 1 + a.flat.length) _ (by simp) r _ _ HD2.out HDV.out (PairsAt.to (Holds_.go HB1.out) H.out) (IntsAt.to (Holds_.go HB1.out) HK.out)).mono ?_
    rintro e w2 ⟨rfl, hb2⟩
    have HB2 := Lib.hid (below_step hb2 HB1.out)
    clear hb2
    go_wp2_with (go_at_call 185; refine (double_r _ _ _ _).mono ?_; rintro e w' ⟨rfl, rfl⟩)
    go_ret
    exact ⟨rfl, HB2.out⟩
  | i t a d f iha ihd ihf =>
    intro ht k z hz r bd w hd hav h hks
    subst hz
    have htw := ht
    obtain ⟨ht', hta, htd, htf⟩ := ht
    have IH := Lib.hid (iha hta)
    have IH2 := Lib.hid (ihd htd)
    have IH3 := Lib.hid (ihf htf)
    obtain ⟨hkl, hx, hd1⟩ := drop_head (x := t) (r := a.flat ++ (d.flat ++ (f.flat ++ r))) (by rw [hd]; simp [Ex.flat])
    have hd2 := drop_more hd1
    have hd3 := drop_more hd2
    obtain ⟨ad, hA, hb, c0, c1⟩ := pair_at h hkl
    subst hA
    have HOP := Lib.hid (fun (w : World) h => opnd1_r l hl k hkl (by rw [endAt_z hd htw]; omega) (some ad) c w h (by rw [hx, ht']; decide) a hta _ hd1)
    have HOP2 := Lib.hid (fun (w : World) h => opnd2_r l hl k hkl (by rw [endAt_z hd htw]; omega) (some ad) c w h (by rw [hx, ht']; decide) a d hta htd _ hd1)
    rw [hx] at c0 c1
    have HD1 := Lib.hid hd1
    have HD2 := Lib.hid hd2
    have HD3 := Lib.hid hd3
    have HAV := Lib.hid (fun x (hx : x ∈ a.flat) => hav x (by simp [Ex.flat, hx]))
    have HDV := Lib.hid (fun x (hx : x ∈ d.flat) => hav x (by simp [Ex.flat, hx]))
    have HFV := Lib.hid (fun x (hx : x ∈ f.flat) => hav x (by simp [Ex.flat, hx]))
    have HK := Lib.hid hks
    have H := Lib.hid h
    have k0 : (0 : Int) ≤ (k : Int) := by omega
    have k1 : (k : Int) < (l.length : Int) := by omega
    clear h hd hav hx hks hd1 hd2 hd3 iha ihd ihf
    go_enter Tryz.func164, Tryz.ntmps164
    go_wp2_with (go_at_call 181; refine (ar_r _ _).mono ?_; rintro e w' ⟨rfl, rfl⟩)
    refine (IH.out (k + 1) _ (by omega) (d.flat ++ (f.flat ++ r)) _ _ HD1.out HAV.out H.out HK.out).mono ?_
    rintro e w1 ⟨rfl, hb1⟩
    have HB1 := Lib.hid hb1
    clear hb1
    go_wp2_with fail
    refine (HOP.out _ (PairsAt.to (Holds_.go HB1.out) H.out)).mono ?_
    rintro e w1 ⟨rfl, rfl⟩
    go_wp2_with fail
    refine (IH2.out (k + 1 + a.flat.length) _ (by simp) (f.flat ++ r) _ _ HD2.out HDV.out (PairsAt.to (Holds_.go HB1.out) H.out) (IntsAt.to (Holds_.go HB1.out) HK.out)).mono ?_
    rintro e w2 ⟨rfl, hb2⟩
    have HB2 := Lib.hid (below_step hb2 HB1.out)
    clear hb2 HB1
    go_wp2_with fail
    refine (HOP2.out _ (PairsAt.to (Holds_.go HB2.out) H.out)).mono ?_
    rintro e w1 ⟨rfl, rfl⟩
    go_wp2_with fail
    refine (IH3.out (k + 1 + a.flat.length + d.flat.length) _ (by simp) r _ _ HD3.out HFV.out (PairsAt.to (Holds_.go HB2.out) H.out) (IntsAt.to (Holds_.go HB2.out) HK.out)).mono ?_
    rintro e w3 ⟨rfl, hb3⟩
    have HB3 := Lib.hid (below_step hb3 HB2.out)
    have e0 := Lib.hid (show (Ex.i t a d f).ty ks bd = triple (a.ty ks bd) (d.ty ks bd) (f.ty ks bd) from rfl)
    clear hb3 HB2
    generalize a.ty ks bd = ta at *
    generalize d.ty ks bd = td at *
    generalize f.ty ks bd = tf at *
    go_wp2
    all_goals (go_ret; exact ⟨ret_int (by rw [e0.out]; (try simp only [bne_iff_ne, bne_eq_false_iff_eq, ne_eq] at *); unfold triple; (repeat' split) <;> first | rfl | (exfalso; omega) | omega), HB3.out⟩)
end Go.Proofs.YtdfklagiafmoiaaGreatDoor

/- Names: both sides' lexers. -/
namespace Go.Proofs.YtdfklagiafmoiaaGreatDoor
open Go.RowKit

def letB (c : Int) : Bool := decide ((97 ≤ c ∧ c ≤ 122) ∨ (65 ≤ c ∧ c ≤ 90))
def digB (c : Int) : Bool := decide (48 ≤ c ∧ c ≤ 57)
def wordB (c : Int) : Bool := letB c || digB c || decide (c = 95)
theorem letter_r (c : Int) (w : World) : Calls Tryz.prog 174 #[.int .u8 c] w fun e w' => e = .returned (.bool (letB c)) ∧ w = w' := by
  go_enter Tryz.func174, Tryz.ntmps174
  go_wp2
  all_goals ((go_ret; refine ⟨ret_bool (bool_ext ?_), ?_⟩; ((try simp only [decide_eq_true_eq] at *); (try unfold letB); (try dsimp only); (repeat' split) <;> (try simp only [decide_eq_true_eq, Bool.false_eq_true, Bool.or_eq_true, true_iff, false_iff]) <;> (try omega))); rfl)
theorem digit_r (c : Int) (w : World) : Calls Tryz.prog 196 #[.int .u8 c] w fun e w' => e = .returned (.bool (digB c)) ∧ w = w' := by
  go_enter Tryz.func196, Tryz.ntmps196
  go_wp2
  all_goals ((go_ret; refine ⟨ret_bool (bool_ext ?_), ?_⟩; ((try simp only [decide_eq_true_eq] at *); (try unfold digB); (try dsimp only); (repeat' split) <;> (try simp only [decide_eq_true_eq, Bool.false_eq_true, false_iff]) <;> (try omega))); rfl)
theorem letter_p (c : Int) (w : World) : Calls Tryz.prog 81 #[.int .u8 c] w fun e w' => e = .returned (.bool (letB c)) ∧ w = w' := by
  go_enter Tryz.func81, Tryz.ntmps81
  go_wp2
  all_goals ((go_ret; refine ⟨ret_bool (bool_ext ?_), ?_⟩; ((try simp only [decide_eq_true_eq] at *); (try unfold letB); (try dsimp only); (repeat' split) <;> (try simp only [decide_eq_true_eq, Bool.false_eq_true, Bool.or_eq_true, true_iff, false_iff]) <;> (try omega))); rfl)
theorem digit_p (c : Int) (w : World) : Calls Tryz.prog 83 #[.int .u8 c] w fun e w' => e = .returned (.bool (digB c)) ∧ w = w' := by
  go_enter Tryz.func83, Tryz.ntmps83
  go_wp2
  all_goals ((go_ret; refine ⟨ret_bool (bool_ext ?_), ?_⟩; ((try simp only [decide_eq_true_eq] at *); (try unfold digB); (try dsimp only); (repeat' split) <;> (try simp only [decide_eq_true_eq, Bool.false_eq_true, false_iff]) <;> (try omega))); rfl)
theorem inner_r (c : Int) (w : World) : Calls Tryz.prog 175 #[.int .u8 c] w fun e w' => e = .returned (.bool (wordB c)) ∧ w = w' := by
  cases h1 : letB c
  all_goals cases h2 : digB c
  all_goals
    go_enter Tryz.func175, Tryz.ntmps175
    go_wp2_with (first | (go_at_call 174; refine (letter_r _ _).mono ?_; rintro e w' ⟨rfl, rfl⟩; rw [h1]) | (go_at_call 196; refine (digit_r _ _).mono ?_; rintro e w' ⟨rfl, rfl⟩; rw [h2]))
    go_ret
    exact ⟨ret_bool (by unfold wordB; rw [h1, h2]; first | rfl | simp), rfl⟩
theorem inWord_p (c : Int) (w : World) : Calls Tryz.prog 82 #[.int .u8 c] w fun e w' => e = .returned (.bool (wordB c)) ∧ w = w' := by
  cases h1 : letB c
  all_goals cases h2 : digB c
  all_goals
    go_enter Tryz.func82, Tryz.ntmps82
    go_wp2_with (first | (go_at_call 81; refine (letter_p _ _).mono ?_; rintro e w' ⟨rfl, rfl⟩; rw [h1]) | (go_at_call 83; refine (digit_p _ _).mono ?_; rintro e w' ⟨rfl, rfl⟩; rw [h2]))
    go_ret
    exact ⟨ret_bool (by unfold wordB; rw [h1, h2]; first | rfl | simp), rfl⟩
def resW : List (List UInt8) := [[112, 114, 111, 103, 114, 97, 109], [118, 97, 114], [114, 117, 108, 101], [98, 111, 111, 108], [112, 111, 114, 116], [116, 114, 117, 101], [102, 97, 108, 115, 101], [110, 111, 110, 101], [110], [105, 100, 115], [105, 100], [100, 101, 103], [114, 111, 111, 116], [113], [119, 101, 105, 103, 104, 116], [98, 97, 99, 107], [97, 108, 108], [115, 111, 109, 101], [99, 111, 117, 110, 116], [102, 105, 114, 115, 116], [109, 105, 110], [109, 97, 120], [115, 117, 109], [109, 101, 120], [115, 101, 99, 111, 110, 100], [104, 101, 97, 100]]
def resB (s : ByteArray) : Bool := resW.any (s.toList == ·)
set_option maxRecDepth 100000 in
set_option maxHeartbeats 16000000 in
theorem res_r (s : ByteArray) (w : World) : Calls Tryz.prog 176 #[.string s] w fun e w' => e = .returned (.bool (resB s)) ∧ w = w' := by
  cases h : resB s
  · simp only [resB, resW, List.any_cons, List.any_nil, Bool.or_eq_false_iff, and_true] at h
    obtain ⟨e0, e1, e2, e3, e4, e5, e6, e7, e8, e9, e10, e11, e12, e13, e14, e15, e16, e17, e18, e19, e20, e21, e22, e23, e24, e25⟩ := h
    go_enter Tryz.func176, Tryz.ntmps176
    go_wp2
    go_ret
    exact ⟨rfl, rfl⟩
  · simp only [resB, resW, List.any_cons, List.any_nil, Bool.or_eq_true, beq_iff_eq, or_false, Bool.false_eq_true] at h
    rcases h with h | h | h | h | h | h | h | h | h | h | h | h | h | h | h | h | h | h | h | h | h | h | h | h | h | h
    all_goals
      go_enter Tryz.func176, Tryz.ntmps176
      go_wp2
      go_ret
      exact ⟨rfl, rfl⟩
set_option maxRecDepth 100000 in
set_option maxHeartbeats 16000000 in
theorem res_p (s : ByteArray) (w : World) : Calls Tryz.prog 120 #[.string s] w fun e w' => e = .returned (.bool (resB s)) ∧ w = w' := by
  cases h : resB s
  · simp only [resB, resW, List.any_cons, List.any_nil, Bool.or_eq_false_iff, and_true] at h
    obtain ⟨e0, e1, e2, e3, e4, e5, e6, e7, e8, e9, e10, e11, e12, e13, e14, e15, e16, e17, e18, e19, e20, e21, e22, e23, e24, e25⟩ := h
    go_enter Tryz.func120, Tryz.ntmps120
    go_wp2
    go_ret
    exact ⟨rfl, rfl⟩
  · simp only [resB, resW, List.any_cons, List.any_nil, Bool.or_eq_true, beq_iff_eq, or_false, Bool.false_eq_true] at h
    rcases h with h | h | h | h | h | h | h | h | h | h | h | h | h | h | h | h | h | h | h | h | h | h | h | h | h | h
    all_goals
      go_enter Tryz.func120, Tryz.ntmps120
      go_wp2
      go_ret
      exact ⟨rfl, rfl⟩
end Go.Proofs.YtdfklagiafmoiaaGreatDoor

/- Names: both sides' Name. -/
namespace Go.Proofs.YtdfklagiafmoiaaGreatDoor
open Go.RowKit

structure NameOk (s : ByteArray) : Prop where
  lo : 0 < s.size
  hi : s.size ≤ 24
  first : letB (s[0].toNat : Int) = true
  all : ∀ i (h : i < s.size), wordB (s[i].toNat : Int) = true
  res : resB s = false
theorem letB_word {c : Int} (h : letB c = true) : wordB c = true := by unfold wordB; rw [h]; rfl
def PropPost (w : World) (P : Prop) (e : Ending) (w' : World) : Prop := ∃ b : Bool, e = .returned (.bool b) ∧ (b = true → P) ∧ w = w'
theorem PropPost.no {w : World} {P : Prop} : PropPost w P (.returned (.bool false)) w := ⟨false, rfl, (fun h => by cases h), rfl⟩
def NmRel (s : ByteArray) (i : Value) : Prop := ∃ k : Nat, i = .int .i64 k ∧ 1 ≤ k ∧ k ≤ s.size ∧ ∀ j (h : j < s.size), j < k → wordB (s[j].toNat : Int) = true
set_option maxRecDepth 100000 in
set_option maxHeartbeats 4000000 in
theorem name_r (s : ByteArray) (w : World) : Calls Tryz.prog 161 #[.string s] w (PropPost w (NameOk s)) := by
  by_cases h0 : s.size < 1
  · have p0 : (s.size : Int) < 1 := by omega
    go_enter Tryz.func161, Tryz.ntmps161
    go_wp2
    go_ret
    exact PropPost.no
  by_cases h1 : 24 < s.size
  · have p0 : ¬ (s.size : Int) < 1 := by omega
    have p1 : (24 : Int) < (s.size : Int) := by omega
    go_enter Tryz.func161, Tryz.ntmps161
    go_wp2
    go_ret
    exact PropPost.no
  have p0 : ¬ (s.size : Int) < 1 := by omega
  have p1 : ¬ (24 : Int) < (s.size : Int) := by omega
  have hs0 : 0 < s.size := by omega
  cases hl : letB (s[0].toNat : Int)
  · have HL := Lib.hid hl
    clear hl
    go_enter Tryz.func161, Tryz.ntmps161
    go_wp2_with (go_at_call 174; refine (letter_r _ _).mono ?_; rintro e w' ⟨rfl, rfl⟩; rw [HL.out])
    go_ret
    exact PropPost.no
  · have HL := Lib.hid hl
    clear hl
    go_enter Tryz.func161, Tryz.ntmps161
    go_wp2_with (go_at_call 174; refine (letter_r _ _).mono ?_; rintro e w' ⟨rfl, rfl⟩; rw [HL.out])
    go_loop [3] (NmRel s) (fun i => s.size - (intOf i).toNat)
    case atStart =>
      refine ⟨1, rfl, Nat.le_refl _, by omega, fun j h hj => ?_⟩
      obtain rfl : j = 0 := by omega
      exact letB_word HL.out
    case round =>
      obtain ⟨k, rfl, hk1, hk, hall⟩ := hrel
      have HA := Lib.hid hall
      clear hall
      by_cases hlt : k < s.size
      · cases hw : wordB (s[k].toNat : Int)
        · have HW := Lib.hid hw
          clear hw
          go_wp2_with (go_at_call 175; refine (inner_r _ _).mono ?_; rintro e w' ⟨rfl, rfl⟩; rw [HW.out])
          go_ret
          exact PropPost.no
        · have HW := Lib.hid hw
          clear hw
          go_wp2_with (go_at_call 175; refine (inner_r _ _).mono ?_; rintro e w' ⟨rfl, rfl⟩; rw [HW.out])
          go_round
          case rel =>
            refine ⟨k + 1, by go_num, by omega, by omega, fun j h hj => ?_⟩
            rcases (by omega : j < k ∨ j = k) with h1 | rfl
            · exact HA.out j h h1
            · exact HW.out
          case measure => simp [intOf]; omega
      · cases hr : resB s
        · have HR := Lib.hid hr
          clear hr
          go_wp2_with (go_at_call 176; refine (res_r _ _).mono ?_; rintro e w' ⟨rfl, rfl⟩; rw [HR.out])
          go_ret
          exact ⟨true, rfl, (fun _ => ⟨hs0, by omega, HL.out, fun j h => HA.out j h (by omega), HR.out⟩), rfl⟩
        · have HR := Lib.hid hr
          clear hr
          go_wp2_with (go_at_call 176; refine (res_r _ _).mono ?_; rintro e w' ⟨rfl, rfl⟩; rw [HR.out])
          go_ret
          exact PropPost.no
set_option maxRecDepth 100000 in
set_option maxHeartbeats 4000000 in
theorem name_p (s : ByteArray) (hs : NameOk s) (w : World) : Calls Tryz.prog 89 #[.string s] w fun e w' => e = .returned (.bool true) ∧ w = w' := by
  have H := Lib.hid hs
  have hs0 := hs.lo
  have hs1 := hs.hi
  have p0 : ¬ (s.size : Int) < 1 := by omega
  have p1 : ¬ (24 : Int) < (s.size : Int) := by omega
  clear hs
  go_enter Tryz.func89, Tryz.ntmps89
  go_wp2_with (go_at_call 81; refine (letter_p _ _).mono ?_; rintro e w' ⟨rfl, rfl⟩; rw [H.out.first])
  go_loop [20] (fun i => ∃ k : Nat, i = .int .i64 k ∧ k ≤ s.size) (fun i => s.size - (intOf i).toNat)
  case atStart => exact ⟨0, rfl, Nat.zero_le _⟩
  case round =>
    obtain ⟨k, rfl, hk⟩ := hrel
    by_cases hlt : k < s.size
    · have HW := Lib.hid (H.out.all k hlt)
      go_wp2_with (go_at_call 82; refine (inWord_p _ _).mono ?_; rintro e w' ⟨rfl, rfl⟩; rw [HW.out])
      go_round
      case rel => exact ⟨k + 1, by go_num, by omega⟩
      case measure => simp [intOf]; omega
    · go_wp2_with (go_at_call 120; refine (res_p _ _).mono ?_; rintro e w' ⟨rfl, rfl⟩; rw [H.out.res])
      go_ret
      exact ⟨rfl, rfl⟩
end Go.Proofs.YtdfklagiafmoiaaGreatDoor
