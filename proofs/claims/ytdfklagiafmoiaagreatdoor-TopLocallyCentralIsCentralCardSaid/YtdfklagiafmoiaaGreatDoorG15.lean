/- Lemmas of this seat, laid together out of 2 texts: no statement of the seat is proved here. -/
import Derived.Test.YtdfklagiafmoiaaGreatDoorG14
/- The program's type of an expression. -/
namespace Go.Proofs.YtdfklagiafmoiaaGreatDoor
open Go.RowKit

def Ex.kids : Ex → List Ex
  | .z _ => []
  | .u _ a => [a]
  | .b _ a c => [a, c]
  | .i _ a c d => [a, c, d]
def RdPost (w : World) (τ : Int) (n : Nat) (e : Ending) (w' : World) : Prop := e = .returned (.tuple #[.int .i64 τ, .int .i64 (n : Int)]) ∧ Below w.heap.size w w'
theorem RdPost.mk {w w' : World} {τ τ' z : Int} {n : Nat} (h : τ' = τ) (hz : z = (n : Int)) (hb : Below w.heap.size w w') : RdPost w τ n (.returned (.tuple #[.int .i64 τ', .int .i64 z])) w' := by subst h hz; exact ⟨rfl, hb⟩
/-- the types of the operands that have been read -/
def opT (ks : List Int) (bd : Bool) (l : List Ex) (m i : Nat) : Int := if i < m then (match l[i]? with | some t => t.ty ks bd | none => 0) else 0
def flatN (l : List Ex) : List Tm := l.flatMap Ex.flat
def RnRel (w : World) (ct cs : Array Value) (ks : List Int) (bd : Bool) (kids : List Ex) (k : Nat) (nx i : Value) (wr : World) : Prop :=
  ∃ m : Nat, m ≤ kids.length ∧ i = .int .i64 m ∧ nx = .int .i64 ((k + 1 + (flatN (kids.take m)).length : Nat) : Int) ∧
    Mem w [cB w.heap.size (w.heap.size + 1 + 1) 207 #[.int .i64 (opT ks bd kids m 0), .int .i64 (opT ks bd kids m 1), .int .i64 (opT ks bd kids m 2)], cB w.heap.size (w.heap.size + 1) 186 cs, cB w.heap.size w.heap.size 190 ct] wr
theorem flatN_snoc (l : List Ex) (m : Nat) (h : m < l.length) : flatN (l.take (m + 1)) = flatN (l.take m) ++ l[m].flat := by
  rw [List.take_succ_eq_append_getElem h]; unfold flatN; rw [List.flatMap_append]; simp
theorem drop_kid {l r : List Tm} {k : Nat} {kids : List Ex} (h : l.drop k = flatN kids ++ r) {m : Nat} (hm : m < kids.length) : l.drop (k + (flatN (kids.take m)).length) = kids[m].flat ++ (flatN (kids.drop (m + 1)) ++ r) := by
  rw [← List.drop_drop, h]
  have e : flatN kids = flatN (kids.take m) ++ (kids[m].flat ++ flatN (kids.drop (m + 1))) := by
    conv => lhs; rw [← List.take_append_drop m kids, List.drop_eq_getElem_cons hm]
    unfold flatN; rw [List.flatMap_append, List.flatMap_cons]
  rw [e, List.append_assoc, List.drop_left, List.append_assoc]
theorem opT_step (ks : List Int) (bd : Bool) (l : List Ex) (m i : Nat) (h : m < l.length) : opT ks bd l (m + 1) i = if i = m then l[m].ty ks bd else opT ks bd l m i := by
  unfold opT
  by_cases hi : i = m
  · subst hi
    rw [if_pos (by omega), if_pos rfl, List.getElem?_eq_getElem h]
  · rw [if_neg hi]
    by_cases h2 : i < m
    · rw [if_pos (by omega), if_pos h2]
    · rw [if_neg (by omega), if_neg h2]

section
variable (l : List Tm) (hl : l.length ≤ 1000) (ks : List Int) (A Ak : Option Addr) (c ck : Nat)
def RdOk (l : List Tm) (ks : List Int) (A Ak : Option Addr) (c ck : Nat) (t : Ex) : Prop := ∀ (k : Nat) (z : Int) (_hz : z = k) (r : List Tm) (bd : Bool) (w : World) (_hd : l.drop k = t.flat ++ r) (_ha : ∀ x ∈ t.flat, argIn ks.length x)
    (_h : PairsAt w w.heap.size (.slice A l.length c) l) (_hk : IntsAt w w.heap.size (.slice Ak ks.length ck) ks),
    Calls Tryz.prog 129 #[.agg #[.slice A l.length c, .slice Ak ks.length ck], .int .i64 z, .bool bd] w (RdPost w (t.ty ks bd) (k + t.flat.length))
include hl in
set_option maxRecDepth 100000 in
set_option maxHeartbeats 4000000 in
theorem read_leaf (t : Tm) (ht : ar t.1 = 0) : RdOk l ks A Ak c ck (.z t) := by
  intro k z hz r bd w hd hav h hks
  subst hz
  obtain ⟨hkl, hx, -⟩ := drop_head (x := t) (r := r) hd
  obtain ⟨ad, hA, hb, c0, c1⟩ := pair_at h hkl
  subst hA
  rw [hx] at c0 c1
  have HA := Lib.hid (hav t (by simp [Ex.flat]))
  have HK := Lib.hid hks
  have k0 : (0 : Int) ≤ (k : Int) := by omega
  have k1 : (k : Int) < (l.length : Int) := by omega
  have hM := ((Mem.start w).new 190 #[.slice (some ad) l.length c, .slice Ak ks.length ck]).new 186 #[.int .i64 t.1, .int .i64 t.2]
  have HM := Lib.hid hM
  have hb' : (ad.add (k * 2)).block < w.heap.size := by rw [block_of_add]; exact hb
  have HLT := Lib.hid (show (near t.1 = true → bd = true) → leafTy ks bd t = leafTy0 (ks.getD t.2.toNat 0) t.1 from fun hn => by
    unfold leafTy
    rw [if_neg]
    rintro ⟨h1, h2⟩
    have : near t.1 = true := by
      unfold near
      have hr : t.1 ≤ 17 := by unfold ar at ht; (repeat' split at ht) <;> omega
      simp; omega
    rw [hn this] at h1
    cases h1)
  have HLF := Lib.hid (show near t.1 = true → bd = false → leafTy ks bd t = 0 from fun hn hb => by
    unfold leafTy
    unfold near at hn
    have := of_decide_eq_true hn
    rw [if_pos ⟨hb, by omega⟩])
  clear h hd hav hx hks hM
  cases hnr : near t.1
  · have HN := Lib.hid hnr
    clear hnr
    go_enter Tryz.func129, Tryz.ntmps129
    go_wp2_with (first | (go_at_call 152; refine (ar_p _ _).mono ?_; rintro e w' ⟨rfl, rfl⟩; rw [ht]) | (go_at_call 157; refine (near_p _ _).mono ?_; rintro e w' ⟨rfl, rfl⟩; rw [HN.out]) | (go_at_call 158; refine (leaf_p _ t ks HA.out Ak ck _ (IntsAt.to (Holds_.go HM.out.bel) HK.out)).mono ?_; rintro e w' ⟨rfl, hb⟩))
    go_ret2
    exact ⟨by rw [show (Ex.z t).ty ks bd = leafTy ks bd t from rfl, HLT.out (fun h => by rw [HN.out] at h; cases h)]; rfl, below_step hb HM.out.bel⟩
  · have HN := Lib.hid hnr
    clear hnr
    cases bd
    · go_enter Tryz.func129, Tryz.ntmps129
      go_wp2_with (first | (go_at_call 152; refine (ar_p _ _).mono ?_; rintro e w' ⟨rfl, rfl⟩; rw [ht]) | (go_at_call 157; refine (near_p _ _).mono ?_; rintro e w' ⟨rfl, rfl⟩; rw [HN.out]))
      go_ret2
      exact ⟨by rw [show (Ex.z t).ty ks false = leafTy ks false t from rfl, HLF.out HN.out (by first | rfl | trivial)]; rfl, HM.out.bel⟩
    · go_enter Tryz.func129, Tryz.ntmps129
      go_wp2_with (first | (go_at_call 152; refine (ar_p _ _).mono ?_; rintro e w' ⟨rfl, rfl⟩; rw [ht]) | (go_at_call 157; refine (near_p _ _).mono ?_; rintro e w' ⟨rfl, rfl⟩; rw [HN.out]) | (go_at_call 158; refine (leaf_p _ t ks HA.out Ak ck _ (IntsAt.to (Holds_.go HM.out.bel) HK.out)).mono ?_; rintro e w' ⟨rfl, hb⟩))
      go_ret2
      exact ⟨by rw [show (Ex.z t).ty ks true = leafTy ks true t from rfl, HLT.out (fun _ => by first | rfl | trivial)]; rfl, below_step hb HM.out.bel⟩
def nodeTy (ks : List Int) (bd : Bool) (x : Tm) (kids : List Ex) : Int := resT x.1 (opT ks bd kids kids.length 0) (opT ks bd kids kids.length 1) (opT ks bd kids kids.length 2)
include hl in
set_option maxRecDepth 100000 in
set_option maxHeartbeats 8000000 in
theorem read_node (x : Tm) (kids : List Ex) (hn : ar x.1 = kids.length) (h1 : 1 ≤ kids.length) (h3 : kids.length ≤ 3) (IH : ∀ m (h : m < kids.length), RdOk l ks A Ak c ck kids[m]) (k : Nat) (z : Int) (hz : z = k) (r : List Tm) (bd : Bool) (w : World) (hd : l.drop k = x :: (flatN kids ++ r))
    (hav : ∀ m (h : m < kids.length), ∀ x ∈ kids[m].flat, argIn ks.length x) (h : PairsAt w w.heap.size (.slice A l.length c) l) (hks : IntsAt w w.heap.size (.slice Ak ks.length ck) ks) :
    Calls Tryz.prog 129 #[.agg #[.slice A l.length c, .slice Ak ks.length ck], .int .i64 z, .bool bd] w (RdPost w (nodeTy ks (bd || agg x.1) x kids) (k + 1 + (flatN kids).length)) := by
  subst hz
  obtain ⟨hkl, hx, hd1⟩ := drop_head hd
  obtain ⟨ad, hA, hb, c0, c1⟩ := pair_at h hkl
  subst hA
  rw [hx] at c0 c1
  have HIH := Lib.hid IH
  have HAV := Lib.hid hav
  have H := Lib.hid h
  have HK := Lib.hid hks
  have HD := Lib.hid hd1
  have k0 : (0 : Int) ≤ (k : Int) := by omega
  have k1 : (k : Int) < (l.length : Int) := by omega
  have hb' : (ad.add (k * 2)).block < w.heap.size := by rw [block_of_add]; exact hb
  have hop : 18 ≤ x.1 ∧ x.1 ≤ 43 := by unfold ar at hn; (repeat' split at hn) <;> omega
  obtain ⟨h18, h43⟩ := hop
  have hfl : ∀ m, m ≤ kids.length → k + 1 + (flatN (kids.take m)).length ≤ l.length := by
    intro m hm
    have e := congrArg List.length hd1
    rw [List.length_drop, List.length_append] at e
    have e2 : flatN kids = flatN (kids.take m) ++ flatN (kids.drop m) := by
      conv => lhs; rw [← List.take_append_drop m kids]
      unfold flatN; rw [List.flatMap_append]
    rw [e2, List.length_append] at e
    omega
  have HFL := Lib.hid hfl
  have HN := Lib.hid hn
  have hM := ((Mem.start w).new 190 #[.slice (some ad) l.length c, .slice Ak ks.length ck]).new 186 #[.int .i64 x.1, .int .i64 x.2]
  have HM0 := Lib.hid (hM.new 207 #[.int .i64 0, .int .i64 0, .int .i64 0])
  have HNT := Lib.hid (show nodeTy ks (bd || agg x.1) x kids = resT x.1 (opT ks (bd || agg x.1) kids kids.length 0) (opT ks (bd || agg x.1) kids kids.length 1) (opT ks (bd || agg x.1) kids kids.length 2) from rfl)
  have e0 : ((kids.length : Int) == 0) = false := beq_eq_false_iff_ne.2 (by omega)
  obtain ⟨bi, hbi⟩ : ∃ bi, (bd || agg x.1) = bi := ⟨_, rfl⟩
  rw [hbi] at HNT
  have HBI := Lib.hid hbi
  clear h hav hks hM IH hd hd1 hx hfl hn
  cases bd
  · cases hag : agg x.1
    · have HAG := Lib.hid hag
      have hb3 := HBI.out
      rw [hag] at hb3
      simp only [Bool.or_false] at hb3
      subst hb3
      clear hag hbi
      go_enter Tryz.func129, Tryz.ntmps129
      go_wp2_with (first | (go_at_call 152; refine (ar_p _ _).mono ?_; rintro e w' ⟨rfl, rfl⟩; rw [HN.out]) | (go_at_call 156; refine (agg_p _ _).mono ?_; rintro e w' ⟨rfl, rfl⟩; rw [HAG.out]))
      have HM1 := Lib.hid (show Mem w [cB w.heap.size (w.heap.size + 1 + 1) 207 #[.int .i64 (opT ks false kids 0 0), .int .i64 (opT ks false kids 0 1), .int .i64 (opT ks false kids 0 2)], cB w.heap.size (w.heap.size + 1) 186 #[.int .i64 x.1, .int .i64 x.2], cB w.heap.size w.heap.size 190 #[.slice (some ad) l.length c, .slice Ak ks.length ck]] _ from by have h := HM0.out; simp only [World.size_alloc] at h; exact h)
      clear HM0 c0 c1
      go_loopw [7, 44] (RnRel w #[.slice (some ad) l.length c, .slice Ak ks.length ck] #[.int .i64 x.1, .int .i64 x.2] ks false kids k) (fun _ i _ => kids.length - (intOf i).toNat)
      case atStart => exact ⟨0, Nat.zero_le _, rfl, val_int (by simp [flatN]), HM1.out⟩
      case round =>
        obtain ⟨m, hm, rfl, rfl, hM⟩ := hrel
        have HM := Lib.hid hM
        obtain ⟨a0, a1, a2, af⟩ := blk3 (hM.get 0 rfl).2
        obtain ⟨t0, t1, tf⟩ := blk2 (hM.get 1 rfl).2
        obtain ⟨y0, y1, yf⟩ := blk2 (hM.get 2 rfl).2
        have hml := HFL.out m hm
        clear hM HM1
        by_cases hlt : m < kids.length
        · have HLT := Lib.hid hlt
          have HSN := Lib.hid (flatN_snoc kids m hlt)
          have HST := Lib.hid (fun i => opT_step ks false kids m i hlt)
          have HC := Lib.hid (HIH.out m hlt (k + 1 + (flatN (kids.take m)).length) _ rfl _ false wr (drop_kid HD.out hlt) (HAV.out m hlt) (PairsAt.to (Holds_.go HM.out.bel) H.out) (IntsAt.to (Holds_.go HM.out.bel) HK.out))
          obtain ⟨τ, hτ⟩ : ∃ τ, (kids[m]'hlt).ty ks false = τ := ⟨_, rfl⟩
          have HT := Lib.hid hτ
          have HC2 := Lib.hid (show Calls _ _ _ _ (RdPost wr τ _) from by have h := HC.out; rw [hτ] at h; exact h)
          obtain ⟨fl, hfl⟩ : ∃ fl, (kids[m]'hlt).flat.length = fl := ⟨_, rfl⟩
          have HF := Lib.hid hfl
          rw [hfl] at HC2
          obtain ⟨nx, hnx⟩ : ∃ nx : Nat, k + 1 + (flatN (kids.take m)).length = nx := ⟨_, rfl⟩
          rw [hnx] at HC2 hml ⊢
          have HNX := Lib.hid hnx
          clear HC hτ hfl hnx
          rcases (by omega : m = 0 ∨ m = 1 ∨ m = 2) with rfl | rfl | rfl
          all_goals
            go_wp2_with fail
            refine HC2.out.mono ?_
            rintro e w2 ⟨rfl, hb2⟩
            have HM2 := Lib.hid (HM.out.below hb2)
            clear hb2 HC2 HM a0 a1 a2 af t0 t1 tf y0 y1 yf
            obtain ⟨a0, a1, a2, af⟩ := blk3 (HM2.out.get 0 rfl).2
            first
              | (have HM3 := Lib.hid (HM2.out.set_ 0 rfl 0 (.int .i64 τ) (cs' := #[.int .i64 (opT ks false kids (0 + 1) 0), .int .i64 (opT ks false kids (0 + 1) 1), .int .i64 (opT ks false kids (0 + 1) 2)]) (by rw [HST.out 0, HST.out 1, HST.out 2, ← HT.out]; rfl)); (have hok : ((0 : Nat) : Nat) < kids.length := HLT.out))
              | (have HM3 := Lib.hid (HM2.out.set_ 0 rfl 1 (.int .i64 τ) (cs' := #[.int .i64 (opT ks false kids (1 + 1) 0), .int .i64 (opT ks false kids (1 + 1) 1), .int .i64 (opT ks false kids (1 + 1) 2)]) (by rw [HST.out 0, HST.out 1, HST.out 2, ← HT.out]; rfl)); (have hok : ((1 : Nat) : Nat) < kids.length := HLT.out))
              | (have HM3 := Lib.hid (HM2.out.set_ 0 rfl 2 (.int .i64 τ) (cs' := #[.int .i64 (opT ks false kids (2 + 1) 0), .int .i64 (opT ks false kids (2 + 1) 1), .int .i64 (opT ks false kids (2 + 1) 2)]) (by rw [HST.out 0, HST.out 1, HST.out 2, ← HT.out]; rfl)); (have hok : ((2 : Nat) : Nat) < kids.length := HLT.out))
            clear hok
            go_wp2
            go_roundw
            case rel => exact ⟨_ + 1, HLT.out, by go_num, val_int (by rw [HSN.out, List.length_append, HF.out, ← HNX.out]; omega), HM3.out⟩
            case measure => have := HLT.out; simp [intOf]; omega
        · obtain rfl : m = kids.length := by omega
          have HE := Lib.hid (show flatN (kids.take kids.length) = flatN kids by rw [List.take_length])
          rw [HE.out]
          clear hml
          go_wp2_with fail
          refine (result_p x.1 _ _ _ h18 h43 _).mono ?_
          rintro e w2 ⟨rfl, hb2⟩
          have HB := Lib.hid (HM.out.below hb2).bel
          clear hb2 a0 a1 a2 af t0 t1 tf y0 y1 yf
          go_wp2
          go_ret2
          exact RdPost.mk rfl (by omega) HB.out
    · have HAG := Lib.hid hag
      have hb3 := HBI.out
      rw [hag] at hb3
      simp only [Bool.or_true] at hb3
      subst hb3
      clear hag hbi
      go_enter Tryz.func129, Tryz.ntmps129
      go_wp2_with (first | (go_at_call 152; refine (ar_p _ _).mono ?_; rintro e w' ⟨rfl, rfl⟩; rw [HN.out]) | (go_at_call 156; refine (agg_p _ _).mono ?_; rintro e w' ⟨rfl, rfl⟩; rw [HAG.out]))
      have HM1 := Lib.hid (show Mem w [cB w.heap.size (w.heap.size + 1 + 1) 207 #[.int .i64 (opT ks true kids 0 0), .int .i64 (opT ks true kids 0 1), .int .i64 (opT ks true kids 0 2)], cB w.heap.size (w.heap.size + 1) 186 #[.int .i64 x.1, .int .i64 x.2], cB w.heap.size w.heap.size 190 #[.slice (some ad) l.length c, .slice Ak ks.length ck]] _ from by have h := HM0.out; simp only [World.size_alloc] at h; exact h)
      clear HM0 c0 c1
      go_loopw [7, 44] (RnRel w #[.slice (some ad) l.length c, .slice Ak ks.length ck] #[.int .i64 x.1, .int .i64 x.2] ks true kids k) (fun _ i _ => kids.length - (intOf i).toNat)
      case atStart => exact ⟨0, Nat.zero_le _, rfl, val_int (by simp [flatN]), HM1.out⟩
      case round =>
        obtain ⟨m, hm, rfl, rfl, hM⟩ := hrel
        have HM := Lib.hid hM
        obtain ⟨a0, a1, a2, af⟩ := blk3 (hM.get 0 rfl).2
        obtain ⟨t0, t1, tf⟩ := blk2 (hM.get 1 rfl).2
        obtain ⟨y0, y1, yf⟩ := blk2 (hM.get 2 rfl).2
        have hml := HFL.out m hm
        clear hM HM1
        by_cases hlt : m < kids.length
        · have HLT := Lib.hid hlt
          have HSN := Lib.hid (flatN_snoc kids m hlt)
          have HST := Lib.hid (fun i => opT_step ks true kids m i hlt)
          have HC := Lib.hid (HIH.out m hlt (k + 1 + (flatN (kids.take m)).length) _ rfl _ true wr (drop_kid HD.out hlt) (HAV.out m hlt) (PairsAt.to (Holds_.go HM.out.bel) H.out) (IntsAt.to (Holds_.go HM.out.bel) HK.out))
          obtain ⟨τ, hτ⟩ : ∃ τ, (kids[m]'hlt).ty ks true = τ := ⟨_, rfl⟩
          have HT := Lib.hid hτ
          have HC2 := Lib.hid (show Calls _ _ _ _ (RdPost wr τ _) from by have h := HC.out; rw [hτ] at h; exact h)
          obtain ⟨fl, hfl⟩ : ∃ fl, (kids[m]'hlt).flat.length = fl := ⟨_, rfl⟩
          have HF := Lib.hid hfl
          rw [hfl] at HC2
          obtain ⟨nx, hnx⟩ : ∃ nx : Nat, k + 1 + (flatN (kids.take m)).length = nx := ⟨_, rfl⟩
          rw [hnx] at HC2 hml ⊢
          have HNX := Lib.hid hnx
          clear HC hτ hfl hnx
          rcases (by omega : m = 0 ∨ m = 1 ∨ m = 2) with rfl | rfl | rfl
          all_goals
            go_wp2_with fail
            refine HC2.out.mono ?_
            rintro e w2 ⟨rfl, hb2⟩
            have HM2 := Lib.hid (HM.out.below hb2)
            clear hb2 HC2 HM a0 a1 a2 af t0 t1 tf y0 y1 yf
            obtain ⟨a0, a1, a2, af⟩ := blk3 (HM2.out.get 0 rfl).2
            first
              | (have HM3 := Lib.hid (HM2.out.set_ 0 rfl 0 (.int .i64 τ) (cs' := #[.int .i64 (opT ks true kids (0 + 1) 0), .int .i64 (opT ks true kids (0 + 1) 1), .int .i64 (opT ks true kids (0 + 1) 2)]) (by rw [HST.out 0, HST.out 1, HST.out 2, ← HT.out]; rfl)); (have hok : ((0 : Nat) : Nat) < kids.length := HLT.out))
              | (have HM3 := Lib.hid (HM2.out.set_ 0 rfl 1 (.int .i64 τ) (cs' := #[.int .i64 (opT ks true kids (1 + 1) 0), .int .i64 (opT ks true kids (1 + 1) 1), .int .i64 (opT ks true kids (1 + 1) 2)]) (by rw [HST.out 0, HST.out 1, HST.out 2, ← HT.out]; rfl)); (have hok : ((1 : Nat) : Nat) < kids.length := HLT.out))
              | (have HM3 := Lib.hid (HM2.out.set_ 0 rfl 2 (.int .i64 τ) (cs' := #[.int .i64 (opT ks true kids (2 + 1) 0), .int .i64 (opT ks true kids (2 + 1) 1), .int .i64 (opT ks true kids (2 + 1) 2)]) (by rw [HST.out 0, HST.out 1, HST.out 2, ← HT.out]; rfl)); (have hok : ((2 : Nat) : Nat) < kids.length := HLT.out))
            clear hok
            go_wp2
            go_roundw
            case rel => exact ⟨_ + 1, HLT.out, by go_num, val_int (by rw [HSN.out, List.length_append, HF.out, ← HNX.out]; omega), HM3.out⟩
            case measure => have := HLT.out; simp [intOf]; omega
        · obtain rfl : m = kids.length := by omega
          have HE := Lib.hid (show flatN (kids.take kids.length) = flatN kids by rw [List.take_length])
          rw [HE.out]
          clear hml
          go_wp2_with fail
          refine (result_p x.1 _ _ _ h18 h43 _).mono ?_
          rintro e w2 ⟨rfl, hb2⟩
          have HB := Lib.hid (HM.out.below hb2).bel
          clear hb2 a0 a1 a2 af t0 t1 tf y0 y1 yf
          go_wp2
          go_ret2
          exact RdPost.mk rfl (by omega) HB.out
  · have hb3 := HBI.out
    simp only [Bool.true_or] at hb3
    subst hb3
    clear hbi
    go_enter Tryz.func129, Tryz.ntmps129
    go_wp2_with (first | (go_at_call 152; refine (ar_p _ _).mono ?_; rintro e w' ⟨rfl, rfl⟩; rw [HN.out]))
    have HM1 := Lib.hid (show Mem w [cB w.heap.size (w.heap.size + 1 + 1) 207 #[.int .i64 (opT ks true kids 0 0), .int .i64 (opT ks true kids 0 1), .int .i64 (opT ks true kids 0 2)], cB w.heap.size (w.heap.size + 1) 186 #[.int .i64 x.1, .int .i64 x.2], cB w.heap.size w.heap.size 190 #[.slice (some ad) l.length c, .slice Ak ks.length ck]] _ from by have h := HM0.out; simp only [World.size_alloc] at h; exact h)
    clear HM0 c0 c1
    go_loopw [7, 44] (RnRel w #[.slice (some ad) l.length c, .slice Ak ks.length ck] #[.int .i64 x.1, .int .i64 x.2] ks true kids k) (fun _ i _ => kids.length - (intOf i).toNat)
    case atStart => exact ⟨0, Nat.zero_le _, rfl, val_int (by simp [flatN]), HM1.out⟩
    case round =>
      obtain ⟨m, hm, rfl, rfl, hM⟩ := hrel
      have HM := Lib.hid hM
      obtain ⟨a0, a1, a2, af⟩ := blk3 (hM.get 0 rfl).2
      obtain ⟨t0, t1, tf⟩ := blk2 (hM.get 1 rfl).2
      obtain ⟨y0, y1, yf⟩ := blk2 (hM.get 2 rfl).2
      have hml := HFL.out m hm
      clear hM HM1
      by_cases hlt : m < kids.length
      · have HLT := Lib.hid hlt
        have HSN := Lib.hid (flatN_snoc kids m hlt)
        have HST := Lib.hid (fun i => opT_step ks true kids m i hlt)
        have HC := Lib.hid (HIH.out m hlt (k + 1 + (flatN (kids.take m)).length) _ rfl _ true wr (drop_kid HD.out hlt) (HAV.out m hlt) (PairsAt.to (Holds_.go HM.out.bel) H.out) (IntsAt.to (Holds_.go HM.out.bel) HK.out))
        obtain ⟨τ, hτ⟩ : ∃ τ, (kids[m]'hlt).ty ks true = τ := ⟨_, rfl⟩
        have HT := Lib.hid hτ
        have HC2 := Lib.hid (show Calls _ _ _ _ (RdPost wr τ _) from by have h := HC.out; rw [hτ] at h; exact h)
        obtain ⟨fl, hfl⟩ : ∃ fl, (kids[m]'hlt).flat.length = fl := ⟨_, rfl⟩
        have HF := Lib.hid hfl
        rw [hfl] at HC2
        obtain ⟨nx, hnx⟩ : ∃ nx : Nat, k + 1 + (flatN (kids.take m)).length = nx := ⟨_, rfl⟩
        rw [hnx] at HC2 hml ⊢
        have HNX := Lib.hid hnx
        clear HC hτ hfl hnx
        rcases (by omega : m = 0 ∨ m = 1 ∨ m = 2) with rfl | rfl | rfl
        all_goals
          go_wp2_with fail
          refine HC2.out.mono ?_
          rintro e w2 ⟨rfl, hb2⟩
          have HM2 := Lib.hid (HM.out.below hb2)
          clear hb2 HC2 HM a0 a1 a2 af t0 t1 tf y0 y1 yf
          obtain ⟨a0, a1, a2, af⟩ := blk3 (HM2.out.get 0 rfl).2
          first
            | (have HM3 := Lib.hid (HM2.out.set_ 0 rfl 0 (.int .i64 τ) (cs' := #[.int .i64 (opT ks true kids (0 + 1) 0), .int .i64 (opT ks true kids (0 + 1) 1), .int .i64 (opT ks true kids (0 + 1) 2)]) (by rw [HST.out 0, HST.out 1, HST.out 2, ← HT.out]; rfl)); (have hok : ((0 : Nat) : Nat) < kids.length := HLT.out))
            | (have HM3 := Lib.hid (HM2.out.set_ 0 rfl 1 (.int .i64 τ) (cs' := #[.int .i64 (opT ks true kids (1 + 1) 0), .int .i64 (opT ks true kids (1 + 1) 1), .int .i64 (opT ks true kids (1 + 1) 2)]) (by rw [HST.out 0, HST.out 1, HST.out 2, ← HT.out]; rfl)); (have hok : ((1 : Nat) : Nat) < kids.length := HLT.out))
            | (have HM3 := Lib.hid (HM2.out.set_ 0 rfl 2 (.int .i64 τ) (cs' := #[.int .i64 (opT ks true kids (2 + 1) 0), .int .i64 (opT ks true kids (2 + 1) 1), .int .i64 (opT ks true kids (2 + 1) 2)]) (by rw [HST.out 0, HST.out 1, HST.out 2, ← HT.out]; rfl)); (have hok : ((2 : Nat) : Nat) < kids.length := HLT.out))
          clear hok
          go_wp2
          go_roundw
          case rel => exact ⟨_ + 1, HLT.out, by go_num, val_int (by rw [HSN.out, List.length_append, HF.out, ← HNX.out]; omega), HM3.out⟩
          case measure => have := HLT.out; simp [intOf]; omega
      · obtain rfl : m = kids.length := by omega
        have HE := Lib.hid (show flatN (kids.take kids.length) = flatN kids by rw [List.take_length])
        rw [HE.out]
        clear hml
        go_wp2_with fail
        refine (result_p x.1 _ _ _ h18 h43 _).mono ?_
        rintro e w2 ⟨rfl, hb2⟩
        have HB := Lib.hid (HM.out.below hb2).bel
        clear hb2 a0 a1 a2 af t0 t1 tf y0 y1 yf
        go_wp2
        go_ret2
        exact RdPost.mk rfl (by omega) HB.out
include hl in
theorem read_p (t : Ex) (ht : t.ok) : RdOk l ks A Ak c ck t := by
  induction t with
  | z t => exact read_leaf l hl ks A Ak c ck t ht
  | u x a iha =>
    obtain ⟨hx, ha⟩ := ht
    intro k z hz r bd w hd hav h hk
    have IH := iha ha
    have := read_node l hl ks A Ak c ck x [a] (by rw [hx]; rfl) (by simp) (by simp) (fun m hm => by
      obtain rfl : m = 0 := by simpa using hm
      exact IH) k z hz r bd w (by rw [hd]; simp [Ex.flat, flatN]) (fun m hm y hy => by
      obtain rfl : m = 0 := by simpa using hm
      exact hav y (by simp [Ex.flat]; right; exact hy)) h hk
    have e1 : nodeTy ks (bd || agg x.1) x [a] = (Ex.u x a).ty ks bd := by
      have hc : x.1 ≤ 29 := by unfold ar at hx; (repeat' split at hx) <;> omega
      unfold nodeTy resT
      rw [if_pos hc]
      rfl
    have e2 : k + 1 + (flatN [a]).length = k + (Ex.u x a).flat.length := by simp [flatN, Ex.flat]; omega
    rw [e1, e2] at this
    exact this
  | b x a d iha ihd =>
    obtain ⟨hx, ha, hd_⟩ := ht
    intro k z hz r bd w hd hav h hk
    have IH := iha ha
    have IH2 := ihd hd_
    have := read_node l hl ks A Ak c ck x [a, d] (by rw [hx]; rfl) (by simp) (by simp) (fun m hm => by
      rcases (by simp at hm; omega : m = 0 ∨ m = 1) with rfl | rfl
      · exact IH
      · exact IH2) k z hz r bd w (by rw [hd]; simp [Ex.flat, flatN]) (fun m hm y hy => by
      rcases (by simp at hm; omega : m = 0 ∨ m = 1) with rfl | rfl
      · exact hav y (by simp [Ex.flat]; right; left; exact hy)
      · exact hav y (by simp [Ex.flat]; right; right; exact hy)) h hk
    have hc : 30 ≤ x.1 ∧ x.1 ≤ 42 := by unfold ar at hx; (repeat' split at hx) <;> omega
    have hag : agg x.1 = false := by unfold agg; simp; omega
    have e1 : nodeTy ks (bd || agg x.1) x [a, d] = (Ex.b x a d).ty ks bd := by
      rw [hag, Bool.or_false]
      unfold nodeTy resT
      rw [if_neg (by omega), if_pos hc.2]
      rfl
    have e2 : k + 1 + (flatN [a, d]).length = k + (Ex.b x a d).flat.length := by simp [flatN, Ex.flat]; omega
    rw [e1, e2] at this
    exact this
  | i x a d f iha ihd ihf =>
    obtain ⟨hx, ha, hd_, hf⟩ := ht
    intro k z hz r bd w hd hav h hk
    have IH := iha ha
    have IH2 := ihd hd_
    have IH3 := ihf hf
    have := read_node l hl ks A Ak c ck x [a, d, f] (by rw [hx]; rfl) (by simp) (by simp) (fun m hm => by
      rcases (by simp at hm; omega : m = 0 ∨ m = 1 ∨ m = 2) with rfl | rfl | rfl
      · exact IH
      · exact IH2
      · exact IH3) k z hz r bd w (by rw [hd]; simp [Ex.flat, flatN]) (fun m hm y hy => by
      rcases (by simp at hm; omega : m = 0 ∨ m = 1 ∨ m = 2) with rfl | rfl | rfl
      · exact hav y (by simp [Ex.flat]; right; left; exact hy)
      · exact hav y (by simp [Ex.flat]; right; right; left; exact hy)
      · exact hav y (by simp [Ex.flat]; right; right; right; exact hy)) h hk
    have hc : x.1 = 43 := by unfold ar at hx; (repeat' split at hx) <;> omega
    have hag : agg x.1 = false := by unfold agg; simp; omega
    have e1 : nodeTy ks (bd || agg x.1) x [a, d, f] = (Ex.i x a d f).ty ks bd := by
      rw [hag, Bool.or_false]
      unfold nodeTy resT
      rw [if_neg (by omega), if_neg (by omega)]
      rfl
    have e2 : k + 1 + (flatN [a, d, f]).length = k + (Ex.i x a d f).flat.length := by simp [flatN, Ex.flat]; omega
    rw [e1, e2] at this
    exact this
end
end Go.Proofs.YtdfklagiafmoiaaGreatDoor

/- The program's Of and typed. -/
namespace Go.Proofs.YtdfklagiafmoiaaGreatDoor
open Go.RowKit

def OfPost (w : World) (τ : Int) (e : Ending) (w' : World) : Prop := e = .returned (.tuple #[.int .i64 τ, .int .i64 0]) ∧ Below w.heap.size w w'
def OfRel (w : World) (n : Nat) (i : Value) (wr : World) : Prop := ∃ k : Nat, i = .int .i64 k ∧ k ≤ n ∧ Below w.heap.size w wr
set_option maxRecDepth 100000 in
set_option maxHeartbeats 4000000 in
theorem of_p (l : List Tm) (ks : List Int) (τ : Int) (hτ : τ ≠ 0) (hk6 : ks.length ≤ 6) (hkk : ∀ x ∈ ks, knownK x = true) (hx : ExOk ks.length l) (ht : ExT ks l τ) (A Ak : Option Addr) (c ck : Nat) (w : World) (h : PairsAt w w.heap.size (.slice A l.length c) l) (hk : IntsAt w w.heap.size (.slice Ak ks.length ck) ks) :
    Calls Tryz.prog 98 #[.slice A l.length c, .slice Ak ks.length ck, .bool false] w (OfPost w τ) := by
  have HX := Lib.hid hx
  obtain ⟨t, ht, rfl, hty⟩ := ht
  have hl200 : t.flat.length ≤ 200 := by obtain ⟨_, _, _, h, _⟩ := hx; exact h
  have HA := Lib.hid (show ∀ x ∈ t.flat, argIn ks.length x from by obtain ⟨_, _, _, _, _, _, h⟩ := hx; exact args_of h)
  have HT := Lib.hid ht
  have HTY := Lib.hid hty
  have H := Lib.hid h
  have HK := Lib.hid hk
  have HKK := Lib.hid hkk
  clear hx ht hty h hk hkk
  go_enter Tryz.func98, Tryz.ntmps98
  go_wp2
  go_loopw [18] (OfRel w ks.length) (fun i _ => ks.length - (intOf i).toNat)
  case atStart => exact ⟨0, rfl, Nat.zero_le _, Below.refl _ _⟩
  case round =>
    obtain ⟨k, rfl, hkl, hbel⟩ := hrel
    have HB := Lib.hid hbel
    clear hbel
    by_cases hlt : k < ks.length
    · obtain ⟨ad, hA, hb, c0⟩ := int_at (IntsAt.to (Holds_.go HB.out) HK.out) hlt
      subst hA
      have HKX := Lib.hid (HKK.out _ (List.getElem_mem hlt))
      obtain ⟨z, hz⟩ : ∃ z : Int, ks[k]'hlt = z := ⟨_, rfl⟩
      rw [hz] at c0 HKX
      have HLT := Lib.hid hlt
      clear hz
      have k0 : (0 : Int) ≤ (k : Int) := by omega
      have k1 : (k : Int) < (ks.length : Int) := by omega
      go_wp2_with (go_at_call 95; refine (possible_p _ _).mono ?_; rintro e w' ⟨rfl, rfl⟩; rw [HKX.out])
      go_roundw
      case rel => exact ⟨k + 1, by go_num, HLT.out, HB.out⟩
      case measure => simp [intOf]; omega
    · obtain rfl : k = ks.length := by omega
      go_wp2_with fail
      refine (valid_p t.flat ks.length HX.out A c _ _ (Nat.le_refl _) (PairsAt.to (Holds_.go HB.out) H.out)).mono ?_
      rintro e w1 ⟨rfl, hb1⟩
      have HB1 := Lib.hid (below_step hb1 HB.out)
      clear hb1 HB
      have HM := Lib.hid (((Mem.start w).below HB1.out).new 190 #[.slice A t.flat.length c, .slice Ak ks.length ck])
      go_wp2_with fail
      refine (read_p t.flat (by omega) ks A Ak c ck t HT.out 0 0 rfl [] false _ (by simp) HA.out (PairsAt.to (Holds_.go HM.out.bel) H.out) (IntsAt.to (Holds_.go HM.out.bel) HK.out)).mono ?_
      rintro e w2 ⟨rfl, hb2⟩
      have HB2 := Lib.hid (HM.out.below hb2).bel
      clear hb2 HM HB1
      rw [HTY.out]
      go_wp2
      go_ret2
      exact ⟨rfl, HB2.out⟩

/-- `typed` of a rule whose types are right -/
theorem pos_knownK {τ : Int} (h : knownK τ = true) : τ ≠ 0 := by unfold knownK at h; have := of_decide_eq_true h; omega
set_option maxRecDepth 100000 in
set_option maxHeartbeats 4000000 in
theorem typed_p (r : Rl) (ks : List Int) (hk6 : ks.length ≤ 6) (hkk : ∀ x ∈ ks, knownK x = true) (hf : FormOk ks.length r) (ht : TyOk ks r) (Ag : Option Addr) (cg : Nat) (As : Option Addr) (cs : Nat) (Ak : Option Addr) (ck : Nat) (w : World) (hg : PairsAt w w.heap.size (.slice Ag r.guard.length cg) r.guard) (hs : SetsAt w w.heap.size (.slice As r.sets.length cs) r.sets)
    (hk : IntsAt w w.heap.size (.slice Ak ks.length ck) ks) :
    Calls Tryz.prog 65 #[ruleV r Ag cg As cs, .slice Ak ks.length ck] w (YesPost w) := by
  have HS := Lib.hid hs
  have HF := Lib.hid hf
  have HK := Lib.hid hk
  have HT := Lib.hid ht
  have HKK := Lib.hid hkk
  have hln := hf.hi
  have HM0 := Lib.hid ((Mem.start w).new 76 #[.string r.name, .slice Ag r.guard.length cg, .slice As r.sets.length cs])
  have HC := Lib.hid (of_p r.guard ks 2 (by decide) hk6 hkk hf.guard ht.guard Ag Ak cg ck _ (PairsAt.to (Holds_.go HM0.out.bel) hg) (IntsAt.to (Holds_.go HM0.out.bel) hk))
  clear hg hs hf hk ht hkk
  unfold ruleV
  go_enter Tryz.func65, Tryz.ntmps65
  go_wp2_with fail
  refine HC.out.mono ?_
  rintro e w1 ⟨rfl, hb1⟩
  have HM1 := Lib.hid (HM0.out.below hb1)
  clear HC HM0 hb1
  obtain ⟨p0, p1, p2, pf⟩ := blk3 (HM1.out.get 0 rfl).2
  go_wp2
  clear p0 p1 p2 pf
  go_loopw [23] (TyRelO w #[.string r.name, .slice Ag r.guard.length cg, .slice As r.sets.length cs] ks r.sets) (fun i _ => r.sets.length - (intOf i).toNat)
  case atStart => exact ⟨0, rfl, Nat.zero_le _, (fun j h hj => by omega), HM1.out⟩
  case round =>
    obtain ⟨k, rfl, hkl, hok, hM⟩ := hrel
    have HM := Lib.hid hM
    have HOK := Lib.hid hok
    obtain ⟨p0, p1, p2, pf⟩ := blk3 (hM.get 0 rfl).2
    clear hM hok HM1
    by_cases hlt : k < r.sets.length
    · obtain ⟨ad, Ae, ce, hA, hb, c0, c1, he⟩ := set_at (SetsAt.to (Holds_.go HM.out.bel) HS.out) hlt
      subst hA
      obtain ⟨hx0, hxe, -⟩ := HF.out.sets k hlt hlt
      have HX1 := Lib.hid (HOK.out.step hlt (HT.out.sets k hlt hlt))
      have hte := HT.out.sets k hlt hlt
      obtain ⟨x, hx⟩ : ∃ x : St, r.sets[k]'hlt = x := ⟨_, rfl⟩
      rw [hx] at c0 c1 he hx0 hxe hte
      clear hx
      obtain ⟨v, hv⟩ : ∃ v : Nat, x.1 = v := ⟨x.1.toNat, by omega⟩
      have hvl : v < ks.length := by omega
      have hzk := HKK.out _ (List.getElem_mem hvl)
      obtain ⟨ak, hA, hbk, ck0⟩ := int_at (IntsAt.to (Holds_.go HM.out.bel) HK.out) hvl
      subst hA
      obtain ⟨z, hz⟩ : ∃ z : Int, ks[v]'hvl = z := ⟨_, rfl⟩
      have hzd : ks.getD x.1.toNat 0 = z := by rw [hv, Int.toNat_natCast, List.getD_eq_getElem?_getD, List.getElem?_eq_getElem hvl, Option.getD_some]; exact hz
      rw [hz] at ck0 hzk
      rw [hzd] at hte
      rw [hv] at c0
      have HXE := Lib.hid hxe
      have HTE := Lib.hid hte
      have HZK := Lib.hid (pos_knownK hzk)
      have HE := Lib.hid he
      clear hz hv hx0 he hxe hte hzd hzk
      have k0 : (0 : Int) ≤ (k : Int) := by omega
      have k1 : (k : Int) < (r.sets.length : Int) := by omega
      have v0 : (0 : Int) ≤ (v : Int) := by omega
      have v1 : (v : Int) < (ks.length : Int) := by omega
      have HLT := Lib.hid hlt
      have HMA := Lib.hid (HM.out.new 78 #[.int .i64 (v : Int), .slice Ae x.2.length ce])
      have hbe : (ad.add (k * 2)).block < wr.heap.size := by rw [block_of_add]; exact hb
      go_wp2_with fail
      refine (of_p x.2 ks z HZK.out hk6 HKK.out HXE.out HTE.out Ae (some ak) ce ck _ (PairsAt.to (Holds_.go (balloc (Below.refl _ wr) _)) HE.out) (IntsAt.to (Holds_.go HMA.out.bel) HK.out)).mono ?_
      rintro e w2 ⟨rfl, hb2⟩
      have HM2 := Lib.hid (HMA.out.below hb2)
      have HBW := Lib.hid ((balloc (Below.refl _ wr) _).trans (hb2.mono (balloc (Below.refl _ wr) _).size))
      obtain ⟨q0, q1, qf⟩ := blk2 (HM2.out.get 0 rfl).2
      have hbv : (ak.add v).block < wr.heap.size := by rw [block_of_add]; exact hbk
      have t0 := (HBW.out.cell (p := ak.add v) hbv).trans ck0
      have hs2 := HBW.out.size
      have hb3 : ak.block < w2.heap.size := by omega
      clear hb2 HMA p0 p1 p2 pf c0 c1 ck0 hb
      go_wp2
      go_roundw
      case rel => exact ⟨k + 1, by go_num, HLT.out, HX1.out, HM2.out.erase 0⟩
      case measure => simp [intOf]; omega
    · obtain rfl : k = r.sets.length := by omega
      go_wp2
      go_ret
      exact ⟨rfl, HM.out.bel⟩
end Go.Proofs.YtdfklagiafmoiaaGreatDoor
