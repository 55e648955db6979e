/- Lemmas of this seat, laid together out of 2 texts: no statement of the seat is proved here. -/
import Derived.Test.YtdfklagiafmoiaaGreatDoorG12
import Derived.Test.YtdfklagiafmoiaaGreatDoorG04
/- The program's levels: a stack, from right to left. -/
namespace Go.Proofs.YtdfklagiafmoiaaGreatDoor
open Go.RowKit

theorem depf (op g : Int) (w : World) : Calls Tryz.prog 154 #[.int .i64 op, .int .i64 g] w fun e w' => e = .returned (.int .i64 (fDepW op g)) ∧ w = w' := by
  go_enter Tryz.func154, Tryz.ntmps154
  go_wp2
  go_ret
  exact ⟨rfl, rfl⟩
theorem nstf (op g : Int) (w : World) : Calls Tryz.prog 155 #[.int .i64 op, .int .i64 g] w fun e w' => e = .returned (.int .i64 (fNstW op g)) ∧ w = w' := by
  cases h : agg op
  all_goals
    go_enter Tryz.func155, Tryz.ntmps155
    go_wp2_with (go_at_call 156; refine (agg_p _ _).mono ?_; rintro e w' ⟨rfl, rfl⟩; rw [h])
    go_ret
    exact ⟨ret_int (by unfold fNstW; rw [h]; rfl), rfl⟩
theorem own_cap' {w : World} {base e z n c : Nat} {A : Option Addr} {xs : List Value} (h : w.ownsRow base e z (.slice A n c) n xs) : n ≤ c := by
  rcases h.2 with ⟨hv, hx⟩ | ⟨g', cap, cur, hv, _, _, h1, _⟩
  · injection hv with _ h1 h2
    omega
  · injection hv with _ _ hv3
    omega
theorem own_takeA {w : World} {base e n m c : Nat} {A : Option Addr} {xs : List Value} (h : w.ownsRow base e 1 (.slice A n c) n xs) (hm : m ≤ n) : w.ownsRow base e 1 (.slice A m c) m (xs.take m) := by
  rcases A with _ | a
  · rcases h.2 with ⟨hv, rfl⟩ | ⟨g', cap, cur, hv, _⟩
    · injection hv with _ h1 h2
      subst h2
      obtain rfl : m = 0 := by omega
      have := h.1
      simp at this
      subst this
      exact h
    · cases hv
  · rcases Nat.eq_zero_or_pos n with h0 | h0
    · subst h0
      obtain rfl : m = 0 := by omega
      have := h.1
      simp at this
      subst this
      exact h
    · obtain ⟨g, cap, hv, _⟩ := h.form h0
      injection hv with hv1 _ _
      injection hv1 with hv1
      subst hv1
      have := own_take h hm
      rwa [Nat.mul_one] at this
theorem ownB (A : Option Addr) (n m c d : Nat) : (Value.slice A n c).ownBlock = (Value.slice A m d).ownBlock := by
  unfold Value.ownBlock
  rcases A with _ | ⟨b, o, s⟩
  · rfl
  · rfl
theorem iv_app (l : List Int) (z : Int) : iv (l ++ [z]) = iv l ++ [.int .i64 z] := by unfold iv; rw [List.map_append]; rfl
def CgRel (G : List Int) (a : Nat) (m i : Value) : Prop := ∃ k : Nat, k ≤ a ∧ i = .int .i64 k ∧ m = .int .i64 (gmax (G.take k))
def LpRel (f : Int → Int → Int) (w : World) (l : List Tm) (v i : Value) (wr : World) : Prop :=
  ∃ k : Nat, k ≤ l.length ∧ i = .int .i64 ((k : Int) - 1) ∧ Mem w [cR w.heap.size 3 1 v ((l.drop k).foldr (rstep f) []).length (iv ((l.drop k).foldr (rstep f) []).reverse)] wr

set_option maxRecDepth 100000 in
set_option maxHeartbeats 8000000 in
theorem levDep (t : Ex) (ht : t.ok) (hl : t.flat.length ≤ 1000) (A : Option Addr) (c B : Nat) (w : World) (hB : B ≤ w.heap.size) (h : PairsAt w B (.slice A t.flat.length c) t.flat) :
    Calls Tryz.prog 153 #[.slice A t.flat.length c, .func (.func 154) #[] #[]] w fun e w' => e = .returned (.tuple #[.int .i64 (t.lev fDepW), .bool true]) ∧ Below w.heap.size w w' := by
  have H := Lib.hid h
  have HT := Lib.hid ht
  have hone := one_tree ht
  have hpos := t.flat_pos
  have HRS := Lib.hid (rs_tree fDepW t ht [])
  have HTS := Lib.hid (fun k (hk : k < t.flat.length) => tree_stack fDepW ht hk)
  obtain ⟨i0, hi0, hz0, hz1, hz2⟩ := info_parts Tryz.infoInt
  generalize t.flat = l at *
  have e1 : ((endAt l 0 : Int) != (l.length : Int)) = false := by rw [hone]; simp
  have HE1 := Lib.hid e1
  have p0 : (1 : Int) ≤ (l.length : Int) := by omega
  clear h hone e1 ht
  go_enter Tryz.func153, Tryz.ntmps153
  go_wp2_with (go_at_call 125; refine (end_p l (by omega) 0 A c B _ H.out).mono ?_; rintro e w' ⟨rfl, rfl⟩; have e1 := HE1.out)
  clear e1
  go_loopw [6, 7] (LpRel fDepW w l) (fun _ i _ => (intOf i + 1).toNat)
  case atStart => exact ⟨l.length, Nat.le_refl _, by go_num, by rw [List.drop_length]; exact (Mem.start w).nil_ _ _⟩
  case round =>
    obtain ⟨k, hk, rfl, hM⟩ := hrel
    have HM := Lib.hid hM
    clear hM
    rcases k with _ | j
    · have hown := HM.out.get 0 rfl
      rw [List.drop_zero, HRS.out] at hown
      obtain ⟨g, c1, rfl⟩ := own_succ hown
      obtain ⟨f0, ff⟩ := own_at hown (k := 0) (u := .int .i64 (t.lev fDepW)) rfl
      have HB := Lib.hid HM.out.bel
      clear hown HM
      have e0 : ¬ (0 : Int) ≤ ((0 : Nat) : Int) - 1 := by omega
      go_wp2
      go_ret2
      exact ⟨rfl, HB.out⟩
    · have hjl : j < l.length := by omega
      obtain ⟨ad, hA, hb, c0, c1⟩ := pair_at (PairsAt.to (Holds_.below (HM.out.bel.mono hB)) H.out) hjl
      subst hA
      obtain ⟨ha0, haS⟩ := HTS.out j hjl
      have HST := Lib.hid (show (l.drop j).foldr (rstep fDepW) [] = rstep fDepW (l[j]'hjl) ((l.drop (j + 1)).foldr (rstep fDepW) []) by rw [List.drop_eq_getElem_cons hjl]; rfl)
      obtain ⟨x, hx⟩ : ∃ x : Tm, l[j]'hjl = x := ⟨_, rfl⟩
      rw [hx] at c0 c1 ha0 haS HST
      clear hx
      have hSl : ((l.drop (j + 1)).foldr (rstep fDepW) []).length ≤ l.length := by
        have : ∀ l' : List Tm, (l'.foldr (rstep fDepW) []).length ≤ l'.length := by
          intro l'
          induction l' with
          | nil => exact Nat.le_refl _
          | cons y l' ih => show (fDepW y.1 _ :: (l'.foldr (rstep fDepW) []).drop (ar y.1).toNat).length ≤ _; simp; omega
        have := this (l.drop (j + 1))
        rw [List.length_drop] at this
        omega
      obtain ⟨S, hS⟩ : ∃ S, (l.drop (j + 1)).foldr (rstep fDepW) [] = S := ⟨_, rfl⟩
      rw [hS] at haS hSl HST
      have HM1 := Lib.hid (show Mem w [cR w.heap.size 3 1 u6 S.length (iv S.reverse)] wr from by have := HM.out; rw [hS] at this; exact this)
      obtain ⟨a, ha⟩ : ∃ a : Nat, ar x.1 = (a : Int) := ⟨(ar x.1).toNat, by omega⟩
      have haS' : a ≤ S.length := by omega
      have HA := Lib.hid (show (ar x.1).toNat = a by omega)
      clear hS HM ha0 haS
      have j0 : (0 : Int) ≤ (j : Int) := by omega
      have j1 : (j : Int) < (l.length : Int) := by omega
      have j2 : ((j + 1 : Nat) : Int) - 1 = (j : Int) := by omega
      rw [j2]
      have s1 : (0 : Int) ≤ (S.length : Int) - (a : Int) := by omega
      obtain ⟨A6, c6, rfl⟩ := own_sl (HM1.out.get 0 rfl)
      obtain ⟨r, hr⟩ : ∃ r : Nat, S.length - a = r := ⟨_, rfl⟩
      have hrS : (S.length : Int) - (a : Int) = (r : Int) := by omega
      have HRS2 := Lib.hid hrS
      have hr2 : r ≤ S.length := by omega
      have HR := Lib.hid hr
      have HAR := Lib.hid ha
      have hra : S.length - r = a := by omega
      have HRA := Lib.hid hra
      clear hr ha hra hrS s1 j2
      have R6 := Lib.hid (Reads.of_own (HM1.out.get 0 rfl))
      have hcc := own_cap' (HM1.out.get 0 rfl)
      have r0 : (0 : Int) ≤ (r : Int) := by omega
      have r1 : (r : Int) ≤ (S.length : Int) := by omega
      have r2 : (S.length : Int) ≤ (c6 : Int) := by omega
      have r3 : (r : Int) ≤ (c6 : Int) := by omega
      go_upto_region 9 with (go_at_call 152; refine (ar_p _ _).mono ?_; rintro e w' ⟨rfl, rfl⟩; rw [HAR.out])
      rw [HRS2.out]
      have RC := Lib.hid (R6.out.cut (k := r) hr2 hcc)
      have HG := Lib.hid (show (iv S.reverse).drop r = iv (S.take a).reverse by rw [List.reverse_take, ← HR.out]; unfold iv; rw [List.map_drop, show S.length - a = r from HR.out])
      have HOW := Lib.hid (own_takeA (HM1.out.get 0 rfl) hr2)
      have HTK := Lib.hid (show (iv S.reverse).take r = iv (S.drop a).reverse by rw [List.reverse_drop, HR.out]; unfold iv; rw [List.map_take])
      have HGL := Lib.hid (show (S.take a).reverse.length = a by rw [List.length_reverse, List.length_take]; omega)
      by_cases hcr : c6 = r
      · have RC2 := Lib.hid (show Reads wr wr.heap.size 1 A6 a (iv (S.take a).reverse) from by have := RC.out; rw [if_pos hcr, Nat.mul_one, HG.out, HRA.out] at this; exact this)
        have HCR := Lib.hid hcr
        subst hcr
        have ha00 : a = 0 := by have := HRA.out; omega
        subst ha00
        go_wp2
        clear RC HRA
        go_loop [9, 37] (CgRel (S.take 0).reverse 0) (fun _ i => 0 - (intOf i).toNat)
        case atStart => exact ⟨0, Nat.zero_le _, rfl, rfl⟩
        case round =>
          obtain ⟨k, hk2, rfl, rfl⟩ := hrel
          by_cases hka : 0 < k
          · omega
          · obtain rfl : k = 0 := by omega
            have HGM := Lib.hid (show gmax ((S.take 0).reverse.take 0) = gmax (S.take 0) by rw [List.take_of_length_le (by rw [HGL.out]; exact Nat.le_refl _), gmax_rev])
            rw [HGM.out]
            generalize hgm : gmax (S.take 0) = gm at *
            have HGV := Lib.hid hgm
            clear hgm HGM
            have hSW : Below w.heap.size w wr := HM1.out.bel
            have rule : ∀ X, Below w.heap.size w X → X.cell? (ad.add (j * 2)) = some (.int .i64 x.1) := fun X hX => (hX.cell (p := ad.add (j * 2)) (by rw [block_of_add]; omega)).trans ((hSW.cell (p := ad.add (j * 2)) (by rw [block_of_add]; omega)).symm.trans c0)
            have hwz := HM1.out.size
            go_upto_region 14 with fail
            go_region_held3 (fun X => Below w.heap.size w X) (first | assumption | exact Below.drew (by assumption) | exact Below.alloc (by assumption) (by first | omega | (simp; omega)) _ | exact HM2.out.bel)
              (first
                | (go_at_call 154; refine (depf _ _ _).mono ?_; rintro e w' ⟨rfl, rfl⟩)
                | ((with_reducible refine step_append_one rfl (.tmp 47) (.tmp 56) 26 rfl w.heap.size 3 i0 (.int .i64 0) 8 Tryz.underlying26 hi0 hz0 hz1 hz2 rfl (.slice A6 c6 c6) c6 (iv (S.drop 0).reverse) rfl ?_ (u := .int .i64 (fDepW x.1 gm)) rfl ?_ (one_int _) (len_ok (by omega)) (by omega) ?_ ?_); (rw [← HTK.out]; exact World.ownsRow.alloc HOW.out _); exact Blk.new _ _ _; (simp; omega); intro v1 x1 ho1 hg1 hv1; have HM2 := Lib.hid ((HM1.out.slice_ 0 rfl HOW.out (ownB _ _ _ _ _)).app 0 rfl (grown_pre (grown_drew hg1)) ho1 hv1 (by simp)); clear ho1 hg1 hv1))
            all_goals
              have HM3 := Lib.hid (show Mem w [cR w.heap.size 3 1 v1 ((l.drop j).foldr (rstep fDepW) []).length (iv ((l.drop j).foldr (rstep fDepW) []).reverse)] x1 from by
                have hm := HM2.out
                rw [HST.out]
                unfold rstep
                rw [HA.out, HGV.out, List.length_cons, List.length_drop, HR.out, List.reverse_cons, iv_app]
                simp only [List.set_cons_zero] at hm
                exact hm)
              clear HM1 HM2 rule
              go_wp2
              go_roundw
              case rel => exact ⟨j, by omega, rfl, HM3.out⟩
              case measure => simp [intOf]
      · have RC2 := Lib.hid (show Reads wr wr.heap.size 1 (A6.map (·.add r)) a (iv (S.take a).reverse) from by have := RC.out; rw [if_neg hcr, Nat.mul_one, HG.out, HRA.out] at this; exact this)
        have HCR := Lib.hid hcr
        go_wp2
        rw [HRA.out]
        clear hcr RC HRA
        go_loop [9, 37] (CgRel (S.take a).reverse a) (fun _ i => a - (intOf i).toNat)
        case atStart => exact ⟨0, Nat.zero_le _, rfl, rfl⟩
        case round =>
          obtain ⟨k, hk2, rfl, rfl⟩ := hrel
          by_cases hka : k < a
          · have hkg : k < (S.take a).reverse.length := by rw [HGL.out]; exact hka
            obtain ⟨aX, hAX, hbX, hcX⟩ := RC2.out.2 (by omega)
            obtain ⟨y, hy⟩ : ∃ y : Int, ((S.take a).reverse)[k]'hkg = y := ⟨_, rfl⟩
            have cX := hcX k (.int .i64 y) (by unfold iv; rw [List.getElem?_map, List.getElem?_eq_getElem hkg, hy]; rfl)
            have HSN := Lib.hid (show gmax ((S.take a).reverse.take (k + 1)) = max (gmax ((S.take a).reverse.take k)) y by rw [gmax_snoc _ k hkg, hy])
            have HY := Lib.hid hAX
            have hAX2 := hAX
            clear hy hcX hAX
            generalize gmax ((S.take a).reverse.take k) = m at *
            have k0 : (0 : Int) ≤ (k : Int) := by omega
            have k1 : (k : Int) < (a : Int) := by omega
            rw [hAX2]
            go_wp2
            all_goals
              go_round
              case rel => exact ⟨k + 1, by omega, by go_num, val_int (by rw [HSN.out]; omega)⟩
              case measure => simp [intOf]; omega
          · obtain rfl : k = a := by omega
            have HGM := Lib.hid (show gmax ((S.take k).reverse.take k) = gmax (S.take k) by rw [List.take_of_length_le (by rw [HGL.out]; exact Nat.le_refl _), gmax_rev])
            rw [HGM.out]
            generalize hgm : gmax (S.take k) = gm at *
            have HGV := Lib.hid hgm
            clear hgm HGM
            have hSW : Below w.heap.size w wr := HM1.out.bel
            have rule : ∀ X, Below w.heap.size w X → X.cell? (ad.add (j * 2)) = some (.int .i64 x.1) := fun X hX => (hX.cell (p := ad.add (j * 2)) (by rw [block_of_add]; omega)).trans ((hSW.cell (p := ad.add (j * 2)) (by rw [block_of_add]; omega)).symm.trans c0)
            have hwz := HM1.out.size
            go_upto_region 14 with fail
            go_region_held3 (fun X => Below w.heap.size w X) (first | assumption | exact Below.drew (by assumption) | exact Below.alloc (by assumption) (by first | omega | (simp; omega)) _ | exact HM2.out.bel)
              (first
                | (go_at_call 154; refine (depf _ _ _).mono ?_; rintro e w' ⟨rfl, rfl⟩)
                | ((with_reducible refine step_append_one rfl (.tmp 47) (.tmp 56) 26 rfl w.heap.size 3 i0 (.int .i64 0) 8 Tryz.underlying26 hi0 hz0 hz1 hz2 rfl (.slice A6 r c6) r (iv (S.drop k).reverse) rfl ?_ (u := .int .i64 (fDepW x.1 gm)) rfl ?_ (one_int _) (len_ok (by omega)) (by omega) ?_ ?_); (rw [← HTK.out]; exact World.ownsRow.alloc HOW.out _); exact Blk.new _ _ _; (simp; omega); intro v1 x1 ho1 hg1 hv1; have HM2 := Lib.hid ((HM1.out.slice_ 0 rfl HOW.out (ownB _ _ _ _ _)).app 0 rfl (grown_pre (grown_drew hg1)) ho1 hv1 (by simp)); clear ho1 hg1 hv1))
            all_goals
              have HM3 := Lib.hid (show Mem w [cR w.heap.size 3 1 v1 ((l.drop j).foldr (rstep fDepW) []).length (iv ((l.drop j).foldr (rstep fDepW) []).reverse)] x1 from by
                have hm := HM2.out
                rw [HST.out]
                unfold rstep
                rw [HA.out, HGV.out, List.length_cons, List.length_drop, HR.out, List.reverse_cons, iv_app]
                simp only [List.set_cons_zero] at hm
                exact hm)
              clear HM1 HM2 rule
              go_wp2
              go_roundw
              case rel => exact ⟨j, by omega, rfl, HM3.out⟩
              case measure => simp [intOf]

set_option maxRecDepth 100000 in
set_option maxHeartbeats 8000000 in
theorem levNst (t : Ex) (ht : t.ok) (hl : t.flat.length ≤ 1000) (A : Option Addr) (c B : Nat) (w : World) (hB : B ≤ w.heap.size) (h : PairsAt w B (.slice A t.flat.length c) t.flat) :
    Calls Tryz.prog 153 #[.slice A t.flat.length c, .func (.func 155) #[] #[]] w fun e w' => e = .returned (.tuple #[.int .i64 (t.lev fNstW), .bool true]) ∧ Below w.heap.size w w' := by
  have H := Lib.hid h
  have HT := Lib.hid ht
  have hone := one_tree ht
  have hpos := t.flat_pos
  have HRS := Lib.hid (rs_tree fNstW t ht [])
  have HTS := Lib.hid (fun k (hk : k < t.flat.length) => tree_stack fNstW ht hk)
  obtain ⟨i0, hi0, hz0, hz1, hz2⟩ := info_parts Tryz.infoInt
  generalize t.flat = l at *
  have e1 : ((endAt l 0 : Int) != (l.length : Int)) = false := by rw [hone]; simp
  have HE1 := Lib.hid e1
  have p0 : (1 : Int) ≤ (l.length : Int) := by omega
  clear h hone e1 ht
  go_enter Tryz.func153, Tryz.ntmps153
  go_wp2_with (go_at_call 125; refine (end_p l (by omega) 0 A c B _ H.out).mono ?_; rintro e w' ⟨rfl, rfl⟩; have e1 := HE1.out)
  clear e1
  go_loopw [6, 7] (LpRel fNstW w l) (fun _ i _ => (intOf i + 1).toNat)
  case atStart => exact ⟨l.length, Nat.le_refl _, by go_num, by rw [List.drop_length]; exact (Mem.start w).nil_ _ _⟩
  case round =>
    obtain ⟨k, hk, rfl, hM⟩ := hrel
    have HM := Lib.hid hM
    clear hM
    rcases k with _ | j
    · have hown := HM.out.get 0 rfl
      rw [List.drop_zero, HRS.out] at hown
      obtain ⟨g, c1, rfl⟩ := own_succ hown
      obtain ⟨f0, ff⟩ := own_at hown (k := 0) (u := .int .i64 (t.lev fNstW)) rfl
      have HB := Lib.hid HM.out.bel
      clear hown HM
      have e0 : ¬ (0 : Int) ≤ ((0 : Nat) : Int) - 1 := by omega
      go_wp2
      go_ret2
      exact ⟨rfl, HB.out⟩
    · have hjl : j < l.length := by omega
      obtain ⟨ad, hA, hb, c0, c1⟩ := pair_at (PairsAt.to (Holds_.below (HM.out.bel.mono hB)) H.out) hjl
      subst hA
      obtain ⟨ha0, haS⟩ := HTS.out j hjl
      have HST := Lib.hid (show (l.drop j).foldr (rstep fNstW) [] = rstep fNstW (l[j]'hjl) ((l.drop (j + 1)).foldr (rstep fNstW) []) by rw [List.drop_eq_getElem_cons hjl]; rfl)
      obtain ⟨x, hx⟩ : ∃ x : Tm, l[j]'hjl = x := ⟨_, rfl⟩
      rw [hx] at c0 c1 ha0 haS HST
      clear hx
      have hSl : ((l.drop (j + 1)).foldr (rstep fNstW) []).length ≤ l.length := by
        have : ∀ l' : List Tm, (l'.foldr (rstep fNstW) []).length ≤ l'.length := by
          intro l'
          induction l' with
          | nil => exact Nat.le_refl _
          | cons y l' ih => show (fNstW y.1 _ :: (l'.foldr (rstep fNstW) []).drop (ar y.1).toNat).length ≤ _; simp; omega
        have := this (l.drop (j + 1))
        rw [List.length_drop] at this
        omega
      obtain ⟨S, hS⟩ : ∃ S, (l.drop (j + 1)).foldr (rstep fNstW) [] = S := ⟨_, rfl⟩
      rw [hS] at haS hSl HST
      have HM1 := Lib.hid (show Mem w [cR w.heap.size 3 1 u6 S.length (iv S.reverse)] wr from by have := HM.out; rw [hS] at this; exact this)
      obtain ⟨a, ha⟩ : ∃ a : Nat, ar x.1 = (a : Int) := ⟨(ar x.1).toNat, by omega⟩
      have haS' : a ≤ S.length := by omega
      have HA := Lib.hid (show (ar x.1).toNat = a by omega)
      clear hS HM ha0 haS
      have j0 : (0 : Int) ≤ (j : Int) := by omega
      have j1 : (j : Int) < (l.length : Int) := by omega
      have j2 : ((j + 1 : Nat) : Int) - 1 = (j : Int) := by omega
      rw [j2]
      have s1 : (0 : Int) ≤ (S.length : Int) - (a : Int) := by omega
      obtain ⟨A6, c6, rfl⟩ := own_sl (HM1.out.get 0 rfl)
      obtain ⟨r, hr⟩ : ∃ r : Nat, S.length - a = r := ⟨_, rfl⟩
      have hrS : (S.length : Int) - (a : Int) = (r : Int) := by omega
      have HRS2 := Lib.hid hrS
      have hr2 : r ≤ S.length := by omega
      have HR := Lib.hid hr
      have HAR := Lib.hid ha
      have hra : S.length - r = a := by omega
      have HRA := Lib.hid hra
      clear hr ha hra hrS s1 j2
      have R6 := Lib.hid (Reads.of_own (HM1.out.get 0 rfl))
      have hcc := own_cap' (HM1.out.get 0 rfl)
      have r0 : (0 : Int) ≤ (r : Int) := by omega
      have r1 : (r : Int) ≤ (S.length : Int) := by omega
      have r2 : (S.length : Int) ≤ (c6 : Int) := by omega
      have r3 : (r : Int) ≤ (c6 : Int) := by omega
      go_upto_region 9 with (go_at_call 152; refine (ar_p _ _).mono ?_; rintro e w' ⟨rfl, rfl⟩; rw [HAR.out])
      rw [HRS2.out]
      have RC := Lib.hid (R6.out.cut (k := r) hr2 hcc)
      have HG := Lib.hid (show (iv S.reverse).drop r = iv (S.take a).reverse by rw [List.reverse_take, ← HR.out]; unfold iv; rw [List.map_drop, show S.length - a = r from HR.out])
      have HOW := Lib.hid (own_takeA (HM1.out.get 0 rfl) hr2)
      have HTK := Lib.hid (show (iv S.reverse).take r = iv (S.drop a).reverse by rw [List.reverse_drop, HR.out]; unfold iv; rw [List.map_take])
      have HGL := Lib.hid (show (S.take a).reverse.length = a by rw [List.length_reverse, List.length_take]; omega)
      by_cases hcr : c6 = r
      · have RC2 := Lib.hid (show Reads wr wr.heap.size 1 A6 a (iv (S.take a).reverse) from by have := RC.out; rw [if_pos hcr, Nat.mul_one, HG.out, HRA.out] at this; exact this)
        have HCR := Lib.hid hcr
        subst hcr
        have ha00 : a = 0 := by have := HRA.out; omega
        subst ha00
        go_wp2
        clear RC HRA
        go_loop [9, 37] (CgRel (S.take 0).reverse 0) (fun _ i => 0 - (intOf i).toNat)
        case atStart => exact ⟨0, Nat.zero_le _, rfl, rfl⟩
        case round =>
          obtain ⟨k, hk2, rfl, rfl⟩ := hrel
          by_cases hka : 0 < k
          · omega
          · obtain rfl : k = 0 := by omega
            have HGM := Lib.hid (show gmax ((S.take 0).reverse.take 0) = gmax (S.take 0) by rw [List.take_of_length_le (by rw [HGL.out]; exact Nat.le_refl _), gmax_rev])
            rw [HGM.out]
            generalize hgm : gmax (S.take 0) = gm at *
            have HGV := Lib.hid hgm
            clear hgm HGM
            have hSW : Below w.heap.size w wr := HM1.out.bel
            have rule : ∀ X, Below w.heap.size w X → X.cell? (ad.add (j * 2)) = some (.int .i64 x.1) := fun X hX => (hX.cell (p := ad.add (j * 2)) (by rw [block_of_add]; omega)).trans ((hSW.cell (p := ad.add (j * 2)) (by rw [block_of_add]; omega)).symm.trans c0)
            have hwz := HM1.out.size
            go_upto_region 14 with fail
            go_region_held3 (fun X => Below w.heap.size w X) (first | assumption | exact Below.drew (by assumption) | exact Below.alloc (by assumption) (by first | omega | (simp; omega)) _ | exact HM2.out.bel)
              (first
                | (go_at_call 155; refine (nstf _ _ _).mono ?_; rintro e w' ⟨rfl, rfl⟩)
                | ((with_reducible refine step_append_one rfl (.tmp 47) (.tmp 56) 26 rfl w.heap.size 3 i0 (.int .i64 0) 8 Tryz.underlying26 hi0 hz0 hz1 hz2 rfl (.slice A6 c6 c6) c6 (iv (S.drop 0).reverse) rfl ?_ (u := .int .i64 (fNstW x.1 gm)) rfl ?_ (one_int _) (len_ok (by omega)) (by omega) ?_ ?_); (rw [← HTK.out]; exact World.ownsRow.alloc HOW.out _); exact Blk.new _ _ _; (simp; omega); intro v1 x1 ho1 hg1 hv1; have HM2 := Lib.hid ((HM1.out.slice_ 0 rfl HOW.out (ownB _ _ _ _ _)).app 0 rfl (grown_pre (grown_drew hg1)) ho1 hv1 (by simp)); clear ho1 hg1 hv1))
            all_goals
              have HM3 := Lib.hid (show Mem w [cR w.heap.size 3 1 v1 ((l.drop j).foldr (rstep fNstW) []).length (iv ((l.drop j).foldr (rstep fNstW) []).reverse)] x1 from by
                have hm := HM2.out
                rw [HST.out]
                unfold rstep
                rw [HA.out, HGV.out, List.length_cons, List.length_drop, HR.out, List.reverse_cons, iv_app]
                simp only [List.set_cons_zero] at hm
                exact hm)
              clear HM1 HM2 rule
              go_wp2
              go_roundw
              case rel => exact ⟨j, by omega, rfl, HM3.out⟩
              case measure => simp [intOf]
      · have RC2 := Lib.hid (show Reads wr wr.heap.size 1 (A6.map (·.add r)) a (iv (S.take a).reverse) from by have := RC.out; rw [if_neg hcr, Nat.mul_one, HG.out, HRA.out] at this; exact this)
        have HCR := Lib.hid hcr
        go_wp2
        rw [HRA.out]
        clear hcr RC HRA
        go_loop [9, 37] (CgRel (S.take a).reverse a) (fun _ i => a - (intOf i).toNat)
        case atStart => exact ⟨0, Nat.zero_le _, rfl, rfl⟩
        case round =>
          obtain ⟨k, hk2, rfl, rfl⟩ := hrel
          by_cases hka : k < a
          · have hkg : k < (S.take a).reverse.length := by rw [HGL.out]; exact hka
            obtain ⟨aX, hAX, hbX, hcX⟩ := RC2.out.2 (by omega)
            obtain ⟨y, hy⟩ : ∃ y : Int, ((S.take a).reverse)[k]'hkg = y := ⟨_, rfl⟩
            have cX := hcX k (.int .i64 y) (by unfold iv; rw [List.getElem?_map, List.getElem?_eq_getElem hkg, hy]; rfl)
            have HSN := Lib.hid (show gmax ((S.take a).reverse.take (k + 1)) = max (gmax ((S.take a).reverse.take k)) y by rw [gmax_snoc _ k hkg, hy])
            have HY := Lib.hid hAX
            have hAX2 := hAX
            clear hy hcX hAX
            generalize gmax ((S.take a).reverse.take k) = m at *
            have k0 : (0 : Int) ≤ (k : Int) := by omega
            have k1 : (k : Int) < (a : Int) := by omega
            rw [hAX2]
            go_wp2
            all_goals
              go_round
              case rel => exact ⟨k + 1, by omega, by go_num, val_int (by rw [HSN.out]; omega)⟩
              case measure => simp [intOf]; omega
          · obtain rfl : k = a := by omega
            have HGM := Lib.hid (show gmax ((S.take k).reverse.take k) = gmax (S.take k) by rw [List.take_of_length_le (by rw [HGL.out]; exact Nat.le_refl _), gmax_rev])
            rw [HGM.out]
            generalize hgm : gmax (S.take k) = gm at *
            have HGV := Lib.hid hgm
            clear hgm HGM
            have hSW : Below w.heap.size w wr := HM1.out.bel
            have rule : ∀ X, Below w.heap.size w X → X.cell? (ad.add (j * 2)) = some (.int .i64 x.1) := fun X hX => (hX.cell (p := ad.add (j * 2)) (by rw [block_of_add]; omega)).trans ((hSW.cell (p := ad.add (j * 2)) (by rw [block_of_add]; omega)).symm.trans c0)
            have hwz := HM1.out.size
            go_upto_region 14 with fail
            go_region_held3 (fun X => Below w.heap.size w X) (first | assumption | exact Below.drew (by assumption) | exact Below.alloc (by assumption) (by first | omega | (simp; omega)) _ | exact HM2.out.bel)
              (first
                | (go_at_call 155; refine (nstf _ _ _).mono ?_; rintro e w' ⟨rfl, rfl⟩)
                | ((with_reducible refine step_append_one rfl (.tmp 47) (.tmp 56) 26 rfl w.heap.size 3 i0 (.int .i64 0) 8 Tryz.underlying26 hi0 hz0 hz1 hz2 rfl (.slice A6 r c6) r (iv (S.drop k).reverse) rfl ?_ (u := .int .i64 (fNstW x.1 gm)) rfl ?_ (one_int _) (len_ok (by omega)) (by omega) ?_ ?_); (rw [← HTK.out]; exact World.ownsRow.alloc HOW.out _); exact Blk.new _ _ _; (simp; omega); intro v1 x1 ho1 hg1 hv1; have HM2 := Lib.hid ((HM1.out.slice_ 0 rfl HOW.out (ownB _ _ _ _ _)).app 0 rfl (grown_pre (grown_drew hg1)) ho1 hv1 (by simp)); clear ho1 hg1 hv1))
            all_goals
              have HM3 := Lib.hid (show Mem w [cR w.heap.size 3 1 v1 ((l.drop j).foldr (rstep fNstW) []).length (iv ((l.drop j).foldr (rstep fNstW) []).reverse)] x1 from by
                have hm := HM2.out
                rw [HST.out]
                unfold rstep
                rw [HA.out, HGV.out, List.length_cons, List.length_drop, HR.out, List.reverse_cons, iv_app]
                simp only [List.set_cons_zero] at hm
                exact hm)
              clear HM1 HM2 rule
              go_wp2
              go_roundw
              case rel => exact ⟨j, by omega, rfl, HM3.out⟩
              case measure => simp [intOf]
end Go.Proofs.YtdfklagiafmoiaaGreatDoor

/- The program's Valid of expressions. -/
namespace Go.Proofs.YtdfklagiafmoiaaGreatDoor
open Go.RowKit

section
variable (t : Ex) (ht : t.ok) (hl : t.flat.length ≤ 1000) (A : Option Addr) (c B : Nat) (w : World) (hB : B ≤ w.heap.size) (h : PairsAt w B (.slice A t.flat.length c) t.flat)
include ht hl hB h
theorem depth_p : Calls Tryz.prog 127 #[.slice A t.flat.length c] w fun e w' => e = .returned (.int .i64 (t.lev fDepW)) ∧ Below w.heap.size w w' := by
  have HC := Lib.hid (levDep t ht hl A c B w hB h)
  clear h
  go_enter Tryz.func127, Tryz.ntmps127
  go_wp2_with (go_at_call 153; refine HC.out.mono ?_; rintro e w' ⟨rfl, hb⟩)
  go_ret
  exact ⟨rfl, hb⟩
theorem nest_p : Calls Tryz.prog 128 #[.slice A t.flat.length c] w fun e w' => e = .returned (.int .i64 (t.lev fNstW)) ∧ Below w.heap.size w w' := by
  have HC := Lib.hid (levNst t ht hl A c B w hB h)
  clear h
  go_enter Tryz.func128, Tryz.ntmps128
  go_wp2_with (go_at_call 153; refine HC.out.mono ?_; rintro e w' ⟨rfl, hb⟩)
  go_ret
  exact ⟨rfl, hb⟩
end
def YesPost (w : World) (e : Ending) (w' : World) : Prop := e = .returned (.bool true) ∧ Below w.heap.size w w'
def AvRel (w : World) (l : List Tm) (i : Value) (wr : World) : Prop := ∃ k : Nat, i = .int .i64 k ∧ k ≤ l.length ∧ Below w.heap.size w wr
set_option maxRecDepth 100000 in
set_option maxHeartbeats 2000000 in
theorem valid_p (l : List Tm) (n : Nat) (hx : ExOk n l) (A : Option Addr) (c B : Nat) (w : World) (hB : B ≤ w.heap.size) (h : PairsAt w B (.slice A l.length c) l) :
    Calls Tryz.prog 97 #[.slice A l.length c, .int .i64 (n : Int)] w (YesPost w) := by
  obtain ⟨t, ht, rfl, hl, hd, hn, hav⟩ := hx
  have H := Lib.hid h
  have HAV := Lib.hid hav
  have HD := Lib.hid (lev_depW t (by omega))
  have HN := Lib.hid (lev_nstW t (by omega))
  have p2 : ¬ (200 : Int) < (t.flat.length : Int) := by omega
  have e1 : ((endAt t.flat 0 : Int) != (t.flat.length : Int)) = false := by rw [one_tree ht]; simp
  have HE1 := Lib.hid e1
  have HB0 := Lib.hid (Below.refl w.heap.size w)
  clear h hav e1
  go_enter Tryz.func97, Tryz.ntmps97
  go_wp2_with (go_at_call 125; refine (end_p t.flat (by omega) 0 A c B _ H.out).mono ?_; rintro e w' ⟨rfl, rfl⟩; have e1 := HE1.out)
  clear e1
  go_loopw [19] (AvRel w t.flat) (fun i _ => t.flat.length - (intOf i).toNat)
  case atStart => exact ⟨0, rfl, Nat.zero_le _, HB0.out⟩
  case round =>
    obtain ⟨k, rfl, hk, hb⟩ := hrel
    have HB := Lib.hid hb
    clear hb HB0
    by_cases hlt : k < t.flat.length
    · obtain ⟨ad, hA, hbl, c0, c1⟩ := pair_at (PairsAt.to (Holds_.below (HB.out.mono hB)) H.out) hlt
      subst hA
      have HX := Lib.hid (HAV.out _ (List.getElem_mem hlt))
      obtain ⟨x, hx⟩ : ∃ x : Tm, (t.flat)[k]'hlt = x := ⟨_, rfl⟩
      rw [hx] at c0 c1 HX
      have HLT := Lib.hid hlt
      clear hx
      have k0 : (0 : Int) ≤ (k : Int) := by omega
      have k1 : (k : Int) < (t.flat.length : Int) := by omega
      have HBA := Lib.hid (HB.out.alloc HB.out.size (.cells #[.int .i64 x.1, .int .i64 x.2] 186))
      go_wp2_with (go_at_call 126; refine (arg_p x n _).mono ?_; rintro e w' ⟨rfl, hb⟩; rw [HX.out])
      go_roundw
      case rel => exact ⟨k + 1, by go_num, by have := HLT.out; omega, below_step hb HBA.out⟩
      case measure => simp [intOf]; omega
    · obtain rfl : k = t.flat.length := by omega
      have hd2 : ((t.dep : Nat) : Int) ≤ 24 := by omega
      have hn2 : ((t.nst : Nat) : Int) ≤ 2 := by omega
      go_wp2_with fail
      refine (depth_p t ht (by omega) A c B _ (Nat.le_trans hB HB.out.size) (PairsAt.to (Holds_.below (HB.out.mono hB)) H.out)).mono ?_
      rintro e w2 ⟨rfl, hb2⟩
      rw [HD.out]
      have HB2 := Lib.hid (below_step hb2 HB.out)
      clear hb2
      go_wp2_with fail
      refine (nest_p t ht (by omega) A c B _ (Nat.le_trans hB HB2.out.size) (PairsAt.to (Holds_.below (HB2.out.mono hB)) H.out)).mono ?_
      rintro e w3 ⟨rfl, hb3⟩
      rw [HN.out]
      have HB3 := Lib.hid (below_step hb3 HB2.out)
      have d2 : decide (((t.nst : Nat) : Int) ≤ 2) = true := by simp; omega
      clear hb3
      go_wp2
      go_ret
      exact ⟨rfl, HB3.out⟩
end Go.Proofs.YtdfklagiafmoiaaGreatDoor
