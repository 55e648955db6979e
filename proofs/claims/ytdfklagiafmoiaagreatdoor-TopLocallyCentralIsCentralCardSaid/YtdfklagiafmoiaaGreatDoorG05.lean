/- Lemmas of this seat, laid together out of 3 texts: no statement of the seat is proved here. -/
import Derived.Test.YtdfklagiafmoiaaGreatDoorG03
import Derived.Test.YtdfklagiafmoiaaGreatDoorG04
import Derived.Test.YtdfklagiafmoiaaGreatDoorG02
/- The reference's levels: the open terms from left to right. -/
namespace Go.Proofs.YtdfklagiafmoiaaGreatDoor
open Go.RowKit

theorem Tryz.infoInt : (Tryz.prog.info? 3).map (fun i => (i.zero, i.size, i.bytes)) = some (some (.int .i64 0), 1, 8) := by kernel_rfl
theorem Tryz.infoBool : (Tryz.prog.info? 4).map (fun i => (i.zero, i.size, i.bytes)) = some (some (.bool false), 1, 1) := by kernel_rfl
theorem one_int (z : Int) : ∀ y ∈ [Value.int .i64 z], y.oneCell' = true := by simp [Value.oneCell']
theorem one_bool (z : Bool) : ∀ y ∈ [Value.bool z], y.oneCell' = true := by simp [Value.oneCell']
def opI (L : List Op1) : List Value := L.reverse.map fun x => .int .i64 x.1
def opB (L : List Op1) : List Value := L.reverse.map fun x => .bool x.2
def LvMem (w : World) (v6 v7 : Value) (L : List Op1) (wr : World) : Prop := Mem w [cR w.heap.size 3 1 v6 L.length (opI L), cR w.heap.size 4 1 v7 L.length (opB L)] wr
def LvRel (w : World) (l : List Tm) (d n v6 v7 i : Value) (wr : World) : Prop :=
  ∃ (k : Nat) (s : Lv), i = .int .i64 k ∧ k ≤ l.length ∧ (l.take k).foldl lvStep ⟨[], 0, 0⟩ = s ∧ s.L.length ≤ k ∧ s.d ≤ k ∧ s.n ≤ k ∧ d = .int .i64 s.d ∧ n = .int .i64 s.n ∧ LvMem w v6 v7 s.L wr
def CntRel (M : List Op1) (a b : Value) : Prop := ∃ j : Nat, j ≤ M.length ∧ b = .int .i64 j ∧ a = .int .i64 (cntT (M.take j))
def settleC : List Op1 → List Op1
  | [] => []
  | (a, o) :: M => settle a o M
def PopRel (w : World) (n : Nat) (T : List Op1) (v6 v7 : Value) (wr : World) : Prop := ∃ cur : List Op1, settleC cur = T ∧ cur.length ≤ n ∧ LvMem w v6 v7 cur wr
def slLen : Value → Nat
  | .slice _ n _ => n
  | _ => 0
theorem opB_at {L : List Op1} {j : Nat} (h : j < L.reverse.length) : (opB L)[j]? = some (.bool (L.reverse[j]).2) := by
  unfold opB; rw [List.getElem?_map, List.getElem?_eq_getElem h]; rfl
theorem cnt_snoc {M : List Op1} {j : Nat} (h : j < M.length) : cntT (M.take (j + 1)) = cntT (M.take j) + if M[j].2 then 1 else 0 := by
  rw [List.take_succ_eq_append_getElem h]
  unfold cntT
  rw [List.filter_append, List.length_append]
  cases h : M[j].2 <;> simp [h]
theorem cnt_rev (L : List Op1) : cntT L.reverse = cntT L := by unfold cntT; rw [List.filter_reverse, List.length_reverse]
theorem opI_top (a : Int) (o : Bool) (M : List Op1) : (opI ((a, o) :: M))[M.length]? = some (.int .i64 a) := by
  unfold opI; simp
theorem opI_take (x : Op1) (M : List Op1) : (opI (x :: M)).take (M.length * 1) = opI M := by
  unfold opI; simp
theorem opB_take (x : Op1) (M : List Op1) : (opB (x :: M)).take (M.length * 1) = opB M := by
  unfold opB; simp
theorem opI_set (b b' : Int) (q : Bool) (M : List Op1) : (opI ((b, q) :: M)).set M.length (.int .i64 b') = opI ((b', q) :: M) := by
  unfold opI; simp
theorem opB_any (b b' : Int) (q : Bool) (M : List Op1) : opB ((b, q) :: M) = opB ((b', q) :: M) := by
  unfold opB; simp
theorem settle_len (a : Int) (o : Bool) (L : List Op1) : (settle a o L).length ≤ L.length + 1 := by
  induction L generalizing a o with
  | nil => unfold settle; split <;> simp
  | cons x L ih =>
    obtain ⟨b, q⟩ := x
    unfold settle
    split
    · have := ih (wr64 (b - 1)) q; simp; omega
    · simp
theorem cnt_le (L : List Op1) : cntT L ≤ L.length := List.length_filter_le _ _

set_option maxRecDepth 100000 in
set_option maxHeartbeats 4000000 in
theorem levels_r (l : List Tm) (hl : l.length ≤ 1000000) (s : Lv) (hs : l.foldl lvStep ⟨[], 0, 0⟩ = s) (A : Option Addr) (c B : Nat) (w : World) (hB : B ≤ w.heap.size) (h : PairsAt w B (.slice A l.length c) l) :
    Calls Tryz.prog 198 #[.slice A l.length c] w fun e w' => e = .returned (.tuple #[.int .i64 (s.d : Int), .int .i64 (s.n : Int)]) ∧ Below w.heap.size w w' := by
  have H := Lib.hid h
  have HS := Lib.hid hs
  obtain ⟨i0, hi0, hz0, hz1, hz2⟩ := info_parts Tryz.infoInt
  obtain ⟨j0, hj0, hy0, hy1, hy2⟩ := info_parts Tryz.infoBool
  clear h hs
  go_enter Tryz.func198, Tryz.ntmps198
  go_wp2
  go_loopw [4, 5, 6, 7, 8] (LvRel w l) (fun _ _ _ _ i _ => l.length - (intOf i).toNat)
  case atStart => exact ⟨0, ⟨[], 0, 0⟩, rfl, Nat.zero_le _, rfl, by simp, by simp, by simp, rfl, rfl, ((Mem.start w).nil_ _ _).nil_ _ _⟩
  case round =>
    obtain ⟨k, ⟨L, d, n⟩, rfl, hk, hst, hLk, hdk, hnk, rfl, rfl, hM⟩ := hrel
    have HST := Lib.hid hst
    have HM := Lib.hid (show LvMem w u6 u7 L wr from hM)
    dsimp only at hLk hdk hnk
    clear hst hM
    by_cases hlt : k < l.length
    · obtain ⟨ad, rfl, hb, c0, c1⟩ := pair_at H.out hlt
      have CC := Lib.hid c0
      have HLT := Lib.hid hlt
      have HTM := Lib.hid (show (l.take (k + 1)).foldl lvStep ⟨[], 0, 0⟩ = lvStep ⟨L, d, n⟩ l[k] by rw [List.take_succ_eq_append_getElem hlt, List.foldl_append, HST.out]; rfl)
      generalize l[k] = t at *
      have k0 : (0 : Int) ≤ (k : Int) := by omega
      have k1 : (k : Int) < (l.length : Int) := by omega
      clear c0 c1
      go_upto_region 7 with fail
      have hSW : Below w.heap.size w wr := HM.out.bel
      have rule : ∀ X, Below w.heap.size w X → X.cell? (ad.add (k * 2)) = some (.int .i64 t.1) := fun X hX => (hX.cell (p := ad.add (k * 2)) (by rw [block_of_add]; omega)).trans CC.out
      have hwz := HM.out.size
      go_region_held3 (fun X => Below w.heap.size w X) (first | assumption | exact Below.drew (by assumption) | exact Below.alloc (by assumption) (by first | omega | (simp; omega)) _ | exact HM1.out.bel | exact HM2.out.bel)
        (first
          | (go_at_call 181; refine (ar_r _ _).mono ?_; rintro e w' ⟨rfl, rfl⟩)
          | (go_at_call 184; refine (agg_r _ _).mono ?_; rintro e w' ⟨rfl, rfl⟩)
          | ((with_reducible refine step_append_one rfl (.tmp 17) (.tmp 24) 26 rfl w.heap.size 3 i0 (.int .i64 0) 8 Tryz.underlying26 hi0 hz0 hz1 hz2 rfl u6 L.length (opI L) rfl ?_ (u := .int .i64 (ar t.1)) rfl ?_ (one_int _) (len_ok (by omega)) (by omega) ?_ ?_); exact World.ownsRow.alloc (HM.out.get 0 rfl) _; exact Blk.new _ _ _; (simp; omega); intro v1 x1 ho1 hg1 hv1; have HM1 := Lib.hid (HM.out.app 0 rfl (grown_pre (grown_drew hg1)) ho1 hv1 (by simp)); have hxz := HM1.out.size; clear ho1 hg1 hv1)
          | ((with_reducible refine step_append_one rfl (.tmp 26) (.tmp 33) 229 rfl w.heap.size 4 j0 (.bool false) 1 Tryz.underlying229 hj0 hy0 hy1 hy2 rfl u7 L.length (opB L) rfl ?_ (u := .bool (agg t.1)) rfl ?_ (one_bool _) (len_ok (by omega)) (by omega) ?_ ?_); exact World.ownsRow.alloc (HM1.out.get 1 rfl) _; exact Blk.new _ _ _; (simp; omega); intro v2 x2 ho2 hg2 hv2; have HM2 := Lib.hid (HM1.out.app 1 rfl (grown_pre hg2) ho2 hv2 (by simp)); clear ho2 hg2 hv2))
      have HM := HM2
      clear rule HM1 HM2 hSW hwz hxz
      have hM := HM.out
      simp only [List.set_cons_zero, List.set_cons_succ] at hM
      have HM3 := Lib.hid (show LvMem w v1 v2 ((ar t.1, agg t.1) :: L) x2 from by
        unfold LvMem opI opB
        simp only [List.reverse_cons, List.map_append, List.length_cons]
        exact hM)
      clear HM hM
      obtain ⟨A6, c6, rfl⟩ := own_sl (HM3.out.get 0 rfl)
      obtain ⟨A7, c7, rfl⟩ := own_sl (HM3.out.get 1 rfl)
      have R7 := Lib.hid (Reads.of_own (HM3.out.get 1 rfl))
      have HN := Lib.hid (show (((ar t.1, agg t.1) :: L : List Op1)).length = L.length + 1 from rfl)
      have hL1 : (((ar t.1, agg t.1) :: L : List Op1)).length ≤ l.length := by simp; omega
      have HS1 := Lib.hid (show lvStep ⟨L, d, n⟩ t = ⟨settle (ar t.1) (agg t.1) L, max d (((ar t.1, agg t.1) :: L : List Op1)).length, max n (cntT ((ar t.1, agg t.1) :: L))⟩ from rfl)
      have HSE := Lib.hid (show settle (ar t.1) (agg t.1) L = settle ((ar t.1, agg t.1) : Op1).1 ((ar t.1, agg t.1) : Op1).2 L from rfl)
      have HM3' := Lib.hid (show LvMem w (.slice A6 (L.length + 1) c6) (.slice A7 (L.length + 1) c7) ((ar t.1, agg t.1) :: L) x2 from HM3.out)
      clear HM3
      have hL2 : L.length + 1 ≤ 1000001 := by omega
      go_wp2
      go_loop [9, 10] (CntRel ((ar t.1, agg t.1) :: L).reverse) (fun _ j => L.length + 1 - (intOf j).toNat)
      case atStart => exact ⟨0, Nat.zero_le _, rfl, rfl⟩
      case round =>
        obtain ⟨j, hj, rfl, rfl⟩ := hrel
        have hj' : j ≤ L.length + 1 := by simpa using hj
        have j0' : (0 : Int) ≤ (j : Int) := by omega
        have hcl := cnt_le ((((ar t.1, agg t.1) :: L).reverse).take j)
        rw [List.length_take] at hcl
        by_cases hjl : j < L.length + 1
        · have hjr : j < (((ar t.1, agg t.1) :: L).reverse).length := by simpa using hjl
          obtain ⟨a7, hA7, hb7, hc7⟩ := R7.out.2 (by simp)
          subst hA7
          obtain ⟨y, hy⟩ : ∃ y : Op1, (((ar t.1, agg t.1) :: L).reverse)[j] = y := ⟨_, rfl⟩
          have cj := hc7 j _ (opB_at hjr)
          have hsn := cnt_snoc hjr
          rw [hy] at cj hsn
          have HSN := Lib.hid hsn
          have HJR := Lib.hid hjr
          clear hy hsn hc7 hj hjr
          generalize hcc : cntT ((((ar t.1, agg t.1) :: L).reverse).take j) = cc at *
          have HCC := Lib.hid hcc
          clear hcc
          have cc0 : (0 : Int) ≤ (cc : Int) := by omega
          have j1' : (j : Int) < ((L.length + 1 : Nat) : Int) := by omega
          obtain ⟨ya, yb⟩ := y
          cases yb
          · go_wp2
            go_round
            case rel => exact ⟨j + 1, by have := HJR.out; omega, by go_num, by rw [HSN.out]; go_num⟩
            case measure => simp [intOf]; omega
          · go_wp2
            go_round
            case rel => exact ⟨j + 1, by have := HJR.out; omega, by go_num, by rw [HSN.out]; go_num⟩
            case measure => simp [intOf]; omega
        · obtain rfl : j = L.length + 1 := by omega
          have HCN := Lib.hid (show cntT ((((ar t.1, agg t.1) :: L).reverse).take (L.length + 1)) = cntT ((ar t.1, agg t.1) :: L) by rw [List.take_of_length_le (by simp), cnt_rev])
          have hcl2 := cnt_le ((ar t.1, agg t.1) :: L)
          rw [HCN.out] at hcl ⊢
          simp only [List.length_cons] at hcl2
          generalize hcc : cntT ((ar t.1, agg t.1) :: L) = cc at *
          have HCC := Lib.hid hcc
          clear hcc hcl hj hj'
          have HSW := Lib.hid (show lvStep ⟨L, d, n⟩ t = ⟨settle (ar t.1) (agg t.1) L, max d (L.length + 1), max n cc⟩ from by unfold lvStep; rw [HCC.out])
          go_wp2
          all_goals
            go_loopw [6, 7] (PopRel w (L.length + 1) (settle (ar t.1) (agg t.1) L)) (fun v6 _ _ => slLen v6)
            case atStart => exact ⟨(ar t.1, agg t.1) :: L, rfl, Nat.le_refl _, HM3'.out⟩
            case round =>
              obtain ⟨cur, hsc, hcl, hmc⟩ := hrel
              have HSC := Lib.hid hsc
              have HMC := Lib.hid hmc
              clear hsc hmc
              rcases cur with _ | ⟨⟨a, o⟩, M⟩
              · obtain ⟨A8, c8, hv8⟩ := own_sl (HMC.out.get 0 rfl)
                simp only [List.length_nil] at hv8
                subst hv8
                have HE := Lib.hid (show settle (ar t.1) (agg t.1) L = [] from HSC.out.symm)
                go_wp2
                go_roundw
                case rel => exact ⟨k + 1, _, by go_num, by have := HLT.out; omega, (HTM.out).trans HSW.out, by rw [HE.out]; simp, by simp; omega, by simp; omega, by first | go_num | (refine val_int ?_; simp; omega), by first | go_num | (refine val_int ?_; simp; omega), by rw [HE.out]; exact HMC.out⟩
                case measure => simp [intOf]; omega
              · simp only [List.length_cons] at hcl
                have hm := HMC.out
                obtain ⟨g6, c8, rfl⟩ := own_succ (hm.get 0 rfl)
                obtain ⟨g7, c9, rfl⟩ := own_succ (hm.get 1 rfl)
                obtain ⟨p6, f6⟩ := own_at (hm.get 0 rfl) (opI_top a o M)
                have cp6 := own_cap (hm.get 0 rfl)
                have cp7 := own_cap (hm.get 1 rfl)
                simp only [List.length_cons] at cp6 cp7
                have hq6 := own_take (hm.get 0 rfl) (m := M.length) (Nat.le_succ _)
                have hq7 := own_take (hm.get 1 rfl) (m := M.length) (Nat.le_succ _)
                rw [opI_take] at hq6
                rw [opB_take] at hq7
                have HP := Lib.hid (show LvMem w (.slice (some ⟨g6, 0, none⟩) M.length c8) (.slice (some ⟨g7, 0, none⟩) M.length c9) M _ from (hm.slice_ 0 rfl hq6 rfl).slice_ 1 rfl hq7 rfl)
                clear hm hq6 hq7
                have m0 : (0 : Int) ≤ (M.length : Int) := by omega
                have w1 := IntWalk.i64_in (M.length : Int) (by omega)
                have w2 : ((M.length : Int) + 1) - 1 = (M.length : Int) := by omega
                have w3 : (0 : Int) < (M.length : Int) + 1 := by omega
                have q1 : (M.length : Int) ≤ (c8 : Int) := by omega
                have q2 : (M.length : Int) ≤ (c9 : Int) := by omega
                have q3 : (M.length : Int) ≤ (M.length : Int) + 1 := by omega
                have q4 : (M.length : Int) < (M.length : Int) + 1 := by omega
                by_cases ha : a = 0
                · subst ha
                  have HE := Lib.hid (show settleT M = settle (ar t.1) (agg t.1) L by rw [← HSC.out]; exact (settle_zero o M).symm)
                  rcases M with _ | ⟨⟨b, q⟩, M⟩
                  · simp only [List.length_nil] at *
                    go_upto_region 16 with fail
                    go_quiet (fail)
                    go_wp2
                    go_roundw
                    case rel => exact ⟨[], HE.out, Nat.zero_le _, HP.out.drewN _⟩
                    case measure => simp [slLen]
                  · simp only [List.length_cons] at *
                    have hp := HP.out
                    obtain ⟨pb6, fb6⟩ := own_at (hp.get 0 rfl) (opI_top b q M)
                    have HQ := Lib.hid (fun (d : Nat) => (show LvMem w (.slice (some ⟨g6, 0, none⟩) (M.length + 1) c8) (.slice (some ⟨g7, 0, none⟩) (M.length + 1) c9) ((wr64 (b - 1), q) :: M) ((wr.drewN d).setCell ⟨g6, M.length, none⟩ (.int .i64 (wr64 (b - 1)))) from by
                      unfold LvMem; rw [← opB_any b (wr64 (b - 1)) q M]; exact (hp.drewN d).storeR 0 rfl M.length (.int .i64 (wr64 (b - 1))) (opI_set b (wr64 (b - 1)) q M)))
                    have s1 := IntWalk.i64_in ((M.length : Int) + 1) (by omega)
                    have s2 : (0 : Int) ≤ (M.length : Int) := by omega
                    have s3 := IntWalk.i64_in (M.length : Int) (by omega)
                    have s4 : ((M.length : Int) + 1) - 1 = (M.length : Int) := by omega
                    have s5 : (M.length : Int) < (M.length : Int) + 1 := by omega
                    have s6 : (0 : Int) < (M.length : Int) + 1 := by omega
                    clear hp
                    go_upto_region 16 with fail
                    go_quiet (fail)
                    go_wp2
                    go_roundw
                    case rel => exact ⟨(wr64 (b - 1), q) :: M, HE.out, by simp; omega, HQ.out _⟩
                    case measure => simp [slLen]
                · have HE := Lib.hid (show settle (ar t.1) (agg t.1) L = (a, o) :: M by rw [← HSC.out]; exact settle_else ha o M)
                  have e2 : (a == 0) = false := beq_eq_false_iff_ne.2 ha
                  go_wp2
                  go_roundw
                  case rel => exact ⟨k + 1, _, by go_num, by have := HLT.out; omega, (HTM.out).trans HSW.out, by rw [HE.out]; simp; omega, by simp; omega, by simp; omega, by first | go_num | (refine val_int ?_; simp; omega), by first | go_num | (refine val_int ?_; simp; omega), by rw [HE.out]; exact HMC.out⟩
                  case measure => simp [intOf]; omega
    · have e : l.length = k := by omega
      subst e
      have hst := HST.out
      rw [List.take_length, HS.out] at hst
      subst hst
      have HB := Lib.hid (show Below w.heap.size w wr from HM.out.bel)
      go_wp2
      go_ret2
      exact ⟨rfl, HB.out⟩
end Go.Proofs.YtdfklagiafmoiaaGreatDoor

/- The reference's Valid of expressions. -/
namespace Go.Proofs.YtdfklagiafmoiaaGreatDoor
open Go.RowKit

/-- a list that is one expression over so many variables -/
def ExOk (n : Nat) (l : List Tm) : Prop := ∃ t : Ex, t.ok ∧ t.flat = l ∧ l.length ≤ 200 ∧ t.dep ≤ 24 ∧ t.nst ≤ 2 ∧ ∀ x ∈ l, argOk n x = true

set_option maxHeartbeats 1000000 in
theorem one_r (l : List Tm) (hl : l.length ≤ 1000000) (A : Option Addr) (c B : Nat) (w : World) (h : PairsAt w B (.slice A l.length c) l) :
    Calls Tryz.prog 177 #[.slice A l.length c] w fun e w' => e = .returned (.bool (endAt l 0 == (l.length : Int))) ∧ w = w' := by
  have H := Lib.hid h
  clear h
  by_cases h0 : 0 < l.length
  · have p0 : (0 : Int) < (l.length : Int) := by omega
    go_enter Tryz.func177, Tryz.ntmps177
    go_wp2_with (go_at_call 197; refine (end_r l (by omega) 0 _ c B _ H.out).mono ?_; rintro e w' ⟨rfl, rfl⟩)
    go_ret
    exact ⟨rfl, rfl⟩
  · have e : endAt l 0 = -1 := by obtain rfl : l = [] := List.eq_nil_of_length_eq_zero (by omega); rfl
    have e2 : (endAt l 0 == (l.length : Int)) = false := by rw [e]; exact beq_eq_false_iff_ne.2 (by omega)
    have E2 := Lib.hid e2
    have p0 : ¬ (0 : Int) < (l.length : Int) := by omega
    clear e e2
    go_enter Tryz.func177, Tryz.ntmps177
    go_wp2
    go_ret
    exact ⟨ret_bool E2.out.symm, rfl⟩

theorem one_tree {t : Ex} (ht : t.ok) : endAt t.flat 0 = (t.flat.length : Int) := by
  have := endAt_tree (l := t.flat) (r := []) (k := 0) (by simp) ht
  simpa using this
section
variable (t : Ex) (ht : t.ok) (hl : t.flat.length ≤ 1000000) (A : Option Addr) (c B : Nat) (w : World) (hB : B ≤ w.heap.size) (h : PairsAt w B (.slice A t.flat.length c) t.flat)
include ht hl hB h
set_option maxHeartbeats 1000000 in
theorem depth_r : Calls Tryz.prog 178 #[.slice A t.flat.length c] w fun e w' => e = .returned (.int .i64 (t.dep : Int)) ∧ Below w.heap.size w w' := by
  have H := Lib.hid h
  have e1 : (endAt t.flat 0 == (t.flat.length : Int)) = true := by rw [one_tree ht]; simp
  have LV := Lib.hid (lv_whole t ht)
  clear h
  go_enter Tryz.func178, Tryz.ntmps178
  go_wp2_with (first | (go_at_call 177; refine (one_r t.flat hl A c B _ H.out).mono ?_; rintro e w' ⟨rfl, rfl⟩) | (go_at_call 198; refine (levels_r t.flat hl _ LV.out A c B _ hB H.out).mono ?_; rintro e w' ⟨rfl, hb⟩))
  go_ret
  exact ⟨rfl, hb⟩
set_option maxHeartbeats 1000000 in
theorem nest_r : Calls Tryz.prog 179 #[.slice A t.flat.length c] w fun e w' => e = .returned (.int .i64 (t.nst : Int)) ∧ Below w.heap.size w w' := by
  have H := Lib.hid h
  have e1 : (endAt t.flat 0 == (t.flat.length : Int)) = true := by rw [one_tree ht]; simp
  have LV := Lib.hid (lv_whole t ht)
  clear h
  go_enter Tryz.func179, Tryz.ntmps179
  go_wp2_with (first | (go_at_call 177; refine (one_r t.flat hl A c B _ H.out).mono ?_; rintro e w' ⟨rfl, rfl⟩) | (go_at_call 198; refine (levels_r t.flat hl _ LV.out A c B _ hB H.out).mono ?_; rintro e w' ⟨rfl, hb⟩))
  go_ret
  exact ⟨rfl, hb⟩
end

def BoolPost (w : World) (P : Prop) (e : Ending) (w' : World) : Prop := ∃ b : Bool, e = .returned (.bool b) ∧ (b = true → P) ∧ Below w.heap.size w w'
theorem BoolPost.no {w w' : World} {P : Prop} (h : Below w.heap.size w w') : BoolPost w P (.returned (.bool false)) w' := ⟨false, rfl, (fun h => by cases h), h⟩
def ArgRel (w : World) (l : List Tm) (n : Nat) (i : Value) (wr : World) : Prop := ∃ k : Nat, i = .int .i64 k ∧ k ≤ l.length ∧ (∀ x ∈ l.take k, argOk n x = true) ∧ Below w.heap.size w wr
theorem take_all {α : Type} {P : α → Prop} {l : List α} {k : Nat} (h : ∀ x ∈ l.take k, P x) (hk : k < l.length) (hx : P l[k]) : ∀ x ∈ l.take (k + 1), P x := by
  intro x hx'
  rw [List.take_succ_eq_append_getElem hk] at hx'
  rcases List.mem_append.1 hx' with h1 | h1
  · exact h x h1
  · rw [List.mem_singleton] at h1; subst h1; exact hx
set_option maxRecDepth 100000 in
set_option maxHeartbeats 2000000 in
theorem valid_r (l : List Tm) (hl : l.length ≤ 1000000) (n : Nat) (A : Option Addr) (c B : Nat) (w : World) (hB : B ≤ w.heap.size) (h : PairsAt w B (.slice A l.length c) l) :
    Calls Tryz.prog 163 #[.slice A l.length c, .int .i64 (n : Int)] w (BoolPost w (ExOk n l)) := by
  have H := Lib.hid h
  clear h
  by_cases h2 : 200 < l.length
  · have p2 : (200 : Int) < (l.length : Int) := by omega
    go_enter Tryz.func163, Tryz.ntmps163
    go_wp2
    go_ret
    exact BoolPost.no (Below.refl _ _)
  have p2 : ¬ (200 : Int) < (l.length : Int) := by omega
  by_cases h1 : endAt l 0 = (l.length : Int)
  case neg =>
    have e1 : (endAt l 0 == (l.length : Int)) = false := beq_eq_false_iff_ne.2 h1
    clear h1
    go_enter Tryz.func163, Tryz.ntmps163
    go_wp2_with (go_at_call 177; refine (one_r l hl A c B _ H.out).mono ?_; rintro e w' ⟨rfl, rfl⟩)
    go_ret
    exact BoolPost.no (Below.refl _ _)
  have e1 : (endAt l 0 == (l.length : Int)) = true := beq_iff_eq.2 h1
  obtain ⟨t, ht, rfl⟩ := endAt_zero h1
  clear h1
  by_cases h3 : 24 < t.dep
  · have p3 : (24 : Int) < (t.dep : Int) := by omega
    go_enter Tryz.func163, Tryz.ntmps163
    go_wp2_with (first | (go_at_call 177; refine (one_r t.flat hl A c B _ H.out).mono ?_; rintro e w' ⟨rfl, rfl⟩) | (go_at_call 178; refine (depth_r t ht hl A c B _ hB H.out).mono ?_; rintro e w' ⟨rfl, hb⟩))
    go_ret
    exact BoolPost.no hb
  have p3 : ¬ (24 : Int) < (t.dep : Int) := by omega
  by_cases h4 : 2 < t.nst
  · have p4 : (2 : Int) < (t.nst : Int) := by omega
    go_enter Tryz.func163, Tryz.ntmps163
    go_wp2_with (first | (go_at_call 177; refine (one_r t.flat hl A c B _ H.out).mono ?_; rintro e w' ⟨rfl, rfl⟩) | (go_at_call 178; refine (depth_r t ht hl A c B _ hB H.out).mono ?_; rintro e w1 ⟨rfl, hb1⟩; have H1 := Lib.hid (PairsAt.to (Holds_.below (hb1.mono hB)) H.out)) | (go_at_call 179; refine (nest_r t ht hl A c B _ (Nat.le_trans hB hb1.size) H1.out).mono ?_; rintro e w2 ⟨rfl, hb2⟩))
    go_ret
    exact BoolPost.no (below_step hb2 hb1)
  have p4 : ¬ (2 : Int) < (t.nst : Int) := by omega
  go_enter Tryz.func163, Tryz.ntmps163
  go_wp2_with (first | (go_at_call 177; refine (one_r t.flat hl A c B _ H.out).mono ?_; rintro e w' ⟨rfl, rfl⟩) | (go_at_call 178; refine (depth_r t ht hl A c B _ hB H.out).mono ?_; rintro e w1 ⟨rfl, hb1⟩; have H1 := Lib.hid (PairsAt.to (Holds_.below (hb1.mono hB)) H.out)) | (go_at_call 179; refine (nest_r t ht hl A c B _ (Nat.le_trans hB hb1.size) H1.out).mono ?_; rintro e w2 ⟨rfl, hb2⟩; have HB2 := Lib.hid (below_step hb2 hb1); clear hb1 hb2))
  clear H1
  go_loopw [5] (ArgRel w t.flat n) (fun i _ => t.flat.length - (intOf i).toNat)
  case atStart => exact ⟨0, rfl, Nat.zero_le _, by simp, HB2.out⟩
  case round =>
    obtain ⟨k, rfl, hk, hall, hb⟩ := hrel
    have HALL := Lib.hid hall
    have HB := Lib.hid hb
    clear hall hb HB2
    by_cases hlt : k < t.flat.length
    · obtain ⟨ad, rfl, hbl, c0, c1⟩ := pair_at (PairsAt.to (Holds_.below (HB.out.mono hB)) H.out) hlt
      have HLT := Lib.hid hlt
      have HNX := Lib.hid (fun h => take_all HALL.out hlt h)
      generalize t.flat[k] = x at *
      have k0 : (0 : Int) ≤ (k : Int) := by omega
      have k1 : (k : Int) < (t.flat.length : Int) := by omega
      cases hx : argOk n x
      · have HX := Lib.hid hx
        clear hx
        go_wp2_with (go_at_call 180; refine (arg_r x n _).mono ?_; rintro e w' ⟨rfl, hb⟩; rw [HX.out])
        go_ret
        exact BoolPost.no (below_step hb HB.out)
      · have HX := Lib.hid hx
        clear hx
        go_wp2_with (go_at_call 180; refine (arg_r x n _).mono ?_; rintro e w' ⟨rfl, hb⟩; rw [HX.out])
        go_roundw
        case rel => exact ⟨k + 1, by go_num, by have := HLT.out; omega, HNX.out HX.out, below_step hb HB.out⟩
        case measure => simp [intOf]; omega
    · obtain rfl : k = t.flat.length := by omega
      go_wp2
      go_ret
      exact ⟨true, rfl, fun _ => ⟨t, ht, rfl, by omega, by omega, by omega, by have := HALL.out; rwa [List.take_length] at this⟩, HB.out⟩
end Go.Proofs.YtdfklagiafmoiaaGreatDoor

/- Types on both sides: small functions; the reference's kind. -/
namespace Go.Proofs.YtdfklagiafmoiaaGreatDoor
open Go.RowKit

def knownK (k : Int) : Bool := decide (k = 1 ∨ k = 2 ∨ k = 3)
def inR (v lo hi : Int) : Bool := decide (lo ≤ v ∧ v ≤ hi)
theorem known_r (k : Int) (w : World) : Calls Tryz.prog 162 #[.int .i64 k] w fun e w' => e = .returned (.bool (knownK k)) ∧ w = w' := by
  go_enter Tryz.func162, Tryz.ntmps162
  go_wp2
  all_goals ((go_ret; refine ⟨ret_bool (bool_ext ?_), ?_⟩; ((try simp only [] at *); (try unfold knownK); (try dsimp only); (repeat' split) <;> (try simp only [decide_eq_true_eq, beq_iff_eq, Bool.or_eq_true, true_iff]) <;> (try omega))); rfl)
theorem possible_p (k : Int) (w : World) : Calls Tryz.prog 95 #[.int .i64 k] w fun e w' => e = .returned (.bool (knownK k)) ∧ w = w' := by
  go_enter Tryz.func95, Tryz.ntmps95
  go_wp2
  all_goals ((go_ret; refine ⟨ret_bool (bool_ext ?_), ?_⟩; ((try simp only [] at *); (try unfold knownK); (try dsimp only); (repeat' split) <;> (try simp only [decide_eq_true_eq, beq_iff_eq, Bool.or_eq_true, true_iff]) <;> (try omega))); rfl)
theorem in7_r (v lo hi : Int) (w : World) : Calls Tryz.prog 139 #[.int .i64 v, .int .i64 lo, .int .i64 hi] w fun e w' => e = .returned (.bool (inR v lo hi)) ∧ w = w' := by
  go_enter Tryz.func139, Tryz.ntmps139
  go_wp2
  all_goals ((go_ret; refine ⟨ret_bool (bool_ext ?_), ?_⟩; ((try simp only [decide_eq_true_eq] at *); (try unfold inR); (try dsimp only); (repeat' split) <;> (try simp only [decide_eq_true_eq, Bool.false_eq_true, false_iff]) <;> (try omega))); rfl)
theorem in1_r (v lo hi : Int) (w : World) : Calls Tryz.prog 49 #[.int .i64 v, .int .i64 lo, .int .i64 hi] w fun e w' => e = .returned (.bool (inR v lo hi)) ∧ w = w' := by
  go_enter Tryz.func49, Tryz.ntmps49
  go_wp2
  all_goals ((go_ret; refine ⟨ret_bool (bool_ext ?_), ?_⟩; ((try simp only [decide_eq_true_eq] at *); (try unfold inR); (try dsimp only); (repeat' split) <;> (try simp only [decide_eq_true_eq, Bool.false_eq_true, false_iff]) <;> (try omega))); rfl)
theorem within_p (v lo hi : Int) (w : World) : Calls Tryz.prog 96 #[.int .i64 v, .int .i64 lo, .int .i64 hi] w fun e w' => e = .returned (.bool (inR v lo hi)) ∧ w = w' := by
  go_enter Tryz.func96, Tryz.ntmps96
  go_wp2
  all_goals ((go_ret; refine ⟨ret_bool (bool_ext ?_), ?_⟩; ((try simp only [decide_eq_true_eq] at *); (try unfold inR); (try dsimp only); (repeat' split) <;> (try simp only [decide_eq_true_eq, Bool.false_eq_true, false_iff]) <;> (try omega))); rfl)
set_option maxHeartbeats 2000000 in
theorem single_r (op a : Int) (w : World) : Calls Tryz.prog 183 #[.int .i64 op, .int .i64 a] w fun e w' => e = .returned (.int .i64 (single op a)) ∧ w = w' := by
  go_enter Tryz.func183, Tryz.ntmps183
  go_wp2
  all_goals ((go_ret; refine ⟨ret_int ?_, ?_⟩; ((try simp only [beq_iff_eq, beq_eq_false_iff_ne, bne_iff_ne, bne_eq_false_iff_eq, ne_eq] at *); (try unfold single wants gives); (try dsimp only); (try simp only [eq_self, reduceCtorEq, true_and, false_and, and_true, and_false, if_true, if_false]); (repeat' split) <;> first | rfl | (exfalso; omega) | omega | (simp; done) | (simp_all; done))); rfl)
set_option maxHeartbeats 2000000 in
theorem double_r (op a b : Int) (w : World) : Calls Tryz.prog 185 #[.int .i64 op, .int .i64 a, .int .i64 b] w fun e w' => e = .returned (.int .i64 (double op a b)) ∧ w = w' := by
  go_enter Tryz.func185, Tryz.ntmps185
  go_wp2
  all_goals ((go_ret; refine ⟨ret_int ?_, ?_⟩; ((try simp only [beq_iff_eq, beq_eq_false_iff_ne, bne_iff_ne, bne_eq_false_iff_eq, ne_eq] at *); (try unfold double); (try dsimp only); (try simp only [eq_self, reduceCtorEq, true_and, false_and, and_true, and_false, if_true, if_false]); (repeat' split) <;> first | rfl | (exfalso; omega) | omega | (simp; done) | (simp_all; done))); rfl)
theorem ift_p (b : Bool) (k : Int) (w : World) : Calls Tryz.prog 169 #[.bool b, .int .i64 k] w fun e w' => e = .returned (.int .i64 (if b then k else 0)) ∧ w = w' := by
  cases b
  all_goals
    go_enter Tryz.func169, Tryz.ntmps169
    go_wp2
    go_ret
    exact ⟨rfl, rfl⟩

/-- the variable of a term there is -/
def argIn (n : Nat) (t : Tm) : Prop := t.1 = 5 ∨ t.1 = 12 → 0 ≤ t.2 ∧ t.2 < n
theorem argIn_of {n : Nat} {t : Tm} (h : argOk n t = true) : argIn n t := by
  intro h5
  unfold argOk at h
  rw [if_neg (by omega), if_pos (by omega)] at h
  simpa using h
set_option maxRecDepth 100000 in
set_option maxHeartbeats 4000000 in
theorem leaf_r (t : Tm) (ks : List Int) (bd : Bool) (ht : argIn ks.length t) (A : Option Addr) (c : Nat) (w : World) (h : IntsAt w w.heap.size (.slice A ks.length c) ks) :
    Calls Tryz.prog 182 #[.agg #[.int .i64 t.1, .int .i64 t.2], .slice A ks.length c, .bool bd] w fun e w' => e = .returned (.int .i64 (leafTy ks bd t)) ∧ Below w.heap.size w w' := by
  by_cases h5 : t.1 = 5 ∨ t.1 = 12
  · obtain ⟨a0, a1⟩ := ht h5
    obtain ⟨k, hk⟩ : ∃ k : Nat, t.2 = k := ⟨t.2.toNat, by omega⟩
    have hkl : k < ks.length := by omega
    obtain ⟨ad, rfl, hb, c0⟩ := int_at h hkl
    have hg : ks.getD t.2.toNat 0 = ks[k] := by rw [hk, Int.toNat_natCast, List.getD_eq_getElem?_getD, List.getElem?_eq_getElem hkl, Option.getD_some]
    obtain ⟨op, arg⟩ := t
    dsimp only at *
    subst hk
    have HG := Lib.hid hg
    clear h ht hg
    generalize ks[k] = z at *
    have k0 : (0 : Int) ≤ (k : Int) := by omega
    have k1 : (k : Int) < (ks.length : Int) := by omega
    have hb' : (ad.add k).block < w.heap.size := by rw [block_of_add]; exact hb
    rcases h5 with rfl | rfl
    · go_enter Tryz.func182, Tryz.ntmps182
      cases bd
      all_goals
        go_wp2
        go_ret
        exact ⟨ret_int (by unfold leafTy; dsimp only; rw [HG.out]; simp [leafTy0]), by (repeat (with_reducible first | exact Below.refl _ _ | refine Below.setCell ?_ (by first | exact Nat.le_refl _ | (simp only [World.size_alloc]; omega)) _ | refine below_drewN ?_ _ | refine Below.drew ?_ | refine Below.alloc ?_ (by first | exact Nat.le_refl _ | (simp only [World.size_alloc]; omega)) _ | assumption))⟩
    · cases bd
      all_goals
        go_enter Tryz.func182, Tryz.ntmps182
        go_wp2
        go_ret
        exact ⟨ret_int (by unfold leafTy; dsimp only; rw [HG.out]; simp [leafTy0]), by (repeat (with_reducible first | exact Below.refl _ _ | refine Below.setCell ?_ (by first | exact Nat.le_refl _ | (simp only [World.size_alloc]; omega)) _ | refine below_drewN ?_ _ | refine Below.drew ?_ | refine Below.alloc ?_ (by first | exact Nat.le_refl _ | (simp only [World.size_alloc]; omega)) _ | assumption))⟩
  · have e5 : (t.1 == 5) = false := beq_eq_false_iff_ne.2 (by omega)
    have e12 : (t.1 == 12) = false := beq_eq_false_iff_ne.2 (by omega)
    cases bd
    all_goals
      go_enter Tryz.func182, Tryz.ntmps182
      go_wp2
      all_goals ((go_ret; refine ⟨ret_int ?_, ?_⟩; ((try simp only [beq_iff_eq, beq_eq_false_iff_ne, ne_eq] at *); (try unfold leafTy leafTy0); (try dsimp only); (try simp only [eq_self, reduceCtorEq, true_and, false_and, if_false]); (repeat' split) <;> first | rfl | (exfalso; omega) | omega | (simp; done) | (simp_all; done))); (repeat (with_reducible first | exact Below.refl _ _ | refine Below.setCell ?_ (by first | exact Nat.le_refl _ | (simp only [World.size_alloc]; omega)) _ | refine below_drewN ?_ _ | refine Below.drew ?_ | refine Below.alloc ?_ (by first | exact Nat.le_refl _ | (simp only [World.size_alloc]; omega)) _ | assumption)))
end Go.Proofs.YtdfklagiafmoiaaGreatDoor
