/- ref21.all. -/
import Derived.Test.YtnjbofahboopoaaB3
import Derived.Test.YtnjbofahboopoaaG6
namespace Go.Proofs.Ytnjbofahboopoaa
open Go.RowKit

theorem marks_snocB (k : Nat) (f : Nat → Bool) : marks (k + 1) f = marks k f ++ [f k] := by
  unfold marks; rw [List.range_succ, List.map_append]; rfl
theorem one_BB (b : Bool) : ∀ u ∈ [Value.bool b], u.oneCell' = true := by simp [Value.oneCell']
theorem all24s (w : World) : Calls Try.prog 19 #[.int .i64 24] w fun e w' => e = .returned (.int .u32 16777215) ∧ w' = w := (all24 w).mono fun _ _ ⟨h1, h2⟩ => ⟨h1, h2.symm⟩
theorem all_mask (x : Nat) (hx : x < 4294967296) : (bits .and .u32 (x : Int) 16777215 == 16777215) = PlT.allTo x 24 := by
  rw [show (16777215 : Int) = ((16777215 : Nat) : Int) from rfl, u32_and_nat _ _ hx (by decide)]
  have e : x &&& 16777215 = x % 16777216 := Nat.and_two_pow_sub_one_eq_mod x 24
  rw [e, Bool.eq_iff_iff, ← PlT.allTo24, beq_iff_eq]
  omega
/-- a slice of marks of the call's own -/
def OwnMk (w : World) (m : Nat) (f : Nat → Bool) (e : Ending) (w' : World) : Prop :=
  ∃ v, e = .returned v ∧ w'.ownsRow w.heap.size 4 1 v m ((marks m f).map Value.bool) ∧ Below w.heap.size w w'
def RaL (w : World) (sp : Array Value) (gi gs m : Nat) (s : PlT.Kp) (b : Nat) (wr : World) : Prop :=
  ∃ ct : Nat → Nat, Mem w [cB w.heap.size gi 3 (nums m (nI ct)).toArray, cB w.heap.size gs 39 (valU m s.srv).toArray, cB w.heap.size w.heap.size 25 sp] wr ∧ (∀ j, s.ins j = decide (0 < ct j)) ∧ ∀ j, ct j ≤ b
theorem nums_set_nI (n : Nat) (f : Nat → Nat) (k : Nat) (z : Int) (v : Nat) (h : z = (v : Int)) : (nums n (nI f)).toArray.setIfInBounds k (.int .i64 z) = (nums n (nI (PlT.upd f k v))).toArray := by
  subst h
  refine nums_set_f n _ _ k _ fun q => ?_
  unfold nI PlT.upd
  split <;> rfl
theorem valU_set' (n : Nat) (f : Nat → Nat) (k v : Nat) : (valU n f).toArray.setIfInBounds k (.int .u32 (v : Int)) = (valU n (PlT.upd f k v)).toArray := by
  rw [List.setIfInBounds_toArray, valU_set]
theorem RaL.srv {w wr : World} {sp : Array Value} {gi gs m b : Nat} {s : PlT.Kp} (h : RaL w sp gi gs m s b wr) (j v : Nat) : RaL w sp gi gs m ⟨s.ins, PlT.upd s.srv j v⟩ b (wr.setCell ⟨gs, j, none⟩ (.int .u32 (v : Int))) := by
  obtain ⟨ct, hM, h1, h2⟩ := h
  exact ⟨ct, hM.set_ 1 rfl j _ (valU_set' m s.srv j v), h1, h2⟩
theorem RaL.drew {w wr : World} {sp : Array Value} {gi gs m b : Nat} {s : PlT.Kp} (h : RaL w sp gi gs m s b wr) : RaL w sp gi gs m s b wr.drew := by
  obtain ⟨ct, hM, h1, h2⟩ := h
  exact ⟨ct, hM.drew, h1, h2⟩
theorem RaL.drewN {w wr : World} {sp : Array Value} {gi gs m b : Nat} {s : PlT.Kp} (h : RaL w sp gi gs m s b wr) (d : Nat) : RaL w sp gi gs m s b (wr.drewN d) := by
  obtain ⟨ct, hM, h1, h2⟩ := h
  exact ⟨ct, hM.drewN d, h1, h2⟩
theorem RaL.more {w wr : World} {sp : Array Value} {gi gs m b b' : Nat} {s : PlT.Kp} (h : RaL w sp gi gs m s b wr) (hb : b ≤ b') : RaL w sp gi gs m s b' wr := by
  obtain ⟨ct, hM, h1, h2⟩ := h
  exact ⟨ct, hM, h1, fun j => Nat.le_trans (h2 j) hb⟩

theorem grall {w x : World} {row : Option Nat} (h : w.grownBy x row) (o : Obj) : w.grownBy (x.alloc o) row :=
  ⟨h.os, h.tape, h.output, by have := h.size; simp; omega, fun i hi hne => (Below.heap_alloc x o i (Nat.lt_of_lt_of_le hi h.size)).trans (h.block i hi hne)⟩
theorem grdrw {w x : World} {row : Option Nat} (h : w.grownBy x row) : w.grownBy x.drew row := ⟨h.os, h.tape, h.output, h.size, h.block⟩
theorem valU_made (n : Nat) : madeCells #[.int .u32 0] n = (valU n (fun _ => 0)).toArray := by
  have e : valU n (fun _ => 0) = List.replicate n (.int .u32 0) := by
    apply List.ext_getElem
    · simp [valU]
    · intro i h1 h2; simp [valU]
  rw [e, made_list]
theorem ral_start1 {w wr : World} {sp : Array Value} (h : Mem w [cB w.heap.size w.heap.size 25 sp] wr) (m : Nat) (c : Nat → Int) (E : List Nat) (L : List (List Arc)) :
    RaL w sp wr.heap.size (wr.heap.size + 1) m (PlT.kpTo c E L 0) 0 ((wr.alloc (.cells (madeCells #[.int .i64 0] m) 3)).alloc (.cells (madeCells #[.int .u32 0] m) 39)).drew := by
  have h1 := ((h.new 3 (madeCells #[.int .i64 0] m)).new 39 (madeCells #[.int .u32 0] m)).drew
  rw [World.size_alloc] at h1
  refine ⟨fun _ => 0, ?_, fun j => by simp [PlT.kpTo], fun _ => Nat.le_refl _⟩
  rw [show nums m (nI fun _ => 0) = nums m (fun _ => 0) from rfl, ← nums_made, show (PlT.kpTo c E L 0).srv = fun _ => 0 from rfl, ← valU_made]
  exact h1.perm (List.Perm.swap _ _ _)
theorem ral_start2 {w wr : World} {sp : Array Value} (h : Mem w [cB w.heap.size w.heap.size 25 sp] wr) (m : Nat) (c : Nat → Int) (E : List Nat) (L : List (List Arc)) :
    RaL w sp (wr.heap.size + 1) wr.heap.size m (PlT.kpTo c E L 0) 0 ((wr.alloc (.cells (madeCells #[.int .u32 0] m) 39)).alloc (.cells (madeCells #[.int .i64 0] m) 3)).drew := by
  have h1 := ((h.new 39 (madeCells #[.int .u32 0] m)).new 3 (madeCells #[.int .i64 0] m)).drew
  rw [World.size_alloc] at h1
  refine ⟨fun _ => 0, ?_, fun j => by simp [PlT.kpTo], fun _ => Nat.le_refl _⟩
  rw [show nums m (nI fun _ => 0) = nums m (fun _ => 0) from rfl, ← nums_made, show (PlT.kpTo c E L 0).srv = fun _ => 0 from rfl, ← valU_made]
  exact h1

set_option maxRecDepth 100000 in
set_option maxHeartbeats 4000000 in
theorem rall_ok (n : Nat) (E : List Nat) (L : List (List Arc)) (v : Value) (hE : WfE E) (hL : WfL L) (hEn : E.length = n) (hLn : L.length = n) (hn1 : 1 ≤ n) (hn : n ≤ 32768) (hto : ∀ k (hk : k < L.length), ∀ x ∈ L[k], 0 ≤ x.2 ∧ x.2 < (n : Int))
    (c : Nat → Int) (m : Nat) (cm : Nat → Nat) (hm0 : cm 0 = 0) (hmn : cm n = m) (hms : ∀ k, k < n → (cm (k + 1) : Int) = max (cm k : Int) (c k + 1)) (hmle : ∀ k, k ≤ n → cm k ≤ k) (hc : ∀ k, k < n → -1 ≤ c k ∧ c k < m)
    (Ac : Option Addr) (cc : Nat) (w : World) (hS : SpaceAt w w.heap.size v E L) (hcr : Reads w w.heap.size 1 Ac n (nums n c)) :
    Calls Try.prog 31 #[v, .slice Ac n cc] w (OwnMk w m (PlT.keptB c E L n)) := by
  obtain ⟨ve, va, rfl, ⟨Ae, ce, rfl, re⟩, ⟨Aa, ca, rows, rfl, ra, hk⟩⟩ := hS
  subst hEn
  rw [hLn] at ra ⊢
  obtain ⟨aa, hA, -⟩ := ra.2 (by omega)
  subst hA
  obtain ⟨ae, hA, -⟩ := re.2 (by omega)
  subst hA
  obtain ⟨ac, hA, -⟩ := hcr.2 (by omega)
  subst hA
  have RE := Lib.hid re
  have RA := Lib.hid ra
  have HK := Lib.hid hk
  have HE := Lib.hid hE
  have HL := Lib.hid hL
  have HLN := Lib.hid hLn
  have HTO := Lib.hid hto
  have RC := Lib.hid hcr
  have HMS := Lib.hid hms
  have HMN := Lib.hid hmn
  have HMLE := Lib.hid hmle
  have HC := Lib.hid hc
  generalize hnn : E.length = n at *
  have HNN := Lib.hid hnn
  clear re ra hk hE hL hLn hto hcr hms hmn hmle hc hnn
  have HLW := Lib.hid (show ∀ x, ∀ a ∈ L.getD x [], a.1 < 4294967296 from fun x a ha => by
    by_cases hx : x < L.length
    · rw [getD_l [] hx] at ha
      obtain ⟨i, hi, rfl⟩ := List.getElem_of_mem ha
      exact (HL.out x hx).2 i hi
    · rw [List.getD_eq_getElem?_getD, List.getElem?_eq_none (by omega)] at ha
      cases ha)
  go_enter Try.func31, Try.ntmps31
  go_wp2_with fail
  go_loopw [5, 6] (fun x i wr => ∃ k : Nat, k ≤ n ∧ i = .int .i64 k ∧ x = .int .i64 (cm k : Int) ∧ Mem w [cB w.heap.size w.heap.size 25 #[.slice (some ae) n ce, .slice (some aa) n ca]] wr) (fun _ i _ => n - (intOf i).toNat)
  case atStart => exact ⟨0, Nat.zero_le _, rfl, by rw [hm0]; rfl, (Mem.start w).new _ _⟩
  case round =>
    obtain ⟨k, hk, rfl, rfl, hM⟩ := hrel
    have HM := Lib.hid hM
    by_cases hlt : k < n
    · obtain ⟨ad', hA, hbl, c0⟩ := num_rd (RC.out.below hM.bel) hlt
      obtain rfl : ac = ad' := by injection hA
      have hck := HC.out k hlt
      have hs1 := HMS.out k hlt
      have hl1 := HMLE.out k hk
      have hm1 : m ≤ n := by have := HMLE.out n (Nat.le_refl _); rw [HMN.out] at this; exact this
      have k0 : (0 : Int) ≤ (k : Int) := by omega
      have k1 : (k : Int) < (n : Int) := by omega
      have k2 : k < n := hlt
      clear hA hM
      generalize c k = x at *
      have HS1 := Lib.hid hs1
      clear hs1
      go_wp2
      refine ⟨⟨k + 1, by omega, by go_num, ?_, HM.out⟩, by simp [intOf]; omega⟩
      rw [HS1.out, Int.max_def]
      congr 1
      split <;> split <;> omega
    · obtain rfl : n = k := by omega
      rw [HMN.out]
      have hm1 : m ≤ n := by have := HMLE.out n (Nat.le_refl _); rw [HMN.out] at this; exact this
      have hmk1 := run_make_row' (P := Try.prog) 33 3 (.int .i64 0) 8 Try.underlying33 Try.infoIntG rfl .i64 .i64 m (by omega) (by omega)
      have hmk2 := run_make_row' (P := Try.prog) 22 39 (.int .u32 0) 4 Try.underlying22 Try.infoU32 rfl .i64 .i64 m (by omega) (by omega)
      clear hM
      go_upto_region 6 with fail
      go_cut [7, 8] (fun p q wx => ∃ gi gs, p = .slice (some ⟨gi, 0, none⟩) m m ∧ q = .slice (some ⟨gs, 0, none⟩) m m ∧ RaL w #[.slice (some ae) n ce, .slice (some aa) n ca] gi gs m (PlT.kpTo c E L 0) 0 wx)
      case first =>
        go_region_held3 (fun x => True) (exact trivial) (first | fail)
        all_goals
          go_wp2_with fail
          go_meet
        · exact ⟨_, _, rfl, rfl, ral_start1 HM.out m c E L⟩
        · exact ⟨_, _, rfl, rfl, ral_start2 HM.out m c E L⟩
      case rest =>
        obtain ⟨gi, gs, rfl, rfl, hR⟩ := hcut
        have HST := Lib.hid hR
        clear hmk1 hmk2 hR HM
        go_wp2_with fail
        go_loopw [9] (fun i wx => ∃ k : Nat, k ≤ n ∧ i = .int .i64 k ∧ RaL w #[.slice (some ae) n ce, .slice (some aa) n ca] gi gs m (PlT.kpTo c E L k) (k * 1000000) wx) (fun i _ => n - (intOf i).toNat)
        case atStart => exact ⟨0, Nat.zero_le _, rfl, by rw [Nat.zero_mul]; exact HST.out⟩
        case round =>
          clear HST
          obtain ⟨k, hk, rfl, hR⟩ := hrel
          have HR := Lib.hid hR
          obtain ⟨ct, hM, hct, hcb⟩ := hR
          by_cases hlt : k < n
          · obtain ⟨ad', hA, hbl, c0⟩ := num_rd (RC.out.below hM.bel) hlt
            obtain rfl : ac = ad' := by injection hA
            have hck := HC.out k hlt
            have k0 : (0 : Int) ≤ (k : Int) := by omega
            have k1 : (k : Int) < (n : Int) := by omega
            have hstep : PlT.kpTo c E L (k + 1) = PlT.stStep c E L (PlT.kpTo c E L k) k := rfl
            unfold PlT.stStep at hstep
            by_cases hneg : c k < 0
            · rw [if_pos hneg] at hstep
              have HSTEP := Lib.hid hstep
              clear hstep hA hM hct hcb
              generalize c k = x at *
              go_wp2
              refine ⟨⟨k + 1, by omega, by go_num, by rw [HSTEP.out]; exact HR.out.more (by omega)⟩, by simp [intOf]; omega⟩
            · rw [if_neg hneg] at hstep
              have hkE : k < E.length := by have := HNN.out; omega
              have hkL : k < L.length := by have := HLN.out; omega
              have hek := HE.out k hkE
              obtain ⟨aE, hAE, hble, ce0⟩ := set_at (show Reads wr w.heap.size 1 (some ae) E.length (E.map fun z : Nat => Value.int .u32 (z : Int)) by rw [HNN.out]; exact RE.out.below hM.bel) hkE
              obtain rfl : ae = aE := by injection hAE
              obtain ⟨aL, Ak, ck, hAL, hbla, cr, rk⟩ := row_at (show Reads wr w.heap.size 1 (some aa) L.length rows by rw [HLN.out]; exact RA.out.below hM.bel) (fun k l hl => let ⟨u, hu, ha⟩ := HK.out k l hl; (⟨u, hu, ha.below hM.bel⟩ : ∃ u, rows[k]? = some u ∧ ArcsAt wr w.heap.size u l)) hkL
              obtain rfl : aa = aL := by injection hAL
              have hll := (HL.out k hkL).1
              have HLS := Lib.hid (HL.out k hkL).2
              have HTS := Lib.hid (HTO.out k hkL)
              have RK0 := Lib.hid (show Reads w w.heap.size 2 Ak L[k].length (L[k].flatMap arcCells) from rk.keep fun p hp => (hM.bel.cell hp).symm)
              have HCR := Lib.hid ((hM.bel.cell (p := aa.add k) (by rw [block_of_add]; exact hbla)).symm.trans cr)
              have HCK := Lib.hid ((hM.bel.cell (p := ac.add k) (by rw [block_of_add]; exact hbl)).symm.trans c0)
              rw [getD_l 0 hkE, getD_l [] hkL] at hstep
              generalize L[k] = l at *
              generalize E[k] = e at *
              obtain ⟨J, hJ⟩ : ∃ J : Nat, c k = (J : Int) := ⟨(c k).toNat, by omega⟩
              rw [hJ] at c0 hck hneg hstep HCK
              rw [Int.toNat_natCast] at hstep
              have HSTEP := Lib.hid hstep
              have hJm : J < m := by omega
              have bu := (hM.get 1 rfl).2
              have cu := valU_at bu hJm
              have cuf := bu.frozen J
              have hbu := bu.lt
              have hsv : (PlT.kpTo c E L k).srv J < 4294967296 := PlT.kp_lt HLW.out k J
              have HK2 := Lib.hid (HR.out.srv J ((PlT.kpTo c E L k).srv J ||| (4294967295 - e)))
              have HOL := Lib.hid (fun i => PlT.own_lt e J i (PlT.kpTo c E L k) (PlT.kp_lt HLW.out k i))
              have HOWN := Lib.hid (show PlT.own e J (PlT.kpTo c E L k) = ⟨(PlT.kpTo c E L k).ins, PlT.upd (PlT.kpTo c E L k).srv J ((PlT.kpTo c E L k).srv J ||| (4294967295 - e))⟩ from rfl)
              generalize (PlT.kpTo c E L k).srv J = sv at *
              obtain ⟨p0, p1, pf⟩ := blk2 (hM.get 2 rfl).2
              have J0 : (0 : Int) ≤ (J : Int) := by omega
              have J1 : (J : Int) < (m : Int) := by omega
              have hnx := not32 hek
              have hor := u32_or_nat sv (4294967295 - e) hsv (by omega)
              have hdl : decide ((J : Int) < 0) = false := decide_eq_false (by omega)
              clear hstep hA hM hct hcb bu hAE hAL rk hJ
              go_upto_region 11 with fail
              go_still_tail 15, (by kernel_rfl)
              change wpList _ _ _ _ _ wr.drew
              go_upto_region 12 with fail
              generalize hW1 : World.drew _ = W1
              have hR1 : RaL w #[.slice (some ae) n ce, .slice (some aa) n ca] gi gs m (PlT.own e J (PlT.kpTo c E L k)) (k * 1000000) W1 := by
                rw [← hW1, HOWN.out, show (if IntKind.u32.signed = true then (-1 : Int) else IntKind.u32.max) = 4294967295 from rfl, hnx, hor]; exact HK2.out.drew
              have HR1 := Lib.hid hR1
              clear hW1 hR1 p0 p1 pf cu cuf c0 ce0 cr hnx hor HR HK2 HOWN hbu hsv
              generalize PlT.own e J (PlT.kpTo c E L k) = s0 at *
              go_wp2_with fail
              go_loopw [10] (fun i wx => ∃ j : Nat, j ≤ l.length ∧ i = .int .i64 j ∧ RaL w #[.slice (some ae) n ce, .slice (some aa) n ca] gi gs m ((l.take j).foldl (PlT.arcStep c J) s0) (k * 1000000 + j) wx) (fun i _ => l.length - (intOf i).toNat)
              case atStart => exact ⟨0, Nat.zero_le _, rfl, HR1.out.more (by omega)⟩
              case round =>
                clear HR1
                obtain ⟨j, hj, rfl, hR⟩ := hrel
                have HR := Lib.hid hR
                obtain ⟨ct, hM, hct, hcb⟩ := hR
                have cr := (hM.bel.cell (p := aa.add k) (by rw [block_of_add]; exact hbla)).trans HCR.out
                obtain ⟨p0, p1, pf⟩ := blk2 (hM.get 2 rfl).2
                by_cases hlt2 : j < l.length
                · obtain ⟨ad2, hA, hbl2, a0, a1⟩ := arc_at (RK0.out.below hM.bel) hlt2
                  subst hA
                  have hx := HTS.out l[j] (List.getElem_mem _)
                  have hx1 := HLS.out j hlt2
                  have HFT := Lib.hid (fold_take (PlT.arcStep c J) s0 l hlt2)
                  have HSL := Lib.hid (PlT.fold_lt (c := c) J J (l.take j) s0 (HOL.out J) (fun a ha => by obtain ⟨i, hi, rfl⟩ := List.getElem_of_mem (List.mem_of_mem_take ha); exact HLS.out i hi))
                  generalize hxe : l[j] = x at *
                  generalize (l.take j).foldl (PlT.arcStep c J) s0 = s1 at *
                  obtain ⟨xs, xt⟩ := x
                  dsimp only at a0 a1 hx hx1
                  have HX := Lib.hid hxe
                  clear hxe
                  obtain ⟨t, rfl⟩ : ∃ t : Nat, xt = (t : Int) := ⟨xt.toNat, by omega⟩
                  have htn : t < n := by omega
                  have hft := HFT.out
                  rw [show PlT.arcStep c J s1 (xs, (t : Int)) = if c t = (J : Int) then ⟨PlT.upd s1.ins J true, PlT.upd s1.srv J (s1.srv J ||| xs)⟩ else s1 from rfl] at hft
                  obtain ⟨ad', hA, hbl', c0⟩ := num_rd (RC.out.below hM.bel) htn
                  obtain rfl : ac = ad' := by injection hA
                  have cK := (hM.bel.cell (p := ac.add k) (by rw [block_of_add]; exact hbl)).trans HCK.out
                  have j0 : (0 : Int) ≤ (j : Int) := by omega
                  have j1 : (j : Int) < (l.length : Int) := by omega
                  have t0 : (0 : Int) ≤ (t : Int) := by omega
                  have t1 : (t : Int) < (n : Int) := by omega
                  have t9 : decide ((j : Int) < (l.length : Int)) = true := decide_eq_true (by omega)
                  have t9' : decide (j < l.length) = true := decide_eq_true hlt2
                  clear hA HFT hx
                  by_cases hctt : c t = (J : Int)
                  · rw [if_pos hctt] at hft
                    have hqq : (c t == (J : Int)) = true := by rw [beq_iff_eq]; exact hctt
                    have HFT := Lib.hid hft
                    have bi := (hM.get 0 rfl).2
                    have ci := num_at bi hJm
                    unfold nI at ci
                    have cif := bi.frozen J
                    have hbi := bi.lt
                    have hcb1 := hcb J
                    have hw1 := IntWalk.i64_in ((ct J : Int) + 1) (by omega)
                    have HRR := Lib.hid (fun (d : Nat) => show RaL w #[.slice (some ae) n ce, .slice (some aa) n ca] gi gs m ⟨PlT.upd s1.ins J true, s1.srv⟩ (k * 1000000 + (j + 1)) ((wr.drewN d).setCell ⟨gi, J, none⟩ (.int .i64 ((ct J : Int) + 1))) from
                      ⟨PlT.upd ct J (ct J + 1), (hM.drewN d).set_ 0 rfl J _ (nums_set_nI m ct J _ (ct J + 1) (by omega)), fun a => by
                        dsimp only
                        unfold PlT.upd
                        by_cases e : a = J
                        · rw [if_pos e, if_pos e, decide_eq_true (by omega)]
                        · rw [if_neg e, if_neg e]; exact hct a, fun a => by
                        unfold PlT.upd
                        split
                        · omega
                        · have := hcb a; omega⟩)
                    have hsl := HSL.out
                    have hor := u32_or_nat (s1.srv J) xs hsl hx1
                    generalize hsvv : s1.srv J = sv at *
                    have HSVV := Lib.hid hsvv
                    clear hft hM hct hcb bi hctt hsvv
                    go_upto_region 15 with fail
                    go_quiet (fail)
                    go_upto_region 17 with fail
                    generalize hW2 : World.setCell _ _ _ = W2
                    have HR2 : Hid (RaL w #[.slice (some ae) n ce, .slice (some aa) n ca] gi gs m ⟨PlT.upd s1.ins J true, s1.srv⟩ (k * 1000000 + (j + 1)) W2) := by rw [← hW2]; exact Lib.hid (HRR.out _)
                    clear hW2 HRR p0 p1 pf cr a0 a1 c0 cK ci cif hbi
                    obtain ⟨ct2, hM2, -, -⟩ := HR2.out
                    obtain ⟨ad2', hA, -, a0, a1⟩ := arc_at (RK0.out.below hM2.bel) hlt2
                    obtain rfl : ad2 = ad2' := by injection hA
                    have cr := (hM2.bel.cell (p := aa.add k) (by rw [block_of_add]; exact hbla)).trans HCR.out
                    have cK := (hM2.bel.cell (p := ac.add k) (by rw [block_of_add]; exact hbl)).trans HCK.out
                    obtain ⟨p0, p1, pf⟩ := blk2 (hM2.get 2 rfl).2
                    have bu := (hM2.get 1 rfl).2
                    have cu := valU_at bu hJm
                    dsimp only at cu
                    rw [HSVV.out] at cu
                    have cuf := bu.frozen J
                    have hbu := bu.lt
                    have HST := Lib.hid (HR2.out.srv J (sv ||| xs))
                    rw [HX.out] at a0 a1
                    dsimp only at a0 a1
                    clear hA hM2 bu
                    go_still_tail 18, (by kernel_rfl)
                    change wpList _ _ _ _ _ W2.drew
                    go_wp2
                    refine ⟨⟨j + 1, by omega, by go_num, ?_⟩, by simp [intOf]; omega⟩
                    rw [HFT.out]
                    exact HST.out.drew
                  · rw [if_neg hctt] at hft
                    have hqq : (c t == (J : Int)) = false := beq_eq_false_iff_ne.2 hctt
                    have HFT := Lib.hid hft
                    clear hft hM hct hcb hctt
                    go_upto_region 15 with fail
                    go_quiet (fail)
                    go_wp2
                    refine ⟨⟨j + 1, by omega, by go_num, ?_⟩, by simp [intOf]; omega⟩
                    rw [HFT.out]
                    exact (HR.out.drewN _).more (by omega)
                · obtain rfl : l.length = j := by omega
                  rw [List.take_length] at HR
                  clear hM hct hcb
                  go_wp2
                  refine ⟨⟨k + 1, by omega, by go_num, by rw [HSTEP.out]; exact HR.out.more (by omega)⟩, by simp [intOf]; omega⟩
          · obtain rfl : n = k := by omega
            have HSV := Lib.hid (fun j => PlT.kp_lt (c := c) (E := E) HLW.out n j)
            have HKB := Lib.hid (show ∀ j, PlT.keptB c E L n j = ((PlT.kpTo c E L n).ins j && PlT.allTo ((PlT.kpTo c E L n).srv j) 24) from fun _ => rfl)
            generalize PlT.kpTo c E L n = s0 at *
            have HCT := Lib.hid hct
            have HCB := Lib.hid hcb
            have HM0 := Lib.hid (hM.nil_ 4 1)
            obtain ⟨i0, hi0, hz0, hz1, hz2⟩ := info_parts Try.infoBool
            clear hM hct hcb HR
            go_wp2_with fail
            go_loopw [11, 12] (fun v i wx => ∃ k : Nat, k ≤ m ∧ i = .int .i64 k ∧ Mem w [cR w.heap.size 4 1 v k ((marks k (PlT.keptB c E L n)).map Value.bool), cB w.heap.size gi 3 (nums m (nI ct)).toArray, cB w.heap.size gs 39 (valU m s0.srv).toArray, cB w.heap.size w.heap.size 25 #[.slice (some ae) n ce, .slice (some aa) n ca]] wx) (fun _ i _ => m - (intOf i).toNat)
            case atStart => exact ⟨0, Nat.zero_le _, rfl, HM0.out⟩
            case round =>
              clear HM0
              obtain ⟨k, hk, rfl, hM⟩ := hrel
              have HM := Lib.hid hM
              obtain ⟨Av, cv, hvv⟩ := own_sl (hM.get 0 rfl)
              subst hvv
              by_cases hlt : k < m
              · have ci := num_at (hM.get 1 rfl).2 hlt
                unfold nI at ci
                have cu := valU_at (hM.get 2 rfl).2 hlt
                have HGI := Lib.hid (show gi < wr.heap.size ∧ some gi ≠ Value.ownBlock (.slice Av k cv) from ⟨(hM.get 1 rfl).2.lt, Ne.symm (own_blk_ne (hM.get 0 rfl) (hM.get 1 rfl).2 (by decide))⟩)
                have HGS := Lib.hid (show gs < wr.heap.size ∧ some gs ≠ Value.ownBlock (.slice Av k cv) from ⟨(hM.get 2 rfl).2.lt, Ne.symm (own_blk_ne (hM.get 0 rfl) (hM.get 2 rfl).2 (by decide))⟩)
                have k0 : (0 : Int) ≤ (k : Int) := by omega
                have k1 : (k : Int) < (m : Int) := by omega
                have lsz := hM.size
                have HOW := Lib.hid (hM.get 0 rfl)
                have HSN := Lib.hid (marks_snocB k (PlT.keptB c E L n))
                have hkb := HKB.out k
                rw [HCT.out k] at hkb
                have hmask := all_mask (s0.srv k) (HSV.out k)
                have hsvl := HSV.out k
                generalize s0.srv k = sv at *
                by_cases hpos : 0 < ct k
                · rw [decide_eq_true hpos, Bool.true_and, ← hmask] at hkb
                  have t1 : decide ((0 : Int) < (ct k : Int)) = true := decide_eq_true (by omega)
                  have t1' : decide (0 < ct k) = true := decide_eq_true hpos
                  have HKK := Lib.hid hkb
                  clear hM hkb hmask hpos
                  go_upto_region 22 with fail
                  have r1 : ∀ x, wr.grownBy x (Value.ownBlock (.slice Av k cv)) → x.cell? ⟨gi, k, none⟩ = wr.cell? ⟨gi, k, none⟩ := fun x hx => World.cell?_of_block (hx.block gi HGI.out.1 HGI.out.2)
                  have r2 : ∀ x, wr.grownBy x (Value.ownBlock (.slice Av k cv)) → x.cell? ⟨gs, k, none⟩ = wr.cell? ⟨gs, k, none⟩ := fun x hx => World.cell?_of_block (hx.block gs HGS.out.1 HGS.out.2)
                  generalize hbb : (bits .and .u32 (sv : Int) 16777215 == 16777215) = bb at *
                  go_region_held3 (fun x => wr.grownBy x (Value.ownBlock (.slice Av k cv))) (repeat (with_reducible first | exact World.grownBy.refl _ _ | assumption | refine grall ?_ _ | refine grdrw ?_)) (first
                    | (go_at_call 19; refine (all24 _).mono ?_; rintro e w' ⟨rfl, rfl⟩)
                    | ((with_reducible refine step_append_any _ rfl (.tmp 115) (.tmp 131) 26 rfl w.heap.size 4 i0 (.bool false) 1 1 Try.underlying26 hi0 hz0 hz1 hz2 rfl (by decide) (.slice Av k cv) k ((marks k (PlT.keptB c E L n)).map Value.bool) rfl ?_ (wr.heap.size + 1) (some ⟨wr.heap.size, 0, none⟩) 1 1 [.bool bb] rfl ?_ ?_ ?_ ?_ ?_ ?_); exact World.ownsRow.alloc HOW.out _; exact reads_new1 _ _ _; exact one_BB _; exact len_ok (by omega); omega; (simp; omega); intro v1 x1 ho1 hg1 hv1; have hgw := grown_pre (grown_drew hg1); have HA := Lib.hid (HM.out.app 0 (S := wr.heap.size + 1) rfl (grown_pre (grown_drew hg1)) ho1 (by simpa using hv1) (by omega)); clear ho1 hg1 hv1))
                  all_goals
                    go_wp2
                    refine ⟨⟨k + 1, by omega, by go_num, ?_⟩, by simp [intOf]; omega⟩
                    rw [HSN.out, List.map_append, HKK.out]
                    first | exact HA.out | exact HA.out.drew
                · rw [decide_eq_false hpos, Bool.false_and] at hkb
                  have t1 : decide ((0 : Int) < (ct k : Int)) = false := decide_eq_false (by omega)
                  have t1' : decide (0 < ct k) = false := decide_eq_false hpos
                  have HKK := Lib.hid hkb
                  clear hM hkb hmask hpos
                  go_upto_region 22 with fail
                  have r1 : ∀ x, wr.grownBy x (Value.ownBlock (.slice Av k cv)) → x.cell? ⟨gi, k, none⟩ = wr.cell? ⟨gi, k, none⟩ := fun x hx => World.cell?_of_block (hx.block gi HGI.out.1 HGI.out.2)
                  refine wp_region_held_drew (S := fun x => wr.grownBy x (Value.ownBlock (.slice Av k cv))) (by kernel_rfl) ?_ (fun hHeld => ?_)
                  · exact grdrw (World.grownBy.refl _ _)
                  refine take_l (i := 0) (v := ?_) rfl (by kernel_rfl) (by kernel_rfl) (by kernel_rfl) (fun _ _ _ h => h) (by rfl) ?_ hHeld ?_
                  rotate_left
                  · intro w hSw; (try dsimp only at hSw); go_simp; first | done | with_reducible rfl
                  try simp only [Act.put, List.setIfInBounds_toArray, List.set_cons_zero, List.set_cons_succ]
                  refine take_l (i := 1) (v := ?_) rfl (by kernel_rfl) (by kernel_rfl) (by kernel_rfl) (fun _ _ _ h => h) (by rfl) ?_ hHeld ?_
                  rotate_left
                  · intro w hSw; (try dsimp only at hSw); go_simp; first | done | with_reducible rfl
                  try simp only [Act.put, List.setIfInBounds_toArray, List.set_cons_zero, List.set_cons_succ]
                  refine take_l (i := 2) (v := ?_) rfl (by kernel_rfl) (by kernel_rfl) (by kernel_rfl) (fun _ _ _ h => h) (by rfl) ?_ hHeld ?_
                  rotate_left
                  · intro w hSw; (try dsimp only at hSw); go_simp; first | done | with_reducible rfl
                  try simp only [Act.put, List.setIfInBounds_toArray, List.set_cons_zero, List.set_cons_succ]
                  refine take_l (i := 3) (v := ?_) rfl (by kernel_rfl) (by kernel_rfl) (by kernel_rfl) (fun _ _ _ h => h) (by rfl) ?_ hHeld ?_
                  rotate_left
                  · intro w hSw; (try dsimp only at hSw); go_simp; first | done | with_reducible rfl
                  try simp only [Act.put, List.setIfInBounds_toArray, List.set_cons_zero, List.set_cons_succ]
                  refine take_l (i := 4) (v := ?_) rfl (by kernel_rfl) (by kernel_rfl) (by kernel_rfl) (fun _ _ _ h => h) (by rfl) ?_ hHeld ?_
                  rotate_left
                  · intro w hSw; (try dsimp only at hSw); go_simp; first | done | with_reducible rfl
                  try simp only [Act.put, List.setIfInBounds_toArray, List.set_cons_zero, List.set_cons_succ]
                  refine take_l (i := 5) (v := ?_) rfl (by kernel_rfl) (by kernel_rfl) (by kernel_rfl) (fun _ _ _ h => h) (by rfl) ?_ hHeld ?_
                  rotate_left
                  · intro w hSw; (try dsimp only at hSw); go_simp; first | done | with_reducible rfl
                  try simp only [Act.put, List.setIfInBounds_toArray, List.set_cons_zero, List.set_cons_succ]
                  refine take_l (i := 6) (v := ?_) rfl (by kernel_rfl) (by kernel_rfl) (by kernel_rfl) (fun _ _ _ h => h) (by rfl) ?_ hHeld ?_
                  rotate_left
                  · intro w hSw; (try dsimp only at hSw); go_simp; first | done | with_reducible rfl
                  try simp only [Act.put, List.setIfInBounds_toArray, List.set_cons_zero, List.set_cons_succ]
                  refine take_u (i := 7) rfl (by kernel_rfl) (by kernel_rfl) (by kernel_rfl) (fun _ _ _ h => h) (by rfl) hHeld ?_
                  try simp only [Act.put, List.setIfInBounds_toArray, List.set_cons_zero, List.set_cons_succ]
                  refine take_u (i := 8) rfl (by kernel_rfl) (by kernel_rfl) (by kernel_rfl) (fun _ _ _ h => h) (by rfl) hHeld ?_
                  try simp only [Act.put, List.setIfInBounds_toArray, List.set_cons_zero, List.set_cons_succ]
                  refine take_u (i := 9) rfl (by kernel_rfl) (by kernel_rfl) (by kernel_rfl) (fun _ _ _ h => h) (by rfl) hHeld ?_
                  try simp only [Act.put, List.setIfInBounds_toArray, List.set_cons_zero, List.set_cons_succ]
                  refine take_u (i := 10) rfl (by kernel_rfl) (by kernel_rfl) (by kernel_rfl) (fun _ _ _ h => h) (by rfl) hHeld ?_
                  try simp only [Act.put, List.setIfInBounds_toArray, List.set_cons_zero, List.set_cons_succ]
                  refine take_u (i := 11) rfl (by kernel_rfl) (by kernel_rfl) (by kernel_rfl) (fun _ _ _ h => h) (by rfl) hHeld ?_
                  try simp only [Act.put, List.setIfInBounds_toArray, List.set_cons_zero, List.set_cons_succ]
                  refine take_u (i := 12) rfl (by kernel_rfl) (by kernel_rfl) (by kernel_rfl) (fun _ _ _ h => h) (by rfl) hHeld ?_
                  try simp only [Act.put, List.setIfInBounds_toArray, List.set_cons_zero, List.set_cons_succ]
                  refine take_u (i := 13) rfl (by kernel_rfl) (by kernel_rfl) (by kernel_rfl) (fun _ _ _ h => h) (by rfl) hHeld ?_
                  try simp only [Act.put, List.setIfInBounds_toArray, List.set_cons_zero, List.set_cons_succ]
                  refine take_u (i := 14) rfl (by kernel_rfl) (by kernel_rfl) (by kernel_rfl) (fun _ _ _ h => h) (by rfl) hHeld ?_
                  try simp only [Act.put, List.setIfInBounds_toArray, List.set_cons_zero, List.set_cons_succ]
                  refine take_l (i := 15) (v := ?_) rfl (by kernel_rfl) (by kernel_rfl) (by kernel_rfl) (fun _ _ _ h => h) (by rfl) ?_ hHeld ?_
                  rotate_left
                  · intro w hSw; (try dsimp only at hSw); go_simp; first | done | with_reducible rfl
                  try simp only [Act.put, List.setIfInBounds_toArray, List.set_cons_zero, List.set_cons_succ]
                  refine wpAnyH_ready (rs := [16]) (by kernel_rfl) (by simp) ?_
                  refine cons_l rfl (fun K hK => ?_) AllReadyH.nil
                  go_simp
                  refine hK.out _ _ ?_ (fun hHeld => ?_)
                  · repeat (with_reducible first | exact World.grownBy.refl _ _ | assumption | refine grall ?_ _ | refine grdrw ?_)
                  clear hK K
                  try simp only [Act.put, List.setIfInBounds_toArray, List.set_cons_zero, List.set_cons_succ]
                  refine wpAnyH_ready (rs := [17]) (by kernel_rfl) (by simp) ?_
                  refine cons_l rfl (fun K hK => ?_) AllReadyH.nil
                  ((with_reducible refine step_append_any _ rfl (.tmp 115) (.tmp 131) 26 rfl w.heap.size 4 i0 (.bool false) 1 1 Try.underlying26 hi0 hz0 hz1 hz2 rfl (by decide) (.slice Av k cv) k ((marks k (PlT.keptB c E L n)).map Value.bool) rfl ?_ (wr.heap.size + 1) (some ⟨wr.heap.size, 0, none⟩) 1 1 [.bool false] rfl ?_ ?_ ?_ ?_ ?_ ?_); exact World.ownsRow.alloc HOW.out _; exact reads_new1 _ _ _; exact one_BB _; exact len_ok (by omega); omega; (simp; omega); intro v1 x1 ho1 hg1 hv1; have hgw := grown_pre (grown_drew hg1); have HA := Lib.hid (HM.out.app 0 (S := wr.heap.size + 1) rfl (grown_pre (grown_drew hg1)) ho1 (by simpa using hv1) (by omega)); clear ho1 hg1 hv1)
                  refine hK.out _ _ ?_ (fun hHeld => ?_)
                  · repeat (with_reducible first | exact World.grownBy.refl _ _ | assumption | refine grall ?_ _ | refine grdrw ?_)
                  clear hK K
                  try simp only [Act.put, List.setIfInBounds_toArray, List.set_cons_zero, List.set_cons_succ]
                  refine take_l (i := 18) (v := ?_) rfl (by kernel_rfl) (by kernel_rfl) (by kernel_rfl) (fun _ _ _ h => h) (by rfl) ?_ hHeld ?_
                  rotate_left
                  · intro w hSw; (try dsimp only at hSw); go_simp; first | done | with_reducible rfl
                  try simp only [Act.put, List.setIfInBounds_toArray, List.set_cons_zero, List.set_cons_succ]
                  refine wpAnyH_done (by kernel_rfl) ?_ _
                  all_goals
                    go_wp2
                    refine ⟨⟨k + 1, by omega, by go_num, ?_⟩, by simp [intOf]; omega⟩
                    rw [HSN.out, List.map_append, HKK.out]
                    first | exact HA.out | exact HA.out.drew
              · obtain rfl : m = k := by omega
                have HF := Lib.hid (show OwnMk w m (PlT.keptB c E L n) (.returned (.slice Av m cv)) wr from ⟨_, rfl, hM.get 0 rfl, hM.bel⟩)
                clear hM
                go_wp2
                go_ret
                exact HF.out
end Go.Proofs.Ytnjbofahboopoaa
