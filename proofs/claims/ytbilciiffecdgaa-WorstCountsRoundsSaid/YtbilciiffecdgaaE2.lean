/- worst.greatest, Steps and Moves. -/
import Derived.Test.YtbilciiffecdgaaNM
import Derived.Test.YtbilciiffecdgaaRL
import Derived.Test.YtbilciiffecdgaaW1b
namespace Go.Proofs.Ytbilciiffecdgaa
open Go.RowKit

def cOne (_ : Nat × Int) : Nat := 1
def cPop (a : Nat × Int) : Nat := Pl.pop a.1
theorem cost_ok (c : Nat × Int → Nat) {L : List (List Arc)} {n : Nat} (_hL : WfL L) (hc : ∀ a, c a ≤ 32) : ∀ k, k < n → ∀ a ∈ L.getD k [], c a ≤ 32 := fun _ _ a _ => hc a
theorem take_not {O : List Nat} (h : O.Nodup) {p : Nat} (hp : p < O.length) : O[p] ∉ O.take p := by
  intro hm
  obtain ⟨i, hi, e⟩ := List.getElem_of_mem hm
  have hil : i < p := by rw [List.length_take] at hi; omega
  rw [List.getElem_take] at e
  exact absurd e (List.pairwise_iff_getElem.1 h i p (by omega) hp hil)
theorem cOne_le (a : Nat × Int) : cOne a ≤ 32 := by unfold cOne; omega
theorem cPop_le (a : Nat × Int) : cPop a ≤ 32 := by unfold cPop; exact Pl.popTo_le a.1 32
/-- the greatest weights -/
def WVal (w : World) (L : List (List Arc)) (S : List Bool) (c : Nat × Int → Nat) (e : Ending) (w' : World) : Prop :=
  ∃ (g : Nat) (f : Nat → Nat), e = .returned (.tuple #[.slice (some ⟨g, 0, none⟩) S.length S.length, .int .i64 0]) ∧ w.heap.size ≤ g ∧ Blk w' g 3 (nums S.length f).toArray ∧ PlL.IsVal S.length L (isIn S) c f ∧ (∀ k, k < S.length → f k ≤ 32 * S.length) ∧ (∃ r, PlL.Ranked S.length L (isIn S) r) ∧ Below w.heap.size w w'
set_option maxHeartbeats 400000 in
theorem step1_any (s : Nat) (t : Int) (w : World) : Calls Try.prog 34 #[.agg #[.int .u32 (s : Int), .int .i64 t]] w fun e w' => e = .returned (.int .i64 1) ∧ Below w.heap.size w w' := by
  go_enter Try.func34, Try.ntmps34
  go_wp2
  go_ret
  exact ⟨rfl, (Below.refl _ _).alloc (Nat.le_refl _) _⟩
set_option maxHeartbeats 400000 in
theorem moves_any (s : Nat) (hs : s < 4294967296) (t : Int) (w : World) : Calls Try.prog 37 #[.agg #[.int .u32 (s : Int), .int .i64 t]] w fun e w' => e = .returned (.int .i64 (Pl.pop s : Int)) ∧ Below w.heap.size w w' := by
  go_enter Try.func37, Try.ntmps37
  go_wp2_with fail
  refine (ones_any s hs _).mono ?_
  rintro e w1 ⟨rfl, d, rfl⟩
  go_wp2
  go_ret
  exact ⟨rfl, below_drewN ((Below.refl _ _).alloc (Nat.le_refl _) _) d⟩
set_option maxRecDepth 100000 in
set_option maxHeartbeats 4000000 in
theorem greatS_ok (E : List Nat) (L : List (List Arc)) (v : Value) (hE : WfE E) (hL : WfL L) (S : List Bool) (A : Option Addr) (c : Nat) (h : wchk E L S = 0) (w : World) (hS : SpaceAt w w.heap.size v E L) (hSr : Reads w w.heap.size 1 A S.length (S.map Value.bool)) :
    Calls Try.prog 33 #[v, .slice A S.length c, .func (.func 34) #[] #[]] w (WVal w L S cOne) := by
  have HS := Lib.hid hS
  obtain ⟨ve, va, rfl, ⟨Ae, ce, rfl, re⟩, ⟨Aa, ca, rows, rfl, ra, hk⟩⟩ := hS
  have HB0 := Lib.hid ((Below.refl w.heap.size w).alloc (Nat.le_refl _) (.cells #[.slice Ae E.length ce, .slice Aa L.length ca] 25))
  obtain ⟨hok, hSl, hc⟩ := wchk_zero h
  obtain ⟨hn1, hn2, hn3, hto⟩ := PlG.ok_parts hok
  obtain ⟨ad, hA, -⟩ := ra.2 (by omega)
  subst hA
  obtain ⟨sd, hA, -⟩ := hSr.2 (by omega)
  subst hA
  have HE := Lib.hid hE
  have HL := Lib.hid hL
  have SR := Lib.hid hSr
  have RA := Lib.hid ra
  have HK := Lib.hid hk
  have H0 := Lib.hid h
  have HC := Lib.hid hc
  have HLL := Lib.hid (show L.length = S.length by omega)
  have HTO := Lib.hid (show ∀ k (hk : k < L.length), ∀ x ∈ L[k], 0 ≤ x.2 ∧ x.2 < (S.length : Int) from fun k hk x hx => by have := hto k hk x hx; omega)
  have hn5 : S.length ≤ 32768 := by omega
  have hn0 : 1 ≤ S.length := by omega
  have HCB := Lib.hid (cost_ok (n := S.length) cOne hL cOne_le)
  have hmk := run_make_row' (P := Try.prog) 29 3 (.int .i64 0) 8 Try.underlying29 Try.infoIntG rfl .i64 .i64 S.length (by omega) (by omega)
  clear hE hL hSr re ra hk h hc hok hSl hn1 hn2 hn3 hto
  go_enter Try.func33, Try.ntmps33
  go_wp2_with fail
  refine (word_ok E L _ HE.out HL.out S (some sd) c H0.out _ (HS.out.go HB0.out) (SR.out.go HB0.out)).mono ?_
  rintro e w1 ⟨O, vo, rfl, hOl, ho, hO, hb1⟩
  have hM1 := (((Mem.start w).new 25 #[.slice Ae E.length ce, .slice (some ad) L.length ca]).pushRow hb1 ho)
  obtain ⟨Ao, co, hvo⟩ := own_sl ho
  subst hvo
  obtain ⟨go, co', hfo, -, -⟩ := ho.form (by omega)
  injection hfo with hfo _ hco
  subst hfo hco
  obtain ⟨r, hr⟩ := conv_ranked rfl hO HC.out (fun k t ht => tg_lt' HTO.out ht)
  have HV := Lib.hid (PlL.valF_is (c := cOne) hr)
  have HVL := Lib.hid (fun k (hk : k < S.length) => (PlL.valF_is (c := cOne) hr).le hr HCB.out S.length k hk (Nat.le_of_lt (hr.lt k hk)))
  have HO := Lib.hid hO
  have HRK := Lib.hid (show ∃ r, PlL.Ranked S.length L (isIn S) r from ⟨r, hr⟩)
  have HOL := Lib.hid hOl
  have HST := Lib.hid (show Mem w [cB w.heap.size w1.heap.size 3 (nums S.length (fun j => if j ∈ O.take 0 then PlL.valF L (isIn S) cOne S.length j else 0)).toArray, cR w.heap.size 3 1 (.slice (some ⟨go, 0, none⟩) S.length co) S.length (O.map I), cB w.heap.size w.heap.size 25 #[.slice Ae E.length ce, .slice (some ad) L.length ca]] (w1.alloc (.cells (madeCells #[.int .i64 0] S.length) 3)) from by
    have h := hM1.new 3 (madeCells #[.int .i64 0] S.length)
    rw [nums_made] at h ⊢
    rw [nums_congr (g := fun _ => 0) (fun j _ => by simp)]
    exact h)
  have hbz := hM1.size
  clear hb1 ho hO hOl hr hM1 HB0
  generalize PlL.valF L (isIn S) cOne S.length = f at *
  go_wp2_with fail
  clear hmk
  generalize w1.heap.size = gr at *
  go_loopw [29] (fun i wr => ∃ p : Nat, p ≤ S.length ∧ i = .int .i64 p ∧ Mem w [cB w.heap.size gr 3 (nums S.length (fun j => if j ∈ O.take p then f j else 0)).toArray, cR w.heap.size 3 1 (.slice (some ⟨go, 0, none⟩) S.length co) S.length (O.map I), cB w.heap.size w.heap.size 25 #[.slice Ae E.length ce, .slice (some ad) L.length ca]] wr) (fun i _ => S.length - (intOf i).toNat)
  case atStart => exact ⟨0, Nat.zero_le _, rfl, HST.out⟩
  case round =>
    clear HST
    obtain ⟨p, hp, rfl, hM⟩ := hrel
    have HM := Lib.hid hM
    by_cases hlt : p < S.length
    · have hpO : p < O.length := by have := HOL.out; omega
      have hOp : O[p]? = some O[p] := List.getElem?_eq_getElem hpO
      have cx := own_at (hM.get 1 rfl) hOp
      have hxn := HO.out.lt _ (List.getElem_mem hpO)
      have HTP := Lib.hid (HO.out.topo p _ hOp)
      have HTK := Lib.hid (show O.take (p + 1) = O.take p ++ [O[p]] by rw [List.take_add_one, hOp]; rfl)
      have HNI := Lib.hid (take_not HO.out.nodup hpO)
      generalize O[p] = x at *
      obtain ⟨sd', hA, hbl, cS⟩ := bool_at (SR.out.below hM.bel) hxn
      obtain rfl : sd = sd' := by injection hA
      rw [← isIn_of hxn] at cS
      have k0 : (0 : Int) ≤ (p : Int) := by omega
      have k1 : (p : Int) < (S.length : Int) := by omega
      have x0 : (0 : Int) ≤ (x : Int) := by omega
      have x1 : (x : Int) < (S.length : Int) := by omega
      have hvx := HV.out x hxn
      clear hA hOp
      cases hs : isIn S x
      · rw [hs] at cS
        have hxL : x < L.length := by have := HLL.out; omega
        obtain ⟨aL, Ak, ck, hAL, hbla, cr, rk⟩ := row_at (RA.out.below hM.bel) (fun k l hl => let ⟨u, hu, ha⟩ := HK.out k l hl; (⟨u, hu, ha.below hM.bel⟩ : ∃ u, rows[k]? = some u ∧ ArcsAt wr w.heap.size u l)) hxL
        obtain rfl : ad = aL := by injection hAL
        have hll := (HL.out x hxL).1
        have HLS := Lib.hid (HL.out x hxL).2
        have HTS := Lib.hid (HTO.out x hxL)
        have RK0 := Lib.hid (show Reads w w.heap.size 2 Ak L[x].length (L[x].flatMap arcCells) from rk.keep fun p hp => (hM.bel.cell hp).symm)
        have hfx : f x = PlL.mx cOne f L[x] := by have h := hvx.2 hs; rw [getD_l [] hxL] at h; exact h
        have HFX := Lib.hid hfx
        have HTT := Lib.hid (show ∀ a ∈ L[x], a.2.toNat ∈ O.take p from fun a ha => by
          rcases HTP.out with h | h
          · rw [hs] at h; cases h
          · exact h.2 _ (by have := PlL.tg_mem' (L := L) (x := x) (a := a) (by rw [getD_l [] hxL]; exact ha); exact this))
        have HCL := Lib.hid (show ∀ a ∈ L[x], cOne a ≤ 32 from fun a ha => HCB.out x hxn a (by rw [getD_l [] hxL]; exact ha))
        have HST := Lib.hid (show Mem w [cB w.heap.size gr 3 (nums S.length (PlL.upd (fun j => if j ∈ O.take p then f j else 0) x (PlL.mx cOne f (L[x].take 0)))).toArray, cR w.heap.size 3 1 (.slice (some ⟨go, 0, none⟩) S.length co) S.length (O.map I), cB w.heap.size w.heap.size 25 #[.slice Ae E.length ce, .slice (some ad) L.length ca]] wr from
          hM.blkc 0 rfl (by rw [nums_congr (n := S.length) (g := PlL.upd (fun j => if j ∈ O.take p then f j else 0) x (PlL.mx cOne f (L[x].take 0))) (fun j _ => by
            unfold PlL.upd
            by_cases e : j = x
            · subst e; rw [if_pos rfl, if_neg HNI.out]; rfl
            · rw [if_neg e])]))
        obtain ⟨p0, p1, pf⟩ := blk2 (hM.get 2 rfl).2
        generalize L[x] = l at *
        clear hM hs hAL rk hvx hfx HM
        go_wp2_with fail
        clear cr p0 p1 pf cx cS
        go_loopw [43] (fun i wx => ∃ j : Nat, j ≤ l.length ∧ i = .int .i64 j ∧ Mem w [cB w.heap.size gr 3 (nums S.length (PlL.upd (fun j => if j ∈ O.take p then f j else 0) x (PlL.mx cOne f (l.take j)))).toArray, cR w.heap.size 3 1 (.slice (some ⟨go, 0, none⟩) S.length co) S.length (O.map I), cB w.heap.size w.heap.size 25 #[.slice Ae E.length ce, .slice (some ad) L.length ca]] wx) (fun i _ => l.length - (intOf i).toNat)
        case atStart => exact ⟨0, Nat.zero_le _, rfl, HST.out⟩
        case round =>
          clear HST
          obtain ⟨j, hj, rfl, hM⟩ := hrel
          have HM := Lib.hid hM
          by_cases hlt2 : j < l.length
          · obtain ⟨ad2, hA, hbl2, a0, a1⟩ := arc_at (RK0.out.below hM.bel) hlt2
            subst hA
            have hx' := HTS.out l[j] (List.getElem_mem _)
            have hx1' := HLS.out j hlt2
            have htt := HTT.out l[j] (List.getElem_mem _)
            have hcl := HCL.out l[j] (List.getElem_mem _)
            have HMT := Lib.hid (PlL.mx_take (c := cOne) (f := f) hlt2)
            have hml : PlL.mx cOne f (l.take j) ≤ f x := by rw [HFX.out]; exact PlL.mx_le fun a ha => PlL.mx_mem (List.mem_of_mem_take ha)
            generalize hla : l[j] = a at *
            obtain ⟨ua, at_⟩ := a
            dsimp only at a0 a1 hx' hx1' htt
            obtain ⟨t, rfl⟩ : ∃ t : Nat, at_ = (t : Int) := ⟨at_.toNat, by omega⟩
            rw [Int.toNat_natCast] at htt
            have htn : t < S.length := by omega
            have hvt := HVL.out t htn
            have hvx := HVL.out x hxn
            have hne : t ≠ x := fun e => HNI.out (e ▸ htt)
            have j0 : (0 : Int) ≤ (j : Int) := by omega
            have j1 : (j : Int) < (l.length : Int) := by omega
            have t0 : (0 : Int) ≤ (t : Int) := by omega
            have t1 : (t : Int) < (S.length : Int) := by omega
            have HM2 := Lib.hid (HM.out.new 42 #[.int .u32 (ua : Int), .int .i64 (t : Int)])
            have lsz := hM.size
            clear hM hx' hla
            go_upto_region 12 with fail
            generalize hW3 : wr.alloc (.cells #[.int .u32 (ua : Int), .int .i64 (t : Int)] 42) = W3 at *
            obtain ⟨b0, b1, bf⟩ := blk2 (HM2.out.get 0 rfl).2
            have lga := (HM2.out.get 0 rfl).2.lt
            have br := (HM2.out.get 1 rfl).2
            have lgr := br.lt
            have fgr := br.frozen x
            have c1 := num_at br hxn
            have c2 := num_at br htn
            rw [PlL.upd_same] at c1
            rw [PlL.upd_ne _ _ hne] at c2
            rw [if_pos htt] at c2
            have hw1 := IntWalk.i64_in ((1 : Int) + (f t : Int)) (by omega)
            have rule := below_rule W3
            have HSET := Lib.hid (fun (X : World) (hX : Below W3.heap.size W3 X) => ((HM2.out.below hX).set_ 1 rfl x (.int .i64 ((max (PlL.mx cOne f (l.take j)) (cOne (ua, (t : Int)) + f t) : Nat) : Int)) (nums_set S.length _ (PlL.upd (fun j => if j ∈ O.take p then f j else 0) x (PlL.mx cOne f (l.take (j + 1)))) x _ (fun q => by
              rw [HMT.out]
              unfold PlL.upd
              by_cases e : q = x
              · rw [if_pos e, if_pos e]; rfl
              · rw [if_neg e, if_neg e]; dsimp only; rw [if_neg e]))).erase 0)
            have HBR := Lib.hid br
            clear hW3 br a0 a1 HM HM2
            generalize PlL.mx cOne f (l.take j) = m1 at *
            generalize wr.heap.size = ga at *
            refine regionL 17 (fun x => Below W3.heap.size W3 x) (by kernel_rfl) ?_
            have hHeld : Below W3.heap.size W3 W3.drew := (Below.refl _ _).drew
            refine takeL (i := 0) (v := ?_) rfl (by kernel_rfl) (by kernel_rfl) (by kernel_rfl) (by kernel_rfl) (fun _ _ _ h => h) (by rfl) ?_ hHeld ?_
            rotate_left
            · intro w hSw; (try dsimp only at hSw); go_simp; first | done | with_reducible rfl
            try simp only [Act.put, List.setIfInBounds_toArray, List.set_cons_zero, List.set_cons_succ]
            refine takeL (i := 1) (v := ?_) rfl (by kernel_rfl) (by kernel_rfl) (by kernel_rfl) (by kernel_rfl) (fun _ _ _ h => h) (by rfl) ?_ hHeld ?_
            rotate_left
            · intro w hSw; (try dsimp only at hSw); go_simp; first | done | with_reducible rfl
            try simp only [Act.put, List.setIfInBounds_toArray, List.set_cons_zero, List.set_cons_succ]
            refine takeL (i := 2) (v := ?_) rfl (by kernel_rfl) (by kernel_rfl) (by kernel_rfl) (by kernel_rfl) (fun _ _ _ h => h) (by rfl) ?_ hHeld ?_
            rotate_left
            · intro w hSw; (try dsimp only at hSw); go_simp; first | done | with_reducible rfl
            try simp only [Act.put, List.setIfInBounds_toArray, List.set_cons_zero, List.set_cons_succ]
            refine takeL (i := 3) (v := ?_) rfl (by kernel_rfl) (by kernel_rfl) (by kernel_rfl) (by kernel_rfl) (fun _ _ _ h => h) (by rfl) ?_ hHeld ?_
            rotate_left
            · intro w hSw; (try dsimp only at hSw); go_simp; first | done | with_reducible rfl
            try simp only [Act.put, List.setIfInBounds_toArray, List.set_cons_zero, List.set_cons_succ]
            refine takeL (i := 4) (v := ?_) rfl (by kernel_rfl) (by kernel_rfl) (by kernel_rfl) (by kernel_rfl) (fun _ _ _ h => h) (by rfl) ?_ hHeld ?_
            rotate_left
            · intro w hSw; (try dsimp only at hSw); go_simp; first | done | with_reducible rfl
            try simp only [Act.put, List.setIfInBounds_toArray, List.set_cons_zero, List.set_cons_succ]
            refine takeL (i := 5) (v := ?_) rfl (by kernel_rfl) (by kernel_rfl) (by kernel_rfl) (by kernel_rfl) (fun _ _ _ h => h) (by rfl) ?_ hHeld ?_
            rotate_left
            · intro w hSw; (try dsimp only at hSw); go_simp; first | done | with_reducible rfl
            try simp only [Act.put, List.setIfInBounds_toArray, List.set_cons_zero, List.set_cons_succ]
            refine takeL (i := 6) (v := ?_) rfl (by kernel_rfl) (by kernel_rfl) (by kernel_rfl) (by kernel_rfl) (fun _ _ _ h => h) (by rfl) ?_ hHeld ?_
            rotate_left
            · intro w hSw; (try dsimp only at hSw); go_simp; first | done | with_reducible rfl
            try simp only [Act.put, List.setIfInBounds_toArray, List.set_cons_zero, List.set_cons_succ]
            refine takeL (i := 7) (v := ?_) rfl (by kernel_rfl) (by kernel_rfl) (by kernel_rfl) (by kernel_rfl) (fun _ _ _ h => h) (by rfl) ?_ hHeld ?_
            rotate_left
            · intro w hSw; (try dsimp only at hSw); go_simp; first | done | with_reducible rfl
            try simp only [Act.put, List.setIfInBounds_toArray, List.set_cons_zero, List.set_cons_succ]
            refine takeL (i := 9) (v := ?_) rfl (by kernel_rfl) (by kernel_rfl) (by kernel_rfl) (by kernel_rfl) (fun _ _ _ h => h) (by rfl) ?_ hHeld ?_
            rotate_left
            · intro w hSw; (try dsimp only at hSw); go_simp; first | done | with_reducible rfl
            try simp only [Act.put, List.setIfInBounds_toArray, List.set_cons_zero, List.set_cons_succ]
            refine takeL (i := 10) (v := ?_) rfl (by kernel_rfl) (by kernel_rfl) (by kernel_rfl) (by kernel_rfl) (fun _ _ _ h => h) (by rfl) ?_ hHeld ?_
            rotate_left
            · intro w hSw; (try dsimp only at hSw); go_simp; first | done | with_reducible rfl
            try simp only [Act.put, List.setIfInBounds_toArray, List.set_cons_zero, List.set_cons_succ]
            refine takeL (i := 11) (v := ?_) rfl (by kernel_rfl) (by kernel_rfl) (by kernel_rfl) (by kernel_rfl) (fun _ _ _ h => h) (by rfl) ?_ hHeld ?_
            rotate_left
            · intro w hSw; (try dsimp only at hSw); go_simp; first | done | with_reducible rfl
            try simp only [Act.put, List.setIfInBounds_toArray, List.set_cons_zero, List.set_cons_succ]
            refine takeL (i := 12) (v := ?_) rfl (by kernel_rfl) (by kernel_rfl) (by kernel_rfl) (by kernel_rfl) (fun _ _ _ h => h) (by rfl) ?_ hHeld ?_
            rotate_left
            · intro w hSw; (try dsimp only at hSw); go_simp; first | done | with_reducible rfl
            try simp only [Act.put, List.setIfInBounds_toArray, List.set_cons_zero, List.set_cons_succ]
            refine takeL (i := 13) (v := ?_) rfl (by kernel_rfl) (by kernel_rfl) (by kernel_rfl) (by kernel_rfl) (fun _ _ _ h => h) (by rfl) ?_ hHeld ?_
            rotate_left
            · intro w hSw; (try dsimp only at hSw); go_simp; first | done | with_reducible rfl
            try simp only [Act.put, List.setIfInBounds_toArray, List.set_cons_zero, List.set_cons_succ]
            refine stepL (i := 8) rfl (by kernel_rfl) (fun K hK => ?_) (by decide)
            go_simp
            refine (step1_any ua (t : Int) _).mono ?_
            rintro e w2 ⟨rfl, hb2⟩
            go_simp
            refine hK.out _ _ (.inr ?_) (fun hHeld => ?_)
            · exact below_step hb2 hHeld
            clear hK K
            try simp only [Act.put, List.setIfInBounds_toArray, List.set_cons_zero, List.set_cons_succ]
            refine takeL (i := 14) (v := ?_) rfl (by kernel_rfl) (by kernel_rfl) (by kernel_rfl) (by kernel_rfl) (fun _ _ _ h => h) (by rfl) ?_ hHeld ?_
            rotate_left
            · intro w hSw; (try dsimp only at hSw); go_simp; first | done | with_reducible rfl
            try simp only [Act.put, List.setIfInBounds_toArray, List.set_cons_zero, List.set_cons_succ]
            refine takeL (i := 15) (v := ?_) rfl (by kernel_rfl) (by kernel_rfl) (by kernel_rfl) (by kernel_rfl) (fun _ _ _ h => h) (by rfl) ?_ hHeld ?_
            rotate_left
            · intro w hSw; (try dsimp only at hSw); go_simp; first | done | with_reducible rfl
            try simp only [Act.put, List.setIfInBounds_toArray, List.set_cons_zero, List.set_cons_succ]
            refine takeL (i := 16) (v := ?_) rfl (by kernel_rfl) (by kernel_rfl) (by kernel_rfl) (by kernel_rfl) (fun _ _ _ h => h) (by rfl) ?_ hHeld ?_
            rotate_left
            · intro w hSw; (try dsimp only at hSw); go_simp; first | done | with_reducible rfl
            try simp only [Act.put, List.setIfInBounds_toArray, List.set_cons_zero, List.set_cons_succ]
            have br2 := HBR.out.below hHeld lgr
            have fr2 := br2.frozen x
            have lr2 := br2.lt
            have c12 := num_at br2 hxn
            have HW2 := Lib.hid (HSET.out w2 hHeld)
            clear br2 rule HBR HSET
            refine lastL rfl (by kernel_rfl) (by kernel_rfl) (fun K hK => ?_)
            go_simp
            refine hK _ _ ?_
            clear hK K
            rw [show (if (m1 : Int) < 1 + (f t : Int) then 1 + (f t : Int) else (m1 : Int)) = ((max m1 (cOne (ua, (t : Int)) + f t) : Nat) : Int) by unfold cOne; split <;> omega]
            generalize World.setCell _ _ _ = W5 at *
            go_wp2
            exact ⟨⟨j + 1, by omega, by go_num, HW2.out⟩, by simp [intOf]; omega⟩
          · obtain rfl : l.length = j := by omega
            rw [List.take_length] at HM
            clear hM
            go_wp2
            refine ⟨⟨p + 1, by omega, by go_num, HM.out.blkc 0 rfl ?_⟩, by simp [intOf]; omega⟩
            rw [nums_congr (n := S.length) (fun k _ => ?_)]
            rw [HTK.out]
            unfold PlL.upd
            by_cases e : k = x
            · rw [if_pos e, if_pos (by rw [e]; simp), e, HFX.out]
            · rw [if_neg e]
              dsimp only
              by_cases hk : k ∈ O.take p
              · rw [if_pos hk, if_pos (List.mem_append_left _ hk)]
              · rw [if_neg hk, if_neg (by simp [hk, e])]
      · rw [hs] at cS
        have hfx := hvx.1 hs
        have HFX := Lib.hid hfx
        clear hM hs hvx hfx
        go_wp2
        refine ⟨⟨p + 1, by omega, by go_num, HM.out.blkc 0 rfl ?_⟩, by simp [intOf]; omega⟩
        rw [nums_congr (n := S.length) (fun k _ => ?_)]
        rw [HTK.out]
        by_cases e : k = x
        · subst e
          rw [if_neg HNI.out, if_pos (by simp), HFX.out]
        · by_cases hk : k ∈ O.take p
          · rw [if_pos hk, if_pos (List.mem_append_left _ hk)]
          · rw [if_neg hk, if_neg (by simp [hk, e])]
    · obtain rfl : S.length = p := by omega
      have HF := Lib.hid (show WVal w L S cOne (.returned (.tuple #[.slice (some ⟨gr, 0, none⟩) S.length S.length, .int .i64 0])) wr from by
        refine ⟨gr, f, rfl, (hM.get 0 rfl).1, ?_, HV.out, HVL.out, HRK.out, hM.bel⟩
        have h := (hM.get 0 rfl).2
        rw [nums_congr (n := S.length) (g := f) (fun j hj => by rw [List.take_of_length_le (by rw [HOL.out]; exact Nat.le_refl _), if_pos ((HO.out.all j hj).2 (HC.out j hj))])] at h
        exact h)
      clear hM
      go_wp2
      go_ret2
      exact HF.out
set_option maxRecDepth 100000 in
set_option maxHeartbeats 4000000 in
theorem greatM_ok (E : List Nat) (L : List (List Arc)) (v : Value) (hE : WfE E) (hL : WfL L) (S : List Bool) (A : Option Addr) (c : Nat) (h : wchk E L S = 0) (w : World) (hS : SpaceAt w w.heap.size v E L) (hSr : Reads w w.heap.size 1 A S.length (S.map Value.bool)) :
    Calls Try.prog 33 #[v, .slice A S.length c, .func (.func 37) #[] #[]] w (WVal w L S cPop) := by
  have HS := Lib.hid hS
  obtain ⟨ve, va, rfl, ⟨Ae, ce, rfl, re⟩, ⟨Aa, ca, rows, rfl, ra, hk⟩⟩ := hS
  have HB0 := Lib.hid ((Below.refl w.heap.size w).alloc (Nat.le_refl _) (.cells #[.slice Ae E.length ce, .slice Aa L.length ca] 25))
  obtain ⟨hok, hSl, hc⟩ := wchk_zero h
  obtain ⟨hn1, hn2, hn3, hto⟩ := PlG.ok_parts hok
  obtain ⟨ad, hA, -⟩ := ra.2 (by omega)
  subst hA
  obtain ⟨sd, hA, -⟩ := hSr.2 (by omega)
  subst hA
  have HE := Lib.hid hE
  have HL := Lib.hid hL
  have SR := Lib.hid hSr
  have RA := Lib.hid ra
  have HK := Lib.hid hk
  have H0 := Lib.hid h
  have HC := Lib.hid hc
  have HLL := Lib.hid (show L.length = S.length by omega)
  have HTO := Lib.hid (show ∀ k (hk : k < L.length), ∀ x ∈ L[k], 0 ≤ x.2 ∧ x.2 < (S.length : Int) from fun k hk x hx => by have := hto k hk x hx; omega)
  have hn5 : S.length ≤ 32768 := by omega
  have hn0 : 1 ≤ S.length := by omega
  have HCB := Lib.hid (cost_ok (n := S.length) cPop hL cPop_le)
  have hmk := run_make_row' (P := Try.prog) 29 3 (.int .i64 0) 8 Try.underlying29 Try.infoIntG rfl .i64 .i64 S.length (by omega) (by omega)
  clear hE hL hSr re ra hk h hc hok hSl hn1 hn2 hn3 hto
  go_enter Try.func33, Try.ntmps33
  go_wp2_with fail
  refine (word_ok E L _ HE.out HL.out S (some sd) c H0.out _ (HS.out.go HB0.out) (SR.out.go HB0.out)).mono ?_
  rintro e w1 ⟨O, vo, rfl, hOl, ho, hO, hb1⟩
  have hM1 := (((Mem.start w).new 25 #[.slice Ae E.length ce, .slice (some ad) L.length ca]).pushRow hb1 ho)
  obtain ⟨Ao, co, hvo⟩ := own_sl ho
  subst hvo
  obtain ⟨go, co', hfo, -, -⟩ := ho.form (by omega)
  injection hfo with hfo _ hco
  subst hfo hco
  obtain ⟨r, hr⟩ := conv_ranked rfl hO HC.out (fun k t ht => tg_lt' HTO.out ht)
  have HV := Lib.hid (PlL.valF_is (c := cPop) hr)
  have HVL := Lib.hid (fun k (hk : k < S.length) => (PlL.valF_is (c := cPop) hr).le hr HCB.out S.length k hk (Nat.le_of_lt (hr.lt k hk)))
  have HO := Lib.hid hO
  have HRK := Lib.hid (show ∃ r, PlL.Ranked S.length L (isIn S) r from ⟨r, hr⟩)
  have HOL := Lib.hid hOl
  have HST := Lib.hid (show Mem w [cB w.heap.size w1.heap.size 3 (nums S.length (fun j => if j ∈ O.take 0 then PlL.valF L (isIn S) cPop S.length j else 0)).toArray, cR w.heap.size 3 1 (.slice (some ⟨go, 0, none⟩) S.length co) S.length (O.map I), cB w.heap.size w.heap.size 25 #[.slice Ae E.length ce, .slice (some ad) L.length ca]] (w1.alloc (.cells (madeCells #[.int .i64 0] S.length) 3)) from by
    have h := hM1.new 3 (madeCells #[.int .i64 0] S.length)
    rw [nums_made] at h ⊢
    rw [nums_congr (g := fun _ => 0) (fun j _ => by simp)]
    exact h)
  have hbz := hM1.size
  clear hb1 ho hO hOl hr hM1 HB0
  generalize PlL.valF L (isIn S) cPop S.length = f at *
  go_wp2_with fail
  clear hmk
  generalize w1.heap.size = gr at *
  go_loopw [29] (fun i wr => ∃ p : Nat, p ≤ S.length ∧ i = .int .i64 p ∧ Mem w [cB w.heap.size gr 3 (nums S.length (fun j => if j ∈ O.take p then f j else 0)).toArray, cR w.heap.size 3 1 (.slice (some ⟨go, 0, none⟩) S.length co) S.length (O.map I), cB w.heap.size w.heap.size 25 #[.slice Ae E.length ce, .slice (some ad) L.length ca]] wr) (fun i _ => S.length - (intOf i).toNat)
  case atStart => exact ⟨0, Nat.zero_le _, rfl, HST.out⟩
  case round =>
    clear HST
    obtain ⟨p, hp, rfl, hM⟩ := hrel
    have HM := Lib.hid hM
    by_cases hlt : p < S.length
    · have hpO : p < O.length := by have := HOL.out; omega
      have hOp : O[p]? = some O[p] := List.getElem?_eq_getElem hpO
      have cx := own_at (hM.get 1 rfl) hOp
      have hxn := HO.out.lt _ (List.getElem_mem hpO)
      have HTP := Lib.hid (HO.out.topo p _ hOp)
      have HTK := Lib.hid (show O.take (p + 1) = O.take p ++ [O[p]] by rw [List.take_add_one, hOp]; rfl)
      have HNI := Lib.hid (take_not HO.out.nodup hpO)
      generalize O[p] = x at *
      obtain ⟨sd', hA, hbl, cS⟩ := bool_at (SR.out.below hM.bel) hxn
      obtain rfl : sd = sd' := by injection hA
      rw [← isIn_of hxn] at cS
      have k0 : (0 : Int) ≤ (p : Int) := by omega
      have k1 : (p : Int) < (S.length : Int) := by omega
      have x0 : (0 : Int) ≤ (x : Int) := by omega
      have x1 : (x : Int) < (S.length : Int) := by omega
      have hvx := HV.out x hxn
      clear hA hOp
      cases hs : isIn S x
      · rw [hs] at cS
        have hxL : x < L.length := by have := HLL.out; omega
        obtain ⟨aL, Ak, ck, hAL, hbla, cr, rk⟩ := row_at (RA.out.below hM.bel) (fun k l hl => let ⟨u, hu, ha⟩ := HK.out k l hl; (⟨u, hu, ha.below hM.bel⟩ : ∃ u, rows[k]? = some u ∧ ArcsAt wr w.heap.size u l)) hxL
        obtain rfl : ad = aL := by injection hAL
        have hll := (HL.out x hxL).1
        have HLS := Lib.hid (HL.out x hxL).2
        have HTS := Lib.hid (HTO.out x hxL)
        have RK0 := Lib.hid (show Reads w w.heap.size 2 Ak L[x].length (L[x].flatMap arcCells) from rk.keep fun p hp => (hM.bel.cell hp).symm)
        have hfx : f x = PlL.mx cPop f L[x] := by have h := hvx.2 hs; rw [getD_l [] hxL] at h; exact h
        have HFX := Lib.hid hfx
        have HTT := Lib.hid (show ∀ a ∈ L[x], a.2.toNat ∈ O.take p from fun a ha => by
          rcases HTP.out with h | h
          · rw [hs] at h; cases h
          · exact h.2 _ (by have := PlL.tg_mem' (L := L) (x := x) (a := a) (by rw [getD_l [] hxL]; exact ha); exact this))
        have HCL := Lib.hid (show ∀ a ∈ L[x], cPop a ≤ 32 from fun a ha => HCB.out x hxn a (by rw [getD_l [] hxL]; exact ha))
        have HST := Lib.hid (show Mem w [cB w.heap.size gr 3 (nums S.length (PlL.upd (fun j => if j ∈ O.take p then f j else 0) x (PlL.mx cPop f (L[x].take 0)))).toArray, cR w.heap.size 3 1 (.slice (some ⟨go, 0, none⟩) S.length co) S.length (O.map I), cB w.heap.size w.heap.size 25 #[.slice Ae E.length ce, .slice (some ad) L.length ca]] wr from
          hM.blkc 0 rfl (by rw [nums_congr (n := S.length) (g := PlL.upd (fun j => if j ∈ O.take p then f j else 0) x (PlL.mx cPop f (L[x].take 0))) (fun j _ => by
            unfold PlL.upd
            by_cases e : j = x
            · subst e; rw [if_pos rfl, if_neg HNI.out]; rfl
            · rw [if_neg e])]))
        obtain ⟨p0, p1, pf⟩ := blk2 (hM.get 2 rfl).2
        generalize L[x] = l at *
        clear hM hs hAL rk hvx hfx HM
        go_wp2_with fail
        clear cr p0 p1 pf cx cS
        go_loopw [43] (fun i wx => ∃ j : Nat, j ≤ l.length ∧ i = .int .i64 j ∧ Mem w [cB w.heap.size gr 3 (nums S.length (PlL.upd (fun j => if j ∈ O.take p then f j else 0) x (PlL.mx cPop f (l.take j)))).toArray, cR w.heap.size 3 1 (.slice (some ⟨go, 0, none⟩) S.length co) S.length (O.map I), cB w.heap.size w.heap.size 25 #[.slice Ae E.length ce, .slice (some ad) L.length ca]] wx) (fun i _ => l.length - (intOf i).toNat)
        case atStart => exact ⟨0, Nat.zero_le _, rfl, HST.out⟩
        case round =>
          clear HST
          obtain ⟨j, hj, rfl, hM⟩ := hrel
          have HM := Lib.hid hM
          by_cases hlt2 : j < l.length
          · obtain ⟨ad2, hA, hbl2, a0, a1⟩ := arc_at (RK0.out.below hM.bel) hlt2
            subst hA
            have hx' := HTS.out l[j] (List.getElem_mem _)
            have hx1' := HLS.out j hlt2
            have htt := HTT.out l[j] (List.getElem_mem _)
            have hcl := HCL.out l[j] (List.getElem_mem _)
            have HMT := Lib.hid (PlL.mx_take (c := cPop) (f := f) hlt2)
            have hml : PlL.mx cPop f (l.take j) ≤ f x := by rw [HFX.out]; exact PlL.mx_le fun a ha => PlL.mx_mem (List.mem_of_mem_take ha)
            generalize hla : l[j] = a at *
            obtain ⟨ua, at_⟩ := a
            dsimp only at a0 a1 hx' hx1' htt
            obtain ⟨t, rfl⟩ : ∃ t : Nat, at_ = (t : Int) := ⟨at_.toNat, by omega⟩
            rw [Int.toNat_natCast] at htt
            have htn : t < S.length := by omega
            have hvt := HVL.out t htn
            have hvx := HVL.out x hxn
            have hne : t ≠ x := fun e => HNI.out (e ▸ htt)
            have j0 : (0 : Int) ≤ (j : Int) := by omega
            have j1 : (j : Int) < (l.length : Int) := by omega
            have t0 : (0 : Int) ≤ (t : Int) := by omega
            have t1 : (t : Int) < (S.length : Int) := by omega
            have HM2 := Lib.hid (HM.out.new 42 #[.int .u32 (ua : Int), .int .i64 (t : Int)])
            have lsz := hM.size
            clear hM hx' hla
            go_upto_region 12 with fail
            generalize hW3 : wr.alloc (.cells #[.int .u32 (ua : Int), .int .i64 (t : Int)] 42) = W3 at *
            obtain ⟨b0, b1, bf⟩ := blk2 (HM2.out.get 0 rfl).2
            have lga := (HM2.out.get 0 rfl).2.lt
            have br := (HM2.out.get 1 rfl).2
            have lgr := br.lt
            have fgr := br.frozen x
            have c1 := num_at br hxn
            have c2 := num_at br htn
            rw [PlL.upd_same] at c1
            rw [PlL.upd_ne _ _ hne] at c2
            rw [if_pos htt] at c2
            have hw1 := IntWalk.i64_in ((Pl.pop ua : Int) + (f t : Int)) (by have := cPop_le (ua, (t : Int)); unfold cPop at this; dsimp only at this; omega)
            have rule := below_rule W3
            have HSET := Lib.hid (fun (X : World) (hX : Below W3.heap.size W3 X) => ((HM2.out.below hX).set_ 1 rfl x (.int .i64 ((max (PlL.mx cPop f (l.take j)) (cPop (ua, (t : Int)) + f t) : Nat) : Int)) (nums_set S.length _ (PlL.upd (fun j => if j ∈ O.take p then f j else 0) x (PlL.mx cPop f (l.take (j + 1)))) x _ (fun q => by
              rw [HMT.out]
              unfold PlL.upd
              by_cases e : q = x
              · rw [if_pos e, if_pos e]; rfl
              · rw [if_neg e, if_neg e]; dsimp only; rw [if_neg e]))).erase 0)
            have HBR := Lib.hid br
            clear hW3 br a0 a1 HM HM2
            generalize PlL.mx cPop f (l.take j) = m1 at *
            generalize wr.heap.size = ga at *
            refine regionL 17 (fun x => Below W3.heap.size W3 x) (by kernel_rfl) ?_
            have hHeld : Below W3.heap.size W3 W3.drew := (Below.refl _ _).drew
            refine takeL (i := 0) (v := ?_) rfl (by kernel_rfl) (by kernel_rfl) (by kernel_rfl) (by kernel_rfl) (fun _ _ _ h => h) (by rfl) ?_ hHeld ?_
            rotate_left
            · intro w hSw; (try dsimp only at hSw); go_simp; first | done | with_reducible rfl
            try simp only [Act.put, List.setIfInBounds_toArray, List.set_cons_zero, List.set_cons_succ]
            refine takeL (i := 1) (v := ?_) rfl (by kernel_rfl) (by kernel_rfl) (by kernel_rfl) (by kernel_rfl) (fun _ _ _ h => h) (by rfl) ?_ hHeld ?_
            rotate_left
            · intro w hSw; (try dsimp only at hSw); go_simp; first | done | with_reducible rfl
            try simp only [Act.put, List.setIfInBounds_toArray, List.set_cons_zero, List.set_cons_succ]
            refine takeL (i := 2) (v := ?_) rfl (by kernel_rfl) (by kernel_rfl) (by kernel_rfl) (by kernel_rfl) (fun _ _ _ h => h) (by rfl) ?_ hHeld ?_
            rotate_left
            · intro w hSw; (try dsimp only at hSw); go_simp; first | done | with_reducible rfl
            try simp only [Act.put, List.setIfInBounds_toArray, List.set_cons_zero, List.set_cons_succ]
            refine takeL (i := 3) (v := ?_) rfl (by kernel_rfl) (by kernel_rfl) (by kernel_rfl) (by kernel_rfl) (fun _ _ _ h => h) (by rfl) ?_ hHeld ?_
            rotate_left
            · intro w hSw; (try dsimp only at hSw); go_simp; first | done | with_reducible rfl
            try simp only [Act.put, List.setIfInBounds_toArray, List.set_cons_zero, List.set_cons_succ]
            refine takeL (i := 4) (v := ?_) rfl (by kernel_rfl) (by kernel_rfl) (by kernel_rfl) (by kernel_rfl) (fun _ _ _ h => h) (by rfl) ?_ hHeld ?_
            rotate_left
            · intro w hSw; (try dsimp only at hSw); go_simp; first | done | with_reducible rfl
            try simp only [Act.put, List.setIfInBounds_toArray, List.set_cons_zero, List.set_cons_succ]
            refine takeL (i := 5) (v := ?_) rfl (by kernel_rfl) (by kernel_rfl) (by kernel_rfl) (by kernel_rfl) (fun _ _ _ h => h) (by rfl) ?_ hHeld ?_
            rotate_left
            · intro w hSw; (try dsimp only at hSw); go_simp; first | done | with_reducible rfl
            try simp only [Act.put, List.setIfInBounds_toArray, List.set_cons_zero, List.set_cons_succ]
            refine takeL (i := 6) (v := ?_) rfl (by kernel_rfl) (by kernel_rfl) (by kernel_rfl) (by kernel_rfl) (fun _ _ _ h => h) (by rfl) ?_ hHeld ?_
            rotate_left
            · intro w hSw; (try dsimp only at hSw); go_simp; first | done | with_reducible rfl
            try simp only [Act.put, List.setIfInBounds_toArray, List.set_cons_zero, List.set_cons_succ]
            refine takeL (i := 7) (v := ?_) rfl (by kernel_rfl) (by kernel_rfl) (by kernel_rfl) (by kernel_rfl) (fun _ _ _ h => h) (by rfl) ?_ hHeld ?_
            rotate_left
            · intro w hSw; (try dsimp only at hSw); go_simp; first | done | with_reducible rfl
            try simp only [Act.put, List.setIfInBounds_toArray, List.set_cons_zero, List.set_cons_succ]
            refine takeL (i := 9) (v := ?_) rfl (by kernel_rfl) (by kernel_rfl) (by kernel_rfl) (by kernel_rfl) (fun _ _ _ h => h) (by rfl) ?_ hHeld ?_
            rotate_left
            · intro w hSw; (try dsimp only at hSw); go_simp; first | done | with_reducible rfl
            try simp only [Act.put, List.setIfInBounds_toArray, List.set_cons_zero, List.set_cons_succ]
            refine takeL (i := 10) (v := ?_) rfl (by kernel_rfl) (by kernel_rfl) (by kernel_rfl) (by kernel_rfl) (fun _ _ _ h => h) (by rfl) ?_ hHeld ?_
            rotate_left
            · intro w hSw; (try dsimp only at hSw); go_simp; first | done | with_reducible rfl
            try simp only [Act.put, List.setIfInBounds_toArray, List.set_cons_zero, List.set_cons_succ]
            refine takeL (i := 11) (v := ?_) rfl (by kernel_rfl) (by kernel_rfl) (by kernel_rfl) (by kernel_rfl) (fun _ _ _ h => h) (by rfl) ?_ hHeld ?_
            rotate_left
            · intro w hSw; (try dsimp only at hSw); go_simp; first | done | with_reducible rfl
            try simp only [Act.put, List.setIfInBounds_toArray, List.set_cons_zero, List.set_cons_succ]
            refine takeL (i := 12) (v := ?_) rfl (by kernel_rfl) (by kernel_rfl) (by kernel_rfl) (by kernel_rfl) (fun _ _ _ h => h) (by rfl) ?_ hHeld ?_
            rotate_left
            · intro w hSw; (try dsimp only at hSw); go_simp; first | done | with_reducible rfl
            try simp only [Act.put, List.setIfInBounds_toArray, List.set_cons_zero, List.set_cons_succ]
            refine takeL (i := 13) (v := ?_) rfl (by kernel_rfl) (by kernel_rfl) (by kernel_rfl) (by kernel_rfl) (fun _ _ _ h => h) (by rfl) ?_ hHeld ?_
            rotate_left
            · intro w hSw; (try dsimp only at hSw); go_simp; first | done | with_reducible rfl
            try simp only [Act.put, List.setIfInBounds_toArray, List.set_cons_zero, List.set_cons_succ]
            refine stepL (i := 8) rfl (by kernel_rfl) (fun K hK => ?_) (by decide)
            go_simp
            refine (moves_any ua hx1' (t : Int) _).mono ?_
            rintro e w2 ⟨rfl, hb2⟩
            go_simp
            refine hK.out _ _ (.inr ?_) (fun hHeld => ?_)
            · exact below_step hb2 hHeld
            clear hK K
            try simp only [Act.put, List.setIfInBounds_toArray, List.set_cons_zero, List.set_cons_succ]
            refine takeL (i := 14) (v := ?_) rfl (by kernel_rfl) (by kernel_rfl) (by kernel_rfl) (by kernel_rfl) (fun _ _ _ h => h) (by rfl) ?_ hHeld ?_
            rotate_left
            · intro w hSw; (try dsimp only at hSw); go_simp; first | done | with_reducible rfl
            try simp only [Act.put, List.setIfInBounds_toArray, List.set_cons_zero, List.set_cons_succ]
            refine takeL (i := 15) (v := ?_) rfl (by kernel_rfl) (by kernel_rfl) (by kernel_rfl) (by kernel_rfl) (fun _ _ _ h => h) (by rfl) ?_ hHeld ?_
            rotate_left
            · intro w hSw; (try dsimp only at hSw); go_simp; first | done | with_reducible rfl
            try simp only [Act.put, List.setIfInBounds_toArray, List.set_cons_zero, List.set_cons_succ]
            refine takeL (i := 16) (v := ?_) rfl (by kernel_rfl) (by kernel_rfl) (by kernel_rfl) (by kernel_rfl) (fun _ _ _ h => h) (by rfl) ?_ hHeld ?_
            rotate_left
            · intro w hSw; (try dsimp only at hSw); go_simp; first | done | with_reducible rfl
            try simp only [Act.put, List.setIfInBounds_toArray, List.set_cons_zero, List.set_cons_succ]
            have br2 := HBR.out.below hHeld lgr
            have fr2 := br2.frozen x
            have lr2 := br2.lt
            have c12 := num_at br2 hxn
            have HW2 := Lib.hid (HSET.out w2 hHeld)
            clear br2 rule HBR HSET
            refine lastL rfl (by kernel_rfl) (by kernel_rfl) (fun K hK => ?_)
            go_simp
            refine hK _ _ ?_
            clear hK K
            rw [show (if (m1 : Int) < (Pl.pop ua : Int) + (f t : Int) then (Pl.pop ua : Int) + (f t : Int) else (m1 : Int)) = ((max m1 (cPop (ua, (t : Int)) + f t) : Nat) : Int) by unfold cPop; dsimp only; split <;> omega]
            generalize World.setCell _ _ _ = W5 at *
            go_wp2
            exact ⟨⟨j + 1, by omega, by go_num, HW2.out⟩, by simp [intOf]; omega⟩
          · obtain rfl : l.length = j := by omega
            rw [List.take_length] at HM
            clear hM
            go_wp2
            refine ⟨⟨p + 1, by omega, by go_num, HM.out.blkc 0 rfl ?_⟩, by simp [intOf]; omega⟩
            rw [nums_congr (n := S.length) (fun k _ => ?_)]
            rw [HTK.out]
            unfold PlL.upd
            by_cases e : k = x
            · rw [if_pos e, if_pos (by rw [e]; simp), e, HFX.out]
            · rw [if_neg e]
              dsimp only
              by_cases hk : k ∈ O.take p
              · rw [if_pos hk, if_pos (List.mem_append_left _ hk)]
              · rw [if_neg hk, if_neg (by simp [hk, e])]
      · rw [hs] at cS
        have hfx := hvx.1 hs
        have HFX := Lib.hid hfx
        clear hM hs hvx hfx
        go_wp2
        refine ⟨⟨p + 1, by omega, by go_num, HM.out.blkc 0 rfl ?_⟩, by simp [intOf]; omega⟩
        rw [nums_congr (n := S.length) (fun k _ => ?_)]
        rw [HTK.out]
        by_cases e : k = x
        · subst e
          rw [if_neg HNI.out, if_pos (by simp), HFX.out]
        · by_cases hk : k ∈ O.take p
          · rw [if_pos hk, if_pos (List.mem_append_left _ hk)]
          · rw [if_neg hk, if_neg (by simp [hk, e])]
    · obtain rfl : S.length = p := by omega
      have HF := Lib.hid (show WVal w L S cPop (.returned (.tuple #[.slice (some ⟨gr, 0, none⟩) S.length S.length, .int .i64 0])) wr from by
        refine ⟨gr, f, rfl, (hM.get 0 rfl).1, ?_, HV.out, HVL.out, HRK.out, hM.bel⟩
        have h := (hM.get 0 rfl).2
        rw [nums_congr (n := S.length) (g := f) (fun j hj => by rw [List.take_of_length_le (by rw [HOL.out]; exact Nat.le_refl _), if_pos ((HO.out.all j hj).2 (HC.out j hj))])] at h
        exact h)
      clear hM
      go_wp2
      go_ret2
      exact HF.out
set_option maxHeartbeats 1000000 in
theorem greatS_err (E : List Nat) (L : List (List Arc)) (v : Value) (hE : WfE E) (hL : WfL L) (S : List Bool) (A : Option Addr) (c : Nat) (z : Int) (hz : z ≠ 0) (h : wchk E L S = z) (w : World) (hS : SpaceAt w w.heap.size v E L) (hSr : Reads w w.heap.size 1 A S.length (S.map Value.bool)) :
    Calls Try.prog 33 #[v, .slice A S.length c, .func (.func 34) #[] #[]] w fun e w' => e = .returned (.tuple #[.slice none 0 0, .int .i64 z]) ∧ Below w.heap.size w w' := by
  have HS := Lib.hid hS
  obtain ⟨ve, va, rfl, ⟨Ae, ce, rfl, re⟩, ⟨Aa, ca, rows, rfl, ra, hk⟩⟩ := hS
  have HB0 := Lib.hid ((Below.refl w.heap.size w).alloc (Nat.le_refl _) (.cells #[.slice Ae E.length ce, .slice Aa L.length ca] 25))
  have HE := Lib.hid hE
  have HL := Lib.hid hL
  have SR := Lib.hid hSr
  have H := Lib.hid h
  have t1 : (z != 0) = true := by rw [bne_iff_ne]; exact hz
  clear hE hL h re ra hk hSr
  go_enter Try.func33, Try.ntmps33
  go_wp2_with fail
  refine (word_err E L _ HE.out HL.out S A c z hz H.out _ (HS.out.go HB0.out) (SR.out.go HB0.out)).mono ?_
  rintro e w1 ⟨rfl, hb1⟩
  have HB1 := Lib.hid (below_end hb1 HB0.out)
  clear hb1
  go_wp2
  go_ret2
  exact ⟨rfl, HB1.out⟩
set_option maxHeartbeats 1000000 in
theorem wsteps_err (E : List Nat) (L : List (List Arc)) (v : Value) (hE : WfE E) (hL : WfL L) (S : List Bool) (A : Option Addr) (c : Nat) (z : Int) (hz : z ≠ 0) (h : wchk E L S = z) (w : World) (hS : SpaceAt w w.heap.size v E L) (hSr : Reads w w.heap.size 1 A S.length (S.map Value.bool)) :
    Calls Try.prog 13 #[v, .slice A S.length c] w fun e w' => e = .returned (.tuple #[.slice none 0 0, .int .i64 z]) ∧ Below w.heap.size w w' := by
  have HS := Lib.hid hS
  obtain ⟨ve, va, rfl, ⟨Ae, ce, rfl, re⟩, ⟨Aa, ca, rows, rfl, ra, hk⟩⟩ := hS
  have HB0 := Lib.hid ((Below.refl w.heap.size w).alloc (Nat.le_refl _) (.cells #[.slice Ae E.length ce, .slice Aa L.length ca] 25))
  have HE := Lib.hid hE
  have HL := Lib.hid hL
  have SR := Lib.hid hSr
  have H := Lib.hid h
  clear hE hL h re ra hk hSr
  go_enter Try.func13, Try.ntmps13
  go_wp2_with fail
  refine (greatS_err E L _ HE.out HL.out S A c z hz H.out _ (HS.out.go HB0.out) (SR.out.go HB0.out)).mono ?_
  rintro e w1 ⟨rfl, hb1⟩
  have HB1 := Lib.hid (below_end hb1 HB0.out)
  clear hb1
  go_wp2
  go_ret2
  exact ⟨rfl, HB1.out⟩
set_option maxHeartbeats 1000000 in
theorem wsteps_ok (E : List Nat) (L : List (List Arc)) (v : Value) (hE : WfE E) (hL : WfL L) (S : List Bool) (A : Option Addr) (c : Nat) (h : wchk E L S = 0) (w : World) (hS : SpaceAt w w.heap.size v E L) (hSr : Reads w w.heap.size 1 A S.length (S.map Value.bool)) :
    Calls Try.prog 13 #[v, .slice A S.length c] w (WVal w L S cOne) := by
  have HS := Lib.hid hS
  obtain ⟨ve, va, rfl, ⟨Ae, ce, rfl, re⟩, ⟨Aa, ca, rows, rfl, ra, hk⟩⟩ := hS
  have HB0 := Lib.hid ((Below.refl w.heap.size w).alloc (Nat.le_refl _) (.cells #[.slice Ae E.length ce, .slice Aa L.length ca] 25))
  have HE := Lib.hid hE
  have HL := Lib.hid hL
  have SR := Lib.hid hSr
  have H := Lib.hid h
  clear hE hL h re ra hk hSr
  go_enter Try.func13, Try.ntmps13
  go_wp2_with fail
  refine (greatS_ok E L _ HE.out HL.out S A c H.out _ (HS.out.go HB0.out) (SR.out.go HB0.out)).mono ?_
  rintro e w1 ⟨g, f, rfl, hg, bk, hv, hl, hrk, hb1⟩
  have HF := Lib.hid (show WVal w L S cOne (.returned (.tuple #[.slice (some ⟨g, 0, none⟩) S.length S.length, .int .i64 0])) w1 from ⟨g, f, rfl, Nat.le_trans HB0.out.size hg, bk, hv, hl, hrk, below_end hb1 HB0.out⟩)
  clear bk hv hl hb1 hrk
  go_wp2
  go_ret2
  exact HF.out
set_option maxHeartbeats 1000000 in
theorem greatM_err (E : List Nat) (L : List (List Arc)) (v : Value) (hE : WfE E) (hL : WfL L) (S : List Bool) (A : Option Addr) (c : Nat) (z : Int) (hz : z ≠ 0) (h : wchk E L S = z) (w : World) (hS : SpaceAt w w.heap.size v E L) (hSr : Reads w w.heap.size 1 A S.length (S.map Value.bool)) :
    Calls Try.prog 33 #[v, .slice A S.length c, .func (.func 37) #[] #[]] w fun e w' => e = .returned (.tuple #[.slice none 0 0, .int .i64 z]) ∧ Below w.heap.size w w' := by
  have HS := Lib.hid hS
  obtain ⟨ve, va, rfl, ⟨Ae, ce, rfl, re⟩, ⟨Aa, ca, rows, rfl, ra, hk⟩⟩ := hS
  have HB0 := Lib.hid ((Below.refl w.heap.size w).alloc (Nat.le_refl _) (.cells #[.slice Ae E.length ce, .slice Aa L.length ca] 25))
  have HE := Lib.hid hE
  have HL := Lib.hid hL
  have SR := Lib.hid hSr
  have H := Lib.hid h
  have t1 : (z != 0) = true := by rw [bne_iff_ne]; exact hz
  clear hE hL h re ra hk hSr
  go_enter Try.func33, Try.ntmps33
  go_wp2_with fail
  refine (word_err E L _ HE.out HL.out S A c z hz H.out _ (HS.out.go HB0.out) (SR.out.go HB0.out)).mono ?_
  rintro e w1 ⟨rfl, hb1⟩
  have HB1 := Lib.hid (below_end hb1 HB0.out)
  clear hb1
  go_wp2
  go_ret2
  exact ⟨rfl, HB1.out⟩
set_option maxHeartbeats 1000000 in
theorem wmoves_err (E : List Nat) (L : List (List Arc)) (v : Value) (hE : WfE E) (hL : WfL L) (S : List Bool) (A : Option Addr) (c : Nat) (z : Int) (hz : z ≠ 0) (h : wchk E L S = z) (w : World) (hS : SpaceAt w w.heap.size v E L) (hSr : Reads w w.heap.size 1 A S.length (S.map Value.bool)) :
    Calls Try.prog 15 #[v, .slice A S.length c] w fun e w' => e = .returned (.tuple #[.slice none 0 0, .int .i64 z]) ∧ Below w.heap.size w w' := by
  have HS := Lib.hid hS
  obtain ⟨ve, va, rfl, ⟨Ae, ce, rfl, re⟩, ⟨Aa, ca, rows, rfl, ra, hk⟩⟩ := hS
  have HB0 := Lib.hid ((Below.refl w.heap.size w).alloc (Nat.le_refl _) (.cells #[.slice Ae E.length ce, .slice Aa L.length ca] 25))
  have HE := Lib.hid hE
  have HL := Lib.hid hL
  have SR := Lib.hid hSr
  have H := Lib.hid h
  clear hE hL h re ra hk hSr
  go_enter Try.func15, Try.ntmps15
  go_wp2_with fail
  refine (greatM_err E L _ HE.out HL.out S A c z hz H.out _ (HS.out.go HB0.out) (SR.out.go HB0.out)).mono ?_
  rintro e w1 ⟨rfl, hb1⟩
  have HB1 := Lib.hid (below_end hb1 HB0.out)
  clear hb1
  go_wp2
  go_ret2
  exact ⟨rfl, HB1.out⟩
set_option maxHeartbeats 1000000 in
theorem wmoves_ok (E : List Nat) (L : List (List Arc)) (v : Value) (hE : WfE E) (hL : WfL L) (S : List Bool) (A : Option Addr) (c : Nat) (h : wchk E L S = 0) (w : World) (hS : SpaceAt w w.heap.size v E L) (hSr : Reads w w.heap.size 1 A S.length (S.map Value.bool)) :
    Calls Try.prog 15 #[v, .slice A S.length c] w (WVal w L S cPop) := by
  have HS := Lib.hid hS
  obtain ⟨ve, va, rfl, ⟨Ae, ce, rfl, re⟩, ⟨Aa, ca, rows, rfl, ra, hk⟩⟩ := hS
  have HB0 := Lib.hid ((Below.refl w.heap.size w).alloc (Nat.le_refl _) (.cells #[.slice Ae E.length ce, .slice Aa L.length ca] 25))
  have HE := Lib.hid hE
  have HL := Lib.hid hL
  have SR := Lib.hid hSr
  have H := Lib.hid h
  clear hE hL h re ra hk hSr
  go_enter Try.func15, Try.ntmps15
  go_wp2_with fail
  refine (greatM_ok E L _ HE.out HL.out S A c H.out _ (HS.out.go HB0.out) (SR.out.go HB0.out)).mono ?_
  rintro e w1 ⟨g, f, rfl, hg, bk, hv, hl, hrk, hb1⟩
  have HF := Lib.hid (show WVal w L S cPop (.returned (.tuple #[.slice (some ⟨g, 0, none⟩) S.length S.length, .int .i64 0])) w1 from ⟨g, f, rfl, Nat.le_trans HB0.out.size hg, bk, hv, hl, hrk, below_end hb1 HB0.out⟩)
  clear bk hv hl hb1 hrk
  go_wp2
  go_ret2
  exact HF.out
end Go.Proofs.Ytbilciiffecdgaa
