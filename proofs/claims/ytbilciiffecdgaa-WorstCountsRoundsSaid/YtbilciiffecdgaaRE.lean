/- ref20.reach. -/
import Derived.Test.YtbilciiffecdgaaE6
import Derived.Test.YtbilciiffecdgaaRM
import Derived.Test.YtbilciiffecdgaaPN
namespace Go.Proofs.Ytbilciiffecdgaa
open Go.RowKit
open PlL (Pr)

def TC (T : List Pr) : List Value := (T.map tA).flatMap arcCells
theorem TC_snoc (T : List Pr) (x : Pr) : TC (T ++ [x]) = TC T ++ arcCells (tA x) := by simp [TC]
theorem TC_len (T : List Pr) : (TC T).length = T.length * 2 := by
  induction T with
  | nil => rfl
  | cons a T ih =>
    show (arcCells (tA a) ++ TC T).length = _
    rw [List.length_append, ih, List.length_cons]
    simp [arcCells]; omega
theorem TC_take (T : List Pr) (x : Pr) : (TC (T ++ [x])).take (T.length * 2) = TC T := by
  rw [TC_snoc, List.take_append_of_le_length (by rw [TC_len]; exact Nat.le_refl _), List.take_of_length_le (by rw [TC_len]; exact Nat.le_refl _)]
theorem own_TC {w : World} {base e g m c : Nat} {T : List Pr} {x : Pr} (hm : T.length = m) (h : w.ownsRow base e 2 (.slice (some ⟨g, 0, none⟩) (m + 1) c) (m + 1) (TC (T ++ [x]))) :
    w.cell? ⟨g, m * 2, none⟩ = some (.int .u32 (x.2 : Int)) ∧ w.cell? ⟨g, m * 2 + 1, none⟩ = some (.int .i64 (x.1 : Int)) := by
  subst hm
  refine ⟨(h.cellAt _ (by omega)).trans ?_, (h.cellAt _ (by omega)).trans ?_⟩
  · rw [TC_snoc, List.getElem?_append_right (by rw [TC_len]; exact Nat.le_refl _), TC_len, Nat.sub_self]; rfl
  · rw [TC_snoc, List.getElem?_append_right (by rw [TC_len]; omega), TC_len, Nat.add_sub_cancel_left]; rfl
theorem own_take2' {w : World} {base e g m c : Nat} {xs : List Value} (h : w.ownsRow base e 2 (.slice (some ⟨g, 0, none⟩) (m + 1) c) (m + 1) xs) : w.ownsRow base e 2 (.slice (some ⟨g, 0, none⟩) m c) m (xs.take (m * 2)) := by
  obtain ⟨hl, h⟩ := h
  refine ⟨by rw [List.length_take]; omega, ?_⟩
  rcases h with ⟨hv, _⟩ | ⟨g', cap, cur, hv, hg, hh, h1, h2, h3, h4⟩
  · cases hv
  · injection hv with hv1 hv2 hv3
    injection hv1 with hv1
    injection hv1 with hv1
    subst hv1 hv3
    refine .inr ⟨g, c, cur, rfl, hg, hh, by omega, h2, h3, ?_⟩
    rw [← h4, List.take_take]
    congr 1
    omega
theorem own_cap {w : World} {base e size g n c : Nat} {xs : List Value} (h : w.ownsRow base e size (.slice (some ⟨g, 0, none⟩) n c) n xs) : n ≤ c := by
  rcases h.2 with ⟨hv, _⟩ | ⟨g, cap, cur, hv, _, _, h1, _⟩
  · cases hv
  · injection hv with _ _ hv
    subst hv
    exact h1
theorem one_arc (a : Arc) : ∀ u ∈ arcCells a, u.oneCell' = true := by simp [arcCells, Value.oneCell']
theorem Try.infoArc : (Try.prog.info? 42).map (fun i => (i.zero, i.size, i.bytes)) = some (some (.agg #[.int .u32 0, .int .i64 0]), 2, 16) := by kernel_rfl
theorem Try.infoRp : (Try.prog.info? 74).map (fun i => (i.zero, i.size, i.bytes)) = some (some (.agg #[.int .u32 0, .int .i64 0]), 2, 16) := by kernel_rfl
theorem Try.infoRps : (Try.prog.info? 71).map (fun i => (i.zero, i.size, i.bytes)) = some (some (.slice none 0 0), 1, 24) := by kernel_rfl
theorem place_atn (l : List Arc) (n : Nat) (hn : l.length = n) (hl : n ≤ 1000000) (P j : Nat) (hj : j < l.length) (hP : l[j].1 = P) (hno : ∀ i (hi : i < l.length), i < j → l[i].1 ≠ P) (A : Option Addr) (c B : Nat) (w : World) (hr : Reads w B 2 A n (l.flatMap arcCells)) :
    Calls Try.prog 43 #[.slice A n c, .int .u32 (P : Int)] w fun e w' => e = .returned (.int .i64 (j : Int)) ∧ w = w' := by
  subst hn
  exact place_at l hl P j hj hP hno A c B w hr
theorem place_non (l : List Arc) (n : Nat) (hn : l.length = n) (hl : n ≤ 1000000) (P : Nat) (hno : ∀ i (hi : i < l.length), l[i].1 ≠ P) (A : Option Addr) (c B : Nat) (w : World) (hr : Reads w B 2 A n (l.flatMap arcCells)) :
    Calls Try.prog 43 #[.slice A n c, .int .u32 (P : Int)] w fun e w' => e = .returned (.int .i64 (-1)) ∧ w = w' := by
  subst hn
  exact place_no l hl P hno A c B w hr
/-- what reach returns -/
def RrPost (w : World) (n : Nat) (E : List Nat) (L : List (List Arc)) (S : Nat → Bool) (e : Ending) (w' : World) : Prop :=
  ∃ (g : Nat) (vs : List Value) (Q : List Pr), e = .returned (.tuple #[.slice (some ⟨g, 0, none⟩) n n, .bool true]) ∧ w.heap.size ≤ g ∧ GridV w' w.heap.size g 71 74 2 vs (rowsV n Q (fun _ => 0)) ∧ BF n E L S Q Q.length ∧ (∀ k, k < n → S k = false → (k, E.getD k 0) ∈ Q) ∧ Below w.heap.size w w'
/-- the stack, whatever it holds, and the rest -/
def SR (w0 : World) (l : List (Ch w0.heap.size)) (X : World) : Prop := ∃ v n xs, Mem w0 (cR w0.heap.size 42 2 v n xs :: l) X
section
variable {w0 X X' : World} {l : List (Ch w0.heap.size)}
theorem SR.of {v : Value} {n : Nat} {xs : List Value} (h : Mem w0 (cR w0.heap.size 42 2 v n xs :: l) X) : SR w0 l X := ⟨v, n, xs, h⟩
theorem SR.drew (h : SR w0 l X) : SR w0 l X.drew := let ⟨v, n, xs, h⟩ := h; ⟨v, n, xs, h.drew⟩
theorem SR.alloc (h : SR w0 l X) (o : Obj) : SR w0 l (X.alloc o) := let ⟨v, n, xs, h⟩ := h; ⟨v, n, xs, h.alloc o⟩
theorem SR.below (h : SR w0 l X) (hb : Below X.heap.size X X') : SR w0 l X' := let ⟨v, n, xs, h⟩ := h; ⟨v, n, xs, h.below hb⟩
theorem SR.bel (h : SR w0 l X) : Below w0.heap.size w0 X := let ⟨_, _, _, h⟩ := h; h.bel
end

set_option maxRecDepth 100000 in
set_option maxHeartbeats 8000000 in
theorem rreach_ok (E : List Nat) (L : List (List Arc)) (v : Value) (hE : WfE E) (hL : WfL L) (h40 : ∀ k (hk : k < L.length), L[k].length ≤ 40) (hok : PlS.spaceOk E L = true) (S : List Bool) (hSl : S.length = E.length) (hfew : ∀ k, k < S.length → Pl.pop (E.getD k 0) ≤ 8) (hn : S.length ≤ 120) (A : Option Addr) (c : Nat) (w : World) (hS : SpaceAt w w.heap.size v E L) (hSr : Reads w w.heap.size 1 A S.length (S.map Value.bool)) :
    Calls Try.prog 41 #[v, .slice A S.length c] w (RrPost w S.length E L (isIn S)) := by
  have HS := Lib.hid hS
  obtain ⟨ve, va, rfl, ⟨Ae, ce, rfl, re⟩, ⟨Aa, ca, rows, rfl, ra, hk⟩⟩ := hS
  obtain ⟨hn1, hn2, hn3, hto⟩ := PlG.ok_parts hok
  obtain ⟨ad, hA, -⟩ := ra.2 (by omega)
  subst hA
  obtain ⟨ae, hA, -⟩ := re.2 (by omega)
  subst hA
  obtain ⟨sd, hA, -⟩ := hSr.2 (by omega)
  subst hA
  have HE := Lib.hid hE
  have HL := Lib.hid hL
  have H40 := Lib.hid h40
  have SR0 := Lib.hid hSr
  have RA := Lib.hid ra
  have RE := Lib.hid re
  have HK := Lib.hid hk
  have HSE := Lib.hid hSl
  have HFEW := Lib.hid hfew
  have HLL := Lib.hid (show L.length = S.length by omega)
  have HTO := Lib.hid (show ∀ k (hk : k < L.length), ∀ x ∈ L[k], 0 ≤ x.2 ∧ x.2 < (S.length : Int) from fun k hk x hx => by have := hto k hk x hx; omega)
  have HEW := Lib.hid (show ∀ x, E.getD x 0 < 4294967296 from fun x => Nat.lt_of_lt_of_le (ok_en hok x) (by decide))
  have hn0 : 1 ≤ S.length := by omega
  obtain ⟨i0, hi0, hz0, hz1, hz2⟩ := info_parts Try.infoArc
  obtain ⟨jj, hj0, hy0, hy1, hy2⟩ := info_parts Try.infoRp
  clear hE hL h40 hSr re ra hk hok hSl hn1 hn2 hn3 hto hfew
  have hmk := run_make_row' (P := Try.prog) 68 71 (.slice none 0 0) 24 Try.underlying68 Try.infoRps rfl .i64 .i64 S.length (by omega) (by omega)
  have HST := Lib.hid (show Mem w [cR w.heap.size 42 2 (.slice none 0 0) 0 [], cV w.heap.size (w.heap.size + 1) 71 74 2 (List.replicate S.length (.slice none 0 0)) (rowsV S.length [] (fun _ => 0)), cB w.heap.size w.heap.size 25 #[.slice (some ae) E.length ce, .slice (some ad) L.length ca]] ((w.alloc (.cells #[.slice (some ae) E.length ce, .slice (some ad) L.length ca] 25)).alloc (.cells (madeCells #[.slice none 0 0] S.length) 71)) from by
    have h := (((Mem.start w).new 25 #[.slice (some ae) E.length ce, .slice (some ad) L.length ca]).pushV (te := 71) (e := 74) (z := 2) S.length).nil_ 42 2
    rw [rowsV_nil]
    simpa only [World.size_alloc] using h)
  go_enter Try.func41, Try.ntmps41
  go_wp2_with fail
  clear hmk
  generalize w.heap.size + 1 = g at *
  go_loopw [8, 9] (fun tv iv wr => ∃ (k : Nat) (T : List Pr), k ≤ S.length ∧ iv = .int .i64 k ∧ T.length ≤ k ∧ DF S.length E L (isIn S) k [] T none ∧ Mem w [cR w.heap.size 42 2 tv T.length (TC T), cV w.heap.size g 71 74 2 (List.replicate S.length (.slice none 0 0)) (rowsV S.length [] (fun _ => 0)), cB w.heap.size w.heap.size 25 #[.slice (some ae) E.length ce, .slice (some ad) L.length ca]] wr) (fun _ iv _ => S.length - (intOf iv).toNat)
  case atStart => exact ⟨0, [], Nat.zero_le _, rfl, Nat.le_refl _, .start, HST.out⟩
  case round =>
    clear HST
    obtain ⟨k, T, hk, rfl, hT, hD, hM⟩ := hrel
    have HM := Lib.hid hM
    have HD := Lib.hid hD
    obtain ⟨AT, cT, hvT⟩ := own_sl (hM.get 0 rfl)
    subst hvT
    by_cases hlt : k < S.length
    · have hkE : k < E.length := by have := HSE.out; omega
      obtain ⟨aE, hAE, hble, ce0⟩ := set_at (RE.out.below hM.bel) hkE
      obtain rfl : ae = aE := by injection hAE
      obtain ⟨sd', hA, hbl, cS⟩ := bool_at (SR0.out.below hM.bel) hlt
      obtain rfl : sd = sd' := by injection hA
      rw [← isIn_of hlt] at cS
      have hgd : E.getD k 0 = E[k] := getD_l 0 hkE
      have HGD := Lib.hid hgd
      have hek := HE.out k hkE
      have HPK := Lib.hid (fun (hs : isIn S k = false) => ini_ok (n := S.length) (S := isIn S) HEW.out hlt hs)
      generalize E[k] = en at *
      rw [HGD.out] at HPK
      have HOW := Lib.hid (hM.get 0 rfl : wr.ownsRow w.heap.size 42 2 (.slice AT T.length cT) T.length (TC T))
      obtain ⟨p0, p1, pf⟩ := blk2 (hM.get 2 rfl).2
      have hwz := hM.size
      have k0 : (0 : Int) ≤ (k : Int) := by omega
      have k1 : (k : Int) < (S.length : Int) := by omega
      have k2 : (k : Int) < (E.length : Int) := by omega
      clear hM hD hAE hA hgd
      cases hs : isIn S k
      · rw [hs] at cS
        have HDN := Lib.hid (HD.out.first (by rw [HGD.out]; exact HPK.out hs))
        rw [HGD.out] at HDN
        clear hs
        go_wp2_with (at_builtin; refine wpList_append_any _ rfl (.tmp 27) (.tmp 35) 39 rfl w.heap.size 42 i0 (.agg #[.int .u32 0, .int .i64 0]) 2 16 Try.underlying39 hi0 hz0 hz1 hz2 rfl (by decide) (.slice AT T.length cT) T.length (TC T) rfl (HOW.out.alloc _) (wr.heap.size + 1) (some ⟨wr.heap.size, 0, none⟩) 1 1 (arcCells (tA (k, en))) rfl (reads_new2 _ _ _ _) (one_arc _) (len_ok (by omega)) (by omega) (by simp; omega) ?_; intro v1 x1 ho1 hg1 hv1; have HA := Lib.hid (HM.out.app 0 (S := wr.heap.size + 1) rfl (grown_pre hg1) ho1 (by simpa using hv1) (by omega)); clear ho1 hg1 hv1)
        refine ⟨⟨k + 1, T ++ [(k, en)], by omega, by go_num, by simp; omega, HDN.out, ?_⟩, by simp [intOf]; omega⟩
        rw [TC_snoc, List.length_append]
        exact HA.out
      · rw [hs] at cS
        have HDN := Lib.hid (HD.out.skip hs)
        clear hs
        go_wp2
        exact ⟨⟨k + 1, T, by omega, by go_num, by omega, HDN.out, HM.out⟩, by simp [intOf]; omega⟩
    · obtain rfl : k = S.length := by omega
      clear hM hD hlt
      go_wp2_with fail
      go_loopg [7, 8] ((30720 - ([] : List Pr).length) * 64 + T.length) (fun gk nv tv wr => ∃ (Q T : List Pr) (vs : List Value), nv = .int .i64 Q.length ∧ gk = (30720 - Q.length) * 64 + T.length ∧ T.length ≤ 120 + 40 * Q.length ∧ DF S.length E L (isIn S) S.length Q T none ∧ Mem w [cR w.heap.size 42 2 tv T.length (TC T), cV w.heap.size g 71 74 2 vs (rowsV S.length Q (fun _ => 0)), cB w.heap.size w.heap.size 25 #[.slice (some ae) E.length ce, .slice (some ad) L.length ca]] wr)
      case atStart => exact ⟨[], T, _, rfl, rfl, by omega, HD.out, HM.out⟩
      case round =>
        clear HM HD
        obtain ⟨Q, T, vs, rfl, hgk, hTl, hD, hM⟩ := hrel
        have HM := Lib.hid hM
        have HD := Lib.hid hD
        have hQl := PlL.pairs_few HFEW.out hD.nodup hD.ok
        rcases List.eq_nil_or_concat T with hT0 | ⟨T0, x, hT0⟩
        · subst hT0
          obtain ⟨AT, cT, hvT⟩ := own_sl (hM.get 0 rfl)
          subst hvT
          have HF := Lib.hid (show RrPost w S.length E L (isIn S) (.returned (.tuple #[.slice (some ⟨g, 0, none⟩) S.length S.length, .bool true])) wr from by
            obtain ⟨h1, h2⟩ := hM.get 1 rfl
            exact ⟨g, vs, Q, rfl, h1, h2, hD.bf.1, hD.bf.2, hM.bel⟩)
          clear hM hD
          go_wp2
          go_ret2
          exact HF.out
        · rw [List.concat_eq_append] at hT0
          subst hT0
          obtain ⟨m, hm⟩ : ∃ m, T0.length = m := ⟨_, rfl⟩
          have hTe : (T0 ++ [x]).length = m + 1 := by simp [hm]
          rw [hTe] at hTl hgk
          have ho := hM.get 0 rfl
          rw [hTe] at ho
          obtain ⟨gv, cv, hvT, -, -⟩ := World.ownsRow.form ho (by omega)
          subst hvT
          have hcap := own_cap ho
          obtain ⟨c0, c1⟩ := own_TC hm ho
          have hpk := hD.tok x (by simp)
          have HOT := Lib.hid (show wr.ownsRow w.heap.size 42 2 (.slice (some ⟨gv, 0, none⟩) m cv) m (TC T0) from by have h := own_take2' ho; rw [← hm, TC_take, hm] at h; exact h)
          have HM1 := Lib.hid (show Mem w [cR w.heap.size 42 2 (.slice (some ⟨gv, 0, none⟩) m cv) m (TC T0), cV w.heap.size g 71 74 2 vs (rowsV S.length Q (fun _ => 0)), cB w.heap.size w.heap.size 25 #[.slice (some ae) E.length ce, .slice (some ad) L.length ca]] wr from hM.slice_ 0 rfl HOT.out rfl)
          have HDP := Lib.hid (fun hx => hD.pop (x := x) hx)
          have HDN := Lib.hid (fun hx => hD.new (x := x) hx)
          have HQN := Lib.hid hD.nodup
          obtain ⟨k, P⟩ := x
          obtain ⟨hkn, hks, hP, -⟩ := hpk
          dsimp only at c0 c1 hkn hks hP
          have m0 : (0 : Int) ≤ (m : Int) := by omega
          have m1 := IntWalk.i64_in (m : Int) (by omega)
          have m2 : ((m : Int) + 1) - 1 = (m : Int) := by omega
          have m3 : (m : Int) < (m : Int) + 1 := by omega
          have m4 : (m : Int) ≤ (cv : Int) := by omega
          have m5 : (m : Int) + 1 ≤ (cv : Int) := by omega
          have HMM := Lib.hid hm
          have HGK := Lib.hid hgk
          have k0 : (0 : Int) ≤ (k : Int) := by omega
          have k1 : (k : Int) < (S.length : Int) := by omega
          have HM2 := Lib.hid (HM1.out.new 42 #[.int .u32 (P : Int), .int .i64 (k : Int)])
          have HKS := Lib.hid hks
          clear hM hD ho hTe hm hgk HM HOT hks
          go_upto_region 12 with fail
          generalize hW : wr.alloc (.cells #[.int .u32 (P : Int), .int .i64 (k : Int)] 42) = W at *
          have hM := HM2.out
          generalize wr.heap.size = ga at *
          clear hW HM1 c0 c1 m1 m2 m3 m4 m5
          have hlen := (hM.get 2 rfl).2.len
          rw [rowsV_len] at hlen
          have hkv : k < vs.length := by omega
          have hkr : k < (rowsV S.length Q (fun _ => 0)).length := by rw [rowsV_len]; omega
          have hrow := (hM.get 2 rfl).2.row k hkv hkr
          rw [rowsV_get] at hrow
          dsimp only at hrow
          have hRl : (rowOf Q k).length ≤ 30720 := by
            have h1 := rowOf_len Q k
            omega
          have gcell := (hM.get 2 rfl).2.blk.get hkv
          obtain ⟨Ak, ck, hvk⟩ := own_sl hrow
          rw [hvk] at gcell
          have RK := Lib.hid (show Reads W W.heap.size 2 Ak (rowOf Q k).length ((rowP Q (fun _ => 0) k).flatMap arcCells) from by rw [hvk] at hrow; exact Reads.of_own hrow)
          have HROW := Lib.hid hrow
          have HVK := Lib.hid hvk
          obtain ⟨x0, x1, xf⟩ := blk2 (hM.get 0 rfl).2
          have HRP := Lib.hid (rowP_len Q (fun _ => 0) k)
          clear hM hrow hvk
          by_cases hxQ : (k, P) ∈ Q
          · obtain ⟨j, hj, hjP, -, hjn⟩ := row_index HQN.out (G := fun _ => 0) hxQ
            have HJ := Lib.hid hj
            have HJP := Lib.hid hjP
            have HJN := Lib.hid hjn
            have hjs : j < (rowOf Q k).length := by rw [← HRP.out]; exact hj
            have HDP' := Lib.hid (HDP.out hxQ)
            have j0 : (0 : Int) ≤ (j : Int) := by omega
            have HFI := Lib.hid (HM2.out.erase 0)
            have hgk' := HGK.out
            clear hjP hjn hxQ HDP HDN
            go_quiet ((go_at_call 43; (with_reducible refine quiet_left (place_atn (rowP Q (fun _ => 0) k) (rowOf Q k).length HRP.out (by omega) P j HJ.out HJP.out HJN.out Ak ck W.heap.size _ ?_)); exact RK.out))
            go_wp2
            go_roundg ((30720 - Q.length) * 64 + T0.length)
            case measure => have := HMM.out; omega
            case rel =>
              refine ⟨Q, T0, vs, rfl, rfl, by have := HMM.out; omega, HDP'.out, ?_⟩
              rw [HMM.out]
              exact HFI.out.drewN nq
          · have HJN := Lib.hid (row_no (G := fun _ => 0) hxQ)
            have HDN' := Lib.hid (HDN.out hxQ)
            have hQ2 := PlL.pairs_few HFEW.out HDN'.out.nodup HDN'.out.ok
            rw [List.length_append, List.length_singleton] at hQ2
            clear hxQ HDP HDN
            go_quiet ((go_at_call 43; (with_reducible refine quiet_left (place_non (rowP Q (fun _ => 0) k) (rowOf Q k).length HRP.out (by omega) P HJN.out Ak ck W.heap.size _ ?_)); exact RK.out))
            go_upto_region 13 with fail
            have HMW := Lib.hid (HM2.out.drewN nq)
            generalize W.drewN nq = W2 at *
            have hMW := HMW.out
            clear x0 x1 xf gcell HROW RK HM2
            obtain ⟨x0, x1, xf⟩ := blk2 (hMW.get 0 rfl).2
            have HPB := Lib.hid (hMW.get 0 rfl).2
            have gcell := (hMW.get 2 rfl).2.blk.get hkv
            have gfrz := (hMW.get 2 rfl).2.blk.frozen k
            have hWs := (hMW.get 0 rfl).2.lt
            have hgs := (hMW.get 2 rfl).2.blk.lt
            have HROW := Lib.hid (show W2.ownsRow w.heap.size 74 2 vs[k] (rowOf Q k).length ((rowP Q (fun _ => 0) k).flatMap arcCells) from by have h := (hMW.get 2 rfl).2.row k hkv hkr; rw [rowsV_get] at h; exact h)
            have HGR := Lib.hid (hMW.get 2 rfl).2
            have hW2z := hMW.size
            have HRN := Lib.hid (show (rowsV S.length Q (fun _ => 0)).set k ((rowOf Q k).length + 1, (rowP Q (fun _ => 0) k).flatMap arcCells ++ arcCells (P, 0)) = rowsV S.length (Q ++ [(k, P)]) (fun _ => 0) from rowsV_set (x := (k, P)))
            generalize hvt : vs[k] = vt at *
            have HV := Lib.hid hvt
            clear hMW hvt
            go_cut [7] (fun nv wx => nv = .int .i64 (Q.length : Int) ∧ ∃ vs', Mem w [cB w.heap.size ga 42 #[.int .u32 (P : Int), .int .i64 (k : Int)], cR w.heap.size 42 2 (.slice (some ⟨gv, 0, none⟩) m cv) m (TC T0), cV w.heap.size g 71 74 2 vs' (rowsV S.length (Q ++ [(k, P)]) (fun _ => 0)), cB w.heap.size w.heap.size 25 #[.slice (some ae) E.length ce, .slice (some ad) L.length ca]] wx)
            case first =>
              go_region_law (first
                | ((with_reducible refine step_append_any _ rfl (.tmp 67) (.tmp 71) 71 rfl w.heap.size 74 jj (.agg #[.int .u32 0, .int .i64 0]) 2 16 Try.underlying71 hj0 hy0 hy1 hy2 rfl (by decide) vt (rowOf Q k).length ((rowP Q (fun _ => 0) k).flatMap arcCells) rfl ?_ (W2.heap.size + 1) (some ⟨W2.heap.size, 0, none⟩) 1 1 (arcCells (P, 0)) rfl ?_ ?_ ?_ ?_ ?_ ?_); exact HROW.out.alloc _; exact reads_new2 _ _ _ _; exact one_arc _; exact len_ok (by omega); omega; (simp; omega); intro v1 x1 ho1 hg1 hv1; obtain ⟨gw, cw, rfl, -, -⟩ := ho1.form (by omega); have hgw := grown_pre (grown_drew hg1); have z1 := (HPB.out.grown hgw (Ne.symm (own_blk_ne HROW.out HPB.out (by decide)))).cell 0; have z1' := (HPB.out.grown hgw (Ne.symm (own_blk_ne HROW.out HPB.out (by decide)))).cell 1; have z2 := (HGR.out.blk.grown hgw (Ne.symm (own_blk_ne HROW.out HGR.out.blk (by decide)))).get hkv; rw [HV.out] at z2; have z3 := (HGR.out.blk.grown hgw (Ne.symm (own_blk_ne HROW.out HGR.out.blk (by decide)))).frozen k; have HM4 := Lib.hid (show Mem w [cB w.heap.size ga 42 #[.int .u32 (P : Int), .int .i64 (k : Int)], cR w.heap.size 42 2 (.slice (some ⟨gv, 0, none⟩) m cv) m (TC T0), cV w.heap.size g 71 74 2 (vs.set k (.slice (some ⟨gw, 0, none⟩) ((rowOf Q k).length + 1) cw)) (rowsV S.length (Q ++ [(k, P)]) (fun _ => 0)), cB w.heap.size w.heap.size 25 #[.slice (some ae) E.length ce, .slice (some ad) L.length ca]] (x1.setCell ⟨g, k, none⟩ (.slice (some ⟨gw, 0, none⟩) ((rowOf Q k).length + 1) cw)) from by have h := Mem.rowV HMW.out 2 rfl (by decide) (Nat.succ_pos _) (S := W2.heap.size + 1) (by omega) hkv hkr (by rw [HV.out]; exact hgw) ho1 (by rw [HV.out]; simpa using hv1); rw [HRN.out] at h; exact h); clear hgw hg1 hv1 ho1))
              all_goals
                go_wp2
                go_meet
                refine ⟨rfl, (vs.set k (.slice (some ⟨gw, 0, none⟩) ((rowOf Q k).length + 1) cw)), ?_⟩
                have h2 := HM4.out
                have h3 := h2.drew
                first | with_reducible exact h2 | with_reducible exact h3
            case rest =>
              obtain ⟨rfl, vs', hM⟩ := hcut
              have HM := Lib.hid (show Mem w [cR w.heap.size 42 2 (.slice (some ⟨gv, 0, none⟩) m cv) m (TC T0), cB w.heap.size ga 42 #[.int .u32 (P : Int), .int .i64 (k : Int)], cV w.heap.size g 71 74 2 vs' (rowsV S.length (Q ++ [(k, P)]) (fun _ => 0)), cB w.heap.size w.heap.size 25 #[.slice (some ae) E.length ce, .slice (some ad) L.length ca]] wc from hM.perm (List.Perm.swap _ _ _))
              clear hM HMW HPB HGR HROW HRN HV gcell gfrz hWs hgs hW2z x0 x1 xf hkv hkr hlen HVK
              have hM := HM.out
              obtain ⟨x0, x1, xf⟩ := blk2 (hM.get 1 rfl).2
              obtain ⟨p0, p1, pf⟩ := blk2 (hM.get 3 rfl).2
              have hkL : k < L.length := by have := HLL.out; omega
              have HROWL := Lib.hid (fun (X : World) (hX : Below w.heap.size w X) => row_at (RA.out.below hX) (fun k l hl => let ⟨u, hu, ha⟩ := HK.out k l hl; (⟨u, hu, ha.below hX⟩ : ∃ u, rows[k]? = some u ∧ ArcsAt X w.heap.size u l)) hkL)
              have HLS := Lib.hid (HL.out k hkL).2
              have hll := H40.out k hkL
              have HTS := Lib.hid (HTO.out k hkL)
              have HGD := Lib.hid (show L.getD k [] = L[k] from getD_l [] hkL)
              have t5 : decide ((262144 : Int) < (Q.length : Int) + 1) = false := decide_eq_false (by omega)
              have k2 : (k : Int) < (L.length : Int) := by omega
              generalize L[k] = l at *
              clear hM
              go_wp2_with fail
              clear t5 x0 x1 xf p0 p1 pf
              go_loopw [8, 11] (fun tv iv wr => ∃ (j : Nat) (T' : List Pr), j ≤ l.length ∧ iv = .int .i64 j ∧ T'.length ≤ m + j ∧ DF S.length E L (isIn S) S.length ((Q ++ [(k, P)])) T' (some (k, P)) ∧ (∀ a ∈ l.take j, isIn S a.2.toNat = false → PlL.suc E (k, P) a ∈ (Q ++ [(k, P)]) ∨ PlL.suc E (k, P) a ∈ T') ∧ Mem w [cR w.heap.size 42 2 (tv) T'.length (TC T'), cB w.heap.size ga 42 #[.int .u32 (P : Int), .int .i64 (k : Int)], cV w.heap.size g 71 74 2 vs' (rowsV S.length (Q ++ [(k, P)]) (fun _ => 0)), cB w.heap.size w.heap.size 25 #[.slice (some ae) E.length ce, .slice (some ad) L.length ca]] wr) (fun _ iv _ => l.length - (intOf iv).toNat)
              case atStart => exact ⟨0, T0, Nat.zero_le _, rfl, by have := HMM.out; omega, HDN'.out, fun a ha => (by simp at ha), by rw [HMM.out]; exact HM.out⟩
              case round =>
                clear HM HDN'
                obtain ⟨j, T', hj, rfl, hTl2, hD, hdo, hM⟩ := hrel
                have HM := Lib.hid hM
                have HD := Lib.hid hD
                have HDO := Lib.hid hdo
                obtain ⟨AT, cT, hvT⟩ := own_sl (hM.get 0 rfl)
                subst hvT
                obtain ⟨x0, x1, xf⟩ := blk2 (hM.get 1 rfl).2
                obtain ⟨p0, p1, pf⟩ := blk2 (hM.get 3 rfl).2
                obtain ⟨aL, Al, cl, hAL, hbla, cr, rk⟩ := HROWL.out wr hM.bel
                obtain rfl : ad = aL := by injection hAL
                have j0 : (0 : Int) ≤ (j : Int) := by omega
                by_cases hlt2 : j < l.length
                · obtain ⟨al, hA, hbl2, a0, a1⟩ := arc_at rk hlt2
                  subst hA
                  have hx' := HTS.out l[j] (List.getElem_mem _)
                  have hx1' := HLS.out j hlt2
                  have HTK := Lib.hid (show l.take (j + 1) = l.take j ++ [l[j]] by rw [List.take_add_one, List.getElem?_eq_getElem hlt2]; rfl)
                  generalize l[j] = a at *
                  obtain ⟨ua, at_⟩ := a
                  dsimp only at a0 a1 hx' hx1'
                  obtain ⟨t, rfl⟩ : ∃ t : Nat, at_ = (t : Int) := ⟨at_.toNat, by omega⟩
                  have htn : t < S.length := by omega
                  have HTE := Lib.hid (show t < E.length by have := HSE.out; omega)
                  have HEL := Lib.hid (show E.length ≤ 32768 by have := HSE.out; omega)
                  have HSU := Lib.hid (show PlL.suc E (k, P) (ua, (t : Int)) = (t, PlL.aft E P (ua, (t : Int))) from by unfold PlL.suc; simp only [Int.toNat_natCast])
                  have HPK := Lib.hid (show isIn S t = false → PlL.PrOk S.length E (isIn S) (PlL.suc E (k, P) (ua, (t : Int))) from fun hs => suc_ok HEW.out (k, P) (a := (ua, (t : Int))) (by simpa using htn) (by simpa using hs))
                  have j1 : (j : Int) < (l.length : Int) := by omega
                  have t0 : (0 : Int) ≤ (t : Int) := by omega
                  have t1 : (t : Int) < (S.length : Int) := by omega
                  have HMA0 := HM.out.new 42 #[.int .u32 (ua : Int), .int .i64 (t : Int)]
                  have HMA := Lib.hid (show Mem w [cR w.heap.size 42 2 (.slice AT T'.length cT) T'.length (TC T'), cB w.heap.size wr.heap.size 42 #[.int .u32 (ua : Int), .int .i64 (t : Int)], cB w.heap.size ga 42 #[.int .u32 (P : Int), .int .i64 (k : Int)], cV w.heap.size g 71 74 2 vs' (rowsV S.length (Q ++ [(k, P)]) (fun _ => 0)), cB w.heap.size w.heap.size 25 #[.slice (some ae) E.length ce, .slice (some ad) L.length ca]] (wr.alloc (.cells #[.int .u32 (ua : Int), .int .i64 (t : Int)] 42)) from HMA0.perm (List.Perm.swap _ _ _))
                  clear hM hD hdo rk hAL hx' HMA0
                  go_upto_region 21 with fail
                  generalize hW : wr.alloc (.cells #[.int .u32 (ua : Int), .int .i64 (t : Int)] 42) = W at *
                  generalize wr.heap.size = gb at *
                  clear hW x0 x1 xf p0 p1 pf a0 a1 cr HM
                  have hM := HMA.out
                  obtain ⟨a0, a1, af⟩ := blk2 (hM.get 1 rfl).2
                  obtain ⟨sd', hA, hbs, cS⟩ := bool_at (SR0.out.below hM.bel) htn
                  obtain rfl : sd = sd' := by injection hA
                  rw [← isIn_of htn] at cS
                  clear hA
                  cases hst : isIn S t
                  · rw [hst] at cS
                    have HPK' := Lib.hid (HPK.out hst)
                    obtain ⟨q, hq⟩ : ∃ q, PlL.aft E P (ua, (t : Int)) = q := ⟨_, rfl⟩
                    have HQA := Lib.hid hq
                    rw [HSU.out, hq] at HPK'
                    rw [hq] at HSU
                    have rA0 : ∀ X, SR w [cB w.heap.size gb 42 #[.int .u32 (ua : Int), .int .i64 (t : Int)], cB w.heap.size ga 42 #[.int .u32 (P : Int), .int .i64 (k : Int)], cV w.heap.size g 71 74 2 vs' (rowsV S.length (Q ++ [(k, P)]) (fun _ => 0)), cB w.heap.size w.heap.size 25 #[.slice (some ae) E.length ce, .slice (some ad) L.length ca]] X → X.cell? ⟨gb, 0, none⟩ = some (.int .u32 (ua : Int)) := fun X h => (let ⟨_, _, _, h⟩ := h; (blk2 (h.get 1 rfl).2).1)
                    have rA1 : ∀ X, SR w [cB w.heap.size gb 42 #[.int .u32 (ua : Int), .int .i64 (t : Int)], cB w.heap.size ga 42 #[.int .u32 (P : Int), .int .i64 (k : Int)], cV w.heap.size g 71 74 2 vs' (rowsV S.length (Q ++ [(k, P)]) (fun _ => 0)), cB w.heap.size w.heap.size 25 #[.slice (some ae) E.length ce, .slice (some ad) L.length ca]] X → X.cell? ⟨gb, 1, none⟩ = some (.int .i64 (t : Int)) := fun X h => (let ⟨_, _, _, h⟩ := h; (blk2 (h.get 1 rfl).2).2.1)
                    have rX0 : ∀ X, SR w [cB w.heap.size gb 42 #[.int .u32 (ua : Int), .int .i64 (t : Int)], cB w.heap.size ga 42 #[.int .u32 (P : Int), .int .i64 (k : Int)], cV w.heap.size g 71 74 2 vs' (rowsV S.length (Q ++ [(k, P)]) (fun _ => 0)), cB w.heap.size w.heap.size 25 #[.slice (some ae) E.length ce, .slice (some ad) L.length ca]] X → X.cell? ⟨ga, 0, none⟩ = some (.int .u32 (P : Int)) := fun X h => (let ⟨_, _, _, h⟩ := h; (blk2 (h.get 2 rfl).2).1)
                    have rP0 : ∀ X, SR w [cB w.heap.size gb 42 #[.int .u32 (ua : Int), .int .i64 (t : Int)], cB w.heap.size ga 42 #[.int .u32 (P : Int), .int .i64 (k : Int)], cV w.heap.size g 71 74 2 vs' (rowsV S.length (Q ++ [(k, P)]) (fun _ => 0)), cB w.heap.size w.heap.size 25 #[.slice (some ae) E.length ce, .slice (some ad) L.length ca]] X → X.cell? ⟨w.heap.size, 0, none⟩ = some (.slice (some ae) E.length ce) := fun X h => (let ⟨_, _, _, h⟩ := h; (blk2 (h.get 4 rfl).2).1)
                    have rP1 : ∀ X, SR w [cB w.heap.size gb 42 #[.int .u32 (ua : Int), .int .i64 (t : Int)], cB w.heap.size ga 42 #[.int .u32 (P : Int), .int .i64 (k : Int)], cV w.heap.size g 71 74 2 vs' (rowsV S.length (Q ++ [(k, P)]) (fun _ => 0)), cB w.heap.size w.heap.size 25 #[.slice (some ae) E.length ce, .slice (some ad) L.length ca]] X → X.cell? ⟨w.heap.size, 1, none⟩ = some (.slice (some ad) L.length ca) := fun X h => (let ⟨_, _, _, h⟩ := h; (blk2 (h.get 4 rfl).2).2.1)
                    have hSRW : SR w [cB w.heap.size gb 42 #[.int .u32 (ua : Int), .int .i64 (t : Int)], cB w.heap.size ga 42 #[.int .u32 (P : Int), .int .i64 (k : Int)], cV w.heap.size g 71 74 2 vs' (rowsV S.length (Q ++ [(k, P)]) (fun _ => 0)), cB w.heap.size w.heap.size 25 #[.slice (some ae) E.length ce, .slice (some ad) L.length ca]] W := SR.of hM
                    have hwz := hM.size
                    clear hM hq hst
                    go_upto_region 22 with fail
                    go_region_held3 (fun X => SR w [cB w.heap.size gb 42 #[.int .u32 (ua : Int), .int .i64 (t : Int)], cB w.heap.size ga 42 #[.int .u32 (P : Int), .int .i64 (k : Int)], cV w.heap.size g 71 74 2 vs' (rowsV S.length (Q ++ [(k, P)]) (fun _ => 0)), cB w.heap.size w.heap.size 25 #[.slice (some ae) E.length ce, .slice (some ad) L.length ca]] X) (first | assumption | exact SR.drew (by assumption) | exact SR.below (by assumption) (by assumption) | exact SR.alloc (by assumption) _ | exact SR.of HM9.out)
                      (first
                        | (go_at_call 56; (with_reducible refine (rafter_any E L _ HE.out P ua t q hP hx1' HTE.out HEL.out HQA.out _ ?_).mono ?_); (exact HS.out.go (SR.bel (by first | assumption | exact SR.drew (by assumption)))); rintro e u1 ⟨rfl, hu1⟩; have HMU := Lib.hid (HMA.out.drew.below hu1); have HOW := Lib.hid (show u1.ownsRow w.heap.size 42 2 (.slice AT T'.length cT) T'.length (TC T') from HMU.out.get 0 rfl); have huz := HMU.out.size)
                        | ((with_reducible refine step_append_any _ rfl (.tmp 104) (.tmp 113) 39 rfl w.heap.size 42 i0 (.agg #[.int .u32 0, .int .i64 0]) 2 16 Try.underlying39 hi0 hz0 hz1 hz2 rfl (by decide) (.slice AT T'.length cT) T'.length (TC T') rfl ?_ (u1.heap.size + 1) (some ⟨u1.heap.size, 0, none⟩) 1 1 (arcCells (tA (t, q))) rfl ?_ ?_ ?_ ?_ ?_ ?_); exact HOW.out.alloc _; exact reads_new2 _ _ _ _; exact one_arc _; exact len_ok (by omega); omega; (simp; omega); intro v1 x1 ho1 hg1 hv1; have HM9 := Lib.hid (HMU.out.app 0 (S := u1.heap.size + 1) rfl (grown_pre hg1) ho1 (by simpa using hv1) (by omega)); clear ho1 hg1 hv1))
                    all_goals
                      go_wp2
                      refine ⟨⟨j + 1, T' ++ [(t, q)], by omega, by go_num, by simp; omega, HD.out.push HPK'.out, ?_, ?_⟩, by simp [intOf]; omega⟩
                      · intro a ha hs
                        rw [HTK.out] at ha
                        rcases List.mem_append.1 ha with h1 | h1
                        · exact (HDO.out a h1 hs).imp id (List.mem_append_left _)
                        · rw [List.mem_singleton] at h1
                          subst h1
                          rw [HSU.out]
                          exact .inr (by simp)
                      · rw [TC_snoc, List.length_append]
                        exact HM9.out.erase 1
                  · rw [hst] at cS
                    have HSTT := Lib.hid hst
                    clear hst hM
                    have HF := Lib.hid (HMA.out.erase 1)
                    go_wp2
                    refine ⟨⟨j + 1, T', by omega, by go_num, by omega, HD.out, ?_, HF.out⟩, by simp [intOf]; omega⟩
                    intro a ha hs
                    rw [HTK.out] at ha
                    rcases List.mem_append.1 ha with h1 | h1
                    · exact HDO.out a h1 hs
                    · rw [List.mem_singleton] at h1
                      subst h1
                      rw [Int.toNat_natCast, HSTT.out] at hs
                      cases hs
                · obtain rfl : j = l.length := by omega
                  have HFD := Lib.hid (HD.out.fin (fun a ha hs => HDO.out a (by rw [List.take_length, ← HGD.out]; exact ha) hs))
                  have HFM := Lib.hid (HM.out.erase 1)
                  have hq3 : (Q ++ [(k, P)]).length = Q.length + 1 := by simp
                  have HQ3 := Lib.hid hq3
                  have hgk := HGK.out
                  clear hM hD hdo rk hAL hlt2 hq3
                  go_wp2
                  go_roundg ((30720 - (Q ++ [(k, P)]).length) * 64 + T'.length)
                  case measure => rw [HQ3.out]; omega
                  case rel => exact ⟨Q ++ [(k, P)], T', vs', by rw [HQ3.out]; go_num, rfl, by rw [HQ3.out]; omega, HFD.out, HFM.out⟩
end Go.Proofs.Ytbilciiffecdgaa
