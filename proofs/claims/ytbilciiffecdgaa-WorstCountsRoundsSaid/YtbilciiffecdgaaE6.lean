/- worst.reachable. -/
import Derived.Test.YtbilciiffecdgaaPlI
import Derived.Test.YtbilciiffecdgaaGU
import Derived.Deep.LoopGhost
namespace Go.Proofs.Ytbilciiffecdgaa
open Go.RowKit

theorem perm4 {α : Type} (a b c d : α) (t : List α) : (a :: b :: c :: d :: t).Perm (d :: b :: a :: c :: t) :=
  List.Perm.append_right t (l₁ := [a, b, c, d]) (l₂ := [d, b, a, c]) ((List.Perm.swap b a [c, d]).trans (((List.perm_append_comm (l₁ := [a, c]) (l₂ := [d])).cons b).trans (List.Perm.swap d b [a, c])))
theorem pc_get {Q : List (Nat × Nat)} {i : Nat} {x : Nat × Nat} (h : Q[i]? = some x) : (Q.flatMap pc)[i * 2]? = some (.int .i64 (x.1 : Int)) ∧ (Q.flatMap pc)[i * 2 + 1]? = some (.int .u32 (x.2 : Int)) := by
  induction Q generalizing i with
  | nil => cases h
  | cons a Q ih =>
    cases i with
    | zero => injection h with h; subst h; exact ⟨rfl, rfl⟩
    | succ i =>
      have := ih (i := i) h
      rw [show (i + 1) * 2 = i * 2 + 1 + 1 by omega]
      exact this
theorem own_pc {w : World} {base g n c i : Nat} {x : Nat × Nat} {Q : List (Nat × Nat)} (h : w.ownsRow base 65 2 (.slice (some ⟨g, 0, none⟩) n c) n (Q.flatMap pc)) (hi : Q[i]? = some x) : w.cell? ⟨g, i * 2, none⟩ = some (.int .i64 (x.1 : Int)) ∧ w.cell? ⟨g, i * 2 + 1, none⟩ = some (.int .u32 (x.2 : Int)) := by
  have hl : i < Q.length := (List.getElem?_eq_some_iff.1 hi).1
  have h1 := h.1
  rw [pc_len] at h1
  obtain ⟨a1, a2⟩ := pc_get hi
  exact ⟨(h.cellAt (i * 2) (by omega)).trans a1, (h.cellAt (i * 2 + 1) (by omega)).trans a2⟩
theorem rowsOf_nil (n : Nat) : rowsOf n [] = List.replicate n [] := by
  unfold rowsOf rowOf
  apply List.ext_getElem
  · simp
  · intro i h1 h2; simp
theorem Try.infoU32s : (Try.prog.info? 22).map (fun i => (i.zero, i.size, i.bytes)) = some (some (.slice none 0 0), 1, 24) := by kernel_rfl
/-- rows of rows, new -/
theorem Mem.pushU {w0 w : World} {l : List (Ch w0.heap.size)} (h : Mem w0 l w) {te e : TypeId} (n : Nat) : Mem w0 (cU w0.heap.size w.heap.size te e (List.replicate n (.slice none 0 0)) (List.replicate n []) :: l) (w.alloc (.cells (madeCells #[.slice none 0 0] n) te)) := by
  refine h.push (galloc _ _) ⟨h.size, ?_⟩ (fun b e => ?_)
  · have := GridU.start w w0.heap.size te e n
    rw [← made_list] at this
    exact this
  · rcases e with rfl | ⟨x, hx, e⟩
    · exact Nat.le_refl _
    · simp [Value.ownBlock] at e
theorem Mem.rowMid {w0 w x1 : World} {A T : List (Ch w0.heap.size)} {p : Ch w0.heap.size} {g te e : Nat} {vs : List Value} {R : List (List Nat)} (h : Mem w0 (p :: (A ++ (cU w0.heap.size g te e vs R :: T))) w) (hne : e ≠ te) {t k : Nat} {v' vt : Value} {S : Nat} {R' : List (List Nat)} (hS : w.heap.size ≤ S) (ht : t < vs.length) (htr : t < R.length) (hvt : vs[t] = vt)
    (hR : R.set t (R[t] ++ [k]) = R') (hg : w.grownBy x1 vt.ownBlock) (ho : x1.ownsRow w0.heap.size e 1 v' (R[t].length + 1) (R[t].map U32 ++ [U32 k])) (hv : v'.ownBlock = vt.ownBlock ∨ v'.ownBlock = some S) :
    Mem w0 (A ++ (p :: (cU w0.heap.size g te e (vs.set t v') R' :: T))) (x1.setCell ⟨g, t, none⟩ v') := by
  subst hvt
  have h1 := h.rowU (g := g) (te := te) (e := e) (vs := vs) (R := R) (A.length + 1) (by simp) hne (k := k) hS ht htr hg ho hv
  rw [hR, List.set_cons_succ, List.set_append_right _ _ (Nat.le_refl _), Nat.sub_self, List.set_cons_zero] at h1
  exact h1.perm List.perm_middle.symm
abbrev RcL (w : World) (sp : Array Value) (b gm gq gl g : Nat) (vl vq : Value) (Q : List (Nat × Nat)) (vs : List Value) (R : List (List Nat)) : List (Ch w.heap.size) :=
  AdL w.heap.size b gm gq gl vl vq Q ++ [cU w.heap.size g 22 40 vs R, cB w.heap.size w.heap.size 25 sp]
/-- what reachable returns: for each state the sets of pending nodes that are found there -/
def RchPost (w : World) (n : Nat) (E : List Nat) (L : List (List Arc)) (S : Nat → Bool) (e : Ending) (w' : World) : Prop :=
  ∃ (g : Nat) (vs : List Value) (Q : List (Nat × Nat)), e = .returned (.tuple #[.slice (some ⟨g, 0, none⟩) n n, .int .i64 0]) ∧ w.heap.size ≤ g ∧ GridU w' w.heap.size g 22 40 vs (rowsOf n Q) ∧ BF n E L S Q Q.length ∧ (∀ k, k < n → S k = false → (k, E.getD k 0) ∈ Q) ∧ Below w.heap.size w w'

set_option maxRecDepth 100000 in
set_option maxHeartbeats 4000000 in
theorem reachable_ok (E : List Nat) (L : List (List Arc)) (v : Value) (hE : WfE E) (hL : WfL L) (hok : PlS.spaceOk E L = true) (S : List Bool) (hSl : S.length = E.length) (hfew : ∀ k, k < S.length → Pl.pop (E.getD k 0) ≤ 8) (hn : S.length ≤ 120) (A : Option Addr) (c : Nat) (w : World) (hS : SpaceAt w w.heap.size v E L) (hSr : Reads w w.heap.size 1 A S.length (S.map Value.bool)) :
    Calls Try.prog 39 #[v, .slice A S.length c] w (RchPost w S.length E L (isIn S)) := by
  have HS := Lib.hid hS
  obtain ⟨ve, va, rfl, ⟨Ae, ce, rfl, re⟩, ⟨Aa, ca, rows, rfl, ra, hk⟩⟩ := hS
  obtain ⟨hn1, hn2, hn3, hto⟩ := PlG.ok_parts hok
  obtain ⟨ad, hA, -⟩ := ra.2 (by omega)
  subst hA
  obtain ⟨ae, hA, -⟩ := re.2 (by omega)
  subst hA
  obtain ⟨sd, hA, -⟩ := hSr.2 (by omega)
  subst hA
  rw [← hSl] at HS ⊢
  have HE := Lib.hid hE
  have HL := Lib.hid hL
  have SR := Lib.hid hSr
  have RA := Lib.hid ra
  have RE := Lib.hid re
  have HK := Lib.hid hk
  have HSE := Lib.hid hSl
  have HFEW := Lib.hid hfew
  have HLL := Lib.hid (show L.length = S.length by omega)
  have HTO := Lib.hid (show ∀ k (hk : k < L.length), ∀ x ∈ L[k], 0 ≤ x.2 ∧ x.2 < (S.length : Int) from fun k hk x hx => by have := hto k hk x hx; omega)
  have HEW := Lib.hid (show ∀ x, E.getD x 0 < 4294967296 from fun x => by
    by_cases h : x < E.length
    · rw [getD_l 0 h]; exact hE x h
    · rw [List.getD_eq_getElem?_getD, List.getElem?_eq_none (by omega)]; exact (by decide : 0 < 4294967296))
  have hn0 : 1 ≤ S.length := by omega
  obtain ⟨jj, hj0, hy0, hy1, hy2⟩ := info_parts Try.infoU32
  clear hE hL hSr re ra hk hok hSl hn1 hn2 hn3 hto hfew
  have HST := Lib.hid (show Mem w (AdL w.heap.size (w.heap.size + 1 + 1) (w.heap.size + 1 + 1 + 1) (w.heap.size + 1 + 1 + 1 + 1) (w.heap.size + 1) (.slice (some sd) S.length c) (.slice none 0 0) [] ++ [cB w.heap.size w.heap.size 25 #[.slice (some ae) S.length ce, .slice (some ad) L.length ca]])
      (((((w.alloc (.cells #[.slice (some ae) S.length ce, .slice (some ad) L.length ca] 25)).alloc (.cells #[.slice (some sd) S.length c] 26)).alloc (.map #[] 0)).alloc (.cells #[.map (some (w.heap.size + 1 + 1))] 84)).alloc (.cells #[.slice none 0 0] 85)) from by
    have h := (((((Mem.start w).new 25 #[.slice (some ae) S.length ce, .slice (some ad) L.length ca]).new 26 #[.slice (some sd) S.length c]).newMap.new 84 #[.map (some (w.heap.size + 1 + 1))]).new 85 #[.slice none 0 0]).nil_ 65 2
    simp only [World.size_alloc] at h
    exact h.perm (perm4 _ _ _ _ _))
  have hmm := @run_makeMap Try.prog
  go_enter Try.func39, Try.ntmps39
  go_wp2_with fail
  clear hmm
  generalize w.heap.size + 1 + 1 + 1 + 1 = gq at *
  generalize w.heap.size + 1 + 1 + 1 = gm at *
  generalize w.heap.size + 1 + 1 = b at *
  generalize w.heap.size + 1 = gl at *
  go_loopw [23] (fun i wr => ∃ (k : Nat) (Q : List (Nat × Nat)) (vq : Value), k ≤ S.length ∧ i = .int .i64 k ∧ Mem w (AdL w.heap.size b gm gq gl (.slice (some sd) S.length c) vq Q ++ [cB w.heap.size w.heap.size 25 #[.slice (some ae) S.length ce, .slice (some ad) L.length ca]]) wr ∧ BF S.length E L (isIn S) Q 0 ∧ ∀ j, j < k → isIn S j = false → (j, E.getD j 0) ∈ Q) (fun i _ => S.length - (intOf i).toNat)
  case atStart => exact ⟨0, [], _, Nat.zero_le _, rfl, HST.out, BF.start, fun j hj => absurd hj (Nat.not_lt_zero j)⟩
  case round =>
    clear HST
    obtain ⟨k, Q, vq, hk, rfl, hM, hB, hini⟩ := hrel
    have HM := Lib.hid hM
    have HB := Lib.hid hB
    have HINI := Lib.hid hini
    have hQl := PlL.pairs_few HFEW.out hB.nodup hB.ok
    by_cases hlt : k < S.length
    · have hkE : k < E.length := by have := HSE.out; omega
      obtain ⟨aE, hAE, hble, ce0⟩ := set_at (RE.out.below hM.bel) hkE
      obtain rfl : ae = aE := by injection hAE
      have HBN := Lib.hid (hB.add (Nat.zero_le _) (x := (k, E.getD k 0)) (fun hs => ini_ok HEW.out hlt hs))
      have hgd : E.getD k 0 = E[k] := getD_l 0 hkE
      have HGD := Lib.hid hgd
      have hek := HE.out k hkE
      rw [hgd] at HBN
      generalize E[k] = en at *
      have k0 : (0 : Int) ≤ (k : Int) := by omega
      have k1 : (k : Int) < (S.length : Int) := by omega
      clear hM hB hini hAE hgd
      go_wp2_with fail
      refine (add_any w b gm gq gl S (some sd) c SR.out Q (by omega) vq (k, en) hlt (by omega) [cB w.heap.size w.heap.size 25 #[.slice (some ae) S.length ce, .slice (some ad) L.length ca]] wr HM.out).mono ?_
      rintro e w1 ⟨⟨v1, rfl⟩, vq', hM'⟩
      have HM' := Lib.hid hM'
      clear hM' ce0
      go_wp2
      refine ⟨⟨k + 1, _, vq', by omega, by go_num, HM'.out, HBN.out, fun j hj hs => ?_⟩, by simp [intOf]; omega⟩
      rcases Nat.lt_or_ge j k with h1 | h1
      · exact adq_sub (HINI.out j h1 hs)
      · obtain rfl : j = k := by omega
        rw [HGD.out]
        exact adq_mem hs
    · obtain rfl : k = S.length := by omega
      have hmk := run_make_row' (P := Try.prog) 60 22 (.slice none 0 0) 24 Try.underlying60 Try.infoU32s rfl .i64 .i64 S.length (by omega) (by omega)
      obtain ⟨l0, lf⟩ := blk1 (hM.get 4 rfl).2
      have HM2 := Lib.hid (show Mem w (RcL w #[.slice (some ae) S.length ce, .slice (some ad) L.length ca] b gm gq gl wr.heap.size (.slice (some sd) S.length c) vq Q (List.replicate S.length (.slice none 0 0)) (rowsOf S.length [])) (wr.alloc (.cells (madeCells #[.slice none 0 0] S.length) 22)) from by
        have h := hM.pushU (te := 22) (e := 40) S.length
        rw [← rowsOf_nil] at h
        exact h.perm (List.perm_middle (l₁ := AdL w.heap.size b gm gq gl (.slice (some sd) S.length c) vq Q) (l₂ := [cB w.heap.size w.heap.size 25 #[.slice (some ae) S.length ce, .slice (some ad) L.length ca]])).symm)
      clear hM hB hini HM hlt
      go_wp2_with fail
      clear hmk l0 lf
      generalize wr.heap.size = g at *
      have hQ0 : Q.length ≤ 30720 := by omega
      go_loopw [12] (fun i wr => ∃ (j : Nat) (Q : List (Nat × Nat)) (vq : Value) (vs : List Value), i = .int .i64 j ∧ j ≤ Q.length ∧ Mem w (RcL w #[.slice (some ae) S.length ce, .slice (some ad) L.length ca] b gm gq gl g (.slice (some sd) S.length c) vq Q vs (rowsOf S.length (Q.take j))) wr ∧ BF S.length E L (isIn S) Q j ∧ ∀ j, j < S.length → isIn S j = false → (j, E.getD j 0) ∈ Q) (fun i _ => 30720 - (intOf i).toNat)
      case atStart => exact ⟨0, Q, vq, _, rfl, Nat.zero_le _, HM2.out, HB.out, HINI.out⟩
      case round =>
        clear HM2 HB HINI hQ0 hQl hk
        obtain ⟨i, Q, vq, vs, rfl, hi, hM, hB, hini⟩ := hrel
        have HM := Lib.hid hM
        have HB := Lib.hid hB
        have HINI := Lib.hid hini
        have hQl := PlL.pairs_few HFEW.out hB.nodup hB.ok
        obtain ⟨q0, qf⟩ := blk1 (hM.get 1 rfl).2
        obtain ⟨Aq, cq, hvq⟩ := own_sl (hM.get 2 rfl)
        subst hvq
        by_cases hlt : i < Q.length
        · have hQi : Q[i]? = some Q[i] := List.getElem?_eq_getElem hlt
          have HQI := Lib.hid hQi
          have HPO := Lib.hid (hB.ok _ (List.getElem_mem hlt))
          obtain ⟨gv, cv, hfo, -, -⟩ := World.ownsRow.form (hM.get 2 rfl) (by omega)
          injection hfo with hfo _ hco
          subst hfo hco
          have cq0 := own_pc (hM.get 2 rfl) hQi
          have HTK := Lib.hid (show Q.take (i + 1) = Q.take i ++ [Q[i]] by rw [List.take_add_one, hQi]; rfl)
          generalize Q[i] = x at *
          obtain ⟨k, P⟩ := x
          obtain ⟨cq1, cq2⟩ := cq0
          dsimp only at cq1 cq2
          have hkn : k < S.length := HPO.out.1
          have hP : P < 4294967296 := HPO.out.2.2.1
          have i0 : (0 : Int) ≤ (i : Int) := by omega
          have i1 : (i : Int) < (Q.length : Int) := by omega
          have k0 : (0 : Int) ≤ (k : Int) := by omega
          have k1 : (k : Int) < (S.length : Int) := by omega
          have t1 : decide ((262144 : Int) < (Q.length : Int)) = false := decide_eq_false (by omega)
          have t2 : decide (262144 < Q.length) = false := decide_eq_false (by omega)
          have hlen := (hM.get 5 rfl).2.len
          rw [rowsOf_len] at hlen
          have hkv : k < vs.length := by omega
          have hkr : k < (rowsOf S.length (Q.take i)).length := by rw [rowsOf_len]; omega
          have hRl : (rowsOf S.length (Q.take i))[k].length ≤ 30720 := by
            rw [rowsOf_get]
            have h1 := rowOf_len (Q.take i) k
            rw [List.length_take] at h1
            omega
          have HRN := Lib.hid (show (rowsOf S.length (Q.take i)).set k ((rowsOf S.length (Q.take i))[k] ++ [P]) = rowsOf S.length (Q.take (i + 1)) from by rw [HTK.out, ← rowsOf_set, rowsOf_get])
          generalize rowsOf S.length (Q.take i) = R at *
          have hbz := hM.size
          clear hM hB hini hQi
          go_upto_region 16 with fail
          have hMW := HM.out.new 65 #[.int .i64 (k : Int), .int .u32 (P : Int)]
          generalize hW : wr.alloc (.cells #[.int .i64 (k : Int), .int .u32 (P : Int)] 65) = W at *
          have HMW := Lib.hid hMW
          obtain ⟨a0, a1, af⟩ := blk2 (hMW.get 0 rfl).2
          have HPB := Lib.hid (hMW.get 0 rfl).2
          have gcell := (hMW.get 6 rfl).2.blk.get hkv
          have gfrz := (hMW.get 6 rfl).2.blk.frozen k
          have hWs := (hMW.get 0 rfl).2.lt
          have hgs := (hMW.get 6 rfl).2.blk.lt
          have HROW := Lib.hid ((hMW.get 6 rfl).2.row k hkv hkr)
          have HGR := Lib.hid (hMW.get 6 rfl).2
          generalize wr.heap.size = ga at *
          generalize hvt : vs[k] = vt at *
          have HV := Lib.hid hvt
          clear hW hMW hvt cq1 cq2 q0 qf HM t1 t2
          go_cut [12] (fun p wx => p = .int .i64 (i : Int) ∧ ∃ vs', Mem w (AdL w.heap.size b gm gq gl (.slice (some sd) S.length c) (.slice (some ⟨gv, 0, none⟩) Q.length cq) Q ++ [cB w.heap.size ga 65 #[.int .i64 (k : Int), .int .u32 (P : Int)], cU w.heap.size g 22 40 vs' (rowsOf S.length (Q.take (i + 1))), cB w.heap.size w.heap.size 25 #[.slice (some ae) S.length ce, .slice (some ad) L.length ca]]) wx)
          case first =>
            go_region_law (first
              | ((with_reducible refine step_append_any _ rfl (.tmp 57) (.tmp 60) 22 rfl w.heap.size 40 jj (.int .u32 0) 1 4 Try.underlying22 hj0 hy0 hy1 hy2 rfl (by decide) vt R[k].length (R[k].map U32) rfl ?_ (W.heap.size + 1) (some ⟨W.heap.size, 0, none⟩) 1 1 [U32 P] rfl ?_ ?_ ?_ ?_ ?_ ?_); exact HROW.out.alloc _; exact reads_new1 _ _ _; exact one_U P; exact len_ok (by omega); omega; (simp; omega); intro v1 x1 ho1 hg1 hv1; obtain ⟨gw, cw, rfl, -, -⟩ := ho1.form (by omega); have hgw := grown_pre (grown_drew hg1); have z1 := (HPB.out.grown hgw (Ne.symm (own_blk_ne HROW.out HPB.out (by decide)))).cell 0; have z2 := (HGR.out.blk.grown hgw (Ne.symm (own_blk_ne HROW.out HGR.out.blk (by decide)))).get hkv; rw [HV.out] at z2; have z3 := (HGR.out.blk.grown hgw (Ne.symm (own_blk_ne HROW.out HGR.out.blk (by decide)))).frozen k; have HM4 := Lib.hid (show Mem w (AdL w.heap.size b gm gq gl (.slice (some sd) S.length c) (.slice (some ⟨gv, 0, none⟩) Q.length cq) Q ++ [cB w.heap.size ga 65 #[.int .i64 (k : Int), .int .u32 (P : Int)], cU w.heap.size g 22 40 (vs.set k (.slice (some ⟨gw, 0, none⟩) (R[k].length + 1) cw)) (rowsOf S.length (Q.take (i + 1))), cB w.heap.size w.heap.size 25 #[.slice (some ae) S.length ce, .slice (some ad) L.length ca]]) (x1.setCell ⟨g, k, none⟩ (.slice (some ⟨gw, 0, none⟩) (R[k].length + 1) cw)) from Mem.rowMid (A := AdL w.heap.size b gm gq gl (.slice (some sd) S.length c) (.slice (some ⟨gv, 0, none⟩) Q.length cq) Q) HMW.out (by decide) (S := W.heap.size + 1) (by omega) hkv hkr HV.out HRN.out hgw ho1 (by simpa using hv1)); clear hgw hg1 hv1 ho1))
            all_goals
              go_wp2
              go_meet
              refine ⟨rfl, (vs.set k (.slice (some ⟨gw, 0, none⟩) (R[k].length + 1) cw)), ?_⟩
              have h2 := HM4.out
              have h3 := h2.drew
              first | with_reducible exact h2 | with_reducible exact h3
          case rest =>
            obtain ⟨rfl, vs', hM⟩ := hcut
            have HM := Lib.hid hM
            have hkL : k < L.length := by have := HLL.out; omega
            obtain ⟨aL, Ak, ck, hAL, hbla, cr, rk⟩ := row_at (RA.out.below hM.bel) (fun k l hl => let ⟨u, hu, ha⟩ := HK.out k l hl; (⟨u, hu, ha.below hM.bel⟩ : ∃ u, rows[k]? = some u ∧ ArcsAt wc w.heap.size u l)) hkL
            obtain rfl : ad = aL := by injection hAL
            have hll := (HL.out k hkL).1
            have HLS := Lib.hid (HL.out k hkL).2
            have HTS := Lib.hid (HTO.out k hkL)
            have RK0 := Lib.hid (show Reads w w.heap.size 2 Ak L[k].length (L[k].flatMap arcCells) from rk.keep fun p hp => (hM.bel.cell hp).symm)
            have HGD := Lib.hid (show L.getD k [] = L[k] from getD_l [] hkL)
            obtain ⟨b0, b1, bf⟩ := blk2 (hM.get 5 rfl).2
            obtain ⟨p0, p1, pf⟩ := blk2 (hM.get 7 rfl).2
            have hL1 : (k : Int) < (L.length : Int) := by omega
            generalize L[k] = l at *
            clear hM rk hAL HMW HPB HROW HGR HV a0 a1 af gcell gfrz hWs hgs HRN HTK
            go_wp2_with fail
            clear cr b0 b1 bf p0 p1 pf
            go_loopw [70] (fun jv wr => ∃ (j : Nat) (Q' : List (Nat × Nat)) (vq' : Value), jv = .int .i64 j ∧ j ≤ l.length ∧ Mem w (AdL w.heap.size b gm gq gl (.slice (some sd) S.length c) vq' Q' ++ [cB w.heap.size ga 65 #[.int .i64 (k : Int), .int .u32 (P : Int)], cU w.heap.size g 22 40 vs' (rowsOf S.length (Q.take (i + 1))), cB w.heap.size w.heap.size 25 #[.slice (some ae) S.length ce, .slice (some ad) L.length ca]]) wr ∧ BF S.length E L (isIn S) Q' i ∧ (∃ X, Q' = Q ++ X) ∧ ∀ a ∈ l.take j, isIn S a.2.toNat = false → PlL.suc E (k, P) a ∈ Q') (fun i _ => l.length - (intOf i).toNat)
            case atStart => exact ⟨0, Q, _, rfl, Nat.zero_le _, HM.out, HB.out, ⟨[], by simp⟩, fun a ha => (by simp at ha)⟩
            case round =>
              clear HM HB
              obtain ⟨j, Q', vq', rfl, hj, hM, hB, hX, hdo⟩ := hrel
              have HM := Lib.hid hM
              have HB := Lib.hid hB
              have HX := Lib.hid hX
              have HDO := Lib.hid hdo
              have hQl' := PlL.pairs_few HFEW.out hB.nodup hB.ok
              have HQL := Lib.hid (show i < Q'.length by obtain ⟨X, rfl⟩ := hX; rw [List.length_append]; omega)
              by_cases hlt2 : j < l.length
              · obtain ⟨ad2, hA, hbl2, c0', c1'⟩ := arc_at (RK0.out.below hM.bel) hlt2
                subst hA
                have hx' := HTS.out l[j] (List.getElem_mem _)
                have hx1' := HLS.out j hlt2
                have HTKL := Lib.hid (show l.take (j + 1) = l.take j ++ [l[j]] by rw [List.take_add_one, List.getElem?_eq_getElem hlt2]; rfl)
                generalize l[j] = a at *
                obtain ⟨ua, at_⟩ := a
                dsimp only at c0' c1' hx' hx1'
                obtain ⟨t, rfl⟩ : ∃ t : Nat, at_ = (t : Int) := ⟨at_.toNat, by omega⟩
                have htn : t < S.length := by omega
                have htE : t < E.length := by have := HSE.out; omega
                have hEl : E.length ≤ 32768 := by have := HSE.out; omega
                have HEL := Lib.hid hEl
                have j0' : (0 : Int) ≤ (j : Int) := by omega
                have j1' : (j : Int) < (l.length : Int) := by omega
                have HSU := Lib.hid (show PlL.suc E (k, P) (ua, (t : Int)) = (t, PlL.aft E P (ua, (t : Int))) from by unfold PlL.suc; simp only [Int.toNat_natCast])
                have HPK := Lib.hid (show isIn S t = false → PlL.PrOk S.length E (isIn S) (PlL.suc E (k, P) (ua, (t : Int))) from fun hs => suc_ok HEW.out (k, P) (a := (ua, (t : Int))) (by simpa using htn) (by simpa using hs))
                obtain ⟨b0, b1, bf⟩ := blk2 (hM.get 5 rfl).2
                obtain ⟨p0, p1, pf⟩ := blk2 (hM.get 7 rfl).2
                have lsp := (hM.get 7 rfl).2.lt
                have lpb := (hM.get 5 rfl).2.lt
                have hq32 := PlL.aft_lt HEW.out P (ua, (t : Int))
                clear hM hB hX hdo hx' hEl
                go_wp2_with fail
                refine (after_any E L _ HE.out k P ua t hP hx1' htE HEL.out _ (HS.out.go (HM.out.alloc _).bel)).mono ?_
                rintro e w2 ⟨rfl, hb2⟩
                have HM7 := Lib.hid ((HM.out.alloc _).below hb2)
                rw [HSU.out] at HPK
                generalize PlL.aft E P (ua, (t : Int)) = q at *
                unfold pK
                dsimp only
                clear hb2 b0 b1 bf p0 p1 pf c0' c1'
                go_wp2_with fail
                refine (add_any w b gm gq gl S (some sd) c SR.out Q' (by omega) vq' (t, q) htn (by omega) [cB w.heap.size ga 65 #[.int .i64 (k : Int), .int .u32 (P : Int)], cU w.heap.size g 22 40 vs' (rowsOf S.length (Q.take (i + 1))), cB w.heap.size w.heap.size 25 #[.slice (some ae) S.length ce, .slice (some ad) L.length ca]] _ (HM7.out.alloc _)).mono ?_
                rintro e w3 ⟨⟨v1, rfl⟩, vq'', hM'⟩
                have HM' := Lib.hid hM'
                have HBN := Lib.hid (HB.out.add (Nat.le_of_lt HQL.out) (x := (t, q)) HPK.out)
                clear hM'
                go_wp2
                refine ⟨⟨j + 1, _, vq'', by go_num, by omega, HM'.out, HBN.out, ?_, ?_⟩, by simp [intOf]; omega⟩
                · obtain ⟨X, hX⟩ := HX.out
                  obtain ⟨Y, hY⟩ := adq_pre (isIn S) Q' (t, q)
                  exact ⟨X ++ Y, by rw [hY, hX, List.append_assoc]⟩
                · intro a ha hs
                  rw [HTKL.out] at ha
                  rcases List.mem_append.1 ha with h1 | h1
                  · exact adq_sub (HDO.out a h1 hs)
                  · rw [List.mem_singleton] at h1
                    subst h1
                    rw [HSU.out]
                    exact adq_mem (by simpa using hs)
              · obtain rfl : j = l.length := by omega
                have HQX := Lib.hid (show Q'[i]? = some (k, P) from by
                  obtain ⟨X, rfl⟩ := hX
                  rw [List.getElem?_append_left (by omega)]
                  exact HQI.out)
                have HBN := Lib.hid (hB.next HQX.out (fun a ha hs => hdo a (by rw [List.take_length, ← HGD.out]; exact ha) hs))
                have HTT := Lib.hid (show Q.take (i + 1) = Q'.take (i + 1) from by
                  obtain ⟨X, rfl⟩ := hX
                  rw [List.take_append_of_le_length (by omega)])
                have hQ2 : i < Q'.length := HQL.out
                clear hM hB hX hdo
                go_wp2
                refine ⟨⟨i + 1, Q', vq', vs', by go_num, by omega, ?_, HBN.out, ?_⟩, by simp [intOf]; omega⟩
                · rw [← HTT.out]
                  exact HM.out.erase 5
                · intro j hj hs
                  obtain ⟨X, hX⟩ := HX.out
                  rw [hX]
                  exact List.mem_append_left _ (HINI.out j hj hs)
        · obtain rfl : i = Q.length := by omega
          have HF := Lib.hid (show RchPost w S.length E L (isIn S) (.returned (.tuple #[.slice (some ⟨g, 0, none⟩) S.length S.length, .int .i64 0])) wr from by
            obtain ⟨h1, h2⟩ := hM.get 5 rfl
            rw [List.take_length] at h2
            exact ⟨g, vs, Q, rfl, h1, h2, hB, hini, hM.bel⟩)
          clear hM hB hini
          go_wp2
          go_ret2
          exact HF.out
end Go.Proofs.Ytbilciiffecdgaa
