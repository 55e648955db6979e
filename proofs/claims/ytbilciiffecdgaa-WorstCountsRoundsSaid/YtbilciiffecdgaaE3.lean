/- worst.Schedule. -/
import Derived.Test.YtbilciiffecdgaaE2
import Derived.Deep.LoopGhost
import Derived.Deep.DeepCutAuto
import Derived.Deep.RegionHeld3
namespace Go.Proofs.Ytbilciiffecdgaa
namespace PlL
def nxt (c : Ar → Nat) (f : Nat → Nat) (v : Nat) (l : List Ar) : Option Ar := l.find? fun a => c a + f a.2.toNat == v
def sched (L : List (List Ar)) (S : Nat → Bool) (c : Ar → Nat) (f : Nat → Nat) : Nat → Nat → List Nat
  | 0, _ => []
  | m + 1, k => if S k = true then [] else match nxt c f (f k) (L.getD k []) with
    | some a => a.1 :: sched L S c f m a.2.toNat
    | none => []
section
variable {n : Nat} {L : List (List Ar)} {S : Nat → Bool} {c : Ar → Nat} {r : Nat → Nat} {f : Nat → Nat}
theorem nxt_some (h : Ranked n L S r) (hf : IsVal n L S c f) {k : Nat} (hk : k < n) (hs : S k = false) : ∃ a, nxt c f (f k) (L.getD k []) = some a ∧ a ∈ L.getD k [] ∧ c a + f a.2.toNat = f k := by
  obtain ⟨a, ha, e⟩ := mx_att (c := c) (f := f) (h.down k hk hs).1
  rw [← (hf k hk).2 hs] at e
  cases hn : nxt c f (f k) (L.getD k []) with
  | none =>
    have := List.find?_eq_none.1 hn a ha
    rw [beq_iff_eq] at this
    exact absurd e this
  | some b => exact ⟨b, rfl, List.mem_of_find?_eq_some hn, by have := List.find?_some hn; rwa [beq_iff_eq] at this⟩
theorem sched_stab (h : Ranked n L S r) (hf : IsVal n L S c f) : ∀ m k, k < n → r k < m → sched L S c f m k = sched L S c f (m + 1) k := by
  intro m
  induction m with
  | zero => intro k _ h0; omega
  | succ m ih =>
    intro k hk hr
    rw [sched, sched]
    cases hs : S k
    · rw [if_neg (by simp), if_neg (by simp)]
      obtain ⟨a, ha, hm, _⟩ := nxt_some h hf hk hs
      rw [ha]
      dsimp only
      rw [ih _ ((h.down k hk hs).2 a hm).1 (by have := ((h.down k hk hs).2 a hm).2; omega)]
    · rfl
theorem sched_next (h : Ranked n L S r) (hf : IsVal n L S c f) {k : Nat} (hk : k < n) (hs : S k = false) {a : Ar} (ha : nxt c f (f k) (L.getD k []) = some a) : sched L S c f n k = a.1 :: sched L S c f n a.2.toNat := by
  rw [sched_stab h hf n k hk (h.lt k hk), sched, if_neg (by rw [hs]; simp), ha]
theorem sched_done {k : Nat} (hs : S k = true) (m : Nat) : sched L S c f m k = [] := by
  cases m with
  | zero => rfl
  | succ m => rw [sched, if_pos hs]
theorem sched_len (m k : Nat) : (sched L S c f m k).length ≤ m := by
  induction m generalizing k with
  | zero => exact Nat.le_refl _
  | succ m ih =>
    rw [sched]
    split
    · exact Nat.zero_le _
    · split
      · rw [List.length_cons]; have := ih (‹Ar›.2.toNat); omega
      · exact Nat.zero_le _
theorem nxt_at {l : List Ar} {v j : Nat} (hj : j < l.length) (hno : ∀ i (hi : i < l.length), i < j → c l[i] + f l[i].2.toNat ≠ v) (h : c l[j] + f l[j].2.toNat = v) : nxt c f v l = some l[j] := by
  unfold nxt
  rw [List.find?_eq_some_iff_getElem]
  refine ⟨by rw [beq_iff_eq]; exact h, j, hj, rfl, fun i hi => ?_⟩
  have := hno i (by omega) hi
  simpa using this
end
end PlL
open Go.RowKit
def U32 (z : Nat) : Value := .int .u32 (z : Int)
theorem one_U (z : Nat) : ∀ u ∈ [U32 z], u.oneCell' = true := by simp [U32, Value.oneCell']

set_option maxHeartbeats 1000000 in
theorem wsched_err (E : List Nat) (L : List (List Arc)) (v : Value) (hE : WfE E) (hL : WfL L) (S : List Bool) (A : Option Addr) (c : Nat) (from_ : Int) (z : Int) (hz : z ≠ 0) (h : wchk E L S = z) (w : World) (hS : SpaceAt w w.heap.size v E L) (hSr : Reads w w.heap.size 1 A S.length (S.map Value.bool)) :
    Calls Try.prog 21 #[v, .slice A S.length c, .int .i64 from_] w fun e w' => e = .returned (.tuple #[.slice none 0 0, .int .i64 z]) ∧ Below w.heap.size w w' := by
  have HS := Lib.hid hS
  obtain ⟨ve, va, rfl, ⟨Ae, ce, rfl, re⟩, ⟨Aa, ca, rows, rfl, ra, hk⟩⟩ := hS
  have HB0 := Lib.hid ((Below.refl w.heap.size w).alloc (Nat.le_refl _) (.cells #[.slice Ae E.length ce, .slice Aa L.length ca] 25))
  have HE := Lib.hid hE
  have HL := Lib.hid hL
  have SR := Lib.hid hSr
  have H := Lib.hid h
  have t1 : (z != 0) = true := by rw [bne_iff_ne]; exact hz
  clear hE hL h re ra hk hSr
  go_enter Try.func21, Try.ntmps21
  go_wp2_with fail
  refine (wmoves_err E L _ HE.out HL.out S A c z hz H.out _ (HS.out.go HB0.out) (SR.out.go HB0.out)).mono ?_
  rintro e w1 ⟨rfl, hb1⟩
  have HB1 := Lib.hid (below_end hb1 HB0.out)
  clear hb1
  go_wp2
  go_ret2
  exact ⟨rfl, HB1.out⟩
set_option maxHeartbeats 1000000 in
theorem wsched_range (E : List Nat) (L : List (List Arc)) (v : Value) (hE : WfE E) (hL : WfL L) (S : List Bool) (A : Option Addr) (c : Nat) (from_ : Int) (h : wchk E L S = 0) (hf : from_ < 0 ∨ (S.length : Int) ≤ from_) (w : World) (hS : SpaceAt w w.heap.size v E L) (hSr : Reads w w.heap.size 1 A S.length (S.map Value.bool)) :
    Calls Try.prog 21 #[v, .slice A S.length c, .int .i64 from_] w fun e w' => e = .returned (.tuple #[.slice none 0 0, .int .i64 2]) ∧ Below w.heap.size w w' := by
  have HS := Lib.hid hS
  obtain ⟨ve, va, rfl, ⟨Ae, ce, rfl, re⟩, ⟨Aa, ca, rows, rfl, ra, hk⟩⟩ := hS
  have HB0 := Lib.hid ((Below.refl w.heap.size w).alloc (Nat.le_refl _) (.cells #[.slice Ae E.length ce, .slice Aa L.length ca] 25))
  have HE := Lib.hid hE
  have HL := Lib.hid hL
  have SR := Lib.hid hSr
  have H := Lib.hid h
  clear hE hL h re ra hk hSr
  by_cases h0 : from_ < 0
  · have t1 : decide (from_ < 0) = true := decide_eq_true h0
    clear hf
    go_enter Try.func21, Try.ntmps21
    go_wp2_with fail
    refine (wmoves_ok E L _ HE.out HL.out S A c H.out _ (HS.out.go HB0.out) (SR.out.go HB0.out)).mono ?_
    rintro e w1 ⟨g, f, rfl, hg, bk, hv, hl, hrk, hb1⟩
    have HB1 := Lib.hid (below_end hb1 HB0.out)
    clear hb1 bk hv hl hrk
    go_wp2
    go_ret2
    exact ⟨rfl, HB1.out⟩
  · have t1 : decide (from_ < 0) = false := decide_eq_false h0
    have t2 : decide ((S.length : Int) ≤ from_) = true := decide_eq_true (by omega)
    clear hf
    go_enter Try.func21, Try.ntmps21
    go_wp2_with fail
    refine (wmoves_ok E L _ HE.out HL.out S A c H.out _ (HS.out.go HB0.out) (SR.out.go HB0.out)).mono ?_
    rintro e w1 ⟨g, f, rfl, hg, bk, hv, hl, hrk, hb1⟩
    have HB1 := Lib.hid (below_end hb1 HB0.out)
    clear hb1 bk hv hl hrk
    go_wp2
    go_ret2
    exact ⟨rfl, HB1.out⟩
/-- the sets of an execution with the greatest number of moves -/
def WSch (w : World) (L : List (List Arc)) (S : List Bool) (k : Nat) (e : Ending) (w' : World) : Prop :=
  ∃ (v : Value) (f : Nat → Nat), e = .returned (.tuple #[v, .int .i64 0]) ∧ PlL.IsVal S.length L (isIn S) cPop f ∧ w'.ownsRow w.heap.size 40 1 v (PlL.sched L (isIn S) cPop f S.length k).length ((PlL.sched L (isIn S) cPop f S.length k).map U32) ∧ Below w.heap.size w w'
def ScR (w : World) (sp : Array Value) (gm n : Nat) (L : List (List Arc)) (S : Nat → Bool) (f r : Nat → Nat) (k0 : Nat) (gh : Nat) (vs kv : Value) (wr : World) : Prop :=
  ∃ (k : Nat) (D : List Nat), kv = .int .i64 (k : Int) ∧ k < n ∧ gh = r k ∧ D ++ PlL.sched L S cPop f n k = PlL.sched L S cPop f n k0 ∧ Mem w [cR w.heap.size 40 1 vs D.length (D.map U32), cB w.heap.size gm 3 (nums n f).toArray, cB w.heap.size w.heap.size 25 sp] wr

def ScI (w : World) (sp : Array Value) (gm n : Nat) (f : Nat → Nat) (k : Nat) (l : List Arc) (vs : Value) (D : List Nat) (gh : Nat) (vv nv jv : Value) (wr : World) : Prop :=
  ∃ j, gh = l.length - j ∧ j ≤ l.length ∧ vv = vs ∧ nv = .int .i64 (k : Int) ∧ jv = .int .i64 (j : Int) ∧ (∀ i (hi : i < l.length), i < j → cPop l[i] + f l[i].2.toNat ≠ f k) ∧ Mem w [cR w.heap.size 40 1 vs D.length (D.map U32), cB w.heap.size gm 3 (nums n f).toArray, cB w.heap.size w.heap.size 25 sp] wr

set_option maxRecDepth 100000 in
set_option maxHeartbeats 4000000 in
theorem wsched_ok (E : List Nat) (L : List (List Arc)) (v : Value) (hE : WfE E) (hL : WfL L) (S : List Bool) (A : Option Addr) (c : Nat) (k0 : Nat) (hk0 : k0 < S.length) (h : wchk E L S = 0) (w : World) (hS : SpaceAt w w.heap.size v E L) (hSr : Reads w w.heap.size 1 A S.length (S.map Value.bool)) :
    Calls Try.prog 21 #[v, .slice A S.length c, .int .i64 (k0 : Int)] w (WSch w L S k0) := by
  have HS := Lib.hid hS
  obtain ⟨ve, va, rfl, ⟨Ae, ce, rfl, re⟩, ⟨Aa, ca, rows, rfl, ra, hk⟩⟩ := hS
  have HB0 := Lib.hid ((Below.refl w.heap.size w).alloc (Nat.le_refl _) (.cells #[.slice Ae E.length ce, .slice Aa L.length ca] 25))
  obtain ⟨hok, hSl, hc⟩ := wchk_zero h
  obtain ⟨hn1, hn2, hn3, hto⟩ := PlG.ok_parts hok
  obtain ⟨ad, hA, -⟩ := ra.2 (by omega)
  subst hA
  obtain ⟨sd, hA, -⟩ := hSr.2 (by omega)
  subst hA
  have HE := Lib.hid hE
  have HL := Lib.hid hL
  have SR := Lib.hid hSr
  have RA := Lib.hid ra
  have HK := Lib.hid hk
  have H0 := Lib.hid h
  have HLL := Lib.hid (show L.length = S.length by omega)
  have HTO := Lib.hid (show ∀ k (hk : k < L.length), ∀ x ∈ L[k], 0 ≤ x.2 ∧ x.2 < (S.length : Int) from fun k hk x hx => by have := hto k hk x hx; omega)
  have hn5 : S.length ≤ 32768 := by omega
  have t1 : decide ((k0 : Int) < 0) = false := decide_eq_false (by omega)
  have t2 : decide ((S.length : Int) ≤ (k0 : Int)) = false := decide_eq_false (by omega)
  have t2' : decide (S.length ≤ k0) = false := decide_eq_false (by omega)
  obtain ⟨j0, hj0, hy0, hy1, hy2⟩ := info_parts Try.infoU32
  clear hE hL hSr re ra hk h hc hok hSl hn1 hn2 hn3 hto
  go_enter Try.func21, Try.ntmps21
  go_wp2_with fail
  refine (wmoves_ok E L _ HE.out HL.out S (some sd) c H0.out _ (HS.out.go HB0.out) (SR.out.go HB0.out)).mono ?_
  rintro e w1 ⟨gm, f, rfl, hg, bk, hv, hl, ⟨r, hr⟩, hb1⟩
  have HR := Lib.hid hr
  have HM1 := Lib.hid ((((Mem.start w).new 25 #[.slice Ae E.length ce, .slice (some ad) L.length ca]).pushBlk hb1 hg bk).nil_ 40 1)
  have HV := Lib.hid hv
  have HVL := Lib.hid hl
  clear hb1 bk hv hl hg HB0 hr
  go_wp2_with fail
  clear t1 t2 t2'
  go_loopg [10, 11] (r k0) (ScR w #[.slice Ae E.length ce, .slice (some ad) L.length ca] gm S.length L (isIn S) f r k0)
  case atStart => exact ⟨k0, [], rfl, hk0, rfl, rfl, HM1.out⟩
  case round =>
    clear HM1
    obtain ⟨k, D, rfl, hkn, hgh, hD, hM⟩ := hrel
    have HM := Lib.hid hM
    have HD := Lib.hid hD
    obtain ⟨As, cs, hvs⟩ := own_sl (hM.get 0 rfl)
    subst hvs
    obtain ⟨sd', hA, hbl, cS⟩ := bool_at (SR.out.below hM.bel) hkn
    obtain rfl : sd = sd' := by injection hA
    rw [← isIn_of hkn] at cS
    have k0' : (0 : Int) ≤ (k : Int) := by omega
    have k1 : (k : Int) < (S.length : Int) := by omega
    clear hA hD
    cases hs : isIn S k
    · rw [hs] at cS
      have hkL : k < L.length := by have := HLL.out; omega
      obtain ⟨aL, Ak, ck, hAL, hbla, cr, rk⟩ := row_at (RA.out.below hM.bel) (fun k l hl => let ⟨u, hu, ha⟩ := HK.out k l hl; (⟨u, hu, ha.below hM.bel⟩ : ∃ u, rows[k]? = some u ∧ ArcsAt wr w.heap.size u l)) hkL
      obtain rfl : ad = aL := by injection hAL
      have hll := (HL.out k hkL).1
      have HLS := Lib.hid (HL.out k hkL).2
      have HTS := Lib.hid (HTO.out k hkL)
      have RK0 := Lib.hid (show Reads w w.heap.size 2 Ak L[k].length (L[k].flatMap arcCells) from rk.keep fun p hp => (hM.bel.cell hp).symm)
      have hgd : L.getD k [] = L[k] := getD_l [] hkL
      obtain ⟨a0, ha0, hm0, he0⟩ := PlL.nxt_some HR.out HV.out hkn hs
      rw [hgd] at ha0 hm0
      have HA0 := Lib.hid ha0
      have HNX := Lib.hid (fun a (ha : PlL.nxt cPop f (f k) L[k] = some a) => PlL.sched_next HR.out HV.out hkn hs (a := a) (by rw [hgd]; exact ha))
      have HDN := Lib.hid (fun a (ha : a ∈ L[k]) => (HR.out.down k hkn hs).2 a (by rw [hgd]; exact ha))
      have hlenS := PlL.sched_len (L := L) (S := isIn S) (c := cPop) (f := f) S.length k0
      have hDl : D.length ≤ S.length := by have := congrArg List.length HD.out; simp at this; omega
      obtain ⟨p0, p1, pf⟩ := blk2 (hM.get 2 rfl).2
      generalize L[k] = l at *
      clear hM hs hAL rk hgd ha0 hm0 he0
      go_wp2_with fail
      clear cr p0 p1 pf cS
      go_loopg [10, 12, 45] l.length (ScI w #[.slice Ae E.length ce, .slice (some ad) L.length ca] gm S.length f k l (.slice As D.length cs) D)
      case atStart => exact ⟨0, rfl, Nat.zero_le _, rfl, rfl, rfl, fun i hi h => absurd h (Nat.not_lt_zero i), HM.out⟩
      case round =>
        clear HM
        obtain ⟨j, hgh2, hj, rfl, rfl, rfl, hno, hM⟩ := hrel
        have HM := Lib.hid hM
        have HNO := Lib.hid hno
        by_cases hlt2 : j < l.length
        · obtain ⟨ad2, hA, hbl2, a0', a1'⟩ := arc_at (RK0.out.below hM.bel) hlt2
          subst hA
          have hx' := HTS.out l[j] (List.getElem_mem _)
          have hx1' := HLS.out j hlt2
          have hdn := HDN.out l[j] (List.getElem_mem _)
          have HAT := Lib.hid (fun h => PlL.nxt_at (c := cPop) (f := f) (v := f k) hlt2 HNO.out h)
          have HJN := Lib.hid (fun (h : ¬ cPop l[j] + f l[j].2.toNat = f k) (i : Nat) (hi : i < l.length) (h2 : i < j + 1) => (show cPop l[i] + f l[i].2.toNat ≠ f k from by
            rcases Nat.lt_or_ge i j with h3 | h3
            · exact HNO.out i hi h3
            · obtain rfl : i = j := by omega
              exact h))
          have hcl := cPop_le l[j]
          unfold cPop at HAT HJN hcl
          generalize hla : l[j] = a at *
          obtain ⟨ua, at_⟩ := a
          dsimp only at a0' a1' hx' hx1' hdn HAT HJN hcl
          obtain ⟨t, rfl⟩ : ∃ t : Nat, at_ = (t : Int) := ⟨at_.toNat, by omega⟩
          rw [Int.toNat_natCast] at hdn HAT HJN
          have htn : t < S.length := hdn.1
          have hvt := HVL.out t htn
          have hvk := HVL.out k hkn
          have j0' : (0 : Int) ≤ (j : Int) := by omega
          have j1' : (j : Int) < (l.length : Int) := by omega
          have t0 : (0 : Int) ≤ (t : Int) := by omega
          have t1 : (t : Int) < (S.length : Int) := by omega
          have HM2 := Lib.hid (HM.out.new 42 #[.int .u32 (ua : Int), .int .i64 (t : Int)])
          have lsz := hM.size
          clear hM hx' hla hno
          go_upto_region 13 with fail
          generalize hW3 : wr.alloc (.cells #[.int .u32 (ua : Int), .int .i64 (t : Int)] 42) = W3 at *
          obtain ⟨b0, b1, bf⟩ := blk2 (HM2.out.get 0 rfl).2
          have lga := (HM2.out.get 0 rfl).2.lt
          have br := (HM2.out.get 2 rfl).2
          have lgr := br.lt
          have c1 := num_at br hkn
          have c2 := num_at br htn
          have hw1 := IntWalk.i64_in ((Pl.pop ua : Int) + (f t : Int)) (by omega)
          have rule := below_rule W3
          clear hW3 br a0' a1' HM
          generalize wr.heap.size = ga at *
          by_cases heq : Pl.pop ua + f t = f k
          · have te : (((Pl.pop ua : Nat) : Int) + (f t : Int) == (f k : Int)) = true := by rw [beq_iff_eq]; omega
            have HNXT := Lib.hid (HNX.out _ (HAT.out heq))
            clear heq HAT HJN
            go_region_held3 (fun x => Below W3.heap.size W3 x) (first | exact Below.refl _ _ | exact Below.drew (Below.refl _ _) | assumption | exact below_step (by assumption) (by assumption)) (first
              | (go_at_call 37; (with_reducible refine (moves_any ua hx1' (t : Int) _).mono ?_); rintro e w2 ⟨rfl, hb2⟩))
            all_goals
              have hX : Below W3.heap.size W3 w2 := by assumption
              have hM5 := (HM2.out.below hX)
              have HM5 := Lib.hid hM5
              have HOW := Lib.hid (show w2.ownsRow w.heap.size 40 1 (.slice As D.length cs) D.length (D.map U32) from hM5.get 1 rfl)
              obtain ⟨d0, d1, df⟩ := blk2 (hM5.get 0 rfl).2
              have hsz5 := hM5.size
              have lga5 := (hM5.get 0 rfl).2.lt
              clear hX hM5 b0 b1 bf rule c1 c2 hb2
              go_wp2_with (at_builtin; refine wpList_append_any _ rfl (.tmp 62) (.tmp 65) 22 rfl w.heap.size 40 j0 (.int .u32 0) 1 4 Try.underlying22 hj0 hy0 hy1 hy2 rfl (by decide) (.slice As D.length cs) D.length (D.map U32) rfl (HOW.out.alloc _) (w2.heap.size + 1) (some ⟨w2.heap.size, 0, none⟩) 1 1 [U32 ua] rfl (reads_new1 _ _ _) (one_U ua) (len_ok (by omega)) (by omega) (by simp; omega) ?_; intro v1 x1 ho1 hg1 hv1; have HA := Lib.hid ((HM5.out.app 1 (S := w2.heap.size + 1) rfl (grown_pre hg1) ho1 (by simpa using hv1) (by omega))); obtain ⟨e0, e1, ef⟩ := blk2 (HA.out.get 0 rfl).2; clear ho1 hg1 hv1)
              go_roundg (r t)
              case measure => have := hdn.2; omega
              case rel =>
                refine ⟨t, D ++ [ua], rfl, htn, rfl, ?_, ?_⟩
                · rw [← HD.out, HNXT.out]; simp
                · rw [List.length_append, List.map_append]
                  exact HA.out.erase 0
          · have te : (((Pl.pop ua : Nat) : Int) + (f t : Int) == (f k : Int)) = false := beq_eq_false_iff_ne.2 (by omega)
            have HJN1 := Lib.hid (HJN.out heq)
            clear heq HAT HJN
            go_region_held3 (fun x => Below W3.heap.size W3 x) (first | exact Below.refl _ _ | exact Below.drew (Below.refl _ _) | assumption | exact below_step (by assumption) (by assumption)) (first
              | (go_at_call 37; (with_reducible refine (moves_any ua hx1' (t : Int) _).mono ?_); rintro e w2 ⟨rfl, hb2⟩))
            all_goals
              have hX : Below W3.heap.size W3 w2 := by assumption
              have HM5 := Lib.hid ((HM2.out.below hX).erase 0)
              clear hX b0 b1 bf rule c1 c2 hb2
              go_wp2
              go_roundg (l.length - (j + 1))
              case measure => omega
              case rel => exact ⟨j + 1, rfl, by omega, rfl, rfl, by go_num, HJN1.out, HM5.out⟩
        · exfalso
          have h1 := HA0.out
          unfold PlL.nxt at h1
          have h2 := List.find?_some h1
          obtain ⟨i, hi, e⟩ := List.getElem_of_mem (List.mem_of_find?_eq_some h1)
          rw [beq_iff_eq, ← e] at h2
          exact HNO.out i hi (by omega) h2
    · rw [hs] at cS
      have hdn : PlL.sched L (isIn S) cPop f S.length k = [] := PlL.sched_done hs _
      have HF := Lib.hid (show WSch w L S k0 (.returned (.tuple #[.slice As D.length cs, .int .i64 0])) wr from by
        have hd := HD.out
        rw [hdn, List.append_nil] at hd
        refine ⟨_, f, rfl, HV.out, ?_, hM.bel⟩
        rw [← hd]
        exact hM.get 0 rfl)
      clear hM hs hdn
      go_wp2
      go_ret2
      exact HF.out
end Go.Proofs.Ytbilciiffecdgaa
