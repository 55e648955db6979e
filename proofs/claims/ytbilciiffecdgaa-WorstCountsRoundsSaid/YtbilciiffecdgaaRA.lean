/- ref20.begin, longest, Steps, Moves. -/
import Derived.Test.YtbilciiffecdgaaX1
import Derived.Test.YtbilciiffecdgaaE2
import Derived.Test.YtbilciiffecdgaaPlD
import Derived.Deep.LoopGhost
namespace Go.Proofs.Ytbilciiffecdgaa
open Go.RowKit

set_option maxHeartbeats 1000000 in
theorem rbegin_err (E : List Nat) (L : List (List Arc)) (v : Value) (hE : WfE E) (hL : WfL L) (A : Option Addr) (m c : Nat) (z : Int) (hz : z ≠ 0) (h : chk E L m = z) (w : World) (hS : SpaceAt w w.heap.size v E L) :
    Calls Try.prog 35 #[v, .slice A m c] w fun e w' => e = .returned (.int .i64 z) ∧ Below w.heap.size w w' := by
  have HS := Lib.hid hS
  obtain ⟨ve, va, rfl, ⟨Ae, ce, rfl, re⟩, ⟨Aa, ca, rows, rfl, ra, hk⟩⟩ := hS
  have HM0 := Lib.hid ((Mem.start w).new 25 #[.slice Ae E.length ce, .slice Aa L.length ca])
  have HE := Lib.hid hE
  have HL := Lib.hid hL
  have H := Lib.hid h
  have HZ := Lib.hid hz
  have t1 : (z != 0) = true := by rw [bne_iff_ne]; exact hz
  clear hE hL h re ra hk hz
  go_enter Try.func35, Try.ntmps35
  go_wp2_with fail
  refine (rcore_err E L _ HE.out HL.out A m c z HZ.out H.out _ (HS.out.go HM0.out.bel)).mono ?_
  rintro e w1 ⟨rfl, hb1⟩
  have HM1 := Lib.hid (HM0.out.below hb1)
  clear hb1
  go_wp2
  go_ret
  exact ⟨rfl, HM1.out.bel⟩
set_option maxHeartbeats 1000000 in
theorem rbegin_any (E : List Nat) (L : List (List Arc)) (v : Value) (hE : WfE E) (hL : WfL L) (S : List Bool) (A : Option Addr) (c : Nat) (z : Int) (h : wchk E L S = z) (w : World) (hS : SpaceAt w w.heap.size v E L) (hSr : Reads w w.heap.size 1 A S.length (S.map Value.bool)) :
    Calls Try.prog 35 #[v, .slice A S.length c] w fun e w' => e = .returned (.int .i64 z) ∧ Below w.heap.size w w' := by
  by_cases h0 : chk E L S.length = 0
  · have hok : PlS.spaceOk E L = true := by
      cases h1 : PlS.spaceOk E L
      · rw [chk_bad h1] at h0; cases h0
      · rfl
    have hSl : S.length = E.length := by
      apply Classical.byContradiction
      intro hn
      rw [chk_form hok hn] at h0; cases h0
    have HS := Lib.hid hS
    obtain ⟨ve, va, rfl, ⟨Ae, ce, rfl, re⟩, ⟨Aa, ca, rows, rfl, ra, hk⟩⟩ := hS
    have HM0 := Lib.hid ((Mem.start w).new 25 #[.slice Ae E.length ce, .slice Aa L.length ca])
    have HE := Lib.hid hE
    have HL := Lib.hid hL
    have H := Lib.hid h
    have HOK := Lib.hid hok
    have HSL := Lib.hid hSl
    have SR := Lib.hid hSr
    have hn : S.length ≤ 32768 := by have := (PlG.ok_parts hok).2.1; omega
    clear hE hL h re ra hk hok hSl hSr h0
    go_enter Try.func35, Try.ntmps35
    go_wp2_with fail
    refine (rcore_ok E L _ HE.out HL.out HOK.out S HSL.out A c _ (HS.out.go HM0.out.bel) (SR.out.go HM0.out.bel)).mono ?_
    rintro e w1 ⟨vm, f, rfl, ho, hf, hb1⟩
    obtain ⟨Am, cm, rfl⟩ := own_sl ho
    have HM1 := Lib.hid (HM0.out.below hb1)
    obtain ⟨b, hb⟩ : ∃ b : Bool, (marks S.length f).any id = b := ⟨_, rfl⟩
    have HAB := Lib.hid hb
    have HW := Lib.hid (show z = if b = true then 14 else 0 from by
      rw [← H.out]
      cases b
      · exact wchk_ok HOK.out HSL.out ((conv_marks hf).1 hb)
      · unfold wchk
        rw [if_pos (chk_ok HOK.out HSL.out), if_neg (fun hc => by rw [(conv_marks hf).2 hc] at hb; cases hb)]
        rfl)
    have RM := Lib.hid (Reads.of_own ho)
    clear ho hf hb1 hb
    go_wp2_with fail
    refine (rany_is (marks S.length f) S.length (marks_len _ _) (by omega) _ HAB.out Am cm _ _ RM.out).mono ?_
    rintro e w5 ⟨rfl, rfl⟩
    cases b
    all_goals
      go_wp2
      go_ret
      exact ⟨by rw [HW.out]; rfl, HM1.out.bel⟩
  · refine rbegin_err E L v hE hL A _ c z ?_ ?_ w hS
    · rw [← h]; unfold wchk; rw [if_neg h0]; exact h0
    · rw [← h]; unfold wchk; rw [if_neg h0]

/-- greatest weights, in a list of the call's own -/
def LPost (w : World) (L : List (List Arc)) (S : List Bool) (c : Nat × Int → Nat) (e : Ending) (w' : World) : Prop :=
  ∃ (g : Nat) (f : Nat → Nat), e = .returned (.slice (some ⟨g, 0, none⟩) S.length S.length) ∧ w.heap.size ≤ g ∧ Blk w' g 3 (nums S.length f).toArray ∧ PlL.IsVal S.length L (isIn S) c f ∧ Below w.heap.size w w'

/-- greatest weights and no error -/
def RVal (w : World) (L : List (List Arc)) (S : List Bool) (c : Nat × Int → Nat) (e : Ending) (w' : World) : Prop :=
  ∃ (g : Nat) (f : Nat → Nat), e = .returned (.tuple #[.slice (some ⟨g, 0, none⟩) S.length S.length, .int .i64 0]) ∧ w.heap.size ≤ g ∧ Blk w' g 3 (nums S.length f).toArray ∧ PlL.IsVal S.length L (isIn S) c f ∧ Below w.heap.size w w'

def LOutS (w : World) (sp : Array Value) (n gr : Nat) (L : List (List Arc)) (S f : Nat → Nat) (B : Nat → Bool) (gk : Nat) (ch : Value) (wr : World) : Prop :=
  ∃ (b : Bool) (g : Nat → Nat), S = S ∧ ch = .bool b ∧ gk = PlL.gap f g n + (if b = true then 1 else 0) ∧ (∀ k, k < n → g k ≤ f k) ∧ (b = false → ∀ k, k < n → PlL.Sat L B cOne g k) ∧ Mem w [cB w.heap.size gr 3 (nums n g).toArray, cB w.heap.size w.heap.size 25 sp] wr
def LMidS (w : World) (sp : Array Value) (n gr : Nat) (L : List (List Arc)) (B : Nat → Bool) (f g0 : Nat → Nat) (k : Nat) (ch iv : Value) (i : Nat) (wr : World) : Prop :=
  ∃ (b : Bool) (g : Nat → Nat), ch = .bool b ∧ iv = iv ∧ PlL.Swp n L B cOne f g0 b g k i ∧ Mem w [cB w.heap.size gr 3 (nums n g).toArray, cB w.heap.size w.heap.size 25 sp] wr

set_option maxRecDepth 100000 in
set_option maxHeartbeats 4000000 in
theorem rlongS_ok (E : List Nat) (L : List (List Arc)) (v : Value) (hL : WfL L) (S : List Bool) (A : Option Addr) (c : Nat) (h : wchk E L S = 0) (w : World) (hS : SpaceAt w w.heap.size v E L) (hSr : Reads w w.heap.size 1 A S.length (S.map Value.bool)) :
    Calls Try.prog 36 #[v, .slice A S.length c, .bool false] w (LPost w L S cOne) := by
  obtain ⟨hok, hSl, hc⟩ := wchk_zero h
  obtain ⟨hn1, hn2, hn3, hto⟩ := PlG.ok_parts hok
  obtain ⟨ve, va, rfl, ⟨Ae, ce, rfl, re⟩, ⟨Aa, ca, rows, rfl, ra, hk⟩⟩ := hS
  obtain ⟨ad, hA, -⟩ := ra.2 (by omega)
  subst hA
  obtain ⟨sd, hA, -⟩ := hSr.2 (by omega)
  subst hA
  have hr := conv_rank h
  have HR := Lib.hid hr
  have HCB := Lib.hid (cost_ok cOne hL cOne_le (n := S.length))
  obtain ⟨r, hr⟩ := hr
  have HV := Lib.hid (PlL.valF_is (c := cOne) hr)
  have HVL := Lib.hid (fun k (hk : k < S.length) => (PlL.valF_is (c := cOne) hr).le hr HCB.out S.length k hk (Nat.le_of_lt (hr.lt k hk)))
  have RA := Lib.hid ra
  have HK := Lib.hid hk
  have HL := Lib.hid hL
  have SR := Lib.hid hSr
  have HLL := Lib.hid (show L.length = S.length by omega)
  have HTO := Lib.hid (show ∀ k (hk : k < L.length), ∀ x ∈ L[k], 0 ≤ x.2 ∧ x.2 < (S.length : Int) from fun k hk x hx => by have := hto k hk x hx; omega)
  have hn0 : 1 ≤ S.length := by omega
  have hn5 : S.length ≤ 32768 := by omega
  clear hL hSr re ra hk hok hSl hn1 hn2 hn3 hto h hc hr HCB
  generalize PlL.valF L (isIn S) cOne S.length = f at *
  have hmk := run_make_row' (P := Try.prog) 29 3 (.int .i64 0) 8 Try.underlying29 Try.infoIntG rfl .i64 .i64 S.length (by omega) (by omega)
  have HST := Lib.hid (show Mem w [cB w.heap.size (w.heap.size + 1) 3 (nums S.length (fun _ => 0)).toArray, cB w.heap.size w.heap.size 25 #[.slice Ae E.length ce, .slice (some ad) L.length ca]] ((w.alloc (.cells #[.slice Ae E.length ce, .slice (some ad) L.length ca] 25)).alloc (.cells (madeCells #[.int .i64 0] S.length) 3)) from by
    have h := ((Mem.start w).new 25 #[.slice Ae E.length ce, .slice (some ad) L.length ca]).new 3 (madeCells #[.int .i64 0] S.length)
    rw [World.size_alloc, nums_made] at h
    rw [nums_made]
    exact h)
  go_enter Try.func36, Try.ntmps36
  go_wp2_with fail
  clear hmk
  generalize w.heap.size + 1 = gr at *
  go_loopg [8] (PlL.gap f (fun _ => 0) S.length + 1) (fun gk ch wr => LOutS w #[.slice Ae E.length ce, .slice (some ad) L.length ca] S.length gr L f f (isIn S) gk ch wr)
  case atStart => exact ⟨true, _, rfl, rfl, rfl, fun k _ => Nat.zero_le _, (fun h => by cases h), HST.out⟩
  case round =>
    clear HST
    obtain ⟨b, g, -, rfl, rfl, hg, hsat, hM⟩ := hrel
    cases b
    · have HF := Lib.hid (show LPost w L S cOne (.returned (.slice (some ⟨gr, 0, none⟩) S.length S.length)) wr from by
        obtain ⟨r, hr⟩ := HR.out
        refine ⟨gr, f, rfl, (hM.get 0 rfl).1, ?_, HV.out, hM.bel⟩
        have h := (hM.get 0 rfl).2
        rw [nums_congr (PlL.IsVal.done hr HV.out hg (hsat rfl))] at h
        exact h)
      clear hg hsat hM
      go_wp2
      go_ret
      exact HF.out
    · have HM := Lib.hid hM
      have HG := Lib.hid hg
      clear hg hsat hM
      go_wp2_with fail
      go_loopw [8, 9] (fun ch iv wr => ∃ k : Nat, k ≤ S.length ∧ iv = .int .i64 k ∧ LMidS w #[.slice Ae E.length ce, .slice (some ad) L.length ca] S.length gr L (isIn S) f g k ch iv 0 wr) (fun _ i _ => S.length - (intOf i).toNat)
      case atStart => exact ⟨0, Nat.zero_le _, rfl, false, g, rfl, rfl, .start HG.out, HM.out⟩
      case round =>
        clear HM HG
        obtain ⟨k, hk, rfl, b, g', rfl, -, hsw, hM⟩ := hrel
        have HM := Lib.hid hM
        have HSW := Lib.hid hsw
        by_cases hlt : k < S.length
        · have hkL : k < L.length := by have := HLL.out; omega
          have HLS := Lib.hid (HL.out k hkL).2
          have hll := (HL.out k hkL).1
          have HTS := Lib.hid (HTO.out k hkL)
          have HGD := Lib.hid (show L.getD k [] = L[k] from getD_l [] hkL)
          have HROW := Lib.hid (fun (X : World) (hX : Below w.heap.size w X) => row_at (RA.out.below hX) (fun k l hl => let ⟨u, hu, ha⟩ := HK.out k l hl; (⟨u, hu, ha.below hX⟩ : ∃ u, rows[k]? = some u ∧ ArcsAt X w.heap.size u l)) hkL)
          generalize L[k] = l at *
          have k0 : (0 : Int) ≤ (k : Int) := by omega
          have k1 : (k : Int) < (S.length : Int) := by omega
          have k2 : (k : Int) < (L.length : Int) := by omega
          clear hM hsw
          go_wp2_with fail
          go_loopw [8, 10] (fun ch iv wr => ∃ j : Nat, j ≤ l.length ∧ (isIn S k = true → j = 0) ∧ iv = .int .i64 j ∧ LMidS w #[.slice Ae E.length ce, .slice (some ad) L.length ca] S.length gr L (isIn S) f g k ch iv j wr) (fun _ i _ => l.length - (intOf i).toNat)
          case atStart => exact ⟨0, Nat.zero_le _, fun _ => rfl, rfl, b, g', rfl, rfl, HSW.out, HM.out⟩
          case round =>
            clear HM HSW
            obtain ⟨j, hj, hj0, rfl, b, g', rfl, -, hsw, hM⟩ := hrel
            have HM := Lib.hid hM
            have HSW := Lib.hid hsw
            obtain ⟨p0, p1, pf⟩ := blk2 (hM.get 1 rfl).2
            have lsp := (hM.get 1 rfl).2.lt
            obtain ⟨sd', hA, hbs, cS⟩ := bool_at (SR.out.below hM.bel) hlt
            obtain rfl : sd = sd' := by injection hA
            rw [← isIn_of hlt] at cS
            obtain ⟨aL, Ak, ck, hAL, hbl, cr, rk⟩ := HROW.out wr hM.bel
            obtain rfl : ad = aL := by injection hAL
            have HJ0 := Lib.hid hj0
            have j0 : (0 : Int) ≤ (j : Int) := by omega
            clear hj0 hA hAL
            by_cases hgo : j < l.length ∧ isIn S k = false
            · obtain ⟨hjl, hs⟩ := hgo
              obtain ⟨ak, hA, hbk, a0, a1⟩ := arc_at rk hjl
              subst hA
              rw [hs] at cS
              have hx' := HTS.out l[j] (List.getElem_mem _)
              have hx1' := HLS.out j hjl
              have hjG : j < (L.getD k []).length := by rw [HGD.out]; exact hjl
              have hGe : (L.getD k [])[j] = l[j] := by simp only [HGD.out]
              have HKEEP := Lib.hid (fun h => hsw.keep hjG h)
              have HUP := Lib.hid (fun ht hlt2 => hsw.up HV.out hlt hs hjG ht hlt2)
              rw [hGe] at HKEEP HUP
              generalize l[j] = a at *
              obtain ⟨ua, at_⟩ := a
              dsimp only at a0 a1 hx' hx1' HKEEP HUP
              obtain ⟨t, rfl⟩ : ∃ t : Nat, at_ = (t : Int) := ⟨at_.toNat, by omega⟩
              simp only [Int.toNat_natCast] at HKEEP HUP
              have htn : t < S.length := by omega
              have ht1 := HVL.out t htn
              have ht2 := hsw.le t htn
              have hk1 := HVL.out k hlt
              have hk2 := hsw.le k hlt
              have hpop := Pl.pop_le ua
              have j1 : (j : Int) < (l.length : Int) := by omega
              have t0 : (0 : Int) ≤ (t : Int) := by omega
              have t1 : (t : Int) < (S.length : Int) := by omega
              have c1 := num_at (hM.get 0 rfl).2 htn
              have c2 := num_at (hM.get 0 rfl).2 hlt
              have fgr := (hM.get 0 rfl).2.frozen k
              have lgr := (hM.get 0 rfl).2.lt
              have HSF := Lib.hid hs
              unfold cOne at HKEEP HUP
              (try dsimp only at HKEEP HUP)
              have hw1 := IntWalk.i64_in ((1 : Int) + (g' t : Int)) (by omega)
              clear hM rk hx' hs hsw hGe
              go_upto_region 14 with fail
              by_cases hgt : g' k < 1 + g' t
              · have t2 : decide ((g' k : Int) < (1 : Int) + (g' t : Int)) = true := decide_eq_true (by omega)
                have HU := Lib.hid (HUP.out htn hgt)
                have HSET := Lib.hid ((HM.out.set_ 0 rfl k (.int .i64 ((1 + g' t : Nat) : Int)) (nums_set S.length g' (PlL.upd g' k (1 + g' t)) k _ (fun _ => rfl))))
                have hcast : ((1 + g' t : Nat) : Int) = (1 : Int) + (g' t : Int) := by omega
                rw [hcast] at HSET
                clear HUP HKEEP hgt
                go_quiet (fail)
                have HSD := Lib.hid (show Mem w [cB w.heap.size gr 3 (nums S.length (PlL.upd g' k (1 + g' t))).toArray, cB w.heap.size w.heap.size 25 #[.slice Ae E.length ce, .slice (some ad) L.length ca]] ((wr.drewN nq).setCell ⟨gr, k, none⟩ (.int .i64 ((1 : Int) + (g' t : Int)))) from by
                  have h := (HM.out.drewN nq).set_ 0 rfl k (.int .i64 ((1 + g' t : Nat) : Int)) (nums_set S.length g' (PlL.upd g' k (1 + g' t)) k _ (fun _ => rfl))
                  rw [hcast] at h
                  exact h)
                clear hcast HSET
                go_wp2
                refine ⟨⟨j + 1, by omega, fun h => (by rw [HSF.out] at h; cases h), by go_num, true, _, rfl, rfl, HU.out, HSD.out⟩, by simp [intOf]; omega⟩
              · have t2 : decide ((g' k : Int) < (1 : Int) + (g' t : Int)) = false := decide_eq_false (by omega)
                have HKP := Lib.hid (HKEEP.out (by omega))
                clear HUP HKEEP hgt
                go_quiet (fail)
                go_wp2
                refine ⟨⟨j + 1, by omega, fun h => (by rw [HSF.out] at h; cases h), by go_num, b, g', rfl, rfl, HKP.out, HM.out.drewN nq⟩, by simp [intOf]; omega⟩
            · have HNX := Lib.hid (show PlL.Swp S.length L (isIn S) cOne f g b g' (k + 1) 0 from hsw.state (by
                cases hs : isIn S k
                · right
                  rw [HGD.out]
                  rcases Nat.lt_or_ge j l.length with h | h
                  · exact absurd ⟨h, hs⟩ hgo
                  · exact h
                · exact .inl rfl))
              clear hM rk hsw
              by_cases hjl : j < l.length
              · have hs : isIn S k = true := by
                  cases hs : isIn S k
                  · exact absurd ⟨hjl, hs⟩ hgo
                  · rfl
                rw [hs] at cS
                have j1 : (j : Int) < (l.length : Int) := by omega
                clear hgo hs
                go_wp2
                exact ⟨⟨k + 1, by omega, by go_num, b, g', rfl, rfl, HNX.out, HM.out⟩, by simp [intOf]; omega⟩
              · have j1 : ¬ (j : Int) < (l.length : Int) := by omega
                clear hgo
                go_wp2
                exact ⟨⟨k + 1, by omega, by go_num, b, g', rfl, rfl, HNX.out, HM.out⟩, by simp [intOf]; omega⟩
        · obtain rfl : k = S.length := by omega
          have hend := hsw.fin
          have HF := Lib.hid (show LOutS w #[.slice Ae E.length ce, .slice (some ad) L.length ca] S.length gr L f f (isIn S) (PlL.gap f g' S.length + (if b = true then 1 else 0)) (.bool b) wr from ⟨b, g', rfl, rfl, rfl, hsw.le, fun hb => (hsw.no hb).2.1, hM⟩)
          clear hM hsw HM HSW
          generalize PlL.gap f g' S.length + (if b = true then 1 else 0) = q at *
          go_wp2
          go_roundg q
          case measure => simpa using hend
          case rel => exact HF.out

def LOutM (w : World) (sp : Array Value) (n gr : Nat) (L : List (List Arc)) (S f : Nat → Nat) (B : Nat → Bool) (gk : Nat) (ch : Value) (wr : World) : Prop :=
  ∃ (b : Bool) (g : Nat → Nat), S = S ∧ ch = .bool b ∧ gk = PlL.gap f g n + (if b = true then 1 else 0) ∧ (∀ k, k < n → g k ≤ f k) ∧ (b = false → ∀ k, k < n → PlL.Sat L B cPop g k) ∧ Mem w [cB w.heap.size gr 3 (nums n g).toArray, cB w.heap.size w.heap.size 25 sp] wr
def LMidM (w : World) (sp : Array Value) (n gr : Nat) (L : List (List Arc)) (B : Nat → Bool) (f g0 : Nat → Nat) (k : Nat) (ch iv : Value) (i : Nat) (wr : World) : Prop :=
  ∃ (b : Bool) (g : Nat → Nat), ch = .bool b ∧ iv = iv ∧ PlL.Swp n L B cPop f g0 b g k i ∧ Mem w [cB w.heap.size gr 3 (nums n g).toArray, cB w.heap.size w.heap.size 25 sp] wr

set_option maxRecDepth 100000 in
set_option maxHeartbeats 4000000 in
theorem rlongM_ok (E : List Nat) (L : List (List Arc)) (v : Value) (hL : WfL L) (S : List Bool) (A : Option Addr) (c : Nat) (h : wchk E L S = 0) (w : World) (hS : SpaceAt w w.heap.size v E L) (hSr : Reads w w.heap.size 1 A S.length (S.map Value.bool)) :
    Calls Try.prog 36 #[v, .slice A S.length c, .bool true] w (LPost w L S cPop) := by
  obtain ⟨hok, hSl, hc⟩ := wchk_zero h
  obtain ⟨hn1, hn2, hn3, hto⟩ := PlG.ok_parts hok
  obtain ⟨ve, va, rfl, ⟨Ae, ce, rfl, re⟩, ⟨Aa, ca, rows, rfl, ra, hk⟩⟩ := hS
  obtain ⟨ad, hA, -⟩ := ra.2 (by omega)
  subst hA
  obtain ⟨sd, hA, -⟩ := hSr.2 (by omega)
  subst hA
  have hr := conv_rank h
  have HR := Lib.hid hr
  have HCB := Lib.hid (cost_ok cPop hL cPop_le (n := S.length))
  obtain ⟨r, hr⟩ := hr
  have HV := Lib.hid (PlL.valF_is (c := cPop) hr)
  have HVL := Lib.hid (fun k (hk : k < S.length) => (PlL.valF_is (c := cPop) hr).le hr HCB.out S.length k hk (Nat.le_of_lt (hr.lt k hk)))
  have RA := Lib.hid ra
  have HK := Lib.hid hk
  have HL := Lib.hid hL
  have SR := Lib.hid hSr
  have HLL := Lib.hid (show L.length = S.length by omega)
  have HTO := Lib.hid (show ∀ k (hk : k < L.length), ∀ x ∈ L[k], 0 ≤ x.2 ∧ x.2 < (S.length : Int) from fun k hk x hx => by have := hto k hk x hx; omega)
  have hn0 : 1 ≤ S.length := by omega
  have hn5 : S.length ≤ 32768 := by omega
  clear hL hSr re ra hk hok hSl hn1 hn2 hn3 hto h hc hr HCB
  generalize PlL.valF L (isIn S) cPop S.length = f at *
  have hmk := run_make_row' (P := Try.prog) 29 3 (.int .i64 0) 8 Try.underlying29 Try.infoIntG rfl .i64 .i64 S.length (by omega) (by omega)
  have HST := Lib.hid (show Mem w [cB w.heap.size (w.heap.size + 1) 3 (nums S.length (fun _ => 0)).toArray, cB w.heap.size w.heap.size 25 #[.slice Ae E.length ce, .slice (some ad) L.length ca]] ((w.alloc (.cells #[.slice Ae E.length ce, .slice (some ad) L.length ca] 25)).alloc (.cells (madeCells #[.int .i64 0] S.length) 3)) from by
    have h := ((Mem.start w).new 25 #[.slice Ae E.length ce, .slice (some ad) L.length ca]).new 3 (madeCells #[.int .i64 0] S.length)
    rw [World.size_alloc, nums_made] at h
    rw [nums_made]
    exact h)
  go_enter Try.func36, Try.ntmps36
  go_wp2_with fail
  clear hmk
  generalize w.heap.size + 1 = gr at *
  go_loopg [8] (PlL.gap f (fun _ => 0) S.length + 1) (fun gk ch wr => LOutM w #[.slice Ae E.length ce, .slice (some ad) L.length ca] S.length gr L f f (isIn S) gk ch wr)
  case atStart => exact ⟨true, _, rfl, rfl, rfl, fun k _ => Nat.zero_le _, (fun h => by cases h), HST.out⟩
  case round =>
    clear HST
    obtain ⟨b, g, -, rfl, rfl, hg, hsat, hM⟩ := hrel
    cases b
    · have HF := Lib.hid (show LPost w L S cPop (.returned (.slice (some ⟨gr, 0, none⟩) S.length S.length)) wr from by
        obtain ⟨r, hr⟩ := HR.out
        refine ⟨gr, f, rfl, (hM.get 0 rfl).1, ?_, HV.out, hM.bel⟩
        have h := (hM.get 0 rfl).2
        rw [nums_congr (PlL.IsVal.done hr HV.out hg (hsat rfl))] at h
        exact h)
      clear hg hsat hM
      go_wp2
      go_ret
      exact HF.out
    · have HM := Lib.hid hM
      have HG := Lib.hid hg
      clear hg hsat hM
      go_wp2_with fail
      go_loopw [8, 9] (fun ch iv wr => ∃ k : Nat, k ≤ S.length ∧ iv = .int .i64 k ∧ LMidM w #[.slice Ae E.length ce, .slice (some ad) L.length ca] S.length gr L (isIn S) f g k ch iv 0 wr) (fun _ i _ => S.length - (intOf i).toNat)
      case atStart => exact ⟨0, Nat.zero_le _, rfl, false, g, rfl, rfl, .start HG.out, HM.out⟩
      case round =>
        clear HM HG
        obtain ⟨k, hk, rfl, b, g', rfl, -, hsw, hM⟩ := hrel
        have HM := Lib.hid hM
        have HSW := Lib.hid hsw
        by_cases hlt : k < S.length
        · have hkL : k < L.length := by have := HLL.out; omega
          have HLS := Lib.hid (HL.out k hkL).2
          have hll := (HL.out k hkL).1
          have HTS := Lib.hid (HTO.out k hkL)
          have HGD := Lib.hid (show L.getD k [] = L[k] from getD_l [] hkL)
          have HROW := Lib.hid (fun (X : World) (hX : Below w.heap.size w X) => row_at (RA.out.below hX) (fun k l hl => let ⟨u, hu, ha⟩ := HK.out k l hl; (⟨u, hu, ha.below hX⟩ : ∃ u, rows[k]? = some u ∧ ArcsAt X w.heap.size u l)) hkL)
          generalize L[k] = l at *
          have k0 : (0 : Int) ≤ (k : Int) := by omega
          have k1 : (k : Int) < (S.length : Int) := by omega
          have k2 : (k : Int) < (L.length : Int) := by omega
          clear hM hsw
          go_wp2_with fail
          go_loopw [8, 10] (fun ch iv wr => ∃ j : Nat, j ≤ l.length ∧ (isIn S k = true → j = 0) ∧ iv = .int .i64 j ∧ LMidM w #[.slice Ae E.length ce, .slice (some ad) L.length ca] S.length gr L (isIn S) f g k ch iv j wr) (fun _ i _ => l.length - (intOf i).toNat)
          case atStart => exact ⟨0, Nat.zero_le _, fun _ => rfl, rfl, b, g', rfl, rfl, HSW.out, HM.out⟩
          case round =>
            clear HM HSW
            obtain ⟨j, hj, hj0, rfl, b, g', rfl, -, hsw, hM⟩ := hrel
            have HM := Lib.hid hM
            have HSW := Lib.hid hsw
            obtain ⟨p0, p1, pf⟩ := blk2 (hM.get 1 rfl).2
            have lsp := (hM.get 1 rfl).2.lt
            obtain ⟨sd', hA, hbs, cS⟩ := bool_at (SR.out.below hM.bel) hlt
            obtain rfl : sd = sd' := by injection hA
            rw [← isIn_of hlt] at cS
            obtain ⟨aL, Ak, ck, hAL, hbl, cr, rk⟩ := HROW.out wr hM.bel
            obtain rfl : ad = aL := by injection hAL
            have HJ0 := Lib.hid hj0
            have j0 : (0 : Int) ≤ (j : Int) := by omega
            clear hj0 hA hAL
            by_cases hgo : j < l.length ∧ isIn S k = false
            · obtain ⟨hjl, hs⟩ := hgo
              obtain ⟨ak, hA, hbk, a0, a1⟩ := arc_at rk hjl
              subst hA
              rw [hs] at cS
              have hx' := HTS.out l[j] (List.getElem_mem _)
              have hx1' := HLS.out j hjl
              have hjG : j < (L.getD k []).length := by rw [HGD.out]; exact hjl
              have hGe : (L.getD k [])[j] = l[j] := by simp only [HGD.out]
              have HKEEP := Lib.hid (fun h => hsw.keep hjG h)
              have HUP := Lib.hid (fun ht hlt2 => hsw.up HV.out hlt hs hjG ht hlt2)
              rw [hGe] at HKEEP HUP
              generalize l[j] = a at *
              obtain ⟨ua, at_⟩ := a
              dsimp only at a0 a1 hx' hx1' HKEEP HUP
              obtain ⟨t, rfl⟩ : ∃ t : Nat, at_ = (t : Int) := ⟨at_.toNat, by omega⟩
              simp only [Int.toNat_natCast] at HKEEP HUP
              have htn : t < S.length := by omega
              have ht1 := HVL.out t htn
              have ht2 := hsw.le t htn
              have hk1 := HVL.out k hlt
              have hk2 := hsw.le k hlt
              have hpop := Pl.pop_le ua
              have j1 : (j : Int) < (l.length : Int) := by omega
              have t0 : (0 : Int) ≤ (t : Int) := by omega
              have t1 : (t : Int) < (S.length : Int) := by omega
              have c1 := num_at (hM.get 0 rfl).2 htn
              have c2 := num_at (hM.get 0 rfl).2 hlt
              have fgr := (hM.get 0 rfl).2.frozen k
              have lgr := (hM.get 0 rfl).2.lt
              have HSF := Lib.hid hs
              unfold cPop at HKEEP HUP
              (try dsimp only at HKEEP HUP)
              have hw1 := IntWalk.i64_in ((Pl.pop ua : Int) + (g' t : Int)) (by omega)
              clear hM rk hx' hs hsw hGe
              go_wp2_with fail
              refine (count_any ua hx1' _).mono ?_
              rintro e w' ⟨rfl, rfl⟩
              go_upto_region 14 with fail
              by_cases hgt : g' k < Pl.pop ua + g' t
              · have t2 : decide ((g' k : Int) < (Pl.pop ua : Int) + (g' t : Int)) = true := decide_eq_true (by omega)
                have HU := Lib.hid (HUP.out htn hgt)
                have HSET := Lib.hid ((HM.out.set_ 0 rfl k (.int .i64 ((Pl.pop ua + g' t : Nat) : Int)) (nums_set S.length g' (PlL.upd g' k (Pl.pop ua + g' t)) k _ (fun _ => rfl))))
                have hcast : ((Pl.pop ua + g' t : Nat) : Int) = (Pl.pop ua : Int) + (g' t : Int) := by omega
                rw [hcast] at HSET
                clear HUP HKEEP hgt
                go_quiet (fail)
                have HSD := Lib.hid (show Mem w [cB w.heap.size gr 3 (nums S.length (PlL.upd g' k (Pl.pop ua + g' t))).toArray, cB w.heap.size w.heap.size 25 #[.slice Ae E.length ce, .slice (some ad) L.length ca]] ((wr.drewN nq).setCell ⟨gr, k, none⟩ (.int .i64 ((Pl.pop ua : Int) + (g' t : Int)))) from by
                  have h := (HM.out.drewN nq).set_ 0 rfl k (.int .i64 ((Pl.pop ua + g' t : Nat) : Int)) (nums_set S.length g' (PlL.upd g' k (Pl.pop ua + g' t)) k _ (fun _ => rfl))
                  rw [hcast] at h
                  exact h)
                clear hcast HSET
                go_wp2
                refine ⟨⟨j + 1, by omega, fun h => (by rw [HSF.out] at h; cases h), by go_num, true, _, rfl, rfl, HU.out, HSD.out⟩, by simp [intOf]; omega⟩
              · have t2 : decide ((g' k : Int) < (Pl.pop ua : Int) + (g' t : Int)) = false := decide_eq_false (by omega)
                have HKP := Lib.hid (HKEEP.out (by omega))
                clear HUP HKEEP hgt
                go_quiet (fail)
                go_wp2
                refine ⟨⟨j + 1, by omega, fun h => (by rw [HSF.out] at h; cases h), by go_num, b, g', rfl, rfl, HKP.out, HM.out.drewN nq⟩, by simp [intOf]; omega⟩
            · have HNX := Lib.hid (show PlL.Swp S.length L (isIn S) cPop f g b g' (k + 1) 0 from hsw.state (by
                cases hs : isIn S k
                · right
                  rw [HGD.out]
                  rcases Nat.lt_or_ge j l.length with h | h
                  · exact absurd ⟨h, hs⟩ hgo
                  · exact h
                · exact .inl rfl))
              clear hM rk hsw
              by_cases hjl : j < l.length
              · have hs : isIn S k = true := by
                  cases hs : isIn S k
                  · exact absurd ⟨hjl, hs⟩ hgo
                  · rfl
                rw [hs] at cS
                have j1 : (j : Int) < (l.length : Int) := by omega
                clear hgo hs
                go_wp2
                exact ⟨⟨k + 1, by omega, by go_num, b, g', rfl, rfl, HNX.out, HM.out⟩, by simp [intOf]; omega⟩
              · have j1 : ¬ (j : Int) < (l.length : Int) := by omega
                clear hgo
                go_wp2
                exact ⟨⟨k + 1, by omega, by go_num, b, g', rfl, rfl, HNX.out, HM.out⟩, by simp [intOf]; omega⟩
        · obtain rfl : k = S.length := by omega
          have hend := hsw.fin
          have HF := Lib.hid (show LOutM w #[.slice Ae E.length ce, .slice (some ad) L.length ca] S.length gr L f f (isIn S) (PlL.gap f g' S.length + (if b = true then 1 else 0)) (.bool b) wr from ⟨b, g', rfl, rfl, rfl, hsw.le, fun hb => (hsw.no hb).2.1, hM⟩)
          clear hM hsw HM HSW
          generalize PlL.gap f g' S.length + (if b = true then 1 else 0) = q at *
          go_wp2
          go_roundg q
          case measure => simpa using hend
          case rel => exact HF.out

set_option maxHeartbeats 1000000 in
theorem rsteps_err (E : List Nat) (L : List (List Arc)) (v : Value) (hE : WfE E) (hL : WfL L) (S : List Bool) (A : Option Addr) (c : Nat) (z : Int) (hz : z ≠ 0) (h : wchk E L S = z) (w : World) (hS : SpaceAt w w.heap.size v E L) (hSr : Reads w w.heap.size 1 A S.length (S.map Value.bool)) :
    Calls Try.prog 14 #[v, .slice A S.length c] w fun e w' => e = .returned (.tuple #[.slice none 0 0, .int .i64 z]) ∧ Below w.heap.size w w' := by
  have HS := Lib.hid hS
  obtain ⟨ve, va, rfl, ⟨Ae, ce, rfl, re⟩, ⟨Aa, ca, rows, rfl, ra, hk⟩⟩ := hS
  have HM0 := Lib.hid ((Mem.start w).new 25 #[.slice Ae E.length ce, .slice Aa L.length ca])
  have HE := Lib.hid hE
  have HL := Lib.hid hL
  have H := Lib.hid h
  have SR := Lib.hid hSr
  have t1 : (z != 0) = true := by rw [bne_iff_ne]; exact hz
  clear hE hL h re ra hk hz hSr
  go_enter Try.func14, Try.ntmps14
  go_wp2_with fail
  refine (rbegin_any E L _ HE.out HL.out S A c z H.out _ (HS.out.go HM0.out.bel) (SR.out.go HM0.out.bel)).mono ?_
  rintro e w1 ⟨rfl, hb1⟩
  have HM1 := Lib.hid (HM0.out.below hb1)
  clear hb1
  go_wp2
  go_ret2
  exact ⟨rfl, HM1.out.bel⟩
set_option maxHeartbeats 1000000 in
theorem rsteps_ok (E : List Nat) (L : List (List Arc)) (v : Value) (hE : WfE E) (hL : WfL L) (S : List Bool) (A : Option Addr) (c : Nat) (h : wchk E L S = 0) (w : World) (hS : SpaceAt w w.heap.size v E L) (hSr : Reads w w.heap.size 1 A S.length (S.map Value.bool)) :
    Calls Try.prog 14 #[v, .slice A S.length c] w (RVal w L S cOne) := by
  have HS := Lib.hid hS
  obtain ⟨ve, va, rfl, ⟨Ae, ce, rfl, re⟩, ⟨Aa, ca, rows, rfl, ra, hk⟩⟩ := hS
  have HM0 := Lib.hid ((Mem.start w).new 25 #[.slice Ae E.length ce, .slice Aa L.length ca])
  have HE := Lib.hid hE
  have HL := Lib.hid hL
  have H := Lib.hid h
  have SR := Lib.hid hSr
  clear hE hL h re ra hk hSr
  go_enter Try.func14, Try.ntmps14
  go_wp2_with fail
  refine (rbegin_any E L _ HE.out HL.out S A c 0 H.out _ (HS.out.go HM0.out.bel) (SR.out.go HM0.out.bel)).mono ?_
  rintro e w1 ⟨rfl, hb1⟩
  have HM1 := Lib.hid (HM0.out.below hb1)
  obtain ⟨p0, p1, pf⟩ := blk2 (HM1.out.get 0 rfl).2
  clear hb1
  go_wp2_with fail
  refine (rlongS_ok E L _ HL.out S A c H.out _ (HS.out.go HM1.out.bel) (SR.out.go HM1.out.bel)).mono ?_
  rintro e w2 ⟨g, f, rfl, hg, bk, hv, hb2⟩
  have HF := Lib.hid (show RVal w L S cOne (.returned (.tuple #[.slice (some ⟨g, 0, none⟩) S.length S.length, .int .i64 0])) w2 from ⟨g, f, rfl, Nat.le_trans HM1.out.size hg, bk, hv, (HM1.out.below hb2).bel⟩)
  clear hg bk hv hb2 p0 p1 pf
  go_wp2
  go_ret2
  exact HF.out

set_option maxHeartbeats 1000000 in
theorem rmoves_err (E : List Nat) (L : List (List Arc)) (v : Value) (hE : WfE E) (hL : WfL L) (S : List Bool) (A : Option Addr) (c : Nat) (z : Int) (hz : z ≠ 0) (h : wchk E L S = z) (w : World) (hS : SpaceAt w w.heap.size v E L) (hSr : Reads w w.heap.size 1 A S.length (S.map Value.bool)) :
    Calls Try.prog 16 #[v, .slice A S.length c] w fun e w' => e = .returned (.tuple #[.slice none 0 0, .int .i64 z]) ∧ Below w.heap.size w w' := by
  have HS := Lib.hid hS
  obtain ⟨ve, va, rfl, ⟨Ae, ce, rfl, re⟩, ⟨Aa, ca, rows, rfl, ra, hk⟩⟩ := hS
  have HM0 := Lib.hid ((Mem.start w).new 25 #[.slice Ae E.length ce, .slice Aa L.length ca])
  have HE := Lib.hid hE
  have HL := Lib.hid hL
  have H := Lib.hid h
  have SR := Lib.hid hSr
  have t1 : (z != 0) = true := by rw [bne_iff_ne]; exact hz
  clear hE hL h re ra hk hz hSr
  go_enter Try.func16, Try.ntmps16
  go_wp2_with fail
  refine (rbegin_any E L _ HE.out HL.out S A c z H.out _ (HS.out.go HM0.out.bel) (SR.out.go HM0.out.bel)).mono ?_
  rintro e w1 ⟨rfl, hb1⟩
  have HM1 := Lib.hid (HM0.out.below hb1)
  clear hb1
  go_wp2
  go_ret2
  exact ⟨rfl, HM1.out.bel⟩
set_option maxHeartbeats 1000000 in
theorem rmoves_ok (E : List Nat) (L : List (List Arc)) (v : Value) (hE : WfE E) (hL : WfL L) (S : List Bool) (A : Option Addr) (c : Nat) (h : wchk E L S = 0) (w : World) (hS : SpaceAt w w.heap.size v E L) (hSr : Reads w w.heap.size 1 A S.length (S.map Value.bool)) :
    Calls Try.prog 16 #[v, .slice A S.length c] w (RVal w L S cPop) := by
  have HS := Lib.hid hS
  obtain ⟨ve, va, rfl, ⟨Ae, ce, rfl, re⟩, ⟨Aa, ca, rows, rfl, ra, hk⟩⟩ := hS
  have HM0 := Lib.hid ((Mem.start w).new 25 #[.slice Ae E.length ce, .slice Aa L.length ca])
  have HE := Lib.hid hE
  have HL := Lib.hid hL
  have H := Lib.hid h
  have SR := Lib.hid hSr
  clear hE hL h re ra hk hSr
  go_enter Try.func16, Try.ntmps16
  go_wp2_with fail
  refine (rbegin_any E L _ HE.out HL.out S A c 0 H.out _ (HS.out.go HM0.out.bel) (SR.out.go HM0.out.bel)).mono ?_
  rintro e w1 ⟨rfl, hb1⟩
  have HM1 := Lib.hid (HM0.out.below hb1)
  obtain ⟨p0, p1, pf⟩ := blk2 (HM1.out.get 0 rfl).2
  clear hb1
  go_wp2_with fail
  refine (rlongM_ok E L _ HL.out S A c H.out _ (HS.out.go HM1.out.bel) (SR.out.go HM1.out.bel)).mono ?_
  rintro e w2 ⟨g, f, rfl, hg, bk, hv, hb2⟩
  have HF := Lib.hid (show RVal w L S cPop (.returned (.tuple #[.slice (some ⟨g, 0, none⟩) S.length S.length, .int .i64 0])) w2 from ⟨g, f, rfl, Nat.le_trans HM1.out.size hg, bk, hv, (HM1.out.below hb2).bel⟩)
  clear hg bk hv hb2 p0 p1 pf
  go_wp2
  go_ret2
  exact HF.out
end Go.Proofs.Ytbilciiffecdgaa
