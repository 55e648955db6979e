/- ref19.Attractor. -/
import Derived.Test.YtlhheglffododaaF1
import Derived.Deep.LoopGhost
namespace Go.Proofs.Ytlhheglffododaa
open Go.RowKit

/-- a list of marks of the call's own for which P holds, and no error -/
def OwnMarks (w : World) (n : Nat) (P : (Nat → Bool) → Prop) (e : Ending) (w' : World) : Prop :=
  ∃ (v : Value) (f : Nat → Bool), e = .returned (.tuple #[v, .int .i64 0]) ∧ w'.ownsRow w.heap.size 4 1 v n ((marks n f).map Value.bool) ∧ P f ∧ Below w.heap.size w w'

theorem begin_is (E : List Nat) (L : List (List Arc)) (v : Value) (hE : WfE E) (hL : WfL L) (A : Option Addr) (m c : Nat) (z : Int) (h : chk E L m = z) (w : World) (hS : SpaceAt w w.heap.size v E L) :
    Calls Try.prog 29 #[v, .slice A m c] w fun e w' => e = .returned (.int .i64 z) ∧ Below w.heap.size w w' := by rw [← h]; exact begin_any E L v hE hL A m c w hS

set_option maxHeartbeats 1000000 in
theorem rattr_err (E : List Nat) (L : List (List Arc)) (v : Value) (hE : WfE E) (hL : WfL L) (A : Option Addr) (m c : Nat) (z : Int) (hz : z ≠ 0) (h : chk E L m = z) (w : World) (hS : SpaceAt w w.heap.size v E L) :
    Calls Try.prog 19 #[v, .slice A m c] w fun e w' => e = .returned (.tuple #[.slice none 0 0, .int .i64 z]) ∧ Below w.heap.size w w' := by
  have HS := Lib.hid hS
  obtain ⟨ve, va, rfl, ⟨Ae, ce, rfl, re⟩, ⟨Aa, ca, rows, rfl, ra, hk⟩⟩ := hS
  have HB0 := Lib.hid ((Below.refl w.heap.size w).alloc (Nat.le_refl _) (.cells #[.slice Ae E.length ce, .slice Aa L.length ca] 25))
  have HE := Lib.hid hE
  have HL := Lib.hid hL
  have H := Lib.hid h
  have t1 : (z != 0) = true := by rw [bne_iff_ne]; exact hz
  clear hE hL h re ra hk
  go_enter Try.func19, Try.ntmps19
  go_wp2_with fail
  refine (begin_is E L _ HE.out HL.out A m c z H.out _ (HS.out.go HB0.out)).mono ?_
  rintro e w1 ⟨rfl, hb1⟩
  have HB1 := Lib.hid (below_end hb1 HB0.out)
  clear hb1
  go_wp2
  go_ret2
  exact ⟨rfl, HB1.out⟩

theorem own_mark {w : World} {base g cap n : Nat} {f : Nat → Bool} (h : w.ownsRow base 4 1 (.slice (some ⟨g, 0, none⟩) n cap) n ((marks n f).map Value.bool)) {k : Nat} (hk : k < n) : w.cell? ⟨g, k, none⟩ = some (.bool (f k)) := by
  rw [h.cellAt k (by omega), List.getElem?_map, List.getElem?_eq_getElem (by rw [marks_len]; exact hk), marks_get]; rfl
theorem own_mark_set {w : World} {base g cap n : Nat} {f : Nat → Bool} (h : w.ownsRow base 4 1 (.slice (some ⟨g, 0, none⟩) n cap) n ((marks n f).map Value.bool)) (k : Nat) (b : Bool) :
    (w.setCell ⟨g, k, none⟩ (.bool b)).ownsRow base 4 1 (.slice (some ⟨g, 0, none⟩) n cap) n ((marks n (fun j => if j = k then b else f j)).map Value.bool) := by
  have := (h.stored k (.bool b)).1
  rwa [← List.map_set, marks_set] at this
theorem map_one (l : List Bool) : ∀ u ∈ l.map Value.bool, u.oneCell' = true := by
  intro u hu
  obtain ⟨b, _, rfl⟩ := List.mem_map.1 hu
  rfl

/-- what holds at the head of the outer loop -/
def FixRel (w : World) (sp : Array Value) (n g cap : Nat) (G : Nat → List Nat) (S : Nat → Bool) (gk : Nat) (ch : Value) (wr : World) : Prop :=
  ∃ (b : Bool) (f : Nat → Bool), ch = .bool b ∧ gk = PlF.cnt n f + (if b = true then 1 else 0) ∧ wr.ownsRow w.heap.size 4 1 (.slice (some ⟨g, 0, none⟩) n cap) n ((marks n f).map Value.bool) ∧ PlF.Fix n G S f ∧
    (b = false → ∀ k, k < n → ¬ PlF.Cond G f k) ∧ Blk wr w.heap.size 25 sp ∧ Below w.heap.size w wr
def FixMid (w : World) (sp : Array Value) (n g cap : Nat) (G : Nat → List Nat) (S f : Nat → Bool) (ch i : Value) (wr : World) : Prop :=
  ∃ (j : Nat) (b : Bool) (f' : Nat → Bool), j ≤ n ∧ i = .int .i64 j ∧ ch = .bool b ∧ wr.ownsRow w.heap.size 4 1 (.slice (some ⟨g, 0, none⟩) n cap) n ((marks n f').map Value.bool) ∧ PlF.Fix n G S f' ∧
    (b = false → f' = f ∧ ∀ k, k < j → ¬ PlF.Cond G f' k) ∧ (b = true → PlF.cnt n f' < PlF.cnt n f) ∧ Blk wr w.heap.size 25 sp ∧ Below w.heap.size w wr

theorem FixMid.drewN {w wr : World} {sp : Array Value} {n g cap : Nat} {G : Nat → List Nat} {S f : Nat → Bool} {ch i : Value} (h : FixMid w sp n g cap G S f ch i wr) (d : Nat) : FixMid w sp n g cap G S f ch i (wr.drewN d) := by
  obtain ⟨j, b, f', h1, h2, h3, h4, h5, h6, h7, h8, h9⟩ := h
  exact ⟨j, b, f', h1, h2, h3, h4, h5, h6, h7, h8.drewN d, below_drewN h9 d⟩
theorem fix_put {w wr : World} {sp : Array Value} {n g cap j d : Nat} {f : Nat → Bool} (ho : wr.ownsRow w.heap.size 4 1 (.slice (some ⟨g, 0, none⟩) n cap) n ((marks n f).map Value.bool)) (bs : Blk wr w.heap.size 25 sp) (hB : Below w.heap.size w wr) (b : Bool) :
    (((wr.drewN d).setCell ⟨g, j, none⟩ (.bool b)).ownsRow w.heap.size 4 1 (.slice (some ⟨g, 0, none⟩) n cap) n ((marks n (fun i => if i = j then b else f i)).map Value.bool)) ∧
    Blk ((wr.drewN d).setCell ⟨g, j, none⟩ (.bool b)) w.heap.size 25 sp ∧ Below w.heap.size w ((wr.drewN d).setCell ⟨g, j, none⟩ (.bool b)) := by
  have ho' : (wr.drewN d).ownsRow w.heap.size 4 1 (.slice (some ⟨g, 0, none⟩) n cap) n ((marks n f).map Value.bool) := ho
  have hne : w.heap.size ≠ g := fun e => own_blk_ne ho bs (by decide) (by rw [e]; rfl)
  exact ⟨own_mark_set ho' j b, (bs.drewN d).far hne _, (below_drewN hB d).setCell ((ho.lt g rfl).1) _⟩

set_option maxHeartbeats 2000000 in
theorem rattr_ok (E : List Nat) (L : List (List Arc)) (v : Value) (hE : WfE E) (hL : WfL L) (hok : PlS.spaceOk E L = true) (S : List Bool) (hSl : S.length = E.length) (A : Option Addr) (c : Nat) (w : World) (hS : SpaceAt w w.heap.size v E L)
    (hSr : Reads w w.heap.size 1 A S.length (S.map Value.bool)) :
    Calls Try.prog 19 #[v, .slice A S.length c] w (OwnMarks w S.length (fun f => ∀ k, k < S.length → (f k = true ↔ PlC.Att (PlG.tg L) (isIn S) k))) := by
  have HS := Lib.hid hS
  obtain ⟨ve, va, rfl, ⟨Ae, ce, rfl, re⟩, ⟨Aa, ca, rows, rfl, ra, hk⟩⟩ := hS
  obtain ⟨hn1, hn2, hn3, hto⟩ := PlG.ok_parts hok
  obtain ⟨ad, hA, -⟩ := ra.2 (by omega)
  subst hA
  have HB0 := Lib.hid ((Below.refl w.heap.size w).alloc (Nat.le_refl _) (.cells #[.slice Ae E.length ce, .slice (some ad) L.length ca] 25))
  have RA := Lib.hid ra
  have HK := Lib.hid hk
  have HE := Lib.hid hE
  have HL := Lib.hid hL
  have HOK := Lib.hid hok
  have SR := Lib.hid hSr
  have H := Lib.hid (chk_ok hok hSl)
  have HSL := Lib.hid (show S.length = L.length by omega)
  have HTO := Lib.hid (fun k (hk : k < L.length) x (hx : x ∈ L[k]) => (show 0 ≤ x.2 ∧ x.2 < (S.length : Int) by have := hto k hk x hx; omega))
  have HT := Lib.hid (fun k t (ht : t ∈ PlG.tg L k) => (show t < S.length by have := PlG.tg_lt hok k t ht; omega))
  have HG := Lib.hid (fun k (ht : PlG.tg L k ≠ []) => (show k < S.length by have := PlG.tg_dom hok k ht; omega))
  have hn5 : S.length ≤ 32768 := by omega
  have hn6 : 0 < S.length := by omega
  clear hE hL hok hSr re ra hk hSl hn1 hn2 hn3 hto
  obtain ⟨i0, hi0, hz0, hz1, hz2⟩ := info_parts Try.infoBool
  go_enter Try.func19, Try.ntmps19
  go_wp2_with fail
  refine (begin_is E L _ HE.out HL.out A S.length c 0 H.out _ (HS.out.go HB0.out)).mono ?_
  rintro e w1 ⟨rfl, hb1⟩
  have HB1 := Lib.hid (below_end hb1 HB0.out)
  have bs := (Blk.new w 25 #[.slice Ae E.length ce, .slice (some ad) L.length ca]).below hb1 (by simp)
  clear hb1
  go_wp2_with (at_builtin; refine wpList_append_any _ rfl (.const (.slice none 0 0)) (.tmp 16) 26 rfl w.heap.size 4 i0 (.bool false) 1 1 Try.underlying26 hi0 hz0 hz1 hz2 rfl (by decide) (.slice none 0 0) 0 [] rfl (World.ownsRow_nil _ _ _ _) w.heap.size A S.length c (S.map Value.bool) rfl (SR.out.below HB1.out) (map_one S) (len_ok (by omega)) (by omega) HB1.out.size ?_; intro v1 x1 ho1 hg1 hv1; have HB2 := Lib.hid (HB1.out.grown hg1 HB1.out.size (fun b hb => by simp [Value.ownBlock] at hb)); have bs2 := bs.grown hg1 (by simp [Value.ownBlock]); have HO1 := Lib.hid ho1; clear ho1 hg1 hv1)
  have ho1 := HO1.out
  rw [Nat.zero_add, List.nil_append] at ho1
  obtain ⟨g, cap, rfl, hgb, hgl⟩ := ho1.form hn6
  rw [← marks_of S] at ho1
  have hfix : PlF.Fix S.length (PlG.tg L) (isIn S) (fun k => S.getD k false) := ⟨fun _ _ h => h, fun _ _ h => .base h⟩
  rw [marks_of S] at ho1
  have HO2 := Lib.hid (show x1.ownsRow w.heap.size 4 1 (.slice (some ⟨g, 0, none⟩) S.length cap) S.length ((marks S.length (fun k => S.getD k false)).map Value.bool) by rw [marks_of S]; exact ho1)
  have HFIX := Lib.hid hfix
  clear HO1 ho1 hfix bs HB1 HB0 H
  go_loopg [8] (PlF.cnt S.length (fun k => S.getD k false) + 1) (fun gk ch wr => FixRel w #[.slice Ae E.length ce, .slice (some ad) L.length ca] S.length g cap (PlG.tg L) (isIn S) gk ch wr)
  case atStart => exact ⟨true, _, rfl, rfl, HO2.out, HFIX.out, (fun h => by cases h), bs2, HB2.out⟩
  case round =>
    clear bs2 HB2 HO2 HFIX
    obtain ⟨b, f, rfl, rfl, ho, hfx, hno, bs, hB⟩ := hrel
    cases b
    · have HF := Lib.hid (show OwnMarks w S.length (fun f => ∀ k, k < S.length → (f k = true ↔ PlC.Att (PlG.tg L) (isIn S) k)) (.returned (.tuple #[.slice (some ⟨g, 0, none⟩) S.length cap, .int .i64 0])) wr from
        ⟨_, f, rfl, ho, hfx.done (fun j hj => by
          rcases Nat.lt_or_ge j S.length with h | h
          · exact h
          · unfold isIn at hj; rw [List.getD_eq_getElem?_getD, List.getElem?_eq_none h] at hj; cases hj) HG.out (hno rfl), hB⟩)
      clear ho hfx hno bs hB
      go_wp2
      go_ret2
      exact HF.out
    · have HO := Lib.hid ho
      have HFX := Lib.hid hfx
      have HB := Lib.hid hB
      clear ho hfx hno hB
      go_wp2_with fail
      go_loopw [8, 9] (FixMid w #[.slice Ae E.length ce, .slice (some ad) L.length ca] S.length g cap (PlG.tg L) (isIn S) f) (fun _ i _ => S.length - (intOf i).toNat)
      case atStart => exact ⟨0, false, f, Nat.zero_le _, rfl, rfl, HO.out, HFX.out, fun _ => ⟨rfl, fun k h => absurd h (Nat.not_lt_zero _)⟩, (fun h => by cases h), bs, HB.out⟩
      case round =>
        clear HO HFX HB bs
        obtain ⟨j, b, f', hj, rfl, rfl, ho, hfx, hb1, hb2, bs, hB⟩ := hrel
        by_cases hlt : j < S.length
        · have hjL : j < L.length := by have := HSL.out; omega
          have cm := own_mark ho hlt
          obtain ⟨ad', Ak, ck, hA, hbl, cr, rk⟩ := row_at (RA.out.below hB) (fun k l hl => let ⟨u, hu, ha⟩ := HK.out k l hl; (⟨u, hu, ha.below hB⟩ : ∃ u, rows[k]? = some u ∧ ArcsAt wr w.heap.size u l)) hjL
          obtain rfl : ad = ad' := by injection hA
          have hll := (HL.out j hjL).1
          have hto := HTO.out j hjL
          have htg : PlG.tg L j = L[j].map fun x => x.2.toNat := by unfold PlG.tg; rw [List.getD_eq_getElem?_getD, List.getElem?_eq_getElem hjL]; rfl
          have hci := PlF.cond_iff (G := PlG.tg L) (g := f') (k := j)
          rw [htg, List.length_map] at hci
          generalize L[j] = l at *
          obtain ⟨p0, p1, pf⟩ := blk2 bs
          have HRO := Lib.hid (Reads.of_own ho)
          have HCI := Lib.hid hci
          have HO := Lib.hid ho
          have HFX := Lib.hid hfx
          have HB := Lib.hid hB
          have HB1 := Lib.hid hb1
          have HB2 := Lib.hid hb2
          have BS := Lib.hid bs
          have RK := Lib.hid rk
          have HTT := Lib.hid hto
          have cf := ho.frozenAt j
          have j0 : (0 : Int) ≤ (j : Int) := by omega
          have j1 : (j : Int) < (S.length : Int) := by omega
          have j2 : (j : Int) < (L.length : Int) := by omega
          clear ho hfx hB hb1 hb2 bs rk hto hci htg hA
          have hskip : ¬ PlF.Cond (PlG.tg L) f' j → FixMid w #[.slice Ae E.length ce, .slice (some ad) L.length ca] S.length g cap (PlG.tg L) (isIn S) f (.bool b) (.int .i64 ((j : Int) + 1)) wr := fun hc =>
            ⟨j + 1, b, f', by omega, by go_num, rfl, HO.out, HFX.out, fun h => ⟨(HB1.out h).1, fun k hk => by
              rcases Nat.lt_or_ge k j with h' | h'
              · exact (HB1.out h).2 k h'
              · obtain rfl : k = j := by omega
                exact hc⟩, HB2.out, BS.out, HB.out⟩
          have HSKIP := Lib.hid hskip
          clear hskip
          generalize hq : (l.map fun x => x.2.toNat).countP f' = q at *
          have HQ := Lib.hid hq
          clear hq
          cases hfj : f' j
          · rw [hfj] at cm HCI
            by_cases hl0 : 0 < l.length
            · have t1 : decide (0 < l.length) = true := decide_eq_true hl0
              have t1' : decide ((0 : Int) < (l.length : Int)) = true := decide_eq_true (by omega)
              have HFJ := Lib.hid hfj
              clear hfj
              by_cases hql : q = l.length
              · have t2 : ((q : Int) == (l.length : Int)) = true := by rw [beq_iff_eq]; omega
                have hcond : PlF.Cond (PlG.tg L) f' j := HCI.out.2 ⟨rfl, hl0, hql⟩
                have hdec := PlF.cnt_upd hlt HFJ.out
                have HDEC := Lib.hid (show PlF.cnt S.length (PlF.upd f' j) < PlF.cnt S.length f by
                  cases b
                  · rw [(HB1.out rfl).1] at hdec ⊢; exact hdec
                  · have := HB2.out rfl; omega)
                have HADD := Lib.hid (HFX.out.add HT.out hlt hcond)
                clear hql hcond hdec HSKIP
                go_wp2_with fail
                go_quiet ((go_at_call 30; (with_reducible refine quiet_left (into_is l hll S.length f' HTT.out q HQ.out Ak _ ck _ w.heap.size wr.heap.size _ ?_ ?_)); (exact RK.out); (exact HRO.out)))
                go_wp2
                refine ⟨⟨j + 1, true, PlF.upd f' j, by omega, by go_num, rfl, ?_, HADD.out, (fun h => by cases h), fun _ => HDEC.out, ?_, ?_⟩, by simp [intOf]; omega⟩
                · exact (fix_put HO.out BS.out HB.out true).1
                · exact (fix_put HO.out BS.out HB.out true).2.1
                · exact (fix_put HO.out BS.out HB.out true).2.2
              · have t2 : ((q : Int) == (l.length : Int)) = false := beq_eq_false_iff_ne.2 (by omega)
                have HK2 := Lib.hid (HSKIP.out fun h => hql (HCI.out.1 h).2.2)
                clear HSKIP
                go_wp2_with fail
                go_quiet ((go_at_call 30; (with_reducible refine quiet_left (into_is l hll S.length f' HTT.out q HQ.out Ak _ ck _ w.heap.size wr.heap.size _ ?_ ?_)); (exact RK.out); (exact HRO.out)))
                go_wp2
                exact ⟨HK2.out.drewN nq, by simp [intOf]; omega⟩
            · have t1 : decide (0 < l.length) = false := decide_eq_false hl0
              have t1' : decide ((0 : Int) < (l.length : Int)) = false := decide_eq_false (by omega)
              have HK2 := Lib.hid (HSKIP.out fun h => hl0 (HCI.out.1 h).2.1)
              clear HSKIP hfj
              go_wp2_with fail
              go_quiet (fail)
              go_wp2
              exact ⟨HK2.out.drewN nq, by simp [intOf]; omega⟩
          · rw [hfj] at cm HCI
            have HK2 := Lib.hid (HSKIP.out fun h => by cases (HCI.out.1 h).1)
            clear HSKIP hfj
            go_wp2_with fail
            go_quiet (fail)
            go_wp2
            exact ⟨HK2.out.drewN nq, by simp [intOf]; omega⟩
        · obtain rfl : j = S.length := by omega
          have hend : PlF.cnt S.length f' + (if b = true then 1 else 0) < PlF.cnt S.length f + 1 := by
            cases b
            · rw [(hb1 rfl).1]; simp
            · have := hb2 rfl; simp; omega
          have HF := Lib.hid (show FixRel w #[.slice Ae E.length ce, .slice (some ad) L.length ca] S.length g cap (PlG.tg L) (isIn S) (PlF.cnt S.length f' + (if b = true then 1 else 0)) (.bool b) wr from ⟨b, f', rfl, rfl, ho, hfx, fun h => (hb1 h).2, bs, hB⟩)
          clear ho hfx hb1 hb2 bs hB
          generalize PlF.cnt S.length f' + (if b = true then 1 else 0) = q at *
          go_wp2
          go_roundg q
          case measure => simpa using hend
          case rel => exact HF.out
end Go.Proofs.Ytlhheglffododaa
