/- ref19.Core. -/
import Derived.Test.YtbilciiffecdgaaF2m
namespace Go.Proofs.Ytbilciiffecdgaa
open Go.RowKit

theorem marks_snoc' (k : Nat) (f : Nat → Bool) : marks (k + 1) f = marks k f ++ [f k] := by
  unfold marks; rw [List.range_succ, List.map_append]; rfl
theorem one_B' (b : Bool) : ∀ u ∈ [Value.bool b], u.oneCell' = true := by simp [Value.oneCell']

/-- what holds at the head of the outer loop -/
def FixRelC (w : World) (sp : Array Value) (n g cap : Nat) (G : Nat → List Nat) (S : Nat → Bool) (gk : Nat) (ch : Value) (wr : World) : Prop :=
  ∃ (b : Bool) (f : Nat → Bool), ch = .bool b ∧ gk = PlF.cnt n (fun i => !f i) + (if b = true then 1 else 0) ∧ wr.ownsRow w.heap.size 4 1 (.slice (some ⟨g, 0, none⟩) n cap) n ((marks n f).map Value.bool) ∧ PlF.Fix n G S (fun i => !f i) ∧
    (b = false → ∀ k, k < n → ¬ PlF.Cond G (fun i => !f i) k) ∧ Blk wr w.heap.size 25 sp ∧ Below w.heap.size w wr
def FixMidC (w : World) (sp : Array Value) (n g cap : Nat) (G : Nat → List Nat) (S f : Nat → Bool) (ch i : Value) (wr : World) : Prop :=
  ∃ (j : Nat) (b : Bool) (f' : Nat → Bool), j ≤ n ∧ i = .int .i64 j ∧ ch = .bool b ∧ wr.ownsRow w.heap.size 4 1 (.slice (some ⟨g, 0, none⟩) n cap) n ((marks n f').map Value.bool) ∧ PlF.Fix n G S (fun i => !f' i) ∧
    (b = false → f' = f ∧ ∀ k, k < j → ¬ PlF.Cond G (fun i => !f' i) k) ∧ (b = true → PlF.cnt n (fun i => !f' i) < PlF.cnt n (fun i => !f i)) ∧ Blk wr w.heap.size 25 sp ∧ Below w.heap.size w wr

set_option maxHeartbeats 1000000 in
theorem rcore_err (E : List Nat) (L : List (List Arc)) (v : Value) (hE : WfE E) (hL : WfL L) (A : Option Addr) (m c : Nat) (z : Int) (hz : z ≠ 0) (h : chk E L m = z) (w : World) (hS : SpaceAt w w.heap.size v E L) :
    Calls Try.prog 28 #[v, .slice A m c] w fun e w' => e = .returned (.tuple #[.slice none 0 0, .int .i64 z]) ∧ Below w.heap.size w w' := by
  have HS := Lib.hid hS
  obtain ⟨ve, va, rfl, ⟨Ae, ce, rfl, re⟩, ⟨Aa, ca, rows, rfl, ra, hk⟩⟩ := hS
  have HB0 := Lib.hid ((Below.refl w.heap.size w).alloc (Nat.le_refl _) (.cells #[.slice Ae E.length ce, .slice Aa L.length ca] 25))
  have HE := Lib.hid hE
  have HL := Lib.hid hL
  have H := Lib.hid h
  have t1 : (z != 0) = true := by rw [bne_iff_ne]; exact hz
  clear hE hL h re ra hk
  go_enter Try.func28, Try.ntmps28
  go_wp2_with fail
  refine (begin_is E L _ HE.out HL.out A m c z H.out _ (HS.out.go HB0.out)).mono ?_
  rintro e w1 ⟨rfl, hb1⟩
  have HB1 := Lib.hid (below_end hb1 HB0.out)
  clear hb1
  go_wp2
  go_ret2
  exact ⟨rfl, HB1.out⟩

set_option maxHeartbeats 2000000 in
theorem rcore_ok (E : List Nat) (L : List (List Arc)) (v : Value) (hE : WfE E) (hL : WfL L) (hok : PlS.spaceOk E L = true) (S : List Bool) (hSl : S.length = E.length) (A : Option Addr) (c : Nat) (w : World) (hS : SpaceAt w w.heap.size v E L)
    (hSr : Reads w w.heap.size 1 A S.length (S.map Value.bool)) :
    Calls Try.prog 28 #[v, .slice A S.length c] w (OwnMarks w S.length (fun f => ∀ k, k < S.length → (f k = true ↔ ¬ PlC.Att (PlG.tg L) (isIn S) k))) := by
  have HS := Lib.hid hS
  obtain ⟨ve, va, rfl, ⟨Ae, ce, rfl, re⟩, ⟨Aa, ca, rows, rfl, ra, hk⟩⟩ := hS
  obtain ⟨hn1, hn2, hn3, hto⟩ := PlG.ok_parts hok
  obtain ⟨ad, hA, -⟩ := ra.2 (by omega)
  subst hA
  have HB0 := Lib.hid ((Below.refl w.heap.size w).alloc (Nat.le_refl _) (.cells #[.slice Ae E.length ce, .slice (some ad) L.length ca] 25))
  have RA := Lib.hid ra
  have HK := Lib.hid hk
  have HE := Lib.hid hE
  have HL := Lib.hid hL
  have HOK := Lib.hid hok
  have SR := Lib.hid hSr
  have H := Lib.hid (chk_ok hok hSl)
  have HSL := Lib.hid (show S.length = L.length by omega)
  have HTO := Lib.hid (fun k (hk : k < L.length) x (hx : x ∈ L[k]) => (show 0 ≤ x.2 ∧ x.2 < (S.length : Int) by have := hto k hk x hx; omega))
  have HT := Lib.hid (fun k t (ht : t ∈ PlG.tg L k) => (show t < S.length by have := PlG.tg_lt hok k t ht; omega))
  have HG := Lib.hid (fun k (ht : PlG.tg L k ≠ []) => (show k < S.length by have := PlG.tg_dom hok k ht; omega))
  have hn5 : S.length ≤ 32768 := by omega
  have hn6 : 0 < S.length := by omega
  clear hE hL hok hSr re ra hk hSl hn1 hn2 hn3 hto
  obtain ⟨i0, hi0, hz0, hz1, hz2⟩ := info_parts Try.infoBool
  go_enter Try.func28, Try.ntmps28
  go_wp2_with fail
  refine (begin_is E L _ HE.out HL.out A S.length c 0 H.out _ (HS.out.go HB0.out)).mono ?_
  rintro e w1 ⟨rfl, hb1⟩
  have HB1 := Lib.hid (below_end hb1 HB0.out)
  have bs := (Blk.new w 25 #[.slice Ae E.length ce, .slice (some ad) L.length ca]).below hb1 (by simp)
  clear hb1
  go_wp2_with fail
  go_loopw [7, 8] (fun v i wr => ∃ k : Nat, k ≤ S.length ∧ i = .int .i64 k ∧ wr.ownsRow w.heap.size 4 1 v k ((marks k (fun i => !isIn S i)).map Value.bool) ∧
    Blk wr w.heap.size 25 #[.slice Ae E.length ce, .slice (some ad) L.length ca] ∧ Below w.heap.size w wr) (fun _ i _ => S.length - (intOf i).toNat)
  case atStart => exact ⟨0, Nat.zero_le _, rfl, World.ownsRow_nil _ _ _ _, bs, HB1.out⟩
  case round =>
   clear bs HB1
   obtain ⟨k, hk, rfl, ho, bs, hB⟩ := hrel
   have HO := Lib.hid ho
   have HB := Lib.hid hB
   have hbz := hB.size
   by_cases hlt : k < S.length
   · obtain ⟨sd, rfl, hbl, cc⟩ := bool_at (SR.out.below hB) hlt
     have hsn := marks_snoc' k (fun i => !isIn S i)
     rw [isIn_of hlt] at hsn
     have HSN := Lib.hid hsn
     have k0 : (0 : Int) ≤ (k : Int) := by omega
     have k1 : (k : Int) < (S.length : Int) := by omega
     generalize S[k] = x at *
     clear hsn hB ho
     go_wp2_with (at_builtin; refine wpList_append_any _ rfl (.tmp 23) (.tmp 29) 26 rfl w.heap.size 4 i0 (.bool false) 1 1 Try.underlying26 hi0 hz0 hz1 hz2 rfl (by decide) u7 _ _ rfl (HO.out.alloc _) (wr.heap.size + 1) (some ⟨wr.heap.size, 0, none⟩) 1 1 [Value.bool _] rfl (reads_new1 _ _ _) (one_B' _) (len_ok (by omega)) (by omega) (by simp; omega) ?_; intro v1 x1 ho1 hg1 hv1; have HO1 := Lib.hid ho1; have HB1 := Lib.hid ((HB.out.alloc hbz _).grown hg1 (by simp; omega) (fun b hb => (HO.out.lt b hb).1)); have HS1 := Lib.hid ((bs.alloc _).grown hg1 (Ne.symm (own_blk_ne HO.out bs (by decide)))); clear ho1 hg1 hv1)
     refine ⟨⟨k + 1, by omega, by go_num, ?_, HS1.out, HB1.out⟩, by simp [intOf]; omega⟩
     rw [HSN.out, List.map_append]
     exact HO1.out
   · obtain rfl : k = S.length := by omega
     obtain ⟨g, cap, rfl, hgb, hgl⟩ := ho.form hn6
     have hfix : PlF.Fix S.length (PlG.tg L) (isIn S) (fun k => !(!isIn S k)) := ⟨fun _ _ h => by simpa using h, fun _ _ h => .base (by simpa using h)⟩
     have HFIX := Lib.hid hfix
     clear HB0 H ho hB hfix
     go_wp2_with fail
     go_loopg [9] (PlF.cnt S.length (fun k => !(!isIn S k)) + 1) (fun gk ch wr => FixRelC w #[.slice Ae E.length ce, .slice (some ad) L.length ca] S.length g cap (PlG.tg L) (isIn S) gk ch wr)
     case atStart => exact ⟨true, _, rfl, rfl, HO.out, HFIX.out, (fun h => by cases h), bs, HB.out⟩
     case round =>
       clear bs HB HO HFIX
       obtain ⟨b, f, rfl, rfl, ho, hfx, hno, bs, hB⟩ := hrel
       cases b
       · have HF := Lib.hid (show OwnMarks w S.length (fun f => ∀ k, k < S.length → (f k = true ↔ ¬ PlC.Att (PlG.tg L) (isIn S) k)) (.returned (.tuple #[.slice (some ⟨g, 0, none⟩) S.length cap, .int .i64 0])) wr from
           ⟨_, f, rfl, ho, fun k hk => by
             have h0 := hfx.done (fun j hj => by
               rcases Nat.lt_or_ge j S.length with h | h
               · exact h
               · unfold isIn at hj; rw [List.getD_eq_getElem?_getD, List.getElem?_eq_none h] at hj; cases hj) HG.out (hno rfl) k hk
             rw [← h0]; simp, hB⟩)
         clear ho hfx hno bs hB
         go_wp2
         go_ret2
         exact HF.out
       · have HO := Lib.hid ho
         have HFX := Lib.hid hfx
         have HB := Lib.hid hB
         clear ho hfx hno hB
         go_wp2_with fail
         go_loopw [9, 10] (FixMidC w #[.slice Ae E.length ce, .slice (some ad) L.length ca] S.length g cap (PlG.tg L) (isIn S) f) (fun _ i _ => S.length - (intOf i).toNat)
         case atStart => exact ⟨0, false, f, Nat.zero_le _, rfl, rfl, HO.out, HFX.out, fun _ => ⟨rfl, fun k h => absurd h (Nat.not_lt_zero _)⟩, (fun h => by cases h), bs, HB.out⟩
         case round =>
           clear HO HFX HB bs
           obtain ⟨j, b, f', hj, rfl, rfl, ho, hfx, hb1, hb2, bs, hB⟩ := hrel
           by_cases hlt : j < S.length
           · have hjL : j < L.length := by have := HSL.out; omega
             have cm := own_mark ho hlt
             obtain ⟨ad', Ak, ck, hA, hbl, cr, rk⟩ := row_at (RA.out.below hB) (fun k l hl => let ⟨u, hu, ha⟩ := HK.out k l hl; (⟨u, hu, ha.below hB⟩ : ∃ u, rows[k]? = some u ∧ ArcsAt wr w.heap.size u l)) hjL
             obtain rfl : ad = ad' := by injection hA
             have hll := (HL.out j hjL).1
             have hto := HTO.out j hjL
             have htg : PlG.tg L j = L[j].map fun x => x.2.toNat := by unfold PlG.tg; rw [List.getD_eq_getElem?_getD, List.getElem?_eq_getElem hjL]; rfl
             have hci := PlF.cond_iff0 (G := PlG.tg L) (f := f') (k := j)
             rw [htg, List.length_map] at hci
             generalize L[j] = l at *
             obtain ⟨p0, p1, pf⟩ := blk2 bs
             have HRO := Lib.hid (Reads.of_own ho)
             have HCI := Lib.hid hci
             have HO := Lib.hid ho
             have HFX := Lib.hid hfx
             have HB := Lib.hid hB
             have HB1 := Lib.hid hb1
             have HB2 := Lib.hid hb2
             have BS := Lib.hid bs
             have RK := Lib.hid rk
             have HTT := Lib.hid hto
             have cf := ho.frozenAt j
             have j0 : (0 : Int) ≤ (j : Int) := by omega
             have j1 : (j : Int) < (S.length : Int) := by omega
             have j2 : (j : Int) < (L.length : Int) := by omega
             clear ho hfx hB hb1 hb2 bs rk hto hci htg hA
             have hskip : ¬ PlF.Cond (PlG.tg L) (fun i => !f' i) j → FixMidC w #[.slice Ae E.length ce, .slice (some ad) L.length ca] S.length g cap (PlG.tg L) (isIn S) f (.bool b) (.int .i64 ((j : Int) + 1)) wr := fun hc =>
               ⟨j + 1, b, f', by omega, by go_num, rfl, HO.out, HFX.out, fun h => ⟨(HB1.out h).1, fun k hk => by
                 rcases Nat.lt_or_ge k j with h' | h'
                 · exact (HB1.out h).2 k h'
                 · obtain rfl : k = j := by omega
                   exact hc⟩, HB2.out, BS.out, HB.out⟩
             have HSKIP := Lib.hid hskip
             clear hskip
             generalize hq : (l.map fun x => x.2.toNat).countP f' = q at *
             have HQ := Lib.hid hq
             clear hq
             cases hfj : f' j
             · rw [hfj] at cm HCI
               have HK2 := Lib.hid (HSKIP.out fun h => by cases (HCI.out.1 h).1)
               clear HSKIP hfj
               go_wp2
               exact ⟨HK2.out, by simp [intOf]; omega⟩
             · rw [hfj] at cm HCI
               by_cases hl0 : 0 < l.length
               · have t1 : decide (0 < l.length) = true := decide_eq_true hl0
                 have t1' : decide ((0 : Int) < (l.length : Int)) = true := decide_eq_true (by omega)
                 have HFJ := Lib.hid hfj
                 clear hfj
                 by_cases hql : q = 0
                 · have hcond : PlF.Cond (PlG.tg L) (fun i => !f' i) j := HCI.out.2 ⟨rfl, hl0, hql⟩
                   have hupd : (fun i => !(if i = j then false else f' i)) = PlF.upd (fun i => !f' i) j := by
                     funext i
                     unfold PlF.upd
                     split <;> simp
                   have hdec := PlF.cnt_upd (g := fun i => !f' i) hlt (by simp [HFJ.out])
                   have HDEC := Lib.hid (show PlF.cnt S.length (fun i => !(if i = j then false else f' i)) < PlF.cnt S.length (fun i => !f i) by
                     rw [hupd]
                     cases b
                     · rw [(HB1.out rfl).1] at hdec ⊢; exact hdec
                     · have := HB2.out rfl; omega)
                   have HADD := Lib.hid (show PlF.Fix S.length (PlG.tg L) (isIn S) (fun i => !(if i = j then false else f' i)) by rw [hupd]; exact HFX.out.add HT.out hlt hcond)
                   subst hql
                   clear hcond hdec HSKIP hupd
                   go_wp2_with (go_at_call 49; (with_reducible refine (into_is l hll S.length f' HTT.out _ HQ.out Ak _ ck _ w.heap.size wr.heap.size _ ?_ ?_).mono ?_); (exact RK.out); (exact HRO.out); rintro e w' ⟨rfl, rfl⟩)
                   refine ⟨⟨j + 1, true, fun i => if i = j then false else f' i, by omega, by go_num, rfl, ?_, HADD.out, (fun h => by cases h), fun _ => HDEC.out, ?_, ?_⟩, by simp [intOf]; omega⟩
                   · exact (fix_put (d := 0) HO.out BS.out HB.out false).1
                   · exact (fix_put (d := 0) HO.out BS.out HB.out false).2.1
                   · exact (fix_put (d := 0) HO.out BS.out HB.out false).2.2
                 · have t2 : ((q : Int) == 0) = false := beq_eq_false_iff_ne.2 (by omega)
                   have HK2 := Lib.hid (HSKIP.out fun h => hql (HCI.out.1 h).2.2)
                   clear HSKIP
                   go_wp2_with (go_at_call 49; (with_reducible refine (into_is l hll S.length f' HTT.out q HQ.out Ak _ ck _ w.heap.size wr.heap.size _ ?_ ?_).mono ?_); (exact RK.out); (exact HRO.out); rintro e w' ⟨rfl, rfl⟩)
                   exact ⟨HK2.out, by simp [intOf]; omega⟩
               · have t1 : decide (0 < l.length) = false := decide_eq_false hl0
                 have t1' : decide ((0 : Int) < (l.length : Int)) = false := decide_eq_false (by omega)
                 have HK2 := Lib.hid (HSKIP.out fun h => hl0 (HCI.out.1 h).2.1)
                 clear HSKIP hfj
                 go_wp2
                 exact ⟨HK2.out, by simp [intOf]; omega⟩
           · obtain rfl : j = S.length := by omega
             have hend : PlF.cnt S.length (fun i => !f' i) + (if b = true then 1 else 0) < PlF.cnt S.length (fun i => !f i) + 1 := by
               cases b
               · rw [(hb1 rfl).1]; simp
               · have := hb2 rfl; simp; omega
             have HF := Lib.hid (show FixRelC w #[.slice Ae E.length ce, .slice (some ad) L.length ca] S.length g cap (PlG.tg L) (isIn S) (PlF.cnt S.length (fun i => !f' i) + (if b = true then 1 else 0)) (.bool b) wr from ⟨b, f', rfl, rfl, ho, hfx, fun h => (hb1 h).2, bs, hB⟩)
             clear ho hfx hb1 hb2 bs hB
             generalize PlF.cnt S.length (fun i => !f' i) + (if b = true then 1 else 0) = q at *
             go_wp2
             go_roundg q
             case measure => simpa using hend
             case rel => exact HF.out
end Go.Proofs.Ytbilciiffecdgaa
