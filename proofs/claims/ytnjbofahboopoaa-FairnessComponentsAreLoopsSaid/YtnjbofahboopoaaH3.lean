/- The law's own reach. -/
import Derived.Test.YtnjbofahboopoaaH1
import Derived.Test.YtnjbofahboopoaaPlR
namespace Go.Proofs.Ytnjbofahboopoaa
open Go.RowKit

def RcRel (w : World) (sp : Array Value) (n g : Nat) (G : Nat → List Nat) (S : Nat → Bool) (x0 : Nat) (gk : Nat) (ch : Value) (wr : World) : Prop :=
  ∃ (b : Bool) (f : Nat → Bool), gk = PlF.cnt n f + (if b = true then 1 else 0) ∧ ch = .bool b ∧ Blk wr g 4 ((marks n f).map Value.bool).toArray ∧ PlT.Rc n G S x0 f ∧ (b = false → ∀ k, k < n → PlT.Clo G S f k) ∧ Blk wr w.heap.size 25 sp ∧ Below w.heap.size w wr
def RcMid (w : World) (sp : Array Value) (n g : Nat) (G : Nat → List Nat) (S : Nat → Bool) (x0 : Nat) (f0 : Nat → Bool) (ch i : Value) (wr : World) : Prop :=
  ∃ (k : Nat) (b : Bool) (f : Nat → Bool), k ≤ n ∧ i = .int .i64 k ∧ ch = .bool b ∧ Blk wr g 4 ((marks n f).map Value.bool).toArray ∧ PlT.Rc n G S x0 f ∧ (b = false → f = f0 ∧ ∀ j, j < k → PlT.Clo G S f j) ∧ (b = true → PlF.cnt n f < PlF.cnt n f0) ∧ Blk wr w.heap.size 25 sp ∧ Below w.heap.size w wr
def RcIn (w : World) (sp : Array Value) (n g : Nat) (G : Nat → List Nat) (S : Nat → Bool) (x0 : Nat) (f0 : Nat → Bool) (k m : Nat) (ch i : Value) (wr : World) : Prop :=
  ∃ (j : Nat) (b : Bool) (f : Nat → Bool), j ≤ m ∧ i = .int .i64 j ∧ ch = .bool b ∧ Blk wr g 4 ((marks n f).map Value.bool).toArray ∧ PlT.Rc n G S x0 f ∧ (b = false → f = f0 ∧ (∀ j, j < k → PlT.Clo G S f j) ∧ (f k = true → ∀ t, t ∈ (G k).take j → S t = false → f t = true)) ∧ (b = true → PlF.cnt n f < PlF.cnt n f0) ∧ Blk wr w.heap.size 25 sp ∧ Below w.heap.size w wr
theorem mark_upd {w : World} {g n : Nat} {f : Nat → Bool} (h : Blk w g 4 ((marks n f).map Value.bool).toArray) (k : Nat) : Blk (w.setCell ⟨g, k, none⟩ (.bool true)) g 4 ((marks n (PlF.upd f k)).map Value.bool).toArray := mark_set h k true

/-- what reach returns -/
def MarkPost (w : World) (n : Nat) (P : (Nat → Bool) → Prop) (e : Ending) (w' : World) : Prop :=
  ∃ (g : Nat) (f : Nat → Bool), e = .returned (.slice (some ⟨g, 0, none⟩) n n) ∧ w.heap.size ≤ g ∧ Blk w' g 4 ((marks n f).map Value.bool).toArray ∧ P f ∧ Below w.heap.size w w'

set_option maxRecDepth 100000 in
set_option maxHeartbeats 4000000 in
theorem reach_ok (E : List Nat) (L : List (List Arc)) (v : Value) (hL : WfL L) (hok : PlS.spaceOk E L = true) (S : List Bool) (hSl : S.length = E.length) (A : Option Addr) (c : Nat) (x0 : Nat) (hx0 : x0 < S.length) (w : World) (hS : SpaceAt w w.heap.size v E L) (hSr : Reads w w.heap.size 1 A S.length (S.map Value.bool)) :
    Calls Try.prog 17 #[v, .slice A S.length c, .int .i64 x0] w (MarkPost w S.length (fun f => ∀ t, f t = true ↔ PlT.Rch (PlG.tg L) (isIn S) x0 t)) := by
  obtain ⟨ve, va, rfl, ⟨Ae, ce, rfl, re⟩, ⟨Aa, ca, rows, rfl, ra, hk⟩⟩ := hS
  obtain ⟨hn1, hn2, hn3, hto⟩ := PlG.ok_parts hok
  obtain ⟨ad, hA, -⟩ := ra.2 (by omega)
  subst hA
  obtain ⟨sd, hA, -⟩ := hSr.2 (by omega)
  subst hA
  have RA := Lib.hid ra
  have HK := Lib.hid hk
  have HL := Lib.hid hL
  have SR := Lib.hid hSr
  have HSL := Lib.hid (show S.length = L.length by omega)
  have HTO := Lib.hid (show ∀ k (hk : k < L.length), ∀ x ∈ L[k], 0 ≤ x.2 ∧ x.2 < (S.length : Int) from fun k hk x hx => by have := hto k hk x hx; omega)
  have hn5 : S.length ≤ 32768 := by omega
  have hn6 : L.length ≤ 32768 := by omega
  have z0 : (0 : Int) ≤ (x0 : Int) := by omega
  have z1 : (x0 : Int) < (S.length : Int) := by omega
  clear hL hok hSr re ra hk hSl hn1 hn2 hn3 hto
  have hmk := run_make_row' (P := Try.prog) 26 4 (.bool false) 1 Try.underlying26 Try.infoBool rfl .i64 .i64 S.length (by omega) (by omega)
  have hb0 := (Below.refl w.heap.size w).alloc (Nat.le_refl _) (.cells #[.slice Ae E.length ce, .slice (some ad) L.length ca] 25)
  have bn := marks_new (w.alloc (.cells #[.slice Ae E.length ce, .slice (some ad) L.length ca] 25)) S.length
  rw [World.size_alloc] at bn
  have cB := mark_at bn hx0
  have cF := bn.frozen x0
  have BN := Lib.hid (mark_set bn x0 true)
  have HB0 := Lib.hid (hb0.alloc (by simp) (.cells (madeCells #[.bool false] S.length) 4))
  have BS0 := Lib.hid ((Blk.new w 25 #[.slice Ae E.length ce, .slice (some ad) L.length ca]).alloc (.cells (madeCells #[.bool false] S.length) 4))
  clear hb0 bn
  go_enter Try.func17, Try.ntmps17
  go_upto_region 2 with fail
  clear hmk
  generalize hW : World.alloc _ _ = W at *
  have hgw : w.heap.size + 1 < W.heap.size := by rw [← hW]; simp
  clear hW
  go_wp2_with fail
  go_loopg [8] (PlF.cnt S.length (fun j => if j = x0 then true else false) + 1) (RcRel w #[.slice Ae E.length ce, .slice (some ad) L.length ca] S.length (w.heap.size + 1) (PlG.tg L) (isIn S) x0)
  case atStart => exact ⟨true, _, rfl, rfl, BN.out, PlT.Rc.start hx0, (fun h => by cases h), BS0.out.far (by simp) _, HB0.out.setCell (by simp) _⟩
  case round =>
    clear BN BS0 HB0 cB cF
    obtain ⟨b, f, rfl, rfl, bm, hf, hno, bs, hB⟩ := hrel
    cases b
    · have HF := Lib.hid (show MarkPost w S.length (fun f => ∀ t, f t = true ↔ PlT.Rch (PlG.tg L) (isIn S) x0 t) (.returned (.slice (some ⟨w.heap.size + 1, 0, none⟩) S.length S.length)) wr from ⟨_, f, rfl, by omega, bm, hf.done (hno rfl), hB⟩)
      clear bm hf hno bs hB
      go_wp2
      go_ret
      exact HF.out
    · have BM := Lib.hid bm
      have HFX := Lib.hid hf
      have HB := Lib.hid hB
      clear bm hf hno hB
      go_wp2_with fail
      go_loopw [8, 9] (RcMid w #[.slice Ae E.length ce, .slice (some ad) L.length ca] S.length (w.heap.size + 1) (PlG.tg L) (isIn S) x0 f) (fun _ i _ => S.length - (intOf i).toNat)
      case atStart => exact ⟨0, false, f, Nat.zero_le _, rfl, rfl, BM.out, HFX.out, fun _ => ⟨rfl, fun k h => absurd h (Nat.not_lt_zero _)⟩, (fun h => by cases h), bs, HB.out⟩
      case round =>
        clear BM HFX HB bs
        obtain ⟨k, b, f', hk, rfl, rfl, bm, hfx, hb1, hb2, bs, hB⟩ := hrel
        by_cases hlt : k < S.length
        · have hkL : k < L.length := by have := HSL.out; omega
          obtain ⟨ad', Ak, ck, hA, hbl, cr, rk⟩ := row_at (RA.out.below hB) (fun k l hl => let ⟨u, hu, ha⟩ := HK.out k l hl; (⟨u, hu, ha.below hB⟩ : ∃ u, rows[k]? = some u ∧ ArcsAt wr w.heap.size u l)) hkL
          obtain rfl : ad = ad' := by injection hA
          have hll := (HL.out k hkL).1
          have HTS := Lib.hid (HTO.out k hkL)
          have RK0 := Lib.hid (show Reads w w.heap.size 2 Ak L[k].length (L[k].flatMap arcCells) from rk.keep fun p hp => (hB.cell hp).symm)
          have HCR := Lib.hid ((hB.cell (p := ad.add k) (by rw [block_of_add]; exact hbl)).symm.trans cr)
          have HTG := Lib.hid (PlG.tg_get L k · hkL)
          have HTL := Lib.hid (PlG.tg_len L k hkL)
          generalize L[k] = l at *
          have k0 : (0 : Int) ≤ (k : Int) := by omega
          have k1 : (k : Int) < (S.length : Int) := by omega
          have k2 : (k : Int) < (L.length : Int) := by omega
          have HST := Lib.hid (show RcIn w #[.slice Ae E.length ce, .slice (some ad) L.length ca] S.length (w.heap.size + 1) (PlG.tg L) (isIn S) x0 f k l.length (.bool b) (.int .i64 0) wr from
            ⟨0, b, f', Nat.zero_le _, rfl, rfl, bm, hfx, fun h => ⟨(hb1 h).1, (hb1 h).2, fun _ t ht => by simp at ht⟩, hb2, bs, hB⟩)
          clear bm hfx hb1 hb2 bs hB rk hA cr
          go_wp2_with fail
          go_loopw [8, 10] (RcIn w #[.slice Ae E.length ce, .slice (some ad) L.length ca] S.length (w.heap.size + 1) (PlG.tg L) (isIn S) x0 f k l.length) (fun _ i _ => l.length - (intOf i).toNat)
          case atStart => exact HST.out
          case round =>
            clear HST
            obtain ⟨j, b, f', hj, rfl, rfl, bm, hfx, hb1, hb2, bs, hB⟩ := hrel
            obtain ⟨p0, p1, pf⟩ := blk2 bs
            have cr := (hB.cell (p := ad.add k) (by rw [block_of_add]; exact hbl)).trans HCR.out
            have cM := mark_at bm hlt
            have HF1 := Lib.hid hfx
            have HB1 := Lib.hid hb1
            have HB2 := Lib.hid hb2
            have HBS := Lib.hid bs
            have HBM := Lib.hid bm
            have HB := Lib.hid hB
            have HOUT := Lib.hid (fun (h : f' k = true → j = l.length) => (show RcMid w #[.slice Ae E.length ce, .slice (some ad) L.length ca] S.length (w.heap.size + 1) (PlG.tg L) (isIn S) x0 f (.bool b) (.int .i64 ((k : Int) + 1)) wr from
              ⟨k + 1, b, f', by omega, by go_num, rfl, bm, hfx, fun e => ⟨(hb1 e).1, fun i hi => by
                rcases Nat.lt_or_ge i k with h' | h'
                · exact (hb1 e).2.1 i h'
                · obtain rfl : i = k := by omega
                  intro hfi t ht hst
                  refine (hb1 e).2.2 hfi t ?_ hst
                  rw [h hfi, ← HTL.out, List.take_length]; exact ht⟩, hb2, bs, hB⟩))
            by_cases hlt2 : j < l.length
            · have t1 : decide ((j : Int) < (l.length : Int)) = true := decide_eq_true (by omega)
              have t1' : decide (j < l.length) = true := decide_eq_true hlt2
              cases hfk : f' k
              · rw [hfk] at cM
                have HO := Lib.hid (HOUT.out fun h => by rw [hfk] at h; cases h)
                clear bm hfx hb1 hb2 bs hB HOUT hfk
                go_wp2
                exact ⟨HO.out, by simp [intOf]; omega⟩
              · rw [hfk] at cM
                obtain ⟨ad2, hA, hbl2, a0, a1⟩ := arc_at (RK0.out.below hB) hlt2
                subst hA
                have hx := HTS.out l[j] (List.getElem_mem _)
                have htg := HTG.out j hlt2
                generalize l[j] = x at *
                obtain ⟨xs, xt⟩ := x
                dsimp only at a0 a1 hx htg
                obtain ⟨t, rfl⟩ : ∃ t : Nat, xt = (t : Int) := ⟨xt.toNat, by omega⟩
                have htn : t < S.length := by omega
                rw [Int.toNat_natCast] at htg
                have HTK := Lib.hid (PlC.mem_take_succ htg)
                have HTM := Lib.hid (List.mem_of_getElem? htg)
                obtain ⟨sd', hA, hbls, cS⟩ := bool_at (SR.out.below hB) htn
                obtain rfl : sd = sd' := by injection hA
                rw [← isIn_of htn] at cS
                have cT := mark_at bm htn
                have cTf := bm.frozen t
                have lbm := bm.lt
                have j0 : (0 : Int) ≤ (j : Int) := by omega
                have j1 : (j : Int) < (l.length : Int) := by omega
                have t0 : (0 : Int) ≤ (t : Int) := by omega
                have t2 : (t : Int) < (S.length : Int) := by omega
                have HFK := Lib.hid hfk
                have HSKIP := Lib.hid (fun (h : isIn S t = false → f' t = true) => (show RcIn w #[.slice Ae E.length ce, .slice (some ad) L.length ca] S.length (w.heap.size + 1) (PlG.tg L) (isIn S) x0 f k l.length (.bool b) (.int .i64 ((j : Int) + 1)) wr from
                  ⟨j + 1, b, f', by omega, by go_num, rfl, bm, hfx, fun e => ⟨(hb1 e).1, (hb1 e).2.1, fun hk2 u hu hsu => by
                    rcases (HTK.out u).1 hu with h' | h'
                    · exact (hb1 e).2.2 hk2 u h' hsu
                    · subst h'; exact h hsu⟩, hb2, bs, hB⟩))
                clear hA hx htg bm hfx hb1 hb2 bs hB HOUT hfk
                cases hst : isIn S t
                · rw [hst] at cS
                  cases hft : f' t
                  · rw [hft] at cT
                    have HADD := Lib.hid (HF1.out.add HFK.out HTM.out hst htn)
                    have hdec := PlF.cnt_upd htn hft
                    have HDEC := Lib.hid (show PlF.cnt S.length (PlF.upd f' t) < PlF.cnt S.length f by
                      cases b
                      · rw [(HB1.out rfl).1] at hdec ⊢; exact hdec
                      · have := HB2.out rfl; omega)
                    clear hst hft hdec HSKIP
                    go_wp2
                    exact ⟨⟨j + 1, true, PlF.upd f' t, by omega, by go_num, rfl, mark_upd HBM.out t, HADD.out, (fun h => by cases h), fun _ => HDEC.out, HBS.out.far (by simp) _, HB.out.setCell (by simp) _⟩, by simp [intOf]; omega⟩
                  · rw [hft] at cT
                    have HO := Lib.hid (HSKIP.out fun _ => hft)
                    clear hst hft HSKIP
                    go_wp2
                    exact ⟨HO.out, by simp [intOf]; omega⟩
                · rw [hst] at cS
                  have HO := Lib.hid (HSKIP.out fun h => by rw [hst] at h; cases h)
                  clear hst HSKIP
                  go_wp2
                  exact ⟨HO.out, by simp [intOf]; omega⟩
            · have t1 : decide ((j : Int) < (l.length : Int)) = false := decide_eq_false (by omega)
              have t1' : decide (j < l.length) = false := decide_eq_false hlt2
              have HO := Lib.hid (HOUT.out fun _ => by omega)
              clear bm hfx hb1 hb2 bs hB HOUT
              go_wp2
              exact ⟨HO.out, by simp [intOf]; omega⟩
        · obtain rfl : S.length = k := by omega
          have hend : PlF.cnt S.length f' + (if b = true then 1 else 0) < PlF.cnt S.length f + 1 := by
            cases b
            · rw [(hb1 rfl).1]; simp
            · have := hb2 rfl; simp; omega
          have HF := Lib.hid (show RcRel w #[.slice Ae E.length ce, .slice (some ad) L.length ca] S.length (w.heap.size + 1) (PlG.tg L) (isIn S) x0 (PlF.cnt S.length f' + (if b = true then 1 else 0)) (.bool b) wr from ⟨b, f', rfl, rfl, bm, hfx, fun h => (hb1 h).2, bs, hB⟩)
          clear bm hfx hb1 hb2 bs hB
          generalize PlF.cnt S.length f' + (if b = true then 1 else 0) = q at *
          go_wp2
          go_roundg q
          case measure => simpa using hend
          case rel => exact HF.out
end Go.Proofs.Ytnjbofahboopoaa
