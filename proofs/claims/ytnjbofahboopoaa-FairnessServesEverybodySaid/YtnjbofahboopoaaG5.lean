/- fairness.components. -/
import Derived.Test.YtnjbofahboopoaaG4
import Derived.Test.YtnjbofahboopoaaPlV
import Derived.Test.YtnjbofahboopoaaM3
namespace Go.Proofs.Ytnjbofahboopoaa
open Go.RowKit Go.Maps

theorem Try.keyI : Keyed Try.prog 3 := int_keyed Try.underlying3
theorem Try.zeroI (w : World) : (zeroValue 3).run Try.prog w = .ok (.int .i64 0) w := by kernel_rfl
theorem lit_eq {a b : Int} (h : (DataW.lit (.int .i64 a) : DataW Unit) = .lit (.int .i64 b)) : a = b := by
  injection h with h
  injection h
theorem own_map_ne {w : World} {base e n n' B : Nat} {v : Value} {xs : List Value} {P : Program} {k : TypeId} {R : Value → Option (DataW Unit × List MemPlace)} {D : DataW Unit} (h : w.ownsRow base e 1 v n xs) (h' : w.ownsMap P k R B n' D) : v.ownBlock ≠ some B := by
  obtain ⟨es, clk, hb, -⟩ := h'
  rcases h.2 with ⟨hv, _⟩ | ⟨g, cap, cur, hv, _, hh, _⟩
  · subst hv; simp [Value.ownBlock]
  · subst hv
    intro he
    injection he with he
    subst he
    rw [hb] at hh
    cases hh
theorem blk_map_ne {w : World} {g t n' B : Nat} {cs : Array Value} {P : Program} {k : TypeId} {R : Value → Option (DataW Unit × List MemPlace)} {D : DataW Unit} (h : Blk w g t cs) (h' : w.ownsMap P k R B n' D) : some g ≠ some B := by
  obtain ⟨es, clk, hb, -⟩ := h'
  intro he
  injection he with he
  subst he
  unfold Blk at h
  rw [hb] at h
  cases h
theorem balloc {w X : World} (h : Below w.heap.size w X) (o : Obj) : Below w.heap.size w (X.alloc o) := h.alloc h.size o
theorem blk_new_at {w : World} {g t : Nat} {cs : Array Value} (h : g = w.heap.size) : Blk (w.alloc (.cells cs t)) g t cs := by subst h; exact Blk.new _ _ _
theorem nums_congr_lt {n : Nat} {f g : Nat → Int} (h : ∀ k, k < n → f k = g k) : nums n f = nums n g := by
  unfold nums
  exact List.map_congr_left fun k hk => by rw [h k (List.mem_range.1 hk)]
theorem nums_made (n : Nat) : madeCells #[.int .i64 0] n = (nums n (fun _ => 0)).toArray := by
  rw [made_list]
  congr 1
  apply List.ext_getElem
  · simp [nums]
  · intro i h1 h2; simp [nums]
theorem nR_none (f : Nat → Option Nat) (k j : Nat) : PlT.upd (nR f) k (-1) j = nR (PlT.upd f k none) j := by
  unfold nR PlT.upd; split <;> rfl
section
variable {w0 wr : World} {B bw gi gl gr n : Nat} {ve va vl vp : Value} {s : PlT.St}
theorem TW.setRtN (h : TW w0 B bw gi gl gr n ve va vl vp s wr) (k : Nat) : TW w0 B bw gi gl gr n ve va vl vp { s with rt := PlT.upd s.rt k none } (wr.setCell ⟨gr, k, none⟩ (.int .i64 (-1))) := by
  obtain ⟨n1, n2, n3⟩ := h.bi_ne
  refine ⟨h.b.far n3 _, h.bi.far h.d2 _, h.bl.far h.d3 _, ?_, own_far h.op h.pne.2.2.1 _ _, h.d1, h.d2, h.d3, h.ne, h.bel.setCell h.hB.2.2.2 _, by simpa [World.setCell] using h.hs, h.hB⟩
  rw [← nums_congr (nR_none s.rt k)]
  exact num_set h.br k (-1)
theorem TW.rtc (h : TW w0 B bw gi gl gr n ve va vl vp s wr) {r : Nat → Option Nat} (hr : ∀ k, k < n → s.rt k = r k) : TW w0 B bw gi gl gr n ve va vl vp { s with rt := r } wr := by
  refine ⟨h.b, h.bi, h.bl, ?_, h.op, h.d1, h.d2, h.d3, h.ne, h.bel, h.hs, h.hB⟩
  rw [nums_congr_lt (g := nR s.rt) (fun k hk => by unfold nR; rw [hr k hk])]
  exact h.br
end
/-- what components returns -/
def NumsPost (w : World) (n : Nat) (f : Nat → Int) (e : Ending) (w' : World) : Prop :=
  ∃ g, e = .returned (.slice (some ⟨g, 0, none⟩) n n) ∧ w.heap.size ≤ g ∧ Blk w' g 3 (nums n f).toArray ∧ Below w.heap.size w w'
def BRel (w : World) (L : List (List Arc)) (S : List Bool) (bw gi gl gr : Nat) (ve va vl : Value) (k : Nat) (wr : World) : Prop :=
  ∃ (s : PlT.St) (A : Option Addr) (c : Nat), TW w w.heap.size bw gi gl gr S.length ve va vl (.slice A s.pd.length c) s wr ∧ PlT.Inv S.length (PlG.tg L) (isIn S) s [] ∧ s.fd + PlT.cnt S.length s.ix = S.length ∧ ∀ x, x < k → isIn S x = false → s.ix x ≠ 0
def CRel (w : World) (S : List Bool) (bw gr gz Bm : Nat) (cs : Array Value) (rt : Nat → Option Nat) (r : Nat → Nat) (k : Nat) (wr : World) : Prop :=
  ∃ D : DataW Unit, Blk wr bw 57 cs ∧ Blk wr gr 3 (nums S.length (nR rt)).toArray ∧ wr.ownsMap Try.prog 3 (plainElem Try.prog 3) Bm (PlT.roots (isIn S) r k).length D ∧ Plc (PlT.roots (isIn S) r k) D ∧ Maps.size D = (PlT.roots (isIn S) r k).length ∧
    Blk wr gz 3 (nums S.length (fun j => if j < k then PlT.numOf (isIn S) r S.length j else 0)).toArray ∧ Below w.heap.size w wr

theorem res_set {wr : World} {gz n k : Nat} {F : Nat → Int} (h : Blk wr gz 3 (nums n (fun j => if j < k then F j else 0)).toArray) {z : Int} (hz : z = F k) : Blk (wr.setCell ⟨gz, k, none⟩ (.int .i64 z)) gz 3 (nums n (fun j => if j < k + 1 then F j else 0)).toArray := by
  subst hz
  have := num_set h k (F k)
  rw [nums_congr (g := fun j => if j < k + 1 then F j else 0) (fun j => ?_)] at this
  · exact this
  · unfold PlT.upd
    by_cases e : j = k
    · subst e; rw [if_pos rfl, if_pos (by omega)]
    · rw [if_neg e]
      dsimp only
      by_cases h1 : j < k
      · rw [if_pos h1, if_pos (by omega)]
      · rw [if_neg h1, if_neg (by omega)]
theorem grown_set (w : World) (g i : Nat) (u : Value) : w.grownBy (w.setCell ⟨g, i, none⟩ u) (some g) :=
  ⟨rfl, rfl, rfl, by simp [World.setCell], fun j _ hne => Below.heap_setCell w _ u j (by rintro rfl; exact hne rfl)⟩
theorem map_set {w : World} {P : Program} {k : TypeId} {R : Value → Option (DataW Unit × List MemPlace)} {Bm n g t i : Nat} {cs : Array Value} {D : DataW Unit} (h : w.ownsMap P k R Bm n D) (hb : Blk w g t cs) (u : Value) : (w.setCell ⟨g, i, none⟩ u).ownsMap P k R Bm n D :=
  h.kept (grown_set w g i u) (Ne.symm (blk_map_ne hb h))

set_option maxRecDepth 100000 in
set_option maxHeartbeats 8000000 in
theorem components_ok (E : List Nat) (L : List (List Arc)) (v : Value) (hL : WfL L) (S : List Bool) (hSL : S.length = L.length) (hn1 : 1 ≤ S.length) (hn : S.length ≤ 32768) (hto : ∀ k (hk : k < L.length), ∀ x ∈ L[k], 0 ≤ x.2 ∧ x.2 < (S.length : Int))
    (Al : Option Addr) (cl : Nat) (w : World) (hS : SpaceAt w w.heap.size v E L) (hSr : Reads w w.heap.size 1 Al S.length (S.map Value.bool)) :
    Calls Try.prog 26 #[v, .slice Al S.length cl] w (NumsPost w S.length (PlT.num S.length (PlG.tg L) (isIn S))) := by
  obtain ⟨ve, va, rfl, ⟨Ae, ce, rfl, re⟩, ⟨Aa, ca, rows, rfl, ra, hk⟩⟩ := hS
  obtain ⟨sd, hA, -⟩ := hSr.2 (by omega)
  subst hA
  have RA := Lib.hid ra
  have HK := Lib.hid hk
  have HL := Lib.hid hL
  have SR := Lib.hid hSr
  have HSL := Lib.hid hSL
  have HTO := Lib.hid hto
  clear re ra hk hL hSr hto hSL
  have b0 := Blk.new w 25 #[.slice Ae E.length ce, .slice Aa L.length ca]
  obtain ⟨p0, p1, pf⟩ := blk2 b0
  have HBW : Hid (Below w.heap.size w (w.alloc (.cells #[.slice Ae E.length ce, .slice Aa L.length ca] 25))) := Lib.hid ((Below.refl _ _).alloc (Nat.le_refl _) _)
  go_enter Try.func26, Try.ntmps26
  go_upto_region 1 with fail
  generalize hW : World.alloc _ _ = W
  rw [hW] at p0 p1 pf HBW
  have hmk := run_make_row' (P := Try.prog) 33 3 (.int .i64 0) 8 Try.underlying33 Try.infoIntG rfl .i64 .i64 S.length (by omega) (by omega)
  have lw : w.heap.size < W.heap.size := by rw [← hW]; simp
  have rule := below_rule W
  clear b0 hW
  go_cut [5] (fun p wx => ∃ bw gi gl gr, p = .pointer (some ⟨bw, 0, none⟩) ∧ Blk wx bw 57 #[.slice Ae E.length ce, .slice Aa L.length ca, .slice (some sd) S.length cl, .slice (some ⟨gi, 0, none⟩) S.length S.length, .slice (some ⟨gl, 0, none⟩) S.length S.length, .slice (some ⟨gr, 0, none⟩) S.length S.length, .int .i64 0, .slice none 0 0] ∧
      Blk wx gi 3 (madeCells #[.int .i64 0] S.length) ∧ Blk wx gl 3 (madeCells #[.int .i64 0] S.length) ∧ Blk wx gr 3 (madeCells #[.int .i64 0] S.length) ∧ gi ≠ gl ∧ gi ≠ gr ∧ gl ≠ gr ∧ (W.heap.size ≤ bw ∧ W.heap.size ≤ gi ∧ W.heap.size ≤ gl ∧ W.heap.size ≤ gr) ∧ Below W.heap.size W wx)
  case first =>
    go_region_held3 (fun x => Below W.heap.size W x) (repeat (with_reducible first | exact Below.refl _ _ | assumption | refine balloc ?_ _ | refine Below.drew ?_)) (first | fail)
    all_goals
      go_wp2_with fail
      go_meet
      case rel =>
        apply Exists.intro
        apply Exists.intro
        apply Exists.intro
        apply Exists.intro
        refine ⟨rfl, ?_, ?_, ?_, ?_, ?_, ?_, ?_, ?_, ?_⟩
        · repeat (with_reducible first | (refine blk_new_at ?_; simp only [World.size_alloc]; done) | refine Blk.alloc ?_ _ | refine Blk.drew ?_)
        · repeat (with_reducible first | (refine blk_new_at ?_; simp only [World.size_alloc]; done) | refine Blk.alloc ?_ _ | refine Blk.drew ?_)
        · repeat (with_reducible first | (refine blk_new_at ?_; simp only [World.size_alloc]; done) | refine Blk.alloc ?_ _ | refine Blk.drew ?_)
        · repeat (with_reducible first | (refine blk_new_at ?_; simp only [World.size_alloc]; done) | refine Blk.alloc ?_ _ | refine Blk.drew ?_)
        · omega
        · omega
        · omega
        · exact ⟨by omega, by omega, by omega, by omega⟩
        · repeat (with_reducible first | exact Below.refl _ _ | assumption | refine balloc ?_ _ | refine Below.drew ?_)
  case rest =>
    obtain ⟨bw, gi, gl, gr, rfl, bb, bi, bl, br, d1, d2, d3, hBB, hbel⟩ := hcut
    have hb0 := below_end hbel HBW.out
    have hT : TW w w.heap.size bw gi gl gr S.length (.slice Ae E.length ce) (.slice Aa L.length ca) (.slice (some sd) S.length cl) (.slice none 0 0) ⟨fun _ => 0, fun _ => 0, fun j => if j < 0 then none else some 0, 0, []⟩ wc := by
      refine ⟨bb, ?_, ?_, ?_, World.ownsRow_nil _ _ _ _, d1, d2, d3, fun b hb => (by cases hb), hb0, hb0.size, ⟨by omega, by omega, by omega, by omega⟩⟩
      · rw [nums_made] at bi; exact bi
      · rw [nums_made] at bl; exact bl
      · rw [nums_made] at br; exact br
    have HT := Lib.hid hT
    clear hT bb bi bl br hbel hb0 p0 p1 pf rule
    go_wp2_with fail
    go_loopw [27] (fun i wr => ∃ k : Nat, k ≤ S.length ∧ i = .int .i64 k ∧ TW w w.heap.size bw gi gl gr S.length (.slice Ae E.length ce) (.slice Aa L.length ca) (.slice (some sd) S.length cl) (.slice none 0 0) ⟨fun _ => 0, fun _ => 0, fun j => if j < k then none else some 0, 0, []⟩ wr) (fun i _ => S.length - (intOf i).toNat)
    case atStart => exact ⟨0, Nat.zero_le _, rfl, HT.out⟩
    case round =>
      clear HT
      obtain ⟨k, hk, rfl, hT⟩ := hrel
      have HT := Lib.hid hT
      by_cases hlt : k < S.length
      · have hbb := hT.b
        unfold wkCells at hbb
        obtain ⟨x0, x1, x2, x3, x4, x5, x6, x7, xf⟩ := blk8 hbb
        have y1 := num_at hT.br hlt
        have f1 := hT.br.frozen k
        have lr := hT.br.lt
        have k0 : (0 : Int) ≤ (k : Int) := by omega
        have k1 : (k : Int) < (S.length : Int) := by omega
        clear hT hbb
        go_wp2
        refine ⟨⟨k + 1, by omega, by go_num, ?_⟩, by simp [intOf]; omega⟩
        have h := (HT.out.setRtN k).rtc (r := fun j => if j < k + 1 then none else some 0) (fun j _ => by
          dsimp only
          unfold PlT.upd
          by_cases e : j = k
          · rw [if_pos e, if_pos (by omega)]
          · rw [if_neg e]
            dsimp only
            by_cases h1 : j < k
            · rw [if_pos h1, if_pos (by omega)]
            · rw [if_neg h1, if_neg (by omega)])
        exact h
      · obtain rfl : S.length = k := by omega
        have HB1 := Lib.hid (show BRel w L S bw gi gl gr (.slice Ae E.length ce) (.slice Aa L.length ca) (.slice (some sd) S.length cl) 0 wr from
          ⟨PlT.start, none, 0, hT.rtc (fun j hj => if_pos hj), PlT.Inv.start _ _ _, by show 0 + PlT.cnt S.length (fun _ => 0) = S.length; rw [PlT.cnt_start]; omega, fun x hx => absurd hx (Nat.not_lt_zero x)⟩)
        clear hT HT
        go_wp2_with fail
        go_loopw [37] (fun i wr => ∃ k : Nat, k ≤ S.length ∧ i = .int .i64 k ∧ BRel w L S bw gi gl gr (.slice Ae E.length ce) (.slice Aa L.length ca) (.slice (some sd) S.length cl) k wr) (fun i _ => S.length - (intOf i).toNat)
        case atStart => exact ⟨0, Nat.zero_le _, rfl, HB1.out⟩
        case round =>
          clear HB1
          obtain ⟨k, hk, rfl, s, A, c, hT, hI, hfd, hall⟩ := hrel
          have HT := Lib.hid hT
          have HI := Lib.hid hI
          have HALL := Lib.hid hall
          have HFD := Lib.hid hfd
          by_cases hlt : k < S.length
          · obtain ⟨sd', hA, hbl, cS⟩ := bool_at (SR.out.below hT.bel) hlt
            obtain rfl : sd = sd' := by injection hA
            have hin := isIn_of hlt
            have hbb := hT.b
            unfold wkCells at hbb
            obtain ⟨x0, x1, x2, x3, x4, x5, x6, x7, xf⟩ := blk8 hbb
            have y1 := num_at hT.bi hlt
            unfold nI at y1
            have k0 : (0 : Int) ≤ (k : Int) := by omega
            have k1 : (k : Int) < (S.length : Int) := by omega
            rw [← hin] at cS
            clear hT hbb hI hall hfd hA hin
            cases hs : isIn S k
            · rw [hs] at cS
              by_cases hi : s.ix k = 0
              · have hi1 : ((s.ix k : Int) == 0) = true := by rw [hi]; rfl
                rw [hi] at y1
                have HS0 := Lib.hid hs
                have HI0 := Lib.hid hi
                clear hs hi hi1
                go_wp2_with fail
                refine (search_any L S HSL.out (by omega) HL.out HTO.out w w.heap.size bw gi gl gr _ Aa (some sd) ca cl rows RA.out HK.out SR.out s k hlt HS0.out HI0.out HI.out HFD.out A c _ HT.out).mono ?_
                rintro e w1 ⟨⟨v, rfl⟩, s1, A1, c1, hT1, hF1, hfd1, -⟩
                have HB2 := Lib.hid (show BRel w L S bw gi gl gr (.slice Ae E.length ce) (.slice Aa L.length ca) (.slice (some sd) S.length cl) (k + 1) w1 from
                  ⟨s1, A1, c1, hT1, hF1.inv, hfd1, fun x hx hsx => by
                    rcases Nat.lt_or_ge x k with h | h
                    · exact hF1.more x (HALL.out x h hsx)
                    · obtain rfl : x = k := by omega
                      exact hF1.first⟩)
                clear hT1 hF1 hfd1 x0 x1 x2 x3 x4 x5 x6 x7 xf y1 cS
                go_wp2
                exact ⟨⟨k + 1, by omega, by go_num, HB2.out⟩, by simp [intOf]; omega⟩
              · have hi1 : ((s.ix k : Int) == 0) = false := beq_eq_false_iff_ne.2 (by omega)
                have HI0 := Lib.hid hi
                have HSS := Lib.hid hs
                clear hi hs
                go_wp2
                refine ⟨⟨k + 1, by omega, by go_num, s, A, c, HT.out, HI.out, HFD.out, fun x hx hsx => ?_⟩, by simp [intOf]; omega⟩
                rcases Nat.lt_or_ge x k with h | h
                · exact HALL.out x h hsx
                · obtain rfl : x = k := by omega
                  exact HI0.out
            · rw [hs] at cS
              have HSS := Lib.hid hs
              clear hs
              go_wp2
              refine ⟨⟨k + 1, by omega, by go_num, s, A, c, HT.out, HI.out, HFD.out, fun x hx hsx => ?_⟩, by simp [intOf]; omega⟩
              rcases Nat.lt_or_ge x k with h | h
              · exact HALL.out x h hsx
              · obtain rfl : x = k := by omega
                rw [HSS.out] at hsx; cases hsx
          · obtain rfl : S.length = k := by omega
            obtain ⟨hsome, hparts⟩ := hI.parts hall
            have hrl : ∀ x, x < S.length → isIn S x = false → (s.rt x).getD 0 < S.length := fun x hx hsx => by
              have h1 := (hI.root x _ (hsome x hx hsx)).1
              exact (hI.rt_ok _ (by rw [h1]; simp)).1
            have HNUM := Lib.hid (fun k hk => hparts.num k hk)
            obtain ⟨r, hr⟩ : ∃ r : Nat → Nat, r = fun x => (s.rt x).getD 0 := ⟨_, rfl⟩
            rw [← hr] at HNUM
            have hrl' : ∀ x, x < S.length → isIn S x = false → r x < S.length := by rw [hr]; exact hrl
            have hsome' : ∀ x, x < S.length → isIn S x = false → s.rt x = some (r x) := by rw [hr]; exact hsome
            have HRL := Lib.hid hrl'
            have HSOME := Lib.hid hsome'
            have bb := hT.b
            have br := hT.br
            have hbel := hT.bel
            unfold wkCells at bb
            have lr := br.lt
            have hbz := hbel.size
            generalize s.rt = rt at *
            obtain ⟨x0, x1, x2, x3, x4, x5, x6, x7, xf⟩ := blk8 bb
            have hlb := bb.lt
            generalize hcs : (#[.slice Ae E.length ce, .slice Aa L.length ca, .slice (some sd) S.length cl, .slice (some ⟨gi, 0, none⟩) S.length S.length, .slice (some ⟨gl, 0, none⟩) S.length S.length, .slice (some ⟨gr, 0, none⟩) S.length S.length, .int .i64 (s.fd : Int), .slice A s.pd.length c] : Array Value) = cs at bb
            have HCS := Lib.hid hcs
            have BB := Lib.hid bb
            have BR := Lib.hid br
            have HBL := Lib.hid hbel
            clear hT HT hI HI hall HALL hfd HFD hsome hparts hrl hr hrl' hsome' hbel br bb hcs x0 x1 x2 x3 x4 x5 x6 x7 xf
            have hmm := @run_makeMap Try.prog
            go_wp2_with fail
            clear hmm hmk
            generalize hwb : wr.heap.size = Bm at *
            go_loopw [62] (fun i wx => ∃ k : Nat, k ≤ S.length ∧ i = .int .i64 k ∧ CRel w S bw gr (Bm + 1) Bm cs rt r k wx) (fun i _ => S.length - (intOf i).toNat)
            case atStart =>
              refine ⟨0, Nat.zero_le _, rfl, .map [], (BB.out.alloc _).alloc _, (BR.out.alloc _).alloc _, ?_, Plc.start, rfl, ?_, (HBL.out.alloc (by omega) _).alloc (by simp; omega) _⟩
              · rw [← hwb]; exact (World.ownsMap_made _ _ _ _).alloc _
              · rw [nums_congr (g := fun _ => 0) (fun j => if_neg (Nat.not_lt_zero j)), ← nums_made]
                exact blk_new_at (by rw [World.size_alloc, hwb])
            case round =>
              clear BB BR HBL hwb
              obtain ⟨k, hk, rfl, D, bb, br, hm, hp, hsz, bz, hB⟩ := hrel
              have HM := Lib.hid hm
              have HP := Lib.hid hp
              have HB := Lib.hid hB
              have HBB := Lib.hid bb
              have HBR := Lib.hid br
              have HBZ := Lib.hid bz
              have HSZ := Lib.hid hsz
              have hbz2 := hB.size
              have lbz := bz.lt
              by_cases hlt : k < S.length
              · obtain ⟨sd', hA, hbl, cS⟩ := bool_at (SR.out.below hB) hlt
                obtain rfl : sd = sd' := by injection hA
                have hin := isIn_of hlt
                rw [← hin] at cS
                have cz := num_at bz hlt
                have fz := bz.frozen k
                have k0 : (0 : Int) ≤ (k : Int) := by omega
                have k1 : (k : Int) < (S.length : Int) := by omega
                have hnext := PlT.numOf_next (S := isIn S) (r := r) hlt
                have hbb := HBB.out
                rw [← HCS.out] at hbb
                obtain ⟨x0, x1, x2, x3, x4, x5, x6, x7, xf⟩ := blk8 hbb
                have y1 := num_at br hlt
                have HST := Lib.hid (fun (z : Int) (hz : z = PlT.numOf (isIn S) r S.length k) (x : World) (D' : DataW Unit) (hb' : Blk x bw 57 cs) (hr' : Blk x gr 3 (nums S.length (nR rt)).toArray) (hm' : x.ownsMap Try.prog 3 (plainElem Try.prog 3) Bm (PlT.roots (isIn S) r (k + 1)).length D') (hp' : Plc (PlT.roots (isIn S) r (k + 1)) D') (hs' : Maps.size D' = (PlT.roots (isIn S) r (k + 1)).length)
                  (hz' : Blk x (Bm + 1) 3 (nums S.length (fun j => if j < k then PlT.numOf (isIn S) r S.length j else 0)).toArray) (hB' : Below w.heap.size w x) =>
                  (show CRel w S bw gr (Bm + 1) Bm cs rt r (k + 1) (x.setCell ⟨Bm + 1, k, none⟩ (.int .i64 z)) from
                    ⟨D', hb'.far (Blk.ne_ hb' hz' (by decide)) _, hr'.far (by show gr ≠ Bm + 1; omega) _, map_set hm' hz' _, hp', hs', res_set hz' hz, hB'.setCell (by show w.heap.size ≤ Bm + 1; omega) _⟩))
                have hroots := PlT.roots_len (isIn S) r k
                clear bb br hm hp hB bz hA hin hsz hbb
                cases hs : isIn S k
                · rw [hs] at cS
                  have hrk := HRL.out k hlt hs
                  have hso := HSOME.out k hlt hs
                  have y2 : nR rt k = (r k : Int) := by unfold nR; rw [hso]; rfl
                  rw [y2] at y1
                  have HHAS := Lib.hid (HP.out.has_ (r k))
                  have HAT := Lib.hid (HP.out.at_ (r k))
                  have HKEY := Lib.hid (keyOf_int_mk Try.underlying3 (show (Lit.int .i64 ((r k : Nat) : Int)).wf = true from WalkArith.wf_i64 (by omega)))
                  have HPS := Lib.hid (fun h => HP.out.step HM.out.isMap (t := r k) h)
                  have HTD := Lib.hid (HM.out.tidy Try.keyI)
                  generalize r k = q at *
                  rcases hnext with ⟨h1, -⟩ | ⟨-, hmem, hnum, hil, hro⟩ | ⟨-, hmem, hnum, hro⟩
                  · rw [hs] at h1; cases h1
                  · have HAT1 := Lib.hid (HAT.out hmem)
                    have HNU := Lib.hid hnum
                    have HRO := Lib.hid hro
                    clear hs hso y2 hnum hro HPS HAT
                    generalize (PlT.roots (isIn S) r k).idxOf q = i at *
                    go_upto_region 21 with (at_lookup; refine wpList_lookup_own_ok_int _ rfl _ _ 59 rfl 3 3 .i64 Try.keyI Try.underlying59 Try.underlying3 (Try.zeroI _) Bm _ D rfl HM.out _ (kI q) rfl HKEY.out ?_; intro c hat hwc; obtain rfl : (i : Int) = c := lit_eq ((HAT1.out _).symm.trans hat); rw [HHAS.out, decide_eq_true hmem]; clear hat hwc)
                    go_wp2
                    refine ⟨⟨k + 1, by omega, by go_num, HST.out _ HNU.out.symm _ D HBB.out HBR.out ?_ ?_ ?_ HBZ.out HB.out⟩, by simp [intOf]; omega⟩
                    · rw [HRO.out]; exact HM.out
                    · rw [HRO.out]; exact HP.out
                    · rw [HRO.out]; exact HSZ.out
                  · have HNU := Lib.hid hnum
                    have HRO := Lib.hid hro
                    have hsz' := HSZ.out
                    have HPS1 := Lib.hid (HPS.out hmem)
                    clear hs hso y2 hnum hro HPS HAT
                    go_upto_region 22 with (at_lookup; refine wpList_lookup_own_ok_int _ rfl _ _ 59 rfl 3 3 .i64 Try.keyI Try.underlying59 Try.underlying3 (Try.zeroI _) Bm _ D rfl HM.out _ (kI q) rfl HKEY.out ?_; intro c hat hwc; rw [HHAS.out, decide_eq_false hmem]; clear hat hwc)
                    go_upto_region 24 with (first
                      | (at_len; refine wpList_len_own _ rfl _ 59 rfl 3 3 Try.underlying59 _ Bm _ D rfl HM.out ?_; rw [HSZ.out])
                      | (at_mapUpdate; refine wpList_mapUpdate_own _ rfl _ _ _ 59 rfl 3 3 Try.keyI Try.underlying59 _ Bm _ D rfl HM.out (by unfold maxLen; omega) _ _ (kI q) rfl rfl HKEY.out (vI (PlT.roots (isIn S) r k).length) [] (plainElem_int Try.underlying3 (WalkArith.wf_i64 (by omega))) ?_; intro w2 hown1 hgrow1))
                    have HM2 := Lib.hid hown1
                    have HBB2 := Lib.hid (HBB.out.grown hgrow1 (blk_map_ne HBB.out HM.out))
                    have HBR2 := Lib.hid (HBR.out.grown hgrow1 (blk_map_ne HBR.out HM.out))
                    have HBZ2 := Lib.hid (HBZ.out.grown hgrow1 (blk_map_ne HBZ.out HM.out))
                    have HB2 := Lib.hid (HB.out.grown hgrow1 hbz2 (fun b hb => by injection hb with hb; subst hb; omega))
                    have HSZ2 := Lib.hid (Maps.size_put (k := kI q) HTD.out (vI (PlT.roots (isIn S) r k).length))
                    have cz2 := num_at HBZ2.out hlt
                    have fz2 := HBZ2.out.frozen k
                    have lbz2 := HBZ2.out.lt
                    clear hown1 hgrow1 cz fz y1 x0 x1 x2 x3 x4 x5 x6 x7 xf cS lbz
                    go_wp2
                    refine ⟨⟨k + 1, by omega, by go_num, HST.out _ HNU.out.symm _ (D.put (kI q) (vI (PlT.roots (isIn S) r k).length)) HBB2.out HBR2.out ?_ ?_ ?_ HBZ2.out HB2.out⟩, by simp [intOf]; omega⟩
                    · rw [HRO.out, List.length_append]; exact HM2.out
                    · rw [HRO.out]; exact HPS1.out
                    · rw [HRO.out, HSZ2.out, HHAS.out, decide_eq_false hmem, HSZ.out]; simp
                · rw [hs] at cS
                  rcases hnext with ⟨-, hnum, hro⟩ | ⟨h1, -⟩ | ⟨h1, -⟩
                  · have HNU := Lib.hid hnum
                    have HRO := Lib.hid hro
                    clear hs hnum hro y1 x0 x1 x2 x3 x4 x5 x6 x7 xf
                    go_wp2
                    refine ⟨⟨k + 1, by omega, by go_num, HST.out _ HNU.out.symm _ D HBB.out HBR.out ?_ ?_ ?_ HBZ.out HB.out⟩, by simp [intOf]; omega⟩
                    · rw [HRO.out]; exact HM.out
                    · rw [HRO.out]; exact HP.out
                    · rw [HRO.out]; exact HSZ.out
                  · rw [hs] at h1; cases h1
                  · rw [hs] at h1; cases h1
              · obtain rfl : S.length = k := by omega
                have HF := Lib.hid (show NumsPost w S.length (PlT.num S.length (PlG.tg L) (isIn S)) (.returned (.slice (some ⟨Bm + 1, 0, none⟩) S.length S.length)) wr from by
                  refine ⟨Bm + 1, rfl, by omega, ?_, hB⟩
                  rw [nums_congr_lt (g := PlT.num S.length (PlG.tg L) (isIn S)) (fun j hj => by rw [if_pos hj]; exact HNUM.out j hj)] at bz
                  exact bz)
                clear bb br hm hp hB bz hsz
                go_wp2
                go_ret
                exact HF.out
end Go.Proofs.Ytnjbofahboopoaa
