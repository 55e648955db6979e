/- The walk of FairnessServesEverybody. -/
import Derived.Test.YtnjbofahboopoaaH1
import Derived.Test.YtnjbofahboopoaaMC
import Derived.Test.YtnjbofahboopoaaHD
import Derived.BigQuiet
import Derived.Deep.DeepCutAuto
import Derived.Deep.CutBlock
import Derived.Deep.LoopGhost
import Derived.Deep.RegionLaw
namespace Go.Proofs.Ytnjbofahboopoaa
open Go.RowKit

theorem tmod_b7 (x : Int) (n : Int) (hn : 0 < n) : -n < x.tmod n ∧ x.tmod n < n := by
  have h1 := Int.tmod_lt_of_pos x hn
  have h2 := Int.tmod_lt_of_pos (-x) hn
  rw [Int.neg_tmod] at h2
  omega
theorem u8_wf7 {x : Int} (h : (Lit.int .u8 x).wf = true) : 0 ≤ x ∧ x < 256 := by
  simp [Lit.wf, IntKind.min, IntKind.max, IntKind.signed, IntKind.bits] at h
  exact ⟨by omega, by omega⟩
theorem u8_at {w w' : World} {A : Option Addr} {zs : List Int} {k : Nat} (h : Reads w w.heap.size 1 A zs.length (zs.map fun z : Int => Value.int .u8 z)) (hb : Below w.heap.size w w') (hk : k < zs.length) :
    ∃ ad, A = some ad ∧ ad.block < w.heap.size ∧ w'.cell? (ad.add k) = some (.int .u8 zs[k]) := by
  obtain ⟨ad, e, hbl, hc⟩ := h.2 (by omega)
  refine ⟨ad, e, hbl, ?_⟩
  rw [hb.cell (by rw [block_of_add]; exact hbl)]
  exact hc k _ (by rw [List.getElem?_map, List.getElem?_eq_getElem hk]; rfl)
def U32 (z : Nat) : Value := .int .u32 (z : Int)
theorem one_U (z : Nat) : ∀ u ∈ [U32 z], u.oneCell' = true := by simp [U32, Value.oneCell']
theorem own_get {w : World} {α : Type} {base e g n c k : Nat} {l : List α} {f : α → Value} {x : α} (h : w.ownsRow base e 1 (.slice (some ⟨g, 0, none⟩) n c) n (l.map f)) (hk : l[k]? = some x) : w.cell? ⟨g, k, none⟩ = some (f x) := by
  have hl : k < l.length := (List.getElem?_eq_some_iff.1 hk).1
  have h1 := h.1
  have := h.cellAt k (by rw [List.length_map] at h1; omega)
  rw [this, List.getElem?_map, hk]
  rfl
theorem reads_blk1 {w : World} {g t : Nat} {u : Value} (h : Blk w g t #[u]) : Reads w w.heap.size 1 (some ⟨g, 0, none⟩) 1 [u] := reads_blk (l := [u]) h h.lt rfl
theorem cells_grown {W X : World} {g : Nat} {a b : Value} {row : Option Nat} (h : W.grownBy X row) (hg : g < W.heap.size) (hr : some g ≠ row) (h0 : W.cell? ⟨g, 0, none⟩ = some a) (h1 : W.cell? ⟨g, 1, none⟩ = some b) : X.cell? ⟨g, 0, none⟩ = some a ∧ X.cell? ⟨g, 1, none⟩ = some b :=
  ⟨(World.cell?_of_block (h.block g hg hr)).trans h0, (World.cell?_of_block (h.block g hg hr)).trans h1⟩
theorem cells_alloc {X : World} {g : Nat} {a b : Value} {o : Obj} (_hg : True) (h : X.cell? ⟨g, 0, none⟩ = some a ∧ X.cell? ⟨g, 1, none⟩ = some b) : (X.alloc o).cell? ⟨g, 0, none⟩ = some a ∧ (X.alloc o).cell? ⟨g, 1, none⟩ = some b :=
  ⟨(World.cell?_alloc_some X _ o (by rw [h.1]; rfl)).trans h.1, (World.cell?_alloc_some X _ o (by rw [h.2]; rfl)).trans h.2⟩
theorem step_append_one {P : Program} {w : World} {ops : Array Oper} {o : Oper} {a : Act} {K : Act → World → Prop} {Q : Exit → Act → World → Prop} {E : Prop} (hgd : o.guard = none) (s x : Operand) (t : TypeId)
    (ho : o.op = .call { callee := .builtin .append, args := #[s, x], argTypes := #[t, t] })
    (base : Nat) (e : TypeId) (i : TypeInfo) (z : Value) (bytes : Nat) (ht : P.underlying t = some (.slice e)) (hi : P.info? e = some i) (hz : i.zero = some z)
    (hsize : i.size = 1) (hby : i.bytes = bytes) (hzs : z.cells.size = 1)
    (v : Value) (n : Nat) (xs : List Value) (hs : a.eval s = v) (hown : w.ownsRow base e 1 v n xs)
    {g : Nat} {u : Value} (hx : a.eval x = .slice (some ⟨g, 0, none⟩) 1 1) (hb : Blk w g e #[u]) (h1 : ∀ y ∈ [u], y.oneCell' = true)
    (h63 : n + 1 ≤ maxLen) (hbytes : (n + 1) * bytes ≤ 140737488355328) (hbase : base ≤ w.heap.size)
    (h : ∀ v' w', w'.ownsRow base e 1 v' (n + 1) (xs ++ [u]) → w.grownBy w' v.ownBlock → (v'.ownBlock = v.ownBlock ∨ v'.ownBlock = some w.heap.size) → K (a.put o.dst v') w') :
    if Region.wanted o (yielded ops a.tmps) = true then Oper.wp P o a w K Q else E :=
  step_append_any _ hgd s x t ho base e i z 1 bytes ht hi hz hsize hby hzs (by decide) v n xs hs hown w.heap.size _ 1 1 [u] hx (reads_blk1 hb) h1 h63 hbytes hbase h
theorem all_mask7 (x : Nat) (hx : x < 4294967296) : (bits .and .u32 (x : Int) 16777215 == 16777215) = PlT.allTo x 24 := by
  rw [show (16777215 : Int) = ((16777215 : Nat) : Int) from rfl, u32_and_nat _ _ hx (by decide)]
  have e : x &&& 16777215 = x % 16777216 := Nat.and_two_pow_sub_one_eq_mod x 24
  rw [e, Bool.eq_iff_iff, ← PlT.allTo24, beq_iff_eq]
  omega
def srvF (E : List Nat) (l : List (Nat × Nat)) (i : Nat) : Nat → Nat
  | 0 => 0
  | d + 1 => srvF E l i d ||| ((4294967295 - E.getD (l.getD (i + d) (0, 0)).1 0) ||| (l.getD (i + d) (0, 0)).2)
theorem srvF_lt {E : List Nat} {l : List (Nat × Nat)} (hl : ∀ k, (l.getD k (0, 0)).2 < 4294967296) (i d : Nat) : srvF E l i d < 4294967296 := by
  induction d with
  | zero => exact (by decide : 0 < 4294967296)
  | succ d ih =>
    rw [srvF]
    exact Nat.or_lt_two_pow (n := 32) ih (Nat.or_lt_two_pow (n := 32) (show 4294967295 - _ < 4294967296 by omega) (hl _))
theorem not_bit {e v : Nat} (he : e < 4294967296) (hv : v < 32) : (4294967295 - e).testBit v = !e.testBit v := by
  have h1 := Nat.testBit_two_pow_sub_succ (n := 32) (x := e) he v
  rw [show 2 ^ 32 - (e + 1) = 4294967295 - e by omega] at h1
  rw [h1]
  simp [hv]
theorem srvF_bit {E : List Nat} {l : List (Nat × Nat)} (hE : ∀ x, E.getD x 0 < 4294967296) {i d v : Nat} (hv : v < 32) (h : (srvF E l i d).testBit v = true) : ∃ j, j < d ∧ ((E.getD (l.getD (i + j) (0, 0)).1 0).testBit v = false ∨ (l.getD (i + j) (0, 0)).2.testBit v = true) := by
  induction d with
  | zero => rw [srvF, Nat.zero_testBit] at h; cases h
  | succ d ih =>
    rw [srvF, Nat.testBit_or, Nat.testBit_or, Bool.or_eq_true, Bool.or_eq_true, not_bit (hE _) hv] at h
    rcases h with h | h | h
    · obtain ⟨j, hj, h1⟩ := ih h
      exact ⟨j, by omega, h1⟩
    · exact ⟨d, by omega, .inl (by simpa using h)⟩
    · exact ⟨d, by omega, .inr h⟩
/-- the worlds of the walk -/
abbrev SvL (w : World) (sp : Array Value) (vs vt : Value) (l : List (Nat × Nat)) : List (Ch w.heap.size) :=
  [cR w.heap.size 39 1 vt l.length (l.map fun a => U32 a.2), cR w.heap.size 3 1 vs l.length (l.map fun a => I a.1), cB w.heap.size w.heap.size 25 sp]
def SvA (w : World) (sp : Array Value) (L : List (List Arc)) (S : Nat → Bool) (n x0 : Nat) (at_ vs vt : Value) (wr : World) : Prop :=
  ∃ (y : Nat) (l : List (Nat × Nat)), at_ = .int .i64 (y : Int) ∧ y < n ∧ l.length ≤ 200 ∧ PlT.Way L S x0 l y ∧ Mem w (SvL w sp vs vt l) wr
def SvB (w : World) (sp : Array Value) (L : List (List Arc)) (S : Nat → Bool) (n x0 m : Nat) (at_ vs vt i : Value) (wr : World) : Prop :=
  ∃ (y : Nat) (l : List (Nat × Nat)), at_ = .int .i64 (y : Int) ∧ y < n ∧ i = .int .i64 (l.length : Int) ∧ l.length ≤ m ∧ PlT.Way L S x0 l y ∧ Mem w (SvL w sp vs vt l) wr

abbrev SvM (w : World) (sp : Array Value) (g n : Nat) (f : Nat → Bool) (vs vt : Value) (l : List (Nat × Nat)) : List (Ch w.heap.size) := cB w.heap.size g 4 ((marks n f).map Value.bool).toArray :: SvL w sp vs vt l
def SvC (w : World) (sp : Array Value) (g n : Nat) (f : Nat → Bool) (vs vt : Value) (l : List (Nat × Nat)) (gh : Nat) (i : Value) (wr : World) : Prop :=
  gh ≤ l.length ∧ ((gh = 0 ∧ i = .int .i64 (-1)) ∨ ∃ k, gh = k + 1 ∧ i = .int .i64 (k : Int)) ∧ Mem w (SvM w sp g n f vs vt l) wr
def SvD (w : World) (sp : Array Value) (g n : Nat) (f : Nat → Bool) (vs vt : Value) (l : List (Nat × Nat)) (E : List Nat) (i : Nat) (gh : Nat) (sv kv : Value) (wr : World) : Prop :=
  ∃ d, gh = l.length - (i + d) ∧ i + d ≤ l.length ∧ kv = .int .i64 ((i + d : Nat) : Int) ∧ sv = .int .u32 (srvF E l i d : Int) ∧ Mem w (SvM w sp g n f vs vt l) wr
theorem Way.ok7 {L : List (List Arc)} {S : Nat → Bool} {x0 y n : Nat} {l : List (Nat × Nat)} (h : PlT.Way L S x0 l y) (hLn : L.length = n) (hL : ∀ x, ∀ a ∈ L.getD x [], a.1 < 4294967296) : ∀ k (hk : k < l.length), l[k].1 < n ∧ l[k].2 < 4294967296 := by
  induction h with
  | nil => intro k hk; simp at hk
  | snoc h0 h1 h2 ih =>
    rename_i l x a
    intro k hk
    by_cases e : k < l.length
    · rw [List.getElem_append_left e]; exact ih k e
    · have hk' : k = l.length := by simp at hk; omega
      subst hk'
      rw [List.getElem_append_right (Nat.le_refl _)]
      simp only [Nat.sub_self, List.getElem_singleton]
      refine ⟨?_, hL x a h2⟩
      by_cases hx : x < L.length
      · omega
      · rw [List.getD_eq_getElem?_getD, List.getElem?_eq_none (by omega)] at h2; cases h2

set_option maxRecDepth 100000 in
set_option maxHeartbeats 8000000 in
theorem serves_law (w : World) (E : List Nat) (L : List (List Arc)) (v : Value) (hE : WfE E) (hV : WfV L) (hS : SpaceAt w w.heap.size v E L) (S : List Bool) (A : Option Addr) (c : Nat) (_hm : S.length ≤ 9223372036854775807)
    (hSr : Reads w w.heap.size 1 A S.length (S.map Value.bool)) (from_ : Int) (_hf : -9223372036854775808 ≤ from_ ∧ from_ ≤ 9223372036854775807) (Cs : List Int) (Ac : Option Addr) (cc : Nat) (_hcm : Cs.length ≤ 9223372036854775807) (hCr : Reads w w.heap.size 1 Ac Cs.length (Cs.map fun z : Int => Value.int .u8 z)) (hC8 : ∀ z ∈ Cs, (Lit.int .u8 z).wf = true) :
    Calls Try.prog 6 #[v, .slice A S.length c, .int .i64 from_, .slice Ac Cs.length cc] w fun e w' => e = .returned (.bool true) ∧ Below w.heap.size w w' := by
  have HS := Lib.hid hS
  obtain ⟨ve, va, rfl, ⟨Ae, ce, rfl, re⟩, ⟨Aa, ca, rows, rfl, ra, hk⟩⟩ := hS
  have HE := Lib.hid hE
  have HV := Lib.hid hV
  have SR := Lib.hid hSr
  have CR := Lib.hid hCr
  have HC8 := Lib.hid hC8
  have RE := Lib.hid re
  have RA := Lib.hid ra
  have HK := Lib.hid hk
  clear re ra hk hE hV hSr hCr hC8
  have hb0 := (Below.refl w.heap.size w).alloc (Nat.le_refl _) (.cells #[.slice Ae E.length ce, .slice Aa L.length ca] 25)
  have HB0 := Lib.hid hb0
  clear hb0
  by_cases hg : fairB E L S.length = true ∧ Cs.length ≤ 200
  · obtain ⟨h1, hC200⟩ := hg
    obtain ⟨f1, f2, f3⟩ := fair_parts h1
    have HL := Lib.hid (wfl_light HV.out f1)
    have HOK := Lib.hid f2
    have HSL := Lib.hid f3
    have H1 := Lib.hid h1
    have hn : S.length ≤ 120 := by have := (light_parts f1).1; omega
    have hn1 : 1 ≤ S.length := by have := (PlG.ok_parts f2).1; omega
    clear f1 f2 f3 h1
    have HLL := Lib.hid (show L.length = S.length by have := (PlG.ok_parts HOK.out).2.2.1; have := HSL.out; omega)
    obtain ⟨aa, hA, -⟩ := RA.out.2 (by have := HLL.out; omega)
    subst hA
    obtain ⟨sd, hA, -⟩ := SR.out.2 (by omega)
    subst hA
    obtain ⟨i0, hi0, hz0, hz1, hz2⟩ := info_parts Try.infoIntG
    obtain ⟨j0, hj0, hy0, hy1, hy2⟩ := info_parts Try.infoU32
    have t1 : decide ((200 : Int) < (Cs.length : Int)) = false := decide_eq_false (by omega)
    have t1' : decide (200 < Cs.length) = false := decide_eq_false (by omega)
    have a1 := tmod_b7 from_ S.length (by omega)
    have a2 : 0 ≤ (from_.tmod S.length + S.length).tmod S.length ∧ (from_.tmod S.length + S.length).tmod S.length < S.length := ⟨Int.tmod_nonneg _ (by omega), Int.tmod_lt_of_pos _ (by omega)⟩
    obtain ⟨x0, hx0⟩ : ∃ x0 : Nat, (from_.tmod S.length + S.length).tmod S.length = (x0 : Int) := ⟨_, (Int.toNat_of_nonneg a2.1).symm⟩
    have hx0n : x0 < S.length := by omega
    have q1 := IntWalk.i64_in (from_.tmod S.length) (by omega)
    have q2 := IntWalk.i64_in (from_.tmod S.length + S.length) (by omega)
    have n0 : ¬ (S.length : Int) = 0 := by omega
    have n1 : ((S.length : Int) == 0) = false := beq_eq_false_iff_ne.2 n0
    go_enter Try.func6, Try.ntmps6
    go_wp2_with fail
    refine (fair_is E L _ HE.out HV.out (some sd) S.length c true H1.out _ (HS.out.go HB0.out)).mono ?_
    rintro e w1 ⟨rfl, hb1⟩
    have HM1 := Lib.hid (((Mem.start w).new 25 #[.slice Ae E.length ce, .slice (some aa) L.length ca]).below hb1)
    clear hb1
    go_upto_region 5 with fail
    clear a1 a2 q1 q2 n0 n1 t1 t1' hx0
    have hM1 := (HM1.out.nil_ 3 1).nil_ 39 1
    have HMA := Lib.hid hM1
    clear hM1 HM1
    go_upto_block 0 with fail
    go_cut [10, 11, 12] (SvA w #[.slice Ae E.length ce, .slice (some aa) L.length ca] L (isIn S) S.length x0)
    case first =>
      go_wp2_with fail
      go_loopw [10, 11, 12, 13] (SvB w #[.slice Ae E.length ce, .slice (some aa) L.length ca] L (isIn S) S.length x0 Cs.length) (fun _ _ _ i _ => Cs.length - (intOf i).toNat)
      case atStart => exact ⟨x0, [], rfl, hx0n, rfl, Nat.zero_le _, .nil, HMA.out⟩
      case round =>
        clear HMA
        obtain ⟨y, l, rfl, hyn, rfl, hlm, hway, hM⟩ := hrel
        have HWAY := Lib.hid hway
        have HM := Lib.hid hM
        obtain ⟨At, ct, hvt⟩ := own_sl (hM.get 0 rfl)
        obtain ⟨As, cs, hvs⟩ := own_sl (hM.get 1 rfl)
        subst hvt hvs
        by_cases hlt : l.length < Cs.length
        · obtain ⟨sd', hA, hbl, cS⟩ := bool_at (SR.out.below hM.bel) hyn
          obtain rfl : sd = sd' := by injection hA
          rw [← isIn_of hyn] at cS
          have k0 : (0 : Int) ≤ (l.length : Int) := by omega
          have k1 : (l.length : Int) < (Cs.length : Int) := by omega
          have y0 : (0 : Int) ≤ (y : Int) := by omega
          have y1 : (y : Int) < (S.length : Int) := by omega
          have y2 : (y : Int) < (L.length : Int) := by have := HLL.out; omega
          have hyL : y < L.length := by have := HLL.out; omega
          clear hA hway
          cases hs : isIn S y
          · rw [hs] at cS
            have HS0 := Lib.hid hs
            obtain ⟨aL, Ak, ck, hAL, hbla, cr, rk⟩ := row_at (RA.out.below hM.bel) (fun k l hl => let ⟨u, hu, ha⟩ := HK.out k l hl; (⟨u, hu, ha.below hM.bel⟩ : ∃ u, rows[k]? = some u ∧ ArcsAt wr w.heap.size u l)) hyL
            obtain rfl : aa = aL := by injection hAL
            obtain ⟨p0, p1, pf⟩ := blk2 (hM.get 2 rfl).2
            have hll := (HL.out y hyL).1
            by_cases hr0 : L[y].length = 0
            · have t1 : ((L[y].length : Int) == 0) = true := by rw [hr0]; rfl
              generalize L[y] = r at *
              clear hM hs hr0 rk hAL
              go_wp2_with fail
              go_meet
              exact ⟨y, l, rfl, hyn, by omega, HWAY.out, HM.out⟩
            · have t1 : ((L[y].length : Int) == 0) = false := beq_eq_false_iff_ne.2 (by omega)
              obtain ⟨zd, hAz, hblz, m4⟩ := u8_at CR.out hM.bel hlt
              subst hAz
              have hz := u8_wf7 (HC8.out Cs[l.length] (List.getElem_mem _))
              have HTO := Lib.hid ((PlG.ok_parts HOK.out).2.2.2 y hyL)
              have HGD := Lib.hid (show L.getD y [] = L[y] from getD_l [] hyL)
              generalize L[y] = r at *
              generalize Cs[l.length] = z at *
              obtain ⟨z, rfl⟩ : ∃ y : Nat, z = (y : Int) := ⟨z.toNat, by omega⟩
              have hzl : z % r.length < r.length := Nat.mod_lt _ (by omega)
              obtain ⟨ad2, hA2, hbl3, c0, c1⟩ := arc_at rk hzl
              subst hA2
              have hx' := HTO.out r[z % r.length] (List.getElem_mem _)
              have HMEM := Lib.hid (show r[z % r.length] ∈ L.getD y [] by rw [HGD.out]; exact List.getElem_mem _)
              generalize r[z % r.length] = b at *
              obtain ⟨ys, yt⟩ := b
              dsimp only at c0 c1 hx'
              obtain ⟨t, rfl⟩ : ∃ t : Nat, yt = (t : Int) := ⟨yt.toNat, by omega⟩
              have htn : t < S.length := by have := HSL.out; omega
              have z1 := IntWalk.i64_in (z : Int) (by omega)
              have z2 : ((z : Int)).tmod (r.length : Int) = ((z % r.length : Nat) : Int) := by rw [Int.tmod_eq_emod_of_nonneg (by omega)]; simp
              have z3 := IntWalk.i64_in ((z % r.length : Nat) : Int) (by omega)
              have z4 : (0 : Int) ≤ ((z % r.length : Nat) : Int) := by omega
              have z5 : ((z % r.length : Nat) : Int) < (r.length : Int) := by omega
              have lsp := (hM.get 2 rfl).2.lt
              have hbz := hM.size
              generalize z % r.length = u at *
              clear hx' rk hs hr0 hM hAL
              have rule := below_rule wr
              have r1 : ∀ x, Below wr.heap.size wr x → x.cell? (aa.add y) = wr.cell? (aa.add y) := fun x hx => hx.cell (by rw [block_of_add]; omega)
              have r2 : ∀ x, Below wr.heap.size wr x → x.cell? (zd.add l.length) = wr.cell? (zd.add l.length) := fun x hx => hx.cell (by rw [block_of_add]; omega)
              have r3 : ∀ x, Below wr.heap.size wr x → x.cell? (ad2.add (u * 2)) = wr.cell? (ad2.add (u * 2)) := fun x hx => hx.cell (by rw [block_of_add]; omega)
              have r4 : ∀ x, Below wr.heap.size wr x → x.cell? ⟨(ad2.add (u * 2)).block, (ad2.add (u * 2)).off + 1, none⟩ = wr.cell? ⟨(ad2.add (u * 2)).block, (ad2.add (u * 2)).off + 1, none⟩ := fun x hx => hx.cell (by show (ad2.add (u * 2)).block < _; rw [block_of_add]; omega)
              have n0 : ¬ (r.length : Int) = 0 := by omega
              have n1 : ¬ r.length = 0 := by omega
              have n2 : (r.length == 0) = false := beq_eq_false_iff_ne.2 n1
              have n3 : 0 < r.length := by omega
              go_upto_region 11 with fail
              go_cut [14] (fun p wx => ∃ gq, p = .pointer (some ⟨gq, 0, none⟩) ∧ Mem w (cB w.heap.size gq 41 #[U32 ys, I t] :: SvL w #[.slice Ae E.length ce, .slice (some aa) L.length ca] (.slice As l.length cs) (.slice At l.length ct) l) wx)
              case first =>
                go_region_held3 (fun x => Below wr.heap.size wr x) (repeat (with_reducible first | exact Below.refl _ _ | assumption | refine balloc ?_ _ | refine Below.drew ?_)) (first | fail)
                all_goals
                  go_wp2_with fail
                  go_meet
                  exact ⟨_, rfl, (HM.out.new 41 #[U32 ys, I t]).drew⟩
              case rest =>
                obtain ⟨gq, rfl, hMq⟩ := hcut
                have HMQ := Lib.hid hMq
                have HOT := Lib.hid (show wc.ownsRow w.heap.size 39 1 (.slice At l.length ct) l.length (l.map fun a => U32 a.2) from hMq.get 1 rfl)
                have HOS := Lib.hid (show wc.ownsRow w.heap.size 3 1 (.slice As l.length cs) l.length (l.map fun a => I a.1) from hMq.get 2 rfl)
                obtain ⟨b0, b1, bf⟩ := blk2 (hMq.get 0 rfl).2
                have hbq := hMq.size
                have lgq := (hMq.get 0 rfl).2.lt
                have HLT := Lib.hid (fun b (hb : Value.ownBlock (.slice As l.length cs) = some b) => (World.ownsRow.lt (hMq.get 2 rfl) b hb).2)
                have HNEq := Lib.hid (own_blk_ne (hMq.get 2 rfl) (hMq.get 0 rfl).2 (by decide))
                have HW2 := Lib.hid (show PlT.Way L (isIn S) x0 (l ++ [(y, ys)]) t from by have h := HWAY.out.snoc HS0.out HMEM.out; dsimp only at h; rw [Int.toNat_natCast] at h; exact h)
                clear HM hMq p0 p1 pf c0 c1 m4 cr cS r1 r2 r3 r4 rule lsp hbz
                go_upto_region 12 with fail
                refine wp_region_noPanic ?_
                refine wp_region_held_drew (S := fun X => X.cell? ⟨gq, 0, none⟩ = some (.int .u32 (ys : Int)) ∧ X.cell? ⟨gq, 1, none⟩ = some (.int .i64 (t : Int))) (by kernel_rfl) ?_ (fun hHeld => ?_)
                · exact ⟨b0, b1⟩
                refine take_l (i := 0) (v := ?_) rfl (by kernel_rfl) (by kernel_rfl) (by kernel_rfl) (fun _ _ _ h => h) (by rfl) ?_ hHeld ?_
                rotate_left
                · intro w hSw; (try dsimp only at hSw); go_simp; first | done | with_reducible rfl
                try simp only [Act.put, List.setIfInBounds_toArray, List.set_cons_zero, List.set_cons_succ]
                refine take_l (i := 1) (v := ?_) rfl (by kernel_rfl) (by kernel_rfl) (by kernel_rfl) (fun _ _ _ h => h) (by rfl) ?_ hHeld ?_
                rotate_left
                · intro w hSw; (try dsimp only at hSw); go_simp; first | done | with_reducible rfl
                try simp only [Act.put, List.setIfInBounds_toArray, List.set_cons_zero, List.set_cons_succ]
                refine take_l (i := 4) (v := ?_) rfl (by kernel_rfl) (by kernel_rfl) (by kernel_rfl) (fun _ _ _ h => h) (by rfl) ?_ hHeld ?_
                rotate_left
                · intro w hSw; (try dsimp only at hSw); go_simp; first | done | with_reducible rfl
                try simp only [Act.put, List.setIfInBounds_toArray, List.set_cons_zero, List.set_cons_succ]
                refine take_l (i := 5) (v := ?_) rfl (by kernel_rfl) (by kernel_rfl) (by kernel_rfl) (fun _ _ _ h => h) (by rfl) ?_ hHeld ?_
                rotate_left
                · intro w hSw; (try dsimp only at hSw); go_simp; first | done | with_reducible rfl
                try simp only [Act.put, List.setIfInBounds_toArray, List.set_cons_zero, List.set_cons_succ]
                refine take_l (i := 6) (v := ?_) rfl (by kernel_rfl) (by kernel_rfl) (by kernel_rfl) (fun _ _ _ h => h) (by rfl) ?_ hHeld ?_
                rotate_left
                · intro w hSw; (try dsimp only at hSw); go_simp; first | done | with_reducible rfl
                try simp only [Act.put, List.setIfInBounds_toArray, List.set_cons_zero, List.set_cons_succ]
                refine take_l (i := 9) (v := ?_) rfl (by kernel_rfl) (by kernel_rfl) (by kernel_rfl) (fun _ _ _ h => h) (by rfl) ?_ hHeld ?_
                rotate_left
                · intro w hSw; (try dsimp only at hSw); go_simp; first | done | with_reducible rfl
                try simp only [Act.put, List.setIfInBounds_toArray, List.set_cons_zero, List.set_cons_succ]
                refine take_l (i := 10) (v := ?_) rfl (by kernel_rfl) (by kernel_rfl) (by kernel_rfl) (fun _ _ _ h => h) (by rfl) ?_ hHeld ?_
                rotate_left
                · intro w hSw; (try dsimp only at hSw); go_simp; first | done | with_reducible rfl
                try simp only [Act.put, List.setIfInBounds_toArray, List.set_cons_zero, List.set_cons_succ]
                refine wpAnyH_ready (rs := [2, 7]) (by kernel_rfl) (by simp) ?_
                refine cons_l rfl (fun K hK => ?_) (cons_l rfl (fun K hK => ?_) AllReadyH.nil)
                · go_simp
                  refine hK.out _ _ ?_ (fun hHeld => ?_)
                  · exact cells_alloc trivial hHeld
                  clear hK K
                  try simp only [Act.put, List.setIfInBounds_toArray, List.set_cons_zero, List.set_cons_succ]
                  refine wpAnyH_ready (rs := [3, 7]) (by kernel_rfl) (by simp) ?_
                  refine cons_l rfl (fun K hK => ?_) (cons_l rfl (fun K hK => ?_) AllReadyH.nil)
                  · refine step_append_one rfl (.tmp 77) (.tmp 79) 33 rfl w.heap.size 3 i0 (.int .i64 0) 8 Try.underlying33 hi0 hz0 hz1 hz2 rfl (.slice As l.length cs) l.length (l.map fun a : Nat × Nat => I a.1) rfl (World.ownsRow.alloc HOS.out _) (u := I y) rfl (Blk.new _ _ _) (one_I y) (len_ok (by omega)) (by omega) (by first | (simp; done) | (simp; omega)) ?_
                    intro v1 x1 ho1 hg1 hv1
                    have hgw := grown_pre (W := wc) (grown_drew hg1)
                    have HMA := Lib.hid (HMQ.out.app 2 rfl hgw ho1 hv1 (by first | (simp; done) | (simp; omega)))
                    have HX1 := Lib.hid (show wc.heap.size ≤ x1.heap.size from hgw.size)
                    have hq := cells_grown hgw lgq (Ne.symm HNEq.out) b0 b1
                    clear ho1 hg1 hv1 hgw
                    refine hK.out _ _ ?_ (fun hHeld => ?_)
                    · exact hq
                    clear hK K
                    try simp only [Act.put, List.setIfInBounds_toArray, List.set_cons_zero, List.set_cons_succ]
                    refine wpAnyH_ready (rs := [7]) (by kernel_rfl) (by simp) ?_
                    refine cons_l rfl (fun K hK => ?_) AllReadyH.nil
                    go_simp
                    refine hK.out _ _ ?_ (fun hHeld => ?_)
                    · exact cells_alloc trivial hHeld
                    clear hK K
                    try simp only [Act.put, List.setIfInBounds_toArray, List.set_cons_zero, List.set_cons_succ]
                    refine wpAnyH_ready (rs := [8]) (by kernel_rfl) (by simp) ?_
                    refine cons_l rfl (fun K hK => ?_) AllReadyH.nil
                    refine step_append_one rfl (.tmp 81) (.tmp 84) 22 rfl w.heap.size 39 j0 (.int .u32 0) 4 Try.underlying22 hj0 hy0 hy1 hy2 rfl (.slice At l.length ct) l.length (l.map fun a : Nat × Nat => U32 a.2) rfl (World.ownsRow.alloc (HMA.out.get 1 rfl) _) (u := U32 ys) rfl (Blk.new _ _ _) (one_U ys) (len_ok (by omega)) (by omega) (by have := HX1.out; first | (simp; done) | (simp; omega)) ?_
                    intro v2 x2 ho2 hg2 hv2
                    have hgw2 := grown_pre (W := x1) hg2
                    have HMB := Lib.hid ((HMA.out.app 1 rfl hgw2 ho2 hv2 (by simp)).erase 0)
                    have hq2 := cells_grown hgw2 (HMA.out.get 0 rfl).2.lt (Ne.symm (own_blk_ne (HMA.out.get 1 rfl) (HMA.out.get 0 rfl).2 (by decide))) hq.1 hq.2
                    clear ho2 hg2 hv2 hgw2
                    refine hK.out _ _ ?_ (fun hHeld => ?_)
                    · exact hq2
                    clear hK K
                    try simp only [Act.put, List.setIfInBounds_toArray, List.set_cons_zero, List.set_cons_succ]
                    refine take_l (i := 11) (v := ?_) rfl (by kernel_rfl) (by kernel_rfl) (by kernel_rfl) (fun _ _ _ h => h) (by rfl) ?_ hHeld ?_
                    rotate_left
                    · intro w hSw; (try dsimp only at hSw); go_simp; first | done | with_reducible rfl
                    try simp only [Act.put, List.setIfInBounds_toArray, List.set_cons_zero, List.set_cons_succ]
                    refine take_l (i := 12) (v := ?_) rfl (by kernel_rfl) (by kernel_rfl) (by kernel_rfl) (fun _ _ _ h => h) (by rfl) ?_ hHeld ?_
                    rotate_left
                    · intro w hSw; (try dsimp only at hSw); go_simp; first | done | with_reducible rfl
                    try simp only [Act.put, List.setIfInBounds_toArray, List.set_cons_zero, List.set_cons_succ]
                    refine take_l (i := 13) (v := ?_) rfl (by kernel_rfl) (by kernel_rfl) (by kernel_rfl) (fun _ _ _ h => h) (by rfl) ?_ hHeld ?_
                    rotate_left
                    · intro w hSw; (try dsimp only at hSw); go_simp; first | done | with_reducible rfl
                    try simp only [Act.put, List.setIfInBounds_toArray, List.set_cons_zero, List.set_cons_succ]
                    refine wpAnyH_done (by kernel_rfl) ?_ _
                    refine NoPanic.normal ?_
                    clear HMA HMQ HOS HOT hq hq2 b0 b1 bf hHeld
                    go_wp2
                    refine ⟨⟨t, l ++ [(y, ys)], rfl, htn, by simp, by simp; omega, ?_, ?_⟩, by simp [intOf]; omega⟩
                    · exact HW2.out
                    · show Mem w [_, _, _] _
                      rw [List.length_append, List.map_append, List.map_append]
                      exact HMB.out
                  · go_simp
                    refine hK.out _ _ ?_ (fun hHeld => ?_)
                    · exact cells_alloc trivial hHeld
                    clear hK K
                    try simp only [Act.put, List.setIfInBounds_toArray, List.set_cons_zero, List.set_cons_succ]
                    refine wpAnyH_ready (rs := [3]) (by kernel_rfl) (by simp) ?_
                    refine cons_l rfl (fun K hK => ?_) AllReadyH.nil
                    refine step_append_one rfl (.tmp 77) (.tmp 79) 33 rfl w.heap.size 3 i0 (.int .i64 0) 8 Try.underlying33 hi0 hz0 hz1 hz2 rfl (.slice As l.length cs) l.length (l.map fun a : Nat × Nat => I a.1) rfl (World.ownsRow.alloc (World.ownsRow.alloc HOS.out _) _) (u := I y) rfl ((Blk.new _ _ _).alloc _) (one_I y) (len_ok (by omega)) (by omega) (by first | (simp; done) | (simp; omega)) ?_
                    intro v1 x1 ho1 hg1 hv1
                    have hgw := grown_pre (W := wc) (grown_pre (grown_drew hg1))
                    have HMA := Lib.hid (HMQ.out.app 2 rfl hgw ho1 hv1 (by first | (simp; done) | (simp; omega)))
                    have HX1 := Lib.hid (show wc.heap.size ≤ x1.heap.size from hgw.size)
                    have HBB := Lib.hid ((blk_new_at (w := wc.alloc (.cells #[I y] 3)) (g := wc.heap.size + 1) (t := 39) (cs := #[U32 ys]) (by simp)).grown (grown_drew hg1) (fun e => by have := HLT.out _ e.symm; omega))
                    have hq := cells_grown hgw lgq (Ne.symm HNEq.out) b0 b1
                    clear ho1 hg1 hv1 hgw
                    refine hK.out _ _ ?_ (fun hHeld => ?_)
                    · exact hq
                    clear hK K
                    try simp only [Act.put, List.setIfInBounds_toArray, List.set_cons_zero, List.set_cons_succ]
                    refine wpAnyH_ready (rs := [8]) (by kernel_rfl) (by simp) ?_
                    refine cons_l rfl (fun K hK => ?_) AllReadyH.nil
                    refine step_append_one rfl (.tmp 81) (.tmp 84) 22 rfl w.heap.size 39 j0 (.int .u32 0) 4 Try.underlying22 hj0 hy0 hy1 hy2 rfl (.slice At l.length ct) l.length (l.map fun a : Nat × Nat => U32 a.2) rfl (HMA.out.get 1 rfl) (u := U32 ys) rfl (HBB.out) (one_U ys) (len_ok (by omega)) (by omega) (by have := HX1.out; first | (simp; done) | (simp; omega)) ?_
                    intro v2 x2 ho2 hg2 hv2
                    have hgw2 := hg2
                    have HMB := Lib.hid ((HMA.out.app 1 rfl hgw2 ho2 hv2 (by simp)).erase 0)
                    have hq2 := cells_grown hgw2 (HMA.out.get 0 rfl).2.lt (Ne.symm (own_blk_ne (HMA.out.get 1 rfl) (HMA.out.get 0 rfl).2 (by decide))) hq.1 hq.2
                    clear ho2 hg2 hv2 hgw2
                    refine hK.out _ _ ?_ (fun hHeld => ?_)
                    · exact hq2
                    clear hK K
                    try simp only [Act.put, List.setIfInBounds_toArray, List.set_cons_zero, List.set_cons_succ]
                    refine take_l (i := 11) (v := ?_) rfl (by kernel_rfl) (by kernel_rfl) (by kernel_rfl) (fun _ _ _ h => h) (by rfl) ?_ hHeld ?_
                    rotate_left
                    · intro w hSw; (try dsimp only at hSw); go_simp; first | done | with_reducible rfl
                    try simp only [Act.put, List.setIfInBounds_toArray, List.set_cons_zero, List.set_cons_succ]
                    refine take_l (i := 12) (v := ?_) rfl (by kernel_rfl) (by kernel_rfl) (by kernel_rfl) (fun _ _ _ h => h) (by rfl) ?_ hHeld ?_
                    rotate_left
                    · intro w hSw; (try dsimp only at hSw); go_simp; first | done | with_reducible rfl
                    try simp only [Act.put, List.setIfInBounds_toArray, List.set_cons_zero, List.set_cons_succ]
                    refine take_l (i := 13) (v := ?_) rfl (by kernel_rfl) (by kernel_rfl) (by kernel_rfl) (fun _ _ _ h => h) (by rfl) ?_ hHeld ?_
                    rotate_left
                    · intro w hSw; (try dsimp only at hSw); go_simp; first | done | with_reducible rfl
                    try simp only [Act.put, List.setIfInBounds_toArray, List.set_cons_zero, List.set_cons_succ]
                    refine wpAnyH_done (by kernel_rfl) ?_ _
                    refine NoPanic.normal ?_
                    clear HMA HMQ HOS HOT hq hq2 b0 b1 bf hHeld
                    go_wp2
                    refine ⟨⟨t, l ++ [(y, ys)], rfl, htn, by simp, by simp; omega, ?_, ?_⟩, by simp [intOf]; omega⟩
                    · exact HW2.out
                    · show Mem w [_, _, _] _
                      rw [List.length_append, List.map_append, List.map_append]
                      exact HMB.out
                · go_simp
                  refine hK.out _ _ ?_ (fun hHeld => ?_)
                  · exact cells_alloc trivial hHeld
                  clear hK K
                  try simp only [Act.put, List.setIfInBounds_toArray, List.set_cons_zero, List.set_cons_succ]
                  refine wpAnyH_ready (rs := [2]) (by kernel_rfl) (by simp) ?_
                  refine cons_l rfl (fun K hK => ?_) AllReadyH.nil
                  go_simp
                  refine hK.out _ _ ?_ (fun hHeld => ?_)
                  · exact cells_alloc trivial hHeld
                  clear hK K
                  try simp only [Act.put, List.setIfInBounds_toArray, List.set_cons_zero, List.set_cons_succ]
                  refine wpAnyH_ready (rs := [3]) (by kernel_rfl) (by simp) ?_
                  refine cons_l rfl (fun K hK => ?_) AllReadyH.nil
                  refine step_append_one rfl (.tmp 77) (.tmp 79) 33 rfl w.heap.size 3 i0 (.int .i64 0) 8 Try.underlying33 hi0 hz0 hz1 hz2 rfl (.slice As l.length cs) l.length (l.map fun a : Nat × Nat => I a.1) rfl (World.ownsRow.alloc (World.ownsRow.alloc HOS.out _) _) (u := I y) rfl (blk_new_at (by simp)) (one_I y) (len_ok (by omega)) (by omega) (by first | (simp; done) | (simp; omega)) ?_
                  intro v1 x1 ho1 hg1 hv1
                  have hgw := grown_pre (W := wc) (grown_pre (grown_drew hg1))
                  have HMA := Lib.hid (HMQ.out.app 2 rfl hgw ho1 hv1 (by first | (simp; done) | (simp; omega)))
                  have HX1 := Lib.hid (show wc.heap.size ≤ x1.heap.size from hgw.size)
                  have HBB := Lib.hid (((Blk.new wc 39 #[U32 ys]).alloc (.cells #[I y] 3)).grown (grown_drew hg1) (fun e => by have := HLT.out _ e.symm; omega))
                  have hq := cells_grown hgw lgq (Ne.symm HNEq.out) b0 b1
                  clear ho1 hg1 hv1 hgw
                  refine hK.out _ _ ?_ (fun hHeld => ?_)
                  · exact hq
                  clear hK K
                  try simp only [Act.put, List.setIfInBounds_toArray, List.set_cons_zero, List.set_cons_succ]
                  refine wpAnyH_ready (rs := [8]) (by kernel_rfl) (by simp) ?_
                  refine cons_l rfl (fun K hK => ?_) AllReadyH.nil
                  refine step_append_one rfl (.tmp 81) (.tmp 84) 22 rfl w.heap.size 39 j0 (.int .u32 0) 4 Try.underlying22 hj0 hy0 hy1 hy2 rfl (.slice At l.length ct) l.length (l.map fun a : Nat × Nat => U32 a.2) rfl (HMA.out.get 1 rfl) (u := U32 ys) rfl (HBB.out) (one_U ys) (len_ok (by omega)) (by omega) (by have := HX1.out; first | (simp; done) | (simp; omega)) ?_
                  intro v2 x2 ho2 hg2 hv2
                  have hgw2 := hg2
                  have HMB := Lib.hid ((HMA.out.app 1 rfl hgw2 ho2 hv2 (by simp)).erase 0)
                  have hq2 := cells_grown hgw2 (HMA.out.get 0 rfl).2.lt (Ne.symm (own_blk_ne (HMA.out.get 1 rfl) (HMA.out.get 0 rfl).2 (by decide))) hq.1 hq.2
                  clear ho2 hg2 hv2 hgw2
                  refine hK.out _ _ ?_ (fun hHeld => ?_)
                  · exact hq2
                  clear hK K
                  try simp only [Act.put, List.setIfInBounds_toArray, List.set_cons_zero, List.set_cons_succ]
                  refine take_l (i := 11) (v := ?_) rfl (by kernel_rfl) (by kernel_rfl) (by kernel_rfl) (fun _ _ _ h => h) (by rfl) ?_ hHeld ?_
                  rotate_left
                  · intro w hSw; (try dsimp only at hSw); go_simp; first | done | with_reducible rfl
                  try simp only [Act.put, List.setIfInBounds_toArray, List.set_cons_zero, List.set_cons_succ]
                  refine take_l (i := 12) (v := ?_) rfl (by kernel_rfl) (by kernel_rfl) (by kernel_rfl) (fun _ _ _ h => h) (by rfl) ?_ hHeld ?_
                  rotate_left
                  · intro w hSw; (try dsimp only at hSw); go_simp; first | done | with_reducible rfl
                  try simp only [Act.put, List.setIfInBounds_toArray, List.set_cons_zero, List.set_cons_succ]
                  refine take_l (i := 13) (v := ?_) rfl (by kernel_rfl) (by kernel_rfl) (by kernel_rfl) (fun _ _ _ h => h) (by rfl) ?_ hHeld ?_
                  rotate_left
                  · intro w hSw; (try dsimp only at hSw); go_simp; first | done | with_reducible rfl
                  try simp only [Act.put, List.setIfInBounds_toArray, List.set_cons_zero, List.set_cons_succ]
                  refine wpAnyH_done (by kernel_rfl) ?_ _
                  refine NoPanic.normal ?_
                  clear HMA HMQ HOS HOT hq hq2 b0 b1 bf hHeld
                  go_wp2
                  refine ⟨⟨t, l ++ [(y, ys)], rfl, htn, by simp, by simp; omega, ?_, ?_⟩, by simp [intOf]; omega⟩
                  · exact HW2.out
                  · show Mem w [_, _, _] _
                    rw [List.length_append, List.map_append, List.map_append]
                    exact HMB.out
          · rw [hs] at cS
            clear hM hs
            go_wp2_with fail
            go_meet
            exact ⟨y, l, rfl, hyn, by omega, HWAY.out, HM.out⟩
        · clear hM hway
          have t1 : decide ((l.length : Int) < (Cs.length : Int)) = false := decide_eq_false (by omega)
          have t1' : decide (l.length < Cs.length) = false := decide_eq_false hlt
          go_wp2_with fail
          go_meet
          exact ⟨y, l, rfl, hyn, by omega, HWAY.out, HM.out⟩
    case rest =>
      obtain ⟨y, l, rfl, hyn, hl200, hway, hM⟩ := hcut
      have HWAY := Lib.hid hway
      have HM := Lib.hid hM
      obtain ⟨At, ct, hvt⟩ := own_sl (hM.get 0 rfl)
      obtain ⟨As, cs, hvs⟩ := own_sl (hM.get 1 rfl)
      subst hvt hvs
      obtain ⟨p0, p1, pf⟩ := blk2 (hM.get 2 rfl).2
      clear hM hway HMA
      go_wp2_with fail
      refine (fcore_ok E L _ HE.out HL.out HOK.out S HSL.out (some sd) c _ (HS.out.go HM.out.bel) (SR.out.go HM.out.bel)).mono ?_
      rintro e w3 ⟨g, f, rfl, hg, bm, hf, hb3⟩
      have hM3 := HM.out.pushBlk hb3 hg bm
      have HM3 := Lib.hid hM3
      have HF := Lib.hid hf
      have HSYS := Lib.hid (sys_of HE.out HOK.out HSL.out)
      have HLW := Lib.hid (show ∀ x, ∀ a ∈ L.getD x [], a.1 < 4294967296 from fun x a ha => by
        by_cases hx : x < L.length
        · rw [getD_l [] hx] at ha
          obtain ⟨i, hi, rfl⟩ := List.getElem_of_mem ha
          exact (HL.out x hx).2 i hi
        · rw [List.getD_eq_getElem?_getD, List.getElem?_eq_none (by omega)] at ha
          cases ha)
      have HOK7 := Lib.hid (Way.ok7 HWAY.out HLL.out HLW.out)
      have y0 : (0 : Int) ≤ (y : Int) := by omega
      have y1 : (y : Int) < (S.length : Int) := by omega
      have y2 : (y : Int) < (L.length : Int) := by have := HLL.out; omega
      have hyL : y < L.length := by have := HLL.out; omega
      obtain ⟨sd', hA, hbl, cS⟩ := bool_at (SR.out.below hM3.bel) hyn
      obtain rfl : sd = sd' := by injection hA
      rw [← isIn_of hyn] at cS
      obtain ⟨aL, Ak, ck, hAL, hbla, cr, rk⟩ := row_at (RA.out.below hM3.bel) (fun k l hl => let ⟨u, hu, ha⟩ := HK.out k l hl; (⟨u, hu, ha.below hM3.bel⟩ : ∃ u, rows[k]? = some u ∧ ArcsAt w3 w.heap.size u l)) hyL
      obtain rfl : aa = aL := by injection hAL
      have htl := PlG.tg_len L y hyL
      have HTL := Lib.hid htl
      have hll := (HL.out y hyL).1
      clear p0 p1 pf hb3 bm hf hA hAL rk htl HM
      obtain ⟨p0, p1, pf⟩ := blk2 (hM3.get 3 rfl).2
      generalize L[y] = r at *
      clear hM3
      go_upto_region 16 with fail
      go_cut [120] (fun b wx => b = .bool (decide (0 < l.length) && (!isIn S y && decide (r.length = 0))) ∧ w3 = wx)
      case first =>
        by_cases h1 : 0 < l.length
        · have u1 : decide ((0 : Int) < (l.length : Int)) = true := decide_eq_true (by omega)
          have u1' : decide (0 < l.length) = true := decide_eq_true h1
          have HU1 := Lib.hid u1'
          cases hs : isIn S y
          · rw [hs] at cS
            have HSY := Lib.hid hs
            by_cases h2 : r.length = 0
            · have u2 : ((r.length : Int) == 0) = true := by rw [h2]; rfl
              have u3 : decide (r.length = 0) = true := decide_eq_true h2
              have H3 := Lib.hid u3
              clear hs h2 u3
              go_wp2_with fail
              go_meet
              exact ⟨by rw [HU1.out, HSY.out, H3.out]; rfl, rfl⟩
            · have u2 : ((r.length : Int) == 0) = false := beq_eq_false_iff_ne.2 (by omega)
              have u3 : decide (r.length = 0) = false := decide_eq_false h2
              have H3 := Lib.hid u3
              clear hs h2 u3
              go_wp2_with fail
              go_meet
              exact ⟨by rw [HU1.out, HSY.out, H3.out]; rfl, rfl⟩
          · rw [hs] at cS
            have HSY := Lib.hid hs
            clear hs
            go_wp2_with fail
            go_meet
            exact ⟨by rw [HU1.out, HSY.out]; rfl, rfl⟩
        · have u1 : decide ((0 : Int) < (l.length : Int)) = false := decide_eq_false (by omega)
          have u1' : decide (0 < l.length) = false := decide_eq_false h1
          have HU1 := Lib.hid u1'
          go_wp2_with fail
          go_meet
          exact ⟨by rw [HU1.out]; rfl, rfl⟩
      case rest =>
        obtain ⟨hcu, hcw⟩ := hcut
        subst hcu hcw
        by_cases hT : 0 < l.length ∧ isIn S y = false ∧ r.length = 0
        · obtain ⟨h1, h2, h3⟩ := hT
          have tt : (decide (0 < l.length) && (!isIn S y && decide (r.length = 0))) = true := by rw [decide_eq_true h1, h2, decide_eq_true h3]; rfl
          obtain ⟨fy, fx⟩ := HWAY.out.core HSYS.out h2 hyn h1 (.inl (List.eq_nil_of_length_eq_zero (HTL.out.trans h3)))
          have my := (HF.out y hyn).2 fy
          have mx := (HF.out x0 hx0n).2 fx
          have HX0 := Lib.hid (show l[0]? = some l[0] from List.getElem?_eq_getElem h1)
          have HX1 := Lib.hid (HWAY.out.fst h1)
          have HMY := Lib.hid my
          have HMX := Lib.hid mx
          rw [tt]
          clear tt h2 h3 fy fx my mx p0 p1 pf cS cr
          go_wp2_with fail
          refine (awake_any _).mono ?_
          rintro e w4 ⟨rfl, hb4⟩
          have hM4 := HM3.out.below hb4
          obtain ⟨gs, cs', hfs, -, -⟩ := World.ownsRow.form (hM4.get 2 rfl) h1
          injection hfs with hfs _ hcs
          subst hfs hcs
          have c1 := own_get (hM4.get 2 rfl) HX0.out
          rw [HX1.out] at c1
          have c1' : w4.cell? ⟨gs, 0, none⟩ = some (.int .i64 (x0 : Int)) := c1
          have c2 := mark_at (hM4.get 0 rfl).2 hyn
          have c3 := mark_at (hM4.get 0 rfl).2 hx0n
          rw [HMY.out] at c2
          rw [HMX.out] at c3
          have HFF := Lib.hid hM4.bel
          have x2 : (0 : Int) ≤ (x0 : Int) := by omega
          have x3 : (x0 : Int) < (S.length : Int) := by omega
          clear hM4 hb4 c1
          go_wp2
          go_ret
          exact ⟨rfl, HFF.out⟩
        · have tt : (decide (0 < l.length) && (!isIn S y && decide (r.length = 0))) = false := by
            cases ha : decide (0 < l.length)
            · rfl
            · cases hb : isIn S y
              · cases hc : decide (r.length = 0)
                · rfl
                · exact absurd ⟨of_decide_eq_true ha, hb, of_decide_eq_true hc⟩ hT
              · rfl
          rw [tt]
          clear tt hT p0 p1 pf cr cS
          have HM := Lib.hid HM3.out
          go_wp2_with fail
          go_loopg [17] l.length (SvC w #[.slice Ae E.length ce, .slice (some aa) L.length ca] g S.length f (.slice As l.length cs) (.slice At l.length ct) l)
          case atStart =>
            refine ⟨Nat.le_refl _, ?_, HM.out⟩
            rcases Nat.eq_zero_or_pos l.length with h | h
            · exact .inl ⟨h, by rw [h]; rfl⟩
            · exact .inr ⟨l.length - 1, by omega, by rw [show ((l.length - 1 : Nat) : Int) = (l.length : Int) - 1 by omega]⟩
          case round =>
            clear HM HM3
            obtain ⟨hle, hcase, hM⟩ := hrel
            have HM := Lib.hid hM
            rcases hcase with ⟨rfl, rfl⟩ | ⟨k, rfl, rfl⟩
            · clear hM
              go_wp2_with fail
              refine (awake_any _).mono ?_
              rintro e w4 ⟨rfl, hb4⟩
              have HFF := Lib.hid (HM.out.below hb4).bel
              clear hb4
              go_wp2
              go_ret
              exact ⟨rfl, HFF.out⟩
            · have hkl : k < l.length := by omega
              obtain ⟨gs, cs', hfs, -, -⟩ := World.ownsRow.form (hM.get 2 rfl) (by omega)
              injection hfs with hfs _ hcs
              subst hfs hcs
              have hlk : l[k]? = some l[k] := List.getElem?_eq_getElem hkl
              have c1 := own_get (hM.get 2 rfl) hlk
              have c1' : wr.cell? ⟨gs, k, none⟩ = some (.int .i64 (l[k].1 : Int)) := c1
              clear c1
              obtain ⟨sd', hA, hbl, cS⟩ := bool_at (SR.out.below hM.bel) hyn
              obtain rfl : sd = sd' := by injection hA
              rw [← isIn_of hyn] at cS
              have k0 : (0 : Int) ≤ (k : Int) := by omega
              have k1 : (k : Int) < (l.length : Int) := by omega
              by_cases hay : l[k].1 = y
              · have u1 : (((l[k].1 : Nat) : Int) != (y : Int)) = false := by rw [hay]; simp
                have u1' : (l[k].1 != y) = false := by rw [hay]; simp
                cases hs : isIn S y
                · rw [hs] at cS
                  have HSY := Lib.hid hs
                  have HAY := Lib.hid hay
                  have hsl : ∀ j, (l.getD j (0, 0)).2 < 4294967296 := fun j => by
                    by_cases hj : j < l.length
                    · rw [getD_l (0, 0) hj]; exact (HOK7.out j hj).2
                    · rw [List.getD_eq_getElem?_getD, List.getElem?_eq_none (by omega)]; exact (by decide : 0 < 4294967296)
                  have HSLT := Lib.hid (fun d => srvF_lt (E := E) hsl k d)
                  rw [hay] at c1'
                  have v1 : ((y : Int) != (y : Int)) = false := by simp
                  clear hM hs hay hsl hA hlk u1 u1'
                  go_wp2_with fail
                  go_loopg [18, 19] (l.length - k) (SvD w #[.slice Ae E.length ce, .slice (some aa) L.length ca] g S.length f (.slice (some ⟨gs, 0, none⟩) l.length cs) (.slice At l.length ct) l E k)
                  case atStart => exact ⟨0, rfl, by omega, rfl, rfl, HM.out⟩
                  case round =>
                    clear HM c1' cS
                    obtain ⟨d, hgh, hdl, rfl, rfl, hM⟩ := hrel
                    have HM := Lib.hid hM
                    by_cases hlt : k + d < l.length
                    · have hlk : l[k + d]? = some l[k + d] := List.getElem?_eq_getElem hlt
                      have c1 := own_get (hM.get 2 rfl) hlk
                      have c1' : wr.cell? ⟨gs, k + d, none⟩ = some (.int .i64 (l[k + d].1 : Int)) := c1
                      obtain ⟨gt, ct', hft, -, -⟩ := World.ownsRow.form (hM.get 1 rfl) (by omega)
                      injection hft with hft _ hct
                      subst hft hct
                      have c2 := own_get (hM.get 1 rfl) hlk
                      have c2' : wr.cell? ⟨gt, k + d, none⟩ = some (.int .u32 (l[k + d].2 : Int)) := c2
                      clear c1 c2
                      obtain ⟨hx1, hx2⟩ := HOK7.out (k + d) hlt
                      have HSS := Lib.hid (show srvF E l k (d + 1) = srvF E l k d ||| ((4294967295 - E.getD l[k + d].1 0) ||| l[k + d].2) by rw [srvF, getD_l (0, 0) hlt])
                      have hsv := HSLT.out d
                      generalize l[k + d] = a at *
                      obtain ⟨xa, xs⟩ := a
                      dsimp only at c1' c2' hx1 hx2 HSS
                      have hxE : xa < E.length := by have := HSL.out; omega
                      have hek := HE.out xa hxE
                      obtain ⟨aE, hAE, hble, ce0⟩ := set_at (RE.out.below hM.bel) hxE
                      subst hAE
                      rw [getD_l 0 hxE] at HSS
                      obtain ⟨p0, p1, pf⟩ := blk2 (hM.get 3 rfl).2
                      generalize E[xa] = e at *
                      have hnx := not32 hek
                      have ho1 := u32_or_nat (4294967295 - e) xs (by omega) hx2
                      have ho2 := u32_or_nat (srvF E l k d) ((4294967295 - e) ||| xs) hsv (Nat.or_lt_two_pow (n := 32) (show 4294967295 - e < 4294967296 by omega) hx2)
                      generalize srvF E l k d = sv at *
                      have x0' : (0 : Int) ≤ (xa : Int) := by omega
                      have x1' : (xa : Int) < (E.length : Int) := by omega
                      have d0 : (0 : Int) ≤ ((k + d : Nat) : Int) := by omega
                      have d1 : ((k + d : Nat) : Int) < (l.length : Int) := by omega
                      have d2 : decide (((k + d : Nat) : Int) < (l.length : Int)) = true := decide_eq_true (by omega)
                      have d3 : decide (k + d < l.length) = true := decide_eq_true hlt
                      clear hM hlk
                      have HNX := Lib.hid hnx
                      have HO1 := Lib.hid ho1
                      have HO2 := Lib.hid ho2
                      clear hnx ho1 ho2
                      go_upto_region 26 with fail
                      go_quiet (fail)
                      go_wp2
                      go_roundg (l.length - (k + (d + 1)))
                      case measure => omega
                      case rel =>
                        refine ⟨d + 1, rfl, by omega, by go_num, ?_, HM.out.drewN _⟩
                        rw [HSS.out, ← HO2.out, ← HO1.out, ← HNX.out]
                        rfl
                    · have hke : k + d = l.length := by omega
                      have d2 : decide (((k + d : Nat) : Int) < (l.length : Int)) = false := decide_eq_false (by omega)
                      have d3 : decide (k + d < l.length) = false := decide_eq_false hlt
                      have hmask := all_mask7 (srvF E l k d) (HSLT.out d)
                      have HSV := Lib.hid (fun (h : PlT.allTo (srvF E l k d) 24 = true) v (hv : v < 24) => srvF_bit (E := E) (l := l) (i := k) (d := d) HSYS.out.1 (show v < 32 by omega) ((PlT.allTo_iff _ _).1 h v hv))
                      cases hb : PlT.allTo (srvF E l k d) 24
                      · rw [hb] at hmask
                        generalize srvF E l k d = sv at *
                        clear hM hb HSV
                        go_wp2_with (first | (go_at_call 19; refine (all24 _).mono ?_; rintro e w' ⟨rfl, rfl⟩))
                        go_roundg k
                        case measure => omega
                        case rel =>
                          refine ⟨by omega, ?_, HM.out⟩
                          rcases k with _ | k
                          · exact .inl ⟨rfl, rfl⟩
                          · exact .inr ⟨k, rfl, by go_num⟩
                      · have hkept := HWAY.out.kept HSYS.out HSY.out hkl HAY.out (fun v hv => by
                          obtain ⟨j, hj, h1⟩ := HSV.out hb v hv
                          have hjl : k + j < l.length := by omega
                          rw [getD_l (0, 0) hjl] at h1
                          exact ⟨k + j, hjl, by omega, h1⟩)
                        have h1 : 0 < l.length := by omega
                        obtain ⟨fy, fx⟩ := HWAY.out.core HSYS.out HSY.out hyn h1 (.inr hkept)
                        have my := (HF.out y hyn).2 fy
                        have mx := (HF.out x0 hx0n).2 fx
                        have HX0 := Lib.hid (show l[0]? = some l[0] from List.getElem?_eq_getElem h1)
                        have HX1 := Lib.hid (HWAY.out.fst h1)
                        have HMY := Lib.hid my
                        have HMX := Lib.hid mx
                        rw [hb] at hmask
                        generalize srvF E l k d = sv at *
                        clear hM hb HSV fy fx my mx hkept
                        go_wp2_with (first | (go_at_call 19; refine (all24 _).mono ?_; rintro e w' ⟨rfl, rfl⟩))
                        refine (awake_any _).mono ?_
                        rintro e w4 ⟨rfl, hb4⟩
                        have hM4 := HM.out.below hb4
                        have c1 := own_get (hM4.get 2 rfl) HX0.out
                        rw [HX1.out] at c1
                        have c1' : w4.cell? ⟨gs, 0, none⟩ = some (.int .i64 (x0 : Int)) := c1
                        have c2 := mark_at (hM4.get 0 rfl).2 hyn
                        have c3 := mark_at (hM4.get 0 rfl).2 hx0n
                        rw [HMY.out] at c2
                        rw [HMX.out] at c3
                        have HFF := Lib.hid hM4.bel
                        have x2 : (0 : Int) ≤ (x0 : Int) := by omega
                        have x3 : (x0 : Int) < (S.length : Int) := by omega
                        clear hM4 hb4 c1
                        go_wp2
                        go_ret
                        exact ⟨rfl, HFF.out⟩
                · rw [hs] at cS
                  clear hM hs hA hlk
                  go_wp2
                  go_roundg k
                  case measure => omega
                  case rel =>
                    refine ⟨by omega, ?_, HM.out⟩
                    rcases k with _ | k
                    · exact .inl ⟨rfl, rfl⟩
                    · exact .inr ⟨k, rfl, by go_num⟩
              · have u1 : (((l[k].1 : Nat) : Int) != (y : Int)) = true := by rw [bne_iff_ne]; omega
                have u1' : (l[k].1 != y) = true := by rw [bne_iff_ne]; exact hay
                clear hM hA hlk hay
                go_wp2
                go_roundg k
                case measure => omega
                case rel =>
                  refine ⟨by omega, ?_, HM.out⟩
                  rcases k with _ | k
                  · exact .inl ⟨rfl, rfl⟩
                  · exact .inr ⟨k, rfl, by go_num⟩
  · have HFA := Lib.hid hg
    cases h1 : fairB E L S.length
    · have H1 := Lib.hid h1
      clear h1 hg
      go_enter Try.func6, Try.ntmps6
      go_wp2_with fail
      refine (fair_is E L _ HE.out HV.out A S.length c false H1.out _ (HS.out.go HB0.out)).mono ?_
      rintro e w1 ⟨rfl, hb1⟩
      have HB1 := Lib.hid (below_end hb1 HB0.out)
      clear hb1
      go_wp2_with fail
      refine (awake_any _).mono ?_
      rintro e w2 ⟨rfl, hb2⟩
      go_wp2
      go_ret
      exact ⟨rfl, below_end hb2 HB1.out⟩
    · have H1 := Lib.hid h1
      have hC : ¬ Cs.length ≤ 200 := fun h => hg ⟨h1, h⟩
      have t1 : decide ((200 : Int) < (Cs.length : Int)) = true := decide_eq_true (by omega)
      have t1' : decide (200 < Cs.length) = true := decide_eq_true (by omega)
      clear h1 hg hC
      go_enter Try.func6, Try.ntmps6
      go_wp2_with fail
      refine (fair_is E L _ HE.out HV.out A S.length c true H1.out _ (HS.out.go HB0.out)).mono ?_
      rintro e w1 ⟨rfl, hb1⟩
      have HB1 := Lib.hid (below_end hb1 HB0.out)
      clear hb1
      go_wp2_with fail
      refine (awake_any _).mono ?_
      rintro e w2 ⟨rfl, hb2⟩
      go_wp2
      go_ret
      exact ⟨rfl, below_end hb2 HB1.out⟩
end Go.Proofs.Ytnjbofahboopoaa
