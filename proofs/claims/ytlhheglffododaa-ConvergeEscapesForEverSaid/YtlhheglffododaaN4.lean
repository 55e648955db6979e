/- The walk of ConvergeByRandomWalks. -/
import Derived.Test.YtlhheglffododaaC11
import Derived.Test.YtlhheglffododaaN4a
namespace Go.Proofs.Ytlhheglffododaa
open Go.RowKit

theorem bool_zero {w w' : World} {A : Option Addr} {zs : List Int} {k : Nat} (h : Reads w w.heap.size 1 A zs.length (zs.map fun z : Int => Value.int .u8 z)) (hb : Below w.heap.size w w') (hk : k < zs.length) :
    ∃ ad, A = some ad ∧ ad.block < w.heap.size ∧ w'.cell? (ad.add k) = some (.int .u8 zs[k]) := by
  obtain ⟨ad, e, hbl, hc⟩ := h.2 (by omega)
  refine ⟨ad, e, hbl, ?_⟩
  rw [hb.cell (by rw [block_of_add]; exact hbl)]
  exact hc k _ (by rw [List.getElem?_map, List.getElem?_eq_getElem hk]; rfl)
theorem u8_wf {x : Int} (h : (Lit.int .u8 x).wf = true) : 0 ≤ x ∧ x < 256 := by
  simp [Lit.wf, IntKind.min, IntKind.max, IntKind.signed, IntKind.bits] at h
  exact ⟨by omega, by omega⟩
/-- where the rows of a system lie, in a later world -/
theorem rows_at {w w' : World} {ve : Value} {Aa : Option Addr} {ca : Nat} {E : List Nat} {L : List (List Arc)} (h : SpaceAt w w.heap.size (.agg #[ve, .slice Aa L.length ca]) E L) (hb : Below w.heap.size w w') :
    ∃ rows, Reads w' w'.heap.size 1 Aa L.length rows ∧ ∀ (k : Nat) l, L[k]? = some l → ∃ u, rows[k]? = some u ∧ ArcsAt w' w'.heap.size u l := by
  obtain ⟨ve', va', hve, -, ⟨Aa', ca', rows', hva, ra, hk⟩⟩ := h.go hb
  injection hve with hve
  have := Array.toList_inj.2 hve
  simp only [List.cons.injEq, and_true] at this
  rw [← this.2] at hva
  injection hva with q1 _ q3
  subst q1 q3
  exact ⟨rows', ra, hk⟩
/-- what every execution from a state of the attractor does: a rank falls -/
theorem att_rank {n : Nat} {G : Nat → List Nat} {S f : Nat → Bool} (h : IsAtt n G S f) (hT : ∀ k t, t ∈ G k → t < n) :
    ∃ r : Nat → Nat, ∀ k, k < n → f k = true → r k < n ∧ (S k = true ∨ (G k ≠ [] ∧ ∀ t, t ∈ G k → t < n ∧ f t = true ∧ r t < r k)) := by
  have h0 := h
  obtain ⟨O, hO, hf⟩ := h
  obtain ⟨r, hr⟩ := hO.rank
  refine ⟨r, fun k hk hfk => ?_⟩
  obtain ⟨h1, h2⟩ := hr k hk ((h0.iff k hk).1 hfk)
  refine ⟨h1, ?_⟩
  rcases h2 with h2 | ⟨h2, h3⟩
  · exact .inl h2
  · rcases ((h0.iff k hk).1 hfk).cases with h4 | ⟨_, h4⟩
    · exact .inl h4
    · exact .inr ⟨h2, fun t ht => ⟨hT k t ht, (h0.iff t (hT k t ht)).2 (h4 t ht), h3 t ht⟩⟩

set_option maxRecDepth 100000 in
set_option maxHeartbeats 2000000 in
theorem walks_law (w : World) (E : List Nat) (L : List (List Arc)) (v : Value) (hE : WfE E) (hV : WfV L) (hS : SpaceAt w w.heap.size v E L) (S : List Bool) (A : Option Addr) (c : Nat) (_hm : S.length ≤ 9223372036854775807)
    (hSr : Reads w w.heap.size 1 A S.length (S.map Value.bool)) (from_ : Int) (hfr : -9223372036854775808 ≤ from_ ∧ from_ ≤ 9223372036854775807) (zs : List Int) (A2 : Option Addr) (c2 : Nat) (hm2 : zs.length ≤ 9223372036854775807) (hZr : Reads w w.heap.size 1 A2 zs.length (zs.map fun z : Int => Value.int .u8 z)) (hzw : ∀ z ∈ zs, (Lit.int .u8 z).wf = true) :
    Calls Try.prog 6 #[v, .slice A S.length c, .int .i64 from_, .slice A2 zs.length c2] w fun e w' => e = .returned (.bool true) ∧ Below w.heap.size w w' := by
  have HS := Lib.hid hS
  obtain ⟨ve, va, rfl, ⟨Ae, ce, rfl, re⟩, ⟨Aa, ca, rows, rfl, ra, hk⟩⟩ := hS
  have HE := Lib.hid hE
  have HV := Lib.hid hV
  have SR := Lib.hid hSr
  have ZR := Lib.hid hZr
  have HZW := Lib.hid hzw
  clear re ra hk hE hV hSr hZr hzw
  have hb0 := (Below.refl w.heap.size w).alloc (Nat.le_refl _) (.cells #[.slice Ae E.length ce, .slice Aa L.length ca] 25)
  have HB0 := Lib.hid hb0
  clear hb0
  cases h1 : fairB E L S.length
  · have H1 := Lib.hid h1
    clear h1
    go_enter Try.func6, Try.ntmps6
    go_wp2_with fail
    refine (fair_is E L _ HE.out HV.out A S.length c false H1.out _ (HS.out.go HB0.out)).mono ?_
    rintro e w1 ⟨rfl, hb1⟩
    have HB1 := Lib.hid (below_end hb1 HB0.out)
    clear hb1
    go_wp2_with fail
    refine (awake_any _).mono ?_
    rintro e w2 ⟨rfl, hb2⟩
    go_wp2
    go_ret
    exact ⟨rfl, below_end hb2 HB1.out⟩
  · obtain ⟨f1, f2, f3⟩ := fair_parts h1
    have HL := Lib.hid (wfl_light HV.out f1)
    have HOK := Lib.hid f2
    have HSL := Lib.hid f3
    have H1 := Lib.hid h1
    have hn : S.length ≤ 200 := by have := (light_parts f1).1; omega
    have HSLL := Lib.hid (show S.length = L.length by have := (PlG.ok_parts f2).2.2.1; omega)
    clear f1 f2 f3 h1
    go_enter Try.func6, Try.ntmps6
    go_wp2_with fail
    refine (fair_is E L _ HE.out HV.out A S.length c true H1.out _ (HS.out.go HB0.out)).mono ?_
    rintro e w1 ⟨rfl, hb1⟩
    have HB1 := Lib.hid (below_end hb1 HB0.out)
    have bs := (Blk.new w 25 #[.slice Ae E.length ce, .slice Aa L.length ca]).below hb1 (by simp)
    obtain ⟨p0, p1, pf⟩ := blk2 bs
    clear hb1
    go_wp2_with fail
    refine (attr_ok E L _ HE.out HL.out HOK.out S HSL.out A c _ (HS.out.go HB1.out) (SR.out.go HB1.out)).mono ?_
    rintro e w2 ⟨g, f, rfl, hg, bm, hf, hb2⟩
    have HB2 := Lib.hid (below_end hb2 HB1.out)
    have bs2 := bs.below hb2 bs.lt
    have HF := Lib.hid hf
    have HT := Lib.hid (fun k t ht => (show t < L.length by have := PlG.tg_lt HOK.out k t ht; have := HSLL.out; have := HSL.out; omega))
    obtain ⟨r, hr⟩ := att_rank hf HT.out
    have HR := Lib.hid hr
    have BM := Lib.hid bm
    obtain ⟨rows', ra', hk'⟩ := rows_at HS.out HB2.out
    have RA := Lib.hid ra'
    have HK := Lib.hid hk'
    have hpos : 0 < S.length := by have := (PlG.ok_parts HOK.out).1; have := HSL.out; omega
    clear hb2 p0 p1 pf bs hf hg bm hr ra' hk'
    obtain ⟨p0, p1, pf⟩ := blk2 bs2
    go_wp2_with fail
    refine (mod_any from_ S.length hfr (by omega) (by omega) _).mono ?_
    rintro e w3 ⟨rfl, rfl⟩
    have x1 := Int.emod_nonneg from_ (show (S.length : Int) ≠ 0 by omega)
    have x2 := Int.emod_lt_of_pos from_ (show (0 : Int) < S.length by omega)
    obtain ⟨x0, hx0⟩ : ∃ x0 : Nat, from_ % (S.length : Int) = x0 := ⟨(from_ % (S.length : Int)).toNat, by omega⟩
    rw [hx0] at x1 x2 ⊢
    have hx0s : x0 < S.length := by omega
    have hx0L : x0 < L.length := by have := HSLL.out; omega
    clear hx0
    have m1 := mark_at BM.out hx0s
    cases hfx : f x0
    · rw [hfx] at m1
      have hsx : S[x0] = false := by
        cases h : S[x0]
        · rfl
        · rw [(HF.out.iff x0 hx0L).2 (.base (by rw [isIn_of hx0s]; exact h))] at hfx; cases hfx
      clear hfx
      go_wp2_with fail
      refine (awake_any _).mono ?_
      rintro e w4 ⟨rfl, hb4⟩
      have HB4 := Lib.hid (below_end hb4 HB2.out)
      obtain ⟨sd, rfl, hbl, m3⟩ := bool_at (SR.out.below HB4.out) hx0s
      rw [hsx] at m3
      clear hb4 m1 p0 p1 pf hsx
      go_wp2
      go_ret
      exact ⟨rfl, HB4.out⟩
    · rw [hfx] at m1
      have hrx0 := (HR.out x0 hx0L hfx).1
      go_wp2_with fail
      go_loopw [11, 12, 13] (fun a s i wr => ∃ k x n d : Nat, k ≤ zs.length ∧ i = .int .i64 k ∧ a = .int .i64 x ∧ s = .int .i64 n ∧ x < S.length ∧ f x = true ∧ n + r x ≤ r x0 ∧ wr = w2.drewN d) (fun _ _ i _ => zs.length - (intOf i).toNat)
      case atStart => exact ⟨0, x0, 0, 0, Nat.zero_le _, rfl, rfl, rfl, hx0s, hfx, by omega, rfl⟩
      case round =>
        clear m1 hfx
        obtain ⟨k, x, n, d, hk, rfl, rfl, rfl, hxs, hfx, hn, rfl⟩ := hrel
        have hxL : x < L.length := by have := HSLL.out; omega
        obtain ⟨hrx, hst⟩ := HR.out x hxL hfx
        rw [isIn_of hxs] at hst
        have HFX := Lib.hid hfx
        have HST := Lib.hid hst
        clear hfx hst
        obtain ⟨sd, rfl, hbl, m3⟩ := bool_at (SR.out.below HB2.out) hxs
        have hn1 : n ≤ 1000 := by have := HSLL.out; omega
        have xx0 : (0 : Int) ≤ (x : Int) := by omega
        have xx1 : (x : Int) < (S.length : Int) := by omega
        have xx2 : (x : Int) < (L.length : Int) := by omega
        by_cases hlt : k < zs.length
        · cases hsx : S[x]
          · rw [hsx] at m3 HST
            clear hsx
            rcases HST.out with h | ⟨hne, hall⟩
            · cases h
            have HALL := Lib.hid hall
            clear hall HST
            obtain ⟨zd, rfl, hblz, m4⟩ := bool_zero ZR.out HB2.out hlt
            have hz := u8_wf (HZW.out zs[k] (List.getElem_mem _))
            obtain ⟨ad, Ak, ck, rfl, hbla, cr, rk⟩ := row_at RA.out HK.out hxL
            have hll := (light_parts (fair_parts H1.out).1).2.2.2 x hxL
            have hlen := PlG.tg_len L x hxL
            have hlp : 0 < L[x].length := by rw [← hlen]; exact List.length_pos_iff.2 hne
            have HTG := Lib.hid (PlG.tg_get L x · hxL)
            have HTO := Lib.hid ((PlG.ok_parts HOK.out).2.2.2 x hxL)
            generalize L[x] = l at *
            generalize zs[k] = z at *
            obtain ⟨z, rfl⟩ : ∃ y : Nat, z = (y : Int) := ⟨z.toNat, by omega⟩
            have hzl : z % l.length < l.length := Nat.mod_lt _ hlp
            obtain ⟨ad2, rfl, hbl3, c0, c1⟩ := arc_at rk hzl
            have hx' := HTO.out l[z % l.length] (List.getElem_mem _)
            have htg := HTG.out (z % l.length) hzl
            generalize l[z % l.length] = y at *
            obtain ⟨ys, yt⟩ := y
            dsimp only at c0 c1 hx' htg
            obtain ⟨t, rfl⟩ : ∃ t : Nat, yt = (t : Int) := ⟨yt.toNat, by omega⟩
            rw [Int.toNat_natCast] at htg
            obtain ⟨ht1, ht2, ht3⟩ := HALL.out t (List.mem_of_getElem? htg)
            have hts : t < S.length := by have := HSLL.out; omega
            have m5 := mark_at BM.out hts
            rw [ht2] at m5
            have HT2 := Lib.hid ht2
            have k0 : (0 : Int) ≤ (k : Int) := by omega
            have k1 : (k : Int) < (zs.length : Int) := by omega
            have l0 : ((l.length : Int) == 0) = false := beq_eq_false_iff_ne.2 (by omega)
            have z1 := IntWalk.i64_in (z : Int) (by omega)
            have z2 : ((z : Int)).tmod (l.length : Int) = ((z % l.length : Nat) : Int) := by rw [Int.tmod_eq_emod_of_nonneg (by omega)]; simp
            have t0 : (0 : Int) ≤ (t : Int) := by omega
            have t1 : (t : Int) < (S.length : Int) := by omega
            clear hx' htg ht2 hne hlen rk
            have z3 := IntWalk.i64_in ((z % l.length : Nat) : Int) (by omega)
            have z4 : (0 : Int) ≤ ((z % l.length : Nat) : Int) := by omega
            have z5 : ((z % l.length : Nat) : Int) < (l.length : Int) := by omega
            generalize z % l.length = u at *
            go_wp2_with fail
            go_quiet (fail)
            go_wp2
            refine ⟨⟨k + 1, t, n + 1, d + nq, by omega, by go_num, rfl, by go_num, hts, HT2.out, by omega, by first | rfl | rw [World.drewN_drewN]⟩, by simp [intOf]; omega⟩
          · rw [hsx] at m3
            clear hsx
            go_wp2_with fail
            refine (awake_any _).mono ?_
            rintro e w4 ⟨rfl, hb4⟩
            have HB4 := Lib.hid (below_end hb4 (below_drewN HB2.out d))
            have m6 := (hb4.cell (p := sd.add x) (by rw [block_of_add]; exact Nat.lt_of_lt_of_le hbl HB2.out.size)).trans m3
            clear hb4 m3
            go_wp2
            go_ret
            exact ⟨rfl, HB4.out⟩
        · cases hsx : S[x]
          all_goals
            rw [hsx] at m3
            clear hsx
            go_wp2_with fail
            refine (awake_any _).mono ?_
            rintro e w4 ⟨rfl, hb4⟩
            have HB4 := Lib.hid (below_end hb4 (below_drewN HB2.out d))
            have m6 := (hb4.cell (p := sd.add x) (by rw [block_of_add]; exact Nat.lt_of_lt_of_le hbl HB2.out.size)).trans m3
            have n1 : n < S.length := by have := HSLL.out; omega
            clear hb4 m3
            go_wp2
            go_ret
            exact ⟨rfl, HB4.out⟩
end Go.Proofs.Ytlhheglffododaa
