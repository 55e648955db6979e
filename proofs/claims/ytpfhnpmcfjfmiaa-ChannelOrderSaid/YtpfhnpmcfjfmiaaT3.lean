/- The walk of ChannelKeeps. -/
import Derived.Test.YtpfhnpmcfjfmiaaPlK
namespace Go.Proofs.Ytpfhnpmcfjfmiaa
open Go.RowKit

theorem large_no {cap : Int} {Q : List (List Int)} (h : vldC cap Q = true) : largeB Q = false := by
  obtain ⟨v1, v2, v3, v4⟩ := vld_mem h
  unfold largeB
  rw [Bool.or_eq_false_iff, decide_eq_false_iff_not]
  refine ⟨List.any_eq_false.2 fun q hq => ?_, by omega⟩
  have := v4 q (List.mem_of_mem_take hq)
  simp
  omega
def KRel (w : World) (Q : List (List Int)) (sp : Array Value) (l : List Int) (vo va i : Value) (wr : World) : Prop :=
  ∃ (k : Nat) (zs : List OpV), k ≤ l.length ∧ i = .int .i64 k ∧ zs.map (·.1) = keepOps (l.take k) ∧ OpsOwn w.heap.size wr vo zs ∧ AllOwn w w.heap.size wr va (Q ++ (l.take k).map fun z => [z]) ∧ Blk wr w.heap.size 24 sp ∧ Below w.heap.size w wr
theorem one_op (u u' : Value) (h : u.oneCell' = true) (h' : u'.oneCell' = true) : ∀ x ∈ [Value.int .i64 1, .int .i64 0, u, .int .i64 2, .int .i64 0, u'], x.oneCell' = true := by
  intro x hx
  simp only [List.mem_cons, List.not_mem_nil, or_false] at hx
  rcases hx with rfl | rfl | rfl | rfl | rfl | rfl
  all_goals first | rfl | assumption

/-- two lists of items, one behind the other, in a row of the call's own -/
theorem two_items {w0 x : World} {base n c : Nat} {A : Option Addr} {R Q : List (List Int)} {r1 r2 : List Value} (ho : x.ownsRow base 25 1 (.slice A n c) n ([] ++ r2 ++ r1)) (hn : (R ++ Q).length = n) (hl2 : r2.length = R.length * 1)
    (h2 : ∀ (k : Nat) q, R[k]? = some q → ∃ u, r2[k]? = some u ∧ IntsAt w0 w0.heap.size u q) (h1 : ∀ (k : Nat) q, Q[k]? = some q → ∃ u, r1[k]? = some u ∧ IntsAt w0 w0.heap.size u q) (hb : Below w0.heap.size w0 x) : ItemsAt x x.heap.size (.slice A n c) (R ++ Q) := by
  subst hn
  refine ⟨A, c, _, rfl, Reads.of_own ho, fun k q hq => ?_⟩
  rw [List.nil_append]
  by_cases hlt : k < R.length
  · rw [List.getElem?_append_left hlt] at hq
    obtain ⟨u, e1, e2⟩ := h2 k q hq
    exact ⟨u, by rw [List.getElem?_append_left (by omega)]; exact e1, e2.go hb⟩
  · rw [List.getElem?_append_right (by omega)] at hq
    obtain ⟨u, e1, e2⟩ := h1 _ q hq
    exact ⟨u, by rw [List.getElem?_append_right (by omega), show k - r2.length = k - R.length by omega]; exact e1, e2.go hb⟩
/-- the same for a guarded append that is wanted -/
theorem step_app_g {P : Program} {w : World} (w1 : World) {ops : Array Oper} {o : Oper} {a : Act} {K : Act → World → Prop} {Q : Exit → Act → World → Prop} {E : Prop} (hw : Region.wanted o (yielded ops a.tmps) = true) (s x : Operand) (t : TypeId)
    (ho : o.op = .call { callee := .builtin .append, args := #[s, x], argTypes := #[t, t] })
    (e : TypeId) (i : TypeInfo) (z : Value) (bytes : Nat) (ht : P.underlying t = some (.slice e)) (hi : P.info? e = some i) (hz : i.zero = some z)
    (hsize : i.size = 1) (hby : i.bytes = bytes) (hzs : z.cells.size = 1)
    (v : Value) (n : Nat) (xs : List Value) (hs : a.eval s = v) (hown : w.ownsRow w1.heap.size e 1 v n xs) (hB : Below w1.heap.size w1 w)
    (B : Nat) (A : Option Addr) (m c : Nat) (news : List Value) (hx : a.eval x = .slice A m c) (hr : Reads w B 1 A m news) (h1 : ∀ u ∈ news, u.oneCell' = true)
    (h63 : n + m ≤ maxLen) (hbytes : (n + m) * bytes ≤ 140737488355328)
    (h : ∀ v' w', w'.ownsRow w1.heap.size e 1 v' (n + m) (xs ++ news) → Below w1.heap.size w1 w' → w.grownBy w' v.ownBlock → K (a.put o.dst v') w') :
    if Region.wanted o (yielded ops a.tmps) = true then Oper.wp P o a w K Q else E := by
  rw [if_pos hw]
  exact wp_append_any w s x t ho w1.heap.size e i z 1 bytes ht hi hz hsize hby hzs (by decide) v n xs hs hown B A m c news hx hr h1 h63 hbytes hB.size fun v' w' h2 h3 _ => h v' w' h2 (bgrown hB hown h3) h3

set_option maxRecDepth 100000 in
set_option maxHeartbeats 4000000 in
theorem keeps_law (w : World) (cap : Int) (Q : List (List Int)) (v : Value) (hC : ChanAt w w.heap.size v cap Q) (_hcp : CapOk v) (l : List Int) (Al : Option Addr) (cl : Nat) (_hm : l.length ≤ 9223372036854775807) (hr : Reads w w.heap.size 1 Al l.length (l.map Iz)) (_hz : ∀ z ∈ l, (Lit.int .i64 z).wf = true) :
    Calls Try.prog 6 #[v, .slice Al l.length cl] w fun e w' => e = .returned (.bool true) ∧ Below w.heap.size w w' := by
  have HC := Lib.hid hC
  have HL := Lib.hid hr
  obtain ⟨vi, rfl, A, c, rows, rfl, hro, hko⟩ := hC
  have HRO := Lib.hid hro
  have HKO := Lib.hid hko
  have HONE := Lib.hid (rows_one hro hko)
  clear hr hro hko
  have hb0 := (Below.refl w.heap.size w).alloc (Nat.le_refl _) (.cells #[.int .i64 cap, .slice A Q.length c] 24)
  have HB0 := Lib.hid hb0
  clear hb0
  cases hv : vldC cap Q
  · have HV := Lib.hid hv
    clear hv
    go_enter Try.func6, Try.ntmps6
    go_wp2_with fail
    refine (cvalid_is cap Q _ false HV.out _ (HC.out.go HB0.out)).mono ?_
    rintro e w1 ⟨rfl, hb1⟩
    have HB1 := Lib.hid (below_end hb1 HB0.out)
    clear hb1
    go_wp2_with fail
    refine (known_any _).mono ?_
    rintro e w2 ⟨rfl, hb2⟩
    go_wp2
    go_ret
    exact ⟨rfl, below_end hb2 HB1.out⟩
  · have HV := Lib.hid hv
    have HLG := Lib.hid (large_no hv)
    obtain ⟨v1, v2, v3, -⟩ := vld_mem hv
    clear hv
    go_enter Try.func6, Try.ntmps6
    go_wp2_with fail
    refine (cvalid_is cap Q _ true HV.out _ (HC.out.go HB0.out)).mono ?_
    rintro e w1 ⟨rfl, hb1⟩
    have HB1 := Lib.hid (below_end hb1 HB0.out)
    have bs := (Blk.new w 24 #[.int .i64 cap, .slice A Q.length c]).below hb1 (by simp)
    clear hb1
    obtain ⟨p0, p1, pf⟩ := blk2 bs
    have BS := Lib.hid bs
    clear bs
    by_cases hcq : (Q.length : Int) = cap
    · have t1 : ((Q.length : Int) == cap) = true := by simp [hcq]
      clear hcq
      go_wp2_with fail
      refine (known_any _).mono ?_
      rintro e w2 ⟨rfl, hb2⟩
      go_wp2
      go_ret
      exact ⟨rfl, below_end hb2 HB1.out⟩
    · have t1 : ((Q.length : Int) == cap) = false := beq_eq_false_iff_ne.2 hcq
      have HCQ := Lib.hid hcq
      clear hcq
      go_wp2_with fail
      refine (large_is cap Q _ false HLG.out _ (HC.out.go HB1.out)).mono ?_
      rintro e w2 ⟨rfl, hb2⟩
      have HB2 := Lib.hid (below_end hb2 HB1.out)
      have bs := BS.out.below hb2 BS.out.lt
      clear p0 p1 pf hb2 BS
      obtain ⟨p0, p1, pf⟩ := blk2 bs
      have BS := Lib.hid bs
      have lbs := bs.lt
      clear bs
      by_cases hl1 : 100 < l.length
      · go_wp2_with fail
        refine (known_any _).mono ?_
        rintro e w3 ⟨rfl, hb3⟩
        go_wp2
        go_ret
        exact ⟨rfl, below_end hb3 HB2.out⟩
      · obtain ⟨i0, hi0, hz0, hz1, hz2⟩ := info_parts Try.infoInts
        obtain ⟨j0, hj0, hy0, hy1, hy2⟩ := info_parts Try.infoOp
        have hbz := HB2.out.size
        go_upto_region 5 with (at_builtin; refine wpList_append_any _ rfl (.tmp 32) (.tmp 34) 22 rfl w.heap.size 25 i0 (.slice none 0 0) 1 24 Try.underlying22 hi0 hz0 hz1 hz2 rfl (by decide) (.slice (some ⟨w2.heap.size, 0, none⟩) 0 0) 0 [] rfl (own_empty w2 w.heap.size _ hbz) w.heap.size A Q.length c rows rfl (HRO.out.below (balloc HB2.out _)) HONE.out (len_ok (by omega)) (by omega) (by simp; omega) ?_; intro va x1 ho1 hg1 hv1; have HBx := Lib.hid ((balloc HB2.out (.cells #[] 25)).grown hg1 (by simp; omega) (fun b hb => by have := ((own_empty w2 w.heap.size 25 hbz).lt b hb).1; exact this)); have BSx := Lib.hid ((BS.out.alloc (.cells #[] 25)).grown hg1 (Ne.symm (own_blk_ne (own_empty w2 w.heap.size 25 hbz) (BS.out.alloc _) (by decide)))); have HAO := Lib.hid ho1; clear hv1 hg1 ho1)
        have hao : AllOwn w w.heap.size x1 va Q := ⟨rows, by have := HAO.out; simpa using this, fun k q hq => let ⟨u, h1, h2⟩ := HKO.out k q hq; ⟨u, h1, .inl h2⟩⟩
        have HAO := Lib.hid hao
        clear hao p0 p1 pf
        go_wp2_with fail
        go_loopw [5, 6, 7] (KRel w Q #[.int .i64 cap, .slice A Q.length c] l) (fun _ _ i _ => l.length - (intOf i).toNat)
        case atStart => exact ⟨0, [], Nat.zero_le _, rfl, rfl, OpsOwn.nil _ _, by simpa using HAO.out, BSx.out, HBx.out⟩
        case round =>
          clear HAO BSx HBx
          obtain ⟨k, zs, hk, rfl, hzs, hoo, hao, bs, hB⟩ := hrel
          have HB := Lib.hid hB
          have HOO := Lib.hid hoo
          have HAO := Lib.hid hao
          have BS := Lib.hid bs
          have HZS := Lib.hid hzs
          have hbz := hB.size
          have hzl : zs.length = 2 * (l.take k).length := by have := congrArg List.length hzs; rw [keep_len] at this; simpa using this
          have htl : (l.take k).length = k := by rw [List.length_take]; omega
          by_cases hlt : k < l.length
          · obtain ⟨ad, hA, hbl, hcell⟩ := HL.out.2 (by omega)
            subst hA
            have c0 := hcell k (Iz l[k]) (by rw [List.getElem?_map, List.getElem?_eq_getElem hlt]; rfl)
            have c0 := (hB.cell (p := ad.add k) (by rw [block_of_add]; exact hbl)).trans c0
            unfold Iz at c0
            have HT := Lib.hid (List.take_succ_eq_append_getElem hlt)
            generalize l[k] = z at *
            have k0 : (0 : Int) ≤ (k : Int) := by omega
            have k1 : (k : Int) < (l.length : Int) := by omega
            have hbl2 : (ad.add k).block < wr.heap.size := by rw [block_of_add]; omega
            clear hoo hao bs hB hzs hcell
            go_upto_region 9 with (at_builtin; refine wpList_append_any _ rfl (.tmp 42) (.tmp 50) 36 rfl w.heap.size 38 j0 (.agg #[.int .i64 0, .int .i64 0, .slice none 0 0]) 3 40 Try.underlying36 hj0 hy0 hy1 hy2 rfl (by decide) _ zs.length (zs.flatMap opc) rfl ((HOO.out.own.alloc _).alloc _) (wr.heap.size + 1 + 1) (some ⟨wr.heap.size + 1, 0, none⟩) 2 2 [.int .i64 1, .int .i64 0, .slice (some ⟨wr.heap.size, 0, none⟩) 1 1, .int .i64 2, .int .i64 0, .slice none 0 0] rfl (reads_new2 _ _ _ _ _ _ rfl) (one_op _ _ rfl rfl) (len_ok (by omega)) (by omega) (by simp; omega) ?_; intro v5 x5 ho5 hg5 hv5; clear hv5)
            have hoo5 := HOO.out.app (ys := [((1, 0, [z]), .slice (some ⟨wr.heap.size, 0, none⟩) 1 1), ((2, 0, []), .slice none 0 0)]) (alloc2_below _ _ _) ho5 hg5 (fun y hy => by
              simp only [List.mem_cons, List.not_mem_nil, or_false] at hy
              rcases hy with rfl | rfl
              · exact (ItB.one wr z).alloc _
              · exact .inl ⟨rfl, rfl⟩)
            have how := HOO.out.below (alloc2_below wr (.cells #[.int .i64 z] 3) (.cells #[.int .i64 1, .int .i64 0, .slice (some ⟨wr.heap.size, 0, none⟩) 1 1, .int .i64 2, .int .i64 0, .slice none 0 0] 38))
            have hao5 := (HAO.out.below (alloc2_below wr (.cells #[.int .i64 z] 3) (.cells #[.int .i64 1, .int .i64 0, .slice (some ⟨wr.heap.size, 0, none⟩) 1 1, .int .i64 2, .int .i64 0, .slice none 0 0] 38))).grown how.own (by decide) (by decide) hg5
            have bs5 := (BS.out.below (alloc2_below wr (.cells #[.int .i64 z] 3) (.cells #[.int .i64 1, .int .i64 0, .slice (some ⟨wr.heap.size, 0, none⟩) 1 1, .int .i64 2, .int .i64 0, .slice none 0 0] 38)) BS.out.lt).grown hg5 (Ne.symm (own_blk_ne how.own (BS.out.below (alloc2_below _ _ _) BS.out.lt) (by decide)))
            have hB5 : Below w.heap.size w x5 := (below_end (alloc2_below wr (.cells #[.int .i64 z] 3) (.cells #[.int .i64 1, .int .i64 0, .slice (some ⟨wr.heap.size, 0, none⟩) 1 1, .int .i64 2, .int .i64 0, .slice none 0 0] 38)) HB.out).grown hg5 (Nat.le_trans hbz (alloc2_below wr _ _).size) (fun b hb => (how.own.lt b hb).1)
            have c5 := (hB5.cell (p := ad.add k) (by rw [block_of_add]; exact hbl)).trans ((HB.out.cell (p := ad.add k) (by rw [block_of_add]; exact hbl)).symm.trans c0)
            have hbz5 := hB5.size
            have hbl5 : (ad.add k).block < x5.heap.size := by rw [block_of_add]; omega
            have HO5 := Lib.hid hoo5
            have HA5 := Lib.hid hao5
            have BS5 := Lib.hid bs5
            have HB5 := Lib.hid hB5
            obtain ⟨rs, hrs⟩ := hao5
            have HRS := Lib.hid hrs
            clear hoo5 bs5 hB5 ho5 hg5 HOO HAO BS HB c0 how hrs
            have hla : (Q ++ (l.take k).map fun z => [z]).length ≤ 1000 := by simp; omega
            go_upto_region 7 with (at_builtin; refine wpList_append_any _ rfl (.tmp 52) (.tmp 58) 22 rfl w.heap.size 25 i0 (.slice none 0 0) 1 24 Try.underlying22 hi0 hz0 hz1 hz2 rfl (by decide) _ (Q ++ (l.take k).map fun z => [z]).length rs rfl ((HRS.out.1.alloc _).alloc _) (x5.heap.size + 1 + 1) (some ⟨x5.heap.size + 1, 0, none⟩) 1 1 [.slice (some ⟨x5.heap.size, 0, none⟩) 1 1] rfl (reads_new2 _ _ _ _ _ _ rfl) (one_S _ _ _) (len_ok (by omega)) (by omega) (by simp; omega) ?_; intro v6 x6 ho6 hg6 hv6; clear hv6)
            have hao6 := HA5.out.app HRS.out (alloc2_below _ _ _) ho6 hg6 ((ItB.one x5 z).alloc _)
            have how := (HRS.out.1.alloc (.cells #[.int .i64 z] 3)).alloc (.cells #[.slice (some ⟨x5.heap.size, 0, none⟩) 1 1] 25)
            have hoo6 : OpsOwn w.heap.size x6 v5 (zs ++ [((1, 0, [z]), .slice (some ⟨wr.heap.size, 0, none⟩) 1 1), ((2, 0, []), .slice none 0 0)]) := (HO5.out.below (alloc2_below x5 (.cells #[.int .i64 z] 3) (.cells #[.slice (some ⟨x5.heap.size, 0, none⟩) 1 1] 25))).other how (by decide) (by decide) hg6
            have bs6 := (BS5.out.below (alloc2_below x5 (.cells #[.int .i64 z] 3) (.cells #[.slice (some ⟨x5.heap.size, 0, none⟩) 1 1] 25)) BS5.out.lt).grown hg6 (Ne.symm (own_blk_ne how (BS5.out.below (alloc2_below _ _ _) BS5.out.lt) (by decide)))
            have hB6 : Below w.heap.size w x6 := (below_end (alloc2_below x5 (.cells #[.int .i64 z] 3) (.cells #[.slice (some ⟨x5.heap.size, 0, none⟩) 1 1] 25)) HB5.out).grown hg6 (Nat.le_trans hbz5 (alloc2_below x5 _ _).size) (fun b hb => (how.lt b hb).1)
            have HO6 := Lib.hid hoo6
            have HA6 := Lib.hid hao6
            have BS6 := Lib.hid bs6
            have HB6 := Lib.hid hB6
            clear hoo6 bs6 hB6 ho6 hg6 HO5 HA5 BS5 HB5 c5 how hao6 HRS
            go_wp2
            refine ⟨⟨k + 1, _, by omega, by go_num, ?_, HO6.out, ?_, BS6.out, HB6.out⟩, by simp [intOf]; omega⟩
            · rw [HT.out, keep_snoc, List.map_append, HZS.out]; rfl
            · rw [HT.out, List.map_append, ← List.append_assoc]; exact HA6.out
          · obtain rfl : k = l.length := by omega
            rw [List.take_length] at hzs hao
            have hops := hoo.at
            rw [hzs] at hops
            have HOP := Lib.hid hops
            have HA := Lib.hid (hao.items hB)
            obtain ⟨Q', R, hp, hR1, hR2, hQ1, hQ2, hR3⟩ := keep_fold l Q [] HV.out HCQ.out (by simp)
            have hpv : playV cap Q (keepOps l) = (cap, Q', R, 0) := by unfold playV playQ; rw [if_pos HV.out]; exact hp
            have CP := Lib.hid (play_any cap Q (keepOps l) (by rw [keep_len]; omega) (.agg #[.int .i64 cap, .slice A Q.length c]) u5)
            rw [hpv] at CP
            have HRl := Lib.hid (show R.length = l.length by simpa using hR1)
            have hRb : R.length ≤ 100 := by have := HRl.out; omega
            have HEQ := Lib.hid (show R ++ Q' = Q ++ l.map fun z => [z] by simpa using hR2)
            have HRR := Lib.hid hR3
            have HQQ := Lib.hid hQ2
            obtain ⟨p0, p1, pf⟩ := blk2 bs
            obtain ⟨Aa, ca, hua⟩ := items_form (hao.items hB)
            subst hua
            clear hoo hao bs hzs hops hp hpv hR1 hR2 hR3 hQ2 HAO HOO HZS
            go_wp2_with fail
            refine (CP.out _ (HC.out.go HB.out) HOP.out).mono ?_
            rintro e y1 ⟨vi, vr, rfl, hvi, hvr, hb⟩
            dsimp only at hvi hvr ⊢
            obtain ⟨A1, c1, rfl⟩ := items_form hvi
            obtain ⟨R1, d1, rfl⟩ := items_form hvr
            have HB5 := Lib.hid (below_end hb HB.out)
            have HVI := Lib.hid hvi
            have HVR := Lib.hid hvr
            have HAA := Lib.hid (HA.out.go hb)
            clear hb hvi hvr HA CP HOP p0 p1 pf HB
            go_upto_region 11 with fail
            generalize hW : World.alloc _ _ = W0
            have hbw : Below y1.heap.size y1 W0 := by rw [← hW]; exact balloc (Below.refl _ _) _
            have bn : Blk W0 y1.heap.size 24 #[.int .i64 cap, .slice A1 Q'.length c1] := by rw [← hW]; exact Blk.new _ _ _
            have HB6 := Lib.hid (below_end hbw HB5.out)
            have HVI6 := Lib.hid (HVI.out.go hbw)
            have HVR6 := Lib.hid (HVR.out.go hbw)
            have HAA6 := Lib.hid (HAA.out.go hbw)
            clear hW hbw HB5 HVI HVR HAA
            obtain ⟨y0, z0, f0⟩ := blk2 bn
            have lb := bn.lt
            clear bn
            have rule := below_rule W0
            have t2 : ((R.length : Int) == (l.length : Int)) = true := by rw [HRl.out]; exact beq_self_eq_true _
            have t3 : (R.length == l.length) = true := by rw [HRl.out]; exact beq_self_eq_true _
            obtain ⟨A1', c1', rs1, e1, hr1, hk1⟩ := HVI6.out
            injection e1 with e11 _ e12
            subst e11 e12
            obtain ⟨R1', d1', rs2, e2, hr2, hk2⟩ := HVR6.out
            injection e2 with e21 _ e22
            subst e21 e22
            have HRI := Lib.hid hr1
            have HKI := Lib.hid hk1
            have HRR2 := Lib.hid hr2
            have HKR := Lib.hid hk2
            have HO1 := Lib.hid (rows_one hr1 hk1)
            have HO2 := Lib.hid (rows_one hr2 hk2)
            have hQ8 : Q'.length ≤ 8 := by omega
            clear hr1 hk1 hr2 hk2
            have HT := Lib.hid (show ItemsAt W0 W0.heap.size (.slice Aa (Q.length + l.length) ca) (R ++ Q') by have := HAA6.out; rw [List.length_append, List.length_map] at this; rw [HEQ.out]; exact this)
            have HSM := Lib.hid (show Sml (R ++ Q') from sml_mem (by simp; omega) fun x hx => by
              rcases List.mem_append.1 hx with h | h
              · have := HRR.out x h; omega
              · have := HQQ.out x h; omega)
            have HTI := Lib.hid (fun (u1z : Nat) (x : World) (A : Option Addr) (c : Nat) (ho : x.ownsRow u1z 25 1 (.slice A (0 + R.length + Q'.length) c) (0 + R.length + Q'.length) ([] ++ rs2 ++ rs1)) (hb : Below W0.heap.size W0 x) => two_items ho (by simp) HRR2.out.1 HKR.out HKI.out hb)
            have HLN := Lib.hid (show 0 + R.length ≤ maxLen from len_ok (by omega))
            have HLN1 := Lib.hid (show 0 + R.length + Q'.length ≤ maxLen from len_ok (by omega))
            go_region_held3 (fun x => Below W0.heap.size W0 x) (first | exact Below.refl _ _ | exact Below.drew (Below.refl _ _) | assumption | exact balloc (by assumption) _ | exact below_step (by assumption) (by assumption))
              (first
                | (go_at_call 8; refine (known_any _).mono ?_; rintro e u1 ⟨rfl, hu1⟩; have hU1 := below_step (W0 := W0) hu1 (bdrw (Below.refl _ _)))
                | ((with_reducible refine step_app_g u1 rfl (.tmp 80) (.tmp 81) 22 rfl 25 i0 (.slice none 0 0) 24 Try.underlying22 hi0 hz0 hz1 hz2 rfl (.slice (some ⟨u1.heap.size, 0, none⟩) 0 0) 0 [] rfl ?_ ?_ W0.heap.size R1 R.length d1 rs2 rfl ?_ ?_ ?_ ?_ ?_); exact own_empty _ _ _ (Nat.le_refl _); exact balloc (Below.refl _ _) _; exact HRR2.out.below (balloc hU1 _); exact HO2.out; exact HLN.out; omega; intro v5 x5 ho5 hx5 hg5; have hX5 := below_step (W0 := W0) hx5 hU1)
                | ((with_reducible refine step_app_g u1 rfl (.tmp 82) (.tmp 84) 22 rfl 25 i0 (.slice none 0 0) 24 Try.underlying22 hi0 hz0 hz1 hz2 rfl v5 (0 + R.length) ([] ++ rs2) rfl ?_ ?_ W0.heap.size A1 Q'.length c1 rs1 rfl ?_ ?_ ?_ ?_ ?_); exact ho5; exact hx5; exact HRI.out.below hX5; exact HO1.out; exact HLN1.out; omega; intro v6 x6 ho6 hx6 hg6; have hX6 := below_step (W0 := W0) hx6 hU1; obtain ⟨A6, c6, rfl⟩ := own_form ho6; have HI6 := Lib.hid (HTI.out _ _ _ _ ho6 hX6); rw [Nat.zero_add] at HI6)
                | (go_at_call 21; (with_reducible refine (sameItems_b HSM.out ?_ ?_).mono ?_); exact HI6.out; exact HT.out.go hX6; rintro e u7 ⟨rfl, hu7⟩))
            go_wp2
            go_ret
            exact ⟨rfl, below_end (below_step hu7 hX6) HB6.out⟩
end Go.Proofs.Ytpfhnpmcfjfmiaa
