/- The walk of TopLocallyCentralIsCentral, behind awake's contract. -/
import Derived.Test.YtdfklagiafmoiaaGreatDoorG12
import Derived.Test.YtdfklagiafmoiaaGreatDoorG38
import Derived.Test.YtdfklagiafmoiaaGreatDoorG28
namespace Go.Proofs.YtdfklagiafmoiaaGreatDoor
open Go.RowKit

def AwakeOk : Prop := ∀ X : World, TzAt X → Calls Tryz.prog 6 #[] X fun e w' => e = .returned (.bool true) ∧ Below X.heap.size X w'
theorem run_ok {p : Pg} {g : Gr} {c : Cfg} (hc : CfOk p g c) (kind : Int) (ws : List Nat) (hl : ws.length ≤ 4096) : RunOk p g c (folL p g kind c ws) kind := by
  obtain ⟨h1, h2, h3⟩ := folL_good kind ws hc
  exact ⟨hc, h1, h2, by omega⟩
theorem popSum_le {p : Pg} {g : Gr} {c : Cfg} {kind : Int} {L : List Nat} (h : RunOk p g c L kind) : popSum L ≤ 24 * L.length := by
  have := (h.pops L.length (Nat.le_refl _)).2
  rwa [List.take_length] at this
theorem run_ok1 {p : Pg} {g : Gr} {c : Cfg} {L : List Nat} (h : RunOk p g c L 2) (hl : L.length ≤ 40) : RunOk p g c (sgl L) 1 := by
  obtain ⟨h1, -⟩ := central L h.ok h.good h.lt
  refine ⟨h.ok, h1, fun s hs => ?_, by rw [sgl_len]; have := popSum_le h; omega⟩
  obtain ⟨i, hi, rfl⟩ := sgl_pow s hs
  exact Nat.lt_of_lt_of_le (Nat.pow_lt_pow_right (by decide) hi) (by decide)
theorem sgl_snoc {L : List Nat} {i : Nat} (h : i < L.length) : sgl (L.take (i + 1)) = sgl (L.take i) ++ singles L[i] 32 := by
  unfold sgl; rw [List.take_succ_eq_append_getElem h, List.flatMap_append]; simp
theorem acc1 (q : RunP) : ∃ z2 z3 z4 : Int, accA q q.L.length = #[.int .i64 (q.L.length : Nat), .int .i64 (popSum q.L : Nat), .int .i64 z2, .int .i64 z3, .int .u32 z4] := ⟨_, _, _, by unfold accA; rw [List.take_length]⟩
theorem shl_u32 {v : Nat} (h : v < 32) : (2 : Int) ^ v % 4294967296 = ((2 ^ v : Nat) : Int) := by
  have h1 : 2 ^ v < 4294967296 := Nat.lt_of_lt_of_le (Nat.pow_lt_pow_right (by decide) h) (by decide)
  have e : ((2 ^ v : Nat) : Int) = (2 : Int) ^ v := Int.natCast_pow 2 v
  rw [← e]
  exact Int.emod_eq_of_lt (Int.natCast_nonneg _) (Int.ofNat_lt.2 h1)
def LcO (w : World) (L : List Nat) (b : Nat) (tA : Array Value) (s i : Value) (wr : World) : Prop := ∃ k : Nat, i = .int .i64 k ∧ k ≤ L.length ∧ Mem w [cR w.heap.size 34 1 s (sgl (L.take k)).length (uv (sgl (L.take k))), cB w.heap.size b 38 tA] wr
def LcI (w : World) (_L M : List Nat) (S b : Nat) (tA : Array Value) (s i : Value) (wr : World) : Prop := ∃ v : Nat, i = .int .i64 v ∧ v ≤ 32 ∧ Mem w [cR w.heap.size 34 1 s (M ++ singles S v).length (uv (M ++ singles S v)), cB w.heap.size b 38 tA] wr
set_option maxRecDepth 100000 in
set_option maxHeartbeats 16000000 in
theorem lc_law (haw : AwakeOk) (p : Pg) (g : Gr) (c : Cfg) (hz : Sized p g) (hc0 : c.length ≤ 9223372036854775807) (ws : List Nat) (hws : ∀ x ∈ ws, x < 4294967296) (hm : ws.length ≤ 9223372036854775807) (vp vg : Value) (Ac : Option Addr) (cc : Nat) (Aw : Option Addr) (cw : Nat) (w : World) (htz : TzAt w)
    (hP : ProgAt w w.heap.size vp p) (hG : GraphAt w w.heap.size vg g) (hC : ConfAt w w.heap.size (.slice Ac c.length cc) c) (hW : U32At w w.heap.size (.slice Aw ws.length cw) ws) :
    Calls Tryz.prog 3 #[vp, vg, .slice Ac c.length cc, .slice Aw ws.length cw] w fun e w' => e = .returned (.bool true) ∧ Below w.heap.size w w' := by
  have HP := Lib.hid hP
  have HG := Lib.hid hG
  have HC := Lib.hid hC
  have HW := Lib.hid hW
  have HAW := Lib.hid haw
  have HTZ := Lib.hid htz
  have HWS := Lib.hid hws
  obtain ⟨vv, vr, rfl, -, -⟩ := hP
  obtain ⟨vi, vq, rfl, -, -⟩ := hG
  have HF := Lib.hid (fun (X : World) (hX : Below w.heap.size w X) => fair_l p g c hz hc0 (ws.length : Int) (.agg #[.string p.name, vv, vr]) (.agg #[vi, vq]) Ac cc X (ProgAt.to (Holds_.go hX) HP.out) (GraphAt.to (Holds_.go hX) HG.out) (ConfAt.to (Holds_.go hX) HC.out))
  have hM := ((Mem.start w).new 25 #[.string p.name, vv, vr]).new 29 #[vi, vq]
  simp only [World.size_alloc] at hM
  have HM0 := Lib.hid hM
  clear hM hC hW haw htz hws hz
  go_enter Tryz.func3, Tryz.ntmps3
  go_wp2_with fail
  refine (HF.out _ HM0.out.bel).mono ?_
  rintro e w1 ⟨b, rfl, hb, hb1⟩
  have HM1 := Lib.hid (HM0.out.below hb1)
  clear hb1 HM0 HF
  obtain ⟨p0, p1, p2, pf⟩ := blk3 (HM1.out.get 1 rfl).2
  obtain ⟨q0, q1, qf⟩ := blk2 (HM1.out.get 0 rfl).2
  cases b
  · clear hb
    go_wp2_with fail
    refine (HAW.out _ (HTZ.out.below HM1.out.bel HTZ.out.1)).mono ?_
    rintro e w2 ⟨rfl, hb2⟩
    have HB := Lib.hid (HM1.out.below hb2).bel
    clear p0 p1 p2 pf q0 q1 qf hb2
    go_wp2
    go_ret
    exact ⟨rfl, HB.out⟩
  · have hfo := hb rfl
    have hn40 : ws.length ≤ 40 := by have := hfo.n; omega
    have HFO := Lib.hid hfo
    have hr1 := run_ok hfo.cf 2 ws (by omega)
    have hll := (folL_good 2 ws hfo.cf).2.2
    have HF1 := Lib.hid (fun (X : World) (hX : Below w.heap.size w X) => Follow_p ⟨p, g, c, folL p g 2 c ws, 2, ws.length⟩ hr1 (show (1 : Int) ≤ 2 ∧ (2 : Int) ≤ 4 by decide) hfo.lg ws (by omega) rfl HWS.out rfl X (HTZ.out.below hX HTZ.out.1) (.agg #[.string p.name, vv, vr]) (.agg #[vi, vq]) (ProgAt.to (Holds_.go hX) HP.out) (GraphAt.to (Holds_.go hX) HG.out) Ac cc (ConfAt.to (Holds_.go hX) HC.out) Aw cw (U32At.to (Holds_.go hX) HW.out))
    obtain ⟨L, hL⟩ : ∃ L, folL p g 2 c ws = L := ⟨_, rfl⟩
    rw [hL] at hr1 hll HF1
    have HR1 := Lib.hid hr1
    have HR2 := Lib.hid (run_ok1 hr1 (by omega))
    have HLL := Lib.hid (show L.length ≤ 40 by omega)
    have HN := Lib.hid hn40
    clear hb hfo hr1 hll hL hn40
    go_wp2_with fail
    refine (HF1.out _ HM1.out.bel).mono ?_
    rintro e w2 ⟨A1, c1, A2, c2, gb, rfl, hC1, hC2, hC3, hb2⟩
    dsimp only at hC1 hC2 hC3 ⊢
    obtain ⟨z2, z3, z4, hz⟩ := acc1 ⟨p, g, c, L, 2, ws.length⟩
    dsimp only at hz
    have HZ := Lib.hid (show trV gb c.length (.slice A1 L.length c1) (.slice A2 (L.length + 1) c2) (accA ⟨p, g, c, L, 2, ws.length⟩ L.length) = .agg #[.slice A1 L.length c1, .slice A2 (L.length + 1) c2, .slice (some ⟨gb, 0, none⟩) c.length c.length, .int .i64 (L.length : Nat), .int .i64 (popSum L : Nat), .int .i64 z2, .int .i64 z3, .int .u32 z4] from by rw [hz]; rfl)
    rw [HZ.out]
    have HB2 := Lib.hid (HM1.out.below hb2)
    have HC1 := Lib.hid hC1
    have HC3 := Lib.hid hC3
    have HMT := Lib.hid (((Mem.start w2).new 38 #[.slice A1 L.length c1, .slice A2 (L.length + 1) c2, .slice (some ⟨gb, 0, none⟩) c.length c.length, .int .i64 (L.length : Nat), .int .i64 (popSum L : Nat), .int .i64 z2, .int .i64 z3, .int .u32 z4]).nil_ 34 1)
    obtain ⟨i0, hi0, hz0, hz1, hz2⟩ := info_parts Tryz.infoU32
    clear hC1 hC2 hC3 hb2 hz p0 p1 p2 pf q0 q1 qf HF1 HM1 HZ
    go_wp2_with fail
    obtain ⟨tA, htA⟩ : ∃ tA : Array Value, tA = #[.slice A1 L.length c1, .slice A2 (L.length + 1) c2, .slice (some ⟨gb, 0, none⟩) c.length c.length, .int .i64 (L.length : Nat), .int .i64 (popSum L : Nat), .int .i64 z2, .int .i64 z3, .int .u32 z4] := ⟨_, rfl⟩
    go_loopw [11, 12] (LcO w2 L w2.heap.size tA) (fun _ i _ => L.length - (intOf i).toNat)
    case atStart => exact ⟨0, rfl, Nat.zero_le _, by rw [htA]; exact HMT.out⟩
    case round =>
      obtain ⟨k, rfl, hk, hM⟩ := hrel
      subst htA
      have HMo := Lib.hid hM
      obtain ⟨t0, t1, t2, t3, t4, t5, t6, t7, tf⟩ := blk8 (hM.get 1 rfl).2
      clear hM HMT
      by_cases hlt : k < L.length
      · have HSN := Lib.hid (sgl_snoc hlt)
        have HLT := Lib.hid hlt
        have hS32 := (HR1.out.lt _ (List.getElem_mem hlt))
        obtain ⟨S, hS⟩ : ∃ S, L[k]'hlt = S := ⟨_, rfl⟩
        rw [hS] at HSN hS32
        have HS := Lib.hid hS
        have HK4 := Lib.hid (show (sgl (L.take k)).length ≤ 960 from by
          rw [sgl_len]
          have h1 := HR1.out.pops k hk
          have := HLL.out
          omega)
        have HSB := Lib.hid (show ∀ X, Below w2.heap.size w2 X → ∃ ad : Addr, A1 = some ad ∧ ad.block < X.heap.size ∧ X.cell? (ad.add k) = some (.int .u32 (S : Int)) from fun X hX => by
          obtain ⟨ad, e, hb, hc⟩ := u32_at (U32At.to (Holds_.go hX) HC1.out) hlt
          rw [hS] at hc
          exact ⟨ad, e, hb, hc⟩)
        obtain ⟨ad, rfl, -, -⟩ := HSB.out w2 (Below.refl _ _)
        obtain ⟨M, hMM⟩ : ∃ M, sgl (L.take k) = M := ⟨_, rfl⟩
        rw [hMM] at HMo HSN HK4
        have HSN := Lib.hid HSN.out
        have k0 : (0 : Int) ≤ (k : Int) := by omega
        have k1 : (k : Int) < (L.length : Int) := by omega
        clear hS hMM
        have HS32 := Lib.hid hS32
        go_wp2_with fail
        go_loopw [11, 13] (LcI w2 L M S w2.heap.size #[.slice (some ad) L.length c1, .slice A2 (L.length + 1) c2, .slice (some ⟨gb, 0, none⟩) c.length c.length, .int .i64 (L.length : Nat), .int .i64 (popSum L : Nat), .int .i64 z2, .int .i64 z3, .int .u32 z4]) (fun _ i _ => 32 - (intOf i).toNat)
        case atStart => exact ⟨0, rfl, by omega, by have h := HMo.out; rw [show singles S 0 = [] from rfl, List.append_nil]; exact h⟩
        case round =>
          clear HMo t0 t1 t2 t3 t4 t5 t6 t7 tf
          obtain ⟨v, rfl, hv, hM⟩ := hrel
          obtain ⟨N, hN⟩ : ∃ N, (M ++ singles S v).length = N := ⟨_, rfl⟩
          rw [hN] at hM
          have HMi := Lib.hid hM
          obtain ⟨t0, t1, t2, t3, t4, t5, t6, t7, tf⟩ := blk8 (hM.get 1 rfl).2
          obtain ⟨As, cs, rfl⟩ := own_sl (hM.get 0 rfl)
          clear hM
          by_cases hv32 : v < 32
          · obtain ⟨_, e, hb, d0⟩ := HSB.out wr HMi.out.bel
            injection e with e
            subst e
            have HHAS := Lib.hid (has_any S v HS32.out hv32)
            have HLN := Lib.hid (show N ≤ 1000 from by
              rw [← hN]
              have h1 := HK4.out
              have h2 := Pl.popTo_le S v
              rw [List.length_append, singles_len]; omega)
            have hpow := shl_u32 hv32
            have v0 : (0 : Int) ≤ (v : Int) := by omega
            have v1 : (v : Int) < 32 := by omega
            have w1 := IntWalk.i64_in ((v : Int) + 1) (by omega)
            obtain ⟨tb, htb⟩ : ∃ tb, S.testBit v = tb := ⟨_, rfl⟩
            have HTB := Lib.hid htb
            rw [htb] at HHAS
            obtain ⟨PW, hPW⟩ : ∃ PW : Int, ((2 ^ v : Nat) : Int) = PW := ⟨_, rfl⟩
            rw [hPW] at hpow
            have HPW := Lib.hid hPW
            clear hPW
            have HNN := Lib.hid hN
            have HV := Lib.hid hv32
            clear htb hN hv32 hv
            cases tb
            · go_wp2_with (go_at_call 8; refine (HHAS.out _).mono ?_; rintro e w' ⟨rfl, rfl⟩)
              go_roundw
              case rel =>
                have e1 : singles S (v + 1) = singles S v := by
                  rw [show singles S (v + 1) = if S.testBit v = true then singles S v ++ [2 ^ v] else singles S v from rfl, HTB.out]; rfl
                exact ⟨v + 1, by go_num, HV.out, by rw [e1, HNN.out]; exact HMi.out⟩
              case measure => simp [intOf]; omega
            · have hn := HLN.out
              go_wp2_with (first
                | (go_at_call 8; refine (HHAS.out _).mono ?_; rintro e w' ⟨rfl, rfl⟩)
                | (at_builtin; refine wpList_append_one rfl (.tmp 50) (.tmp 54) 31 rfl w2.heap.size 34 i0 (.int .u32 0) 4 Tryz.underlying31 hi0 hz0 hz1 hz2 rfl _ N (uv (M ++ singles S v)) rfl (World.ownsRow.alloc (HMi.out.get 0 rfl) _) (u := .int .u32 PW) rfl (blk_new_at rfl) (one_u32 _) (len_ok (by omega)) (by omega) (Nat.le_trans HMi.out.size (by rw [World.size_alloc]; exact Nat.le_succ _)) ?_; intro v1 x1 ho1 hg1 hv1; obtain ⟨A5, c5, rfl⟩ := own_sl ho1; have HMj := Lib.hid (HMi.out.app 0 rfl (grown_pre hg1) ho1 hv1 (by simp)); clear ho1 hg1 hv1))
              go_roundw
              case rel =>
                have e1 : singles S (v + 1) = singles S v ++ [2 ^ v] := by
                  rw [show singles S (v + 1) = if S.testBit v = true then singles S v ++ [2 ^ v] else singles S v from rfl, HTB.out]; rfl
                refine ⟨v + 1, by go_num, HV.out, ?_⟩
                have h := HMj.out
                have e3 : (M ++ singles S v ++ [2 ^ v]).length = N + 1 := by rw [List.length_append, HNN.out]; rfl
                rw [e1, ← List.append_assoc, e3]
                have e2 : uv (M ++ singles S v ++ [2 ^ v]) = uv (M ++ singles S v) ++ [.int .u32 PW] := by unfold uv; rw [List.map_append, ← HPW.out]; rfl
                rw [e2]
                exact h
              case measure => simp [intOf]; omega
          · obtain rfl : v = 32 := by omega
            have HNN := Lib.hid hN
            have wk := IntWalk.i64_in ((k : Int) + 1) (by have := HLL.out; have := HLT.out; omega)
            clear hN hv
            go_wp2
            go_roundw
            case rel => exact ⟨k + 1, by go_num, HLT.out, by rw [HSN.out, HNN.out]; exact HMi.out⟩
            case measure => simp [intOf]; omega
      · obtain rfl : k = L.length := by omega
        have k1 : ¬ (L.length : Int) < (L.length : Int) := by omega
        rw [List.take_length] at HMo
        have hsn := sgl_len L
        have hso := popSum_ones (sgl L) sgl_pow
        have hN960 : popSum L ≤ 960 := by have := popSum_le HR1.out; have := HLL.out; omega
        have HN2 := Lib.hid (show (sgl L).length = popSum L from hsn)
        have HN3 := Lib.hid (show popSum (sgl L) = popSum L from by rw [hso, hsn])
        rw [hsn] at HMo
        obtain ⟨As, cs, rfl⟩ := own_sl (HMo.out.get 0 rfl)
        have HSG := Lib.hid (show U32At wr wr.heap.size (.slice As (popSum L) cs) (sgl L) from u32_own' (HMo.out.get 0 rfl))
        have HBW := Lib.hid (HB2.out.below HMo.out.bel)
        have HPL := Lib.hid (show Calls Tryz.prog 9 #[.agg #[.string p.name, vv, vr], .agg #[vi, vq], .int .i64 1, .slice Ac c.length cc, .slice As (popSum L) cs] wr (RunPost ⟨p, g, c, sgl L, 1, popSum L⟩ wr) from by
          have h := Play_p ⟨p, g, c, sgl L, 1, popSum L⟩ HR2.out (show (1 : Int) ≤ 1 ∧ (1 : Int) ≤ 4 by decide) HFO.out.lg (sgl L) (by omega) (by rw [hsn]) rfl wr (HTZ.out.below HBW.out.bel HTZ.out.1) (.agg #[.string p.name, vv, vr]) (.agg #[vi, vq]) (ProgAt.to (Holds_.go HBW.out.bel) HP.out) (GraphAt.to (Holds_.go HBW.out.bel) HG.out) Ac cc (ConfAt.to (Holds_.go HBW.out.bel) HC.out) As cs (by rw [hsn]; exact HSG.out)
          rw [hsn] at h
          exact h)
        obtain ⟨p0, p1, p2, pf⟩ := blk3 (HBW.out.get 1 rfl).2
        obtain ⟨q0, q1, qf⟩ := blk2 (HBW.out.get 0 rfl).2
        have HN9 := Lib.hid hN960
        have HRE := Lib.hid (show runC p g c (sgl L) = runC p g c L from (central L HR1.out.ok HR1.out.good HR1.out.lt).2)
        clear hsn hso hN960 hlt hk
        go_wp2_with fail
        refine HPL.out.mono ?_
        rintro e w3 ⟨B1, d1, B2, d2, gb2, rfl, -, -, hD3, hb3⟩
        dsimp only at hD3 ⊢
        obtain ⟨y2, y3, y4, hy⟩ := acc1 ⟨p, g, c, sgl L, 1, popSum L⟩
        dsimp only at hy
        rw [HN2.out, HN3.out] at hy
        have HY := Lib.hid (show trV gb2 c.length (.slice B1 (popSum L) d1) (.slice B2 (popSum L + 1) d2) (accA ⟨p, g, c, sgl L, 1, popSum L⟩ (popSum L)) = .agg #[.slice B1 (popSum L) d1, .slice B2 (popSum L + 1) d2, .slice (some ⟨gb2, 0, none⟩) c.length c.length, .int .i64 (popSum L : Nat), .int .i64 (popSum L : Nat), .int .i64 y2, .int .i64 y3, .int .u32 y4] from by rw [hy]; rfl)
        rw [HN2.out, HY.out]
        have hMu := (HMo.out.below hb3).new 38 #[.slice B1 (popSum L) d1, .slice B2 (popSum L + 1) d2, .slice (some ⟨gb2, 0, none⟩) c.length c.length, .int .i64 (popSum L : Nat), .int .i64 (popSum L : Nat), .int .i64 y2, .int .i64 y3, .int .u32 y4]
        have HMu := Lib.hid hMu
        have HD3 := Lib.hid hD3
        have HB3 := Lib.hid hb3
        have HSA := Lib.hid (show ∀ X, Below w3.heap.size w3 X → Calls Tryz.prog 10 #[.slice (some ⟨gb, 0, none⟩) c.length c.length, .slice (some ⟨gb2, 0, none⟩) c.length c.length] X (YesPost X) from fun X hX => by
          have hl : (runC p g c L).length = c.length := by rw [← Cx_end p g c L]; exact Cx_len (q := ⟨p, g, c, L, 2, ws.length⟩) HR1.out L.length
          have h1 : ConfAt X X.heap.size (.slice (some ⟨gb, 0, none⟩) c.length c.length) (runC p g c L) := ConfAt.to (Holds_.go ((HMo.out.below (HB3.out)).below hX).bel) HC3.out
          have h2 : ConfAt X X.heap.size (.slice (some ⟨gb2, 0, none⟩) c.length c.length) (runC p g c L) := by
            have := ConfAt.to (Holds_.go hX) HD3.out
            rw [HRE.out] at this
            exact this
          have hok := Cx_ok p g c L HR1.out.ok L.length
          rw [Cx_end] at hok
          have hcl := HFO.out.cf.len
          have hgn := HFO.out.cf.fit.gr.hi
          have := same10_r (runC p g c L) (by omega) (fun k hk => by
            obtain ⟨_, h1, -⟩ := hok.at_ k hk
            have := hok.fit.pg.vhi
            omega) _ _ c.length c.length X (by rw [hl]; exact h1) (by rw [hl]; exact h2)
          rw [hl] at this
          exact this)
        have HWX := Lib.hid (show ∀ X, Below w3.heap.size w3 X → Below w.heap.size w X from fun X hX => ((HBW.out.below HB3.out).below hX).bel)
        clear hD3 hb3 hy hMu p0 p1 p2 pf q0 q1 qf t0 t1 t2 t3 t4 t5 t6 t7 tf HY HSG HPL
        obtain ⟨N, hN⟩ : ∃ N, popSum L = N := ⟨_, rfl⟩
        rw [hN] at HMu
        rw [hN]
        clear hN
        have HX0 := Lib.hid (show Below w3.heap.size w3 (w3.alloc (.cells #[.slice B1 N d1, .slice B2 (N + 1) d2, .slice (some ⟨gb2, 0, none⟩) c.length c.length, .int .i64 (N : Nat), .int .i64 (N : Nat), .int .i64 y2, .int .i64 y3, .int .u32 y4] 38)) from balloc (Below.refl _ _) _)
        go_wp2_with fail
        refine (HAW.out _ (HTZ.out.below (HWX.out _ HX0.out) HTZ.out.1)).mono ?_
        rintro e w4 ⟨rfl, hb4⟩
        have HX4 := Lib.hid (HX0.out.trans (hb4.mono HX0.out.size))
        have HMv := Lib.hid (HMu.out.below hb4)
        clear hb4 HX0
        obtain ⟨t0, t1, t2, t3, t4, t5, t6, t7, tf⟩ := blk8 (HMv.out.get 2 rfl).2
        obtain ⟨u0, u1, u2, u3, u4, u5, u6, u7, uf⟩ := blk8 (HMv.out.get 0 rfl).2
        have n2 : w2.heap.size < w4.heap.size := (HMv.out.get 2 rfl).2.lt
        have n3 : w3.heap.size < w4.heap.size := (HMv.out.get 0 rfl).2.lt
        go_wp2_with fail
        refine (HSA.out _ HX4.out).mono ?_
        rintro e w5 ⟨rfl, hb5⟩
        have HX5 := Lib.hid (HX4.out.trans (hb5.mono HX4.out.size))
        have HMw := Lib.hid (HMv.out.below hb5)
        clear hb5 t0 t1 t2 t3 t4 t5 t6 t7 tf u0 u1 u2 u3 u4 u5 u6 u7 uf n2 n3
        obtain ⟨t0, t1, t2, t3, t4, t5, t6, t7, tf⟩ := blk8 (HMw.out.get 2 rfl).2
        obtain ⟨u0, u1, u2, u3, u4, u5, u6, u7, uf⟩ := blk8 (HMw.out.get 0 rfl).2
        have n2 : w2.heap.size < w5.heap.size := (HMw.out.get 2 rfl).2.lt
        have n3 : w3.heap.size < w5.heap.size := (HMw.out.get 0 rfl).2.lt
        go_wp2
        go_ret
        exact ⟨ret_bool (by simp), HWX.out _ HX5.out⟩
end Go.Proofs.YtdfklagiafmoiaaGreatDoor
