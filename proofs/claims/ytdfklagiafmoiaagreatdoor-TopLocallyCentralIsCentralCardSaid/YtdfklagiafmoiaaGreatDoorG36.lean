/- Lemmas of this seat, laid together out of 3 texts: no statement of the seat is proved here. -/
import Derived.Test.YtdfklagiafmoiaaGreatDoorG29
import Derived.Test.YtdfklagiafmoiaaGreatDoorG25
import Derived.Test.YtdfklagiafmoiaaGreatDoorG28
import Derived.Test.YtdfklagiafmoiaaGreatDoorG32
import Derived.Laws.EntriesVeiled
/- The scene, made. -/
namespace Go.Proofs.YtdfklagiafmoiaaGreatDoor
open Go.RowKit

def NsM (w : World) (p : Pg) (vv vr vi vp : Value) (z : Int) (n : Nat) (vs : List Value) (R : List (Nat × List Value)) (wr : World) : Prop :=
  Mem w [cB w.heap.size (w.heap.size + 1 + 1 + 1) 169 (scC p vv vr vi vp z n (w.heap.size + 1 + 1)), cV w.heap.size (w.heap.size + 1 + 1) 26 3 1 vs R, cB w.heap.size (w.heap.size + 1) 29 #[vi, vp], cB w.heap.size w.heap.size 25 #[.string p.name, vv, vr]] wr
def NsO (w : World) (p : Pg) (g : Gr) (vv vr vi vp : Value) (n : Nat) (T : Cfg) (i : Value) (wr : World) : Prop := ∃ (v : Nat) (vs : List Value), i = .int .i64 v ∧ v ≤ n ∧ vs.length = n ∧ NsM w p vv vr vi vp (gmax (g.ids.take v)) n vs (Bv n T v) wr
def NsI (w : World) (p : Pg) (vv vr vi vp : Value) (z : Int) (n : Nat) (T : Cfg) (v : Nat) (row : List Int) (i : Value) (wr : World) : Prop := ∃ (x : Nat) (vs : List Value), i = .int .i64 x ∧ x ≤ row.length ∧ vs.length = n ∧ NsM w p vv vr vi vp z n vs (BvX n T v (row.take x)) wr
/-- what the loads of a round read -/
def NsS (w : World) (n : Nat) (vi vp : Value) (lb u : Nat) (X : World) : Prop := X.cell? ⟨w.heap.size + 1 + 1 + 1, 6, none⟩ = some (.slice (some ⟨w.heap.size + 1 + 1, 0, none⟩) n n) ∧ X.cell? ⟨w.heap.size + 1, 0, none⟩ = some vi ∧ X.cell? ⟨w.heap.size + 1, 1, none⟩ = some vp ∧ X.cell? ⟨lb, 0, none⟩ = some (.int .i64 (u : Int))
theorem ns_of {w X : World} {p : Pg} {vv vr vi vp : Value} {z wt : Int} {n lb u : Nat} {vs : List Value} {R : List (Nat × List Value)}
    (h : Mem w [cB w.heap.size lb 135 #[.int .i64 (u : Int), .int .i64 wt], cB w.heap.size (w.heap.size + 1 + 1 + 1) 169 (scC p vv vr vi vp z n (w.heap.size + 1 + 1)), cV w.heap.size (w.heap.size + 1 + 1) 26 3 1 vs R, cB w.heap.size (w.heap.size + 1) 29 #[vi, vp], cB w.heap.size w.heap.size 25 #[.string p.name, vv, vr]] X) : NsS w n vi vp lb u X :=
  ⟨(h.get 1 rfl).2.cell 6, (h.get 3 rfl).2.cell 0, (h.get 3 rfl).2.cell 1, (h.get 0 rfl).2.cell 0⟩
theorem ns_side {w X Y : World} {p : Pg} {vv vr vi vp : Value} {z wt : Int} {n lb u : Nat} {vs : List Value} {R : List (Nat × List Value)}
    (h : Mem w [cB w.heap.size lb 135 #[.int .i64 (u : Int), .int .i64 wt], cB w.heap.size (w.heap.size + 1 + 1 + 1) 169 (scC p vv vr vi vp z n (w.heap.size + 1 + 1)), cV w.heap.size (w.heap.size + 1 + 1) 26 3 1 vs R, cB w.heap.size (w.heap.size + 1) 29 #[vi, vp], cB w.heap.size w.heap.size 25 #[.string p.name, vv, vr]] X) {t : Nat} (ht : t < vs.length) (hg : X.grownBy Y vs[t].ownBlock) : NsS w n vi vp lb u Y :=
  have a := h.sideV 2 1 rfl rfl (by decide) ht hg
  have b := h.sideV 2 3 rfl rfl (by decide) ht hg
  have c := h.sideV 2 0 rfl rfl (by decide) ht hg
  ⟨a.2.cell 6, b.2.cell 0, b.2.cell 1, c.2.cell 0⟩
def ScPost (w : World) (B0 : Nat) (p : Pg) (g : Gr) (e : Ending) (w' : World) : Prop := ∃ b, e = .returned (.pointer (some ⟨b, 0, none⟩)) ∧ SceneOwn w' w.heap.size B0 b p g ∧ Below w.heap.size w w'
set_option maxRecDepth 100000 in
set_option maxHeartbeats 16000000 in
theorem scene_p (p : Pg) (g : Gr) (hg : GrOk g) (vp vg : Value) (w : World) (B0 : Nat) (hB0 : B0 ≤ w.heap.size) (hP0 : ProgAt w B0 vp p) (hG0 : GraphAt w B0 vg g) : Calls Tryz.prog 70 #[vp, vg] w (ScPost w B0 p g) := by
  obtain ⟨i0, hi0, hz0, hz1, hz2⟩ := info_parts Tryz.infoInt
  obtain ⟨vv, vr, rfl, hpv0, hpr0⟩ := hP0
  obtain ⟨Av, cv, rfl⟩ := vars_sl hpv0
  obtain ⟨Ar, cr, rfl⟩ := ListAt.sl hpr0
  obtain ⟨vi, vq, rfl, hi0', hq0⟩ := hG0
  obtain ⟨Ai, ci, rfl⟩ := ints_sl hi0'
  obtain ⟨Ap, cp, rfl⟩ := ports_sl hq0
  have hi := IntsAt.to (Holds_.more w hB0) hi0'
  have hq := PortsAt.to (Holds_.more w hB0) hq0
  have hn24 := hg.hi
  have hlen := hg.len
  have HPV := Lib.hid hpv0
  have HPR := Lib.hid hpr0
  have HI0 := Lib.hid hi0'
  have HQ0 := Lib.hid hq0
  have HI := Lib.hid hi
  have HQ := Lib.hid hq
  have HGK := Lib.hid hg
  have HTL := Lib.hid (backs_len g)
  have HTR := Lib.hid (backs_row g)
  have HC := Lib.hid (fun (u : Nat) (hu : u < g.ports.length) (hd : g.ports[u].length ≤ 1000000) (z : Int) (X : World) (hX : Below w.heap.size w X) => port_p g u hu hd z Ai ci Ap cp X (PortsAt.to (Holds_.go hX) hq))
  obtain ⟨n, hn⟩ : ∃ n, g.ports.length = n := ⟨_, rfl⟩
  obtain ⟨T, hT⟩ : ∃ T, backs g = T := ⟨_, rfl⟩
  rw [hn] at hlen hn24
  have HN := Lib.hid hn
  have HTD := Lib.hid hT
  rw [hn, hT] at HTL
  rw [hT] at HTR
  have HLEN := Lib.hid hlen
  rw [hlen, hn]
  have hmk1 := run_make_row' (P := Tryz.prog) 30 26 (.slice none 0 0) 24 Tryz.underlying30 Tryz.infoInts rfl .i64 .i64 n (by omega) (by omega)
  have hM := ((Mem.start w).new 25 #[.string p.name, .slice Av p.vars.length cv, .slice Ar p.rules.length cr]).new 29 #[.slice Ai n ci, .slice Ap n cp]
  simp only [World.size_alloc] at hM
  have HM0 := Lib.hid hM
  have HSZ := Lib.hid (show ((w.alloc (.cells #[.string p.name, .slice Av p.vars.length cv, .slice Ar p.rules.length cr] 25)).alloc (.cells #[.slice Ai n ci, .slice Ap n cp] 29)).heap.size = w.heap.size + 1 + 1 by simp only [World.size_alloc])
  clear hpv0 hpr0 hi0' hq0 hM hi hq hg hn hT hlen
  go_enter Tryz.func70, Tryz.ntmps70
  go_upto_region 1 with fail
  generalize hW : World.alloc (World.alloc _ _) _ = W at *
  have hM := HM0.out
  obtain ⟨p0, p1, p2, pf⟩ := blk3 (hM.get 1 rfl).2
  obtain ⟨q0, q1, qf⟩ := blk2 (hM.get 0 rfl).2
  have hk1 : w.heap.size + 1 < W.heap.size := (hM.get 0 rfl).2.lt
  have hk0 : w.heap.size < W.heap.size := by omega
  have hM1 := ((HM0.out.pushV (te := 26) (e := 3) (z := 1) n).new 169 (scC p (.slice Av p.vars.length cv) (.slice Ar p.rules.length cr) (.slice Ai n ci) (.slice Ap n cp) 0 n W.heap.size)).drew
  simp only [World.size_alloc] at hM1
  unfold scC at hM1
  have HM1 := Lib.hid hM1
  clear hM hM1 hW
  have rule := below_rule W
  have rule2 := below_addr W
  go_region_held3 (fun X => Below W.heap.size W X) (first | exact Below.refl _ _ | exact Below.drew (Below.refl _ _) | assumption | exact balloc (Below.drew (Below.refl _ _)) _ | exact balloc (balloc (Below.drew (Below.refl _ _)) _) _) (fail)
  have hM1 := HM1.out
  rw [HSZ.out] at hM1 ⊢
  have HX1 := Lib.hid hM1
  clear hM1 HM1 rule rule2 p0 p1 p2 pf q0 q1 qf hk1 hk0 hmk1
  generalize World.drew _ = X1 at *
  clear HSZ HM0
  have hq1 := (HX1.out.get 2 rfl).2
  obtain ⟨q0, q1, qf⟩ := blk2 hq1
  have hk1 := hq1.lt
  clear hq1
  go_wp2_with fail
  go_loopw [21] (NsO w p g (.slice Av p.vars.length cv) (.slice Ar p.rules.length cr) (.slice Ai n ci) (.slice Ap n cp) n T) (fun i _ => n - (intOf i).toNat)
  case atStart => exact ⟨0, List.replicate n (.slice none 0 0), rfl, Nat.zero_le _, by simp, by rw [Bv_zero]; exact HX1.out⟩
  case round =>
    obtain ⟨v, vs, rfl, hv, hvs, hM⟩ := hrel
    have HM := Lib.hid (show NsM w p _ _ _ _ _ n vs _ wr from hM)
    have HVS := Lib.hid hvs
    clear hM HX1 hvs q0 q1 qf hk1
    by_cases hlt : v < n
    · have hvP : v < g.ports.length := by rw [HN.out]; exact hlt
      have hvI : v < g.ids.length := by rw [HLEN.out]; exact hlt
      obtain ⟨ai, hA, hbi, d0⟩ := int_at HI.out hvI
      subst hA
      obtain ⟨ap, Ae, ce, hA, hbp, e0, he⟩ := row_at HQ.out hvP
      subst hA
      have hx1 : (ai.add v).block < w.heap.size := by rw [block_of_add]; exact hbi
      have hx2 : (ap.add v).block < w.heap.size := by rw [block_of_add]; exact hbp
      rw [← HM.out.bel.cell hx1] at d0
      rw [← HM.out.bel.cell hx2] at e0
      obtain ⟨_, _, _, hdl, hlk, _⟩ := HGK.out.ids v hvP
      have hvT : v < T.length := by rw [HTL.out]; exact hlt
      have hrw := HTR.out v hvP hvT
      have hrl := congrArg List.length hrw
      rw [List.length_map] at hrl
      obtain ⟨dn, hdn⟩ : ∃ dn, (g.ports[v]'hvP).length = dn := ⟨_, rfl⟩
      obtain ⟨row, hrow⟩ : ∃ row, T[v]'hvT = row := ⟨_, rfl⟩
      rw [hdn] at e0 hdl hrl
      rw [hrow] at hrl hrw
      have HDN := Lib.hid hdn
      have HROW := Lib.hid hrow
      have HRL := Lib.hid hrl
      have HLK := Lib.hid (show ∀ (x : Nat) (hx : x < (g.ports[v]'hvP).length), ∃ u : Nat, u < g.ports.length ∧ (g.ports[v]'hvP)[x].1 = (u : Int) from fun x hx => by
        obtain ⟨hu, -, -, -⟩ := hlk x hx hx
        have hnn := HN.out
        exact ⟨(g.ports[v]'hvP)[x].1.toNat, by omega, by omega⟩)
      have HRX := Lib.hid (show ∀ (x : Nat) (hx : x < (g.ports[v]'hvP).length) (hr : x < row.length), row[x] = portTo (g.ports.getD (g.ports[v]'hvP)[x].1.toNat []) v from fun x hx hr => by
        subst hrw
        simp)
      have HDL := Lib.hid (show ∀ (u : Nat) (hu : u < g.ports.length), (g.ports[u]'hu).length ≤ 1000000 from fun u hu => by
        obtain ⟨_, _, _, h2, _⟩ := HGK.out.ids u hu
        have hnn := HN.out
        omega)
      have hdl2 : dn ≤ 24 := by have hnn := HN.out; omega
      clear hlk hrl hrw hdn
      have hgs := gmax_snoc g.ids v hvI
      obtain ⟨z, hz⟩ : ∃ z, gmax (g.ids.take v) = z := ⟨_, rfl⟩
      obtain ⟨y, hy⟩ : ∃ y, g.ids[v]'hvI = y := ⟨_, rfl⟩
      rw [hz, hy] at hgs
      rw [hy] at d0
      rw [hz] at HM
      have hs := (HM.out.get 0 rfl).2
      unfold scC at hs
      obtain ⟨s0, s1, s2, s3, s4, s5, s6, sf⟩ := blk7 hs
      obtain ⟨q0, q1, qf⟩ := blk2 (HM.out.get 2 rfl).2
      have k3 := hs.lt
      have k1 := (HM.out.get 2 rfl).2.lt
      have v0 : (0 : Int) ≤ (v : Int) := by omega
      have v1 : (v : Int) < (n : Int) := by omega
      have HGS := Lib.hid hgs
      have HE := Lib.hid he
      have HLT := Lib.hid hlt
      clear hz hy hgs hs he hlt
      go_upto_region 5 with fail
      go_still_tail 13, (by kernel_rfl)
      change wpList _ _ _ _ _ wr.drew
      go_wp2_with fail
      all_goals
        have HM5 := Lib.hid (show NsM w p _ _ _ _ (gmax (g.ids.take (v + 1))) n vs (Bv n T v) _ from by
          rw [HGS.out]
          first
            | (rw [show max z y = z by omega]; exact (HM.out.set_ 0 rfl 5 (.int .i64 z) rfl).drew)
            | (rw [show max z y = y by omega]; exact (HM.out.set_ 0 rfl 5 (.int .i64 y) rfl).drew))
        generalize World.drew (World.setCell _ _ _) = X2 at *
        have hq1 := (HM5.out.get 2 rfl).2
        obtain ⟨q0, q1, qf⟩ := blk2 hq1
        have k1 := hq1.lt
        clear hq1
        have HM5' := Lib.hid (show NsM w p (.slice Av p.vars.length cv) (.slice Ar p.rules.length cr) (.slice (some ai) n ci) (.slice (some ap) n cp) (gmax (g.ids.take (v + 1))) n vs (BvX n T v (row.take 0)) X2 from by have h := HM5.out; rw [Bv_open HTL.out HLT.out] at h; exact h)
        go_loopw [41] (NsI w p (.slice Av p.vars.length cv) (.slice Ar p.rules.length cr) (.slice (some ai) n ci) (.slice (some ap) n cp) (gmax (g.ids.take (v + 1))) n T v row) (fun i _ => dn - (intOf i).toNat)
        case atStart => exact ⟨0, vs, rfl, Nat.zero_le _, HVS.out, HM5'.out⟩
        case round =>
          obtain ⟨x, vs2, rfl, hx, hvs2, hM⟩ := hrel
          have HM8 := Lib.hid (show NsM w p _ _ _ _ _ n vs2 _ wr from hM)
          have HVS2 := Lib.hid hvs2
          rw [HRL.out] at hx
          clear hM hvs2 HM5 HM5' q0 q1 qf k1
          by_cases hltx : x < dn
          · have hxP : x < (g.ports[v]'hvP).length := by rw [HDN.out]; exact hltx
            have hxr : x < row.length := by rw [HRL.out]; exact hltx
            obtain ⟨ae, hA, hbe, f0, f1⟩ := pair_at HE.out hxP
            subst hA
            have hx3 : (ae.add (x * 2)).block < w.heap.size := by rw [block_of_add]; exact hbe
            rw [← HM8.out.bel.cell (p := ae.add (x * 2)) hx3] at f0
            rw [← HM8.out.bel.cell (p := ⟨(ae.add (x * 2)).block, (ae.add (x * 2)).off + 1, none⟩) hx3] at f1
            obtain ⟨u, hu, hue⟩ := HLK.out x hxP
            have hrx := HRX.out x hxP hxr
            have hdu := HDL.out u hu
            have hcx := HC.out u hu hdu v
            obtain ⟨t, ht⟩ : ∃ t : Tm, (g.ports[v]'hvP)[x]'hxP = t := ⟨_, rfl⟩
            rw [ht] at f0 f1 hue hrx
            obtain ⟨tu, wt⟩ := t
            dsimp only at f0 f1 hue hrx
            subst hue
            have hgu : g.ports.getD (u : Int).toNat [] = g.ports[u]'hu := by rw [Int.toNat_natCast, List.getD_eq_getElem?_getD, List.getElem?_eq_getElem hu]; rfl
            rw [hgu] at hrx
            obtain ⟨bz, hbz⟩ : ∃ bz, portTo (g.ports[u]'hu) v = bz := ⟨_, rfl⟩
            rw [hbz] at hrx hcx
            unfold graphV at hcx
            rw [HLEN.out, HN.out] at hcx
            have HCX := Lib.hid hcx
            have HRX2 := Lib.hid (show row.take (x + 1) = row.take x ++ [bz] from by rw [List.take_succ_eq_append_getElem hxr, hrx])
            obtain ⟨ys, hys⟩ : ∃ ys, row.take x = ys := ⟨_, rfl⟩
            have hyl : ys.length = x := by rw [← hys, List.length_take, HRL.out]; omega
            rw [hys] at HM8 HRX2
            have hvv : v < vs2.length := by rw [HVS2.out]; exact HLT.out
            have hrow2 := (HM8.out.get 1 rfl).2.row v hvv (by rw [BvX_len HTL.out HLT.out]; exact HLT.out)
            rw [BvX_at HTL.out HLT.out] at hrow2
            dsimp only at hrow2
            obtain ⟨A9, c9, hv9⟩ := own_sl hrow2
            rw [hv9] at hrow2
            have HVE := Lib.hid hv9
            have HVV := Lib.hid hvv
            have HMA := Lib.hid (HM8.out.new 135 #[.int .i64 (u : Int), .int .i64 wt])
            have HYL := Lib.hid hyl
            have hyl2 : ys.length ≤ 24 := by omega
            have HLX := Lib.hid hltx
            have x0 : (0 : Int) ≤ (x : Int) := by omega
            have x1 : (x : Int) < (dn : Int) := by omega
            clear hcx hrx hgu hbz ht hys hyl hrow2 hv9 hdu
            go_upto_region 9 with fail
            generalize hW : World.alloc _ _ = W at *
            have hMA := HMA.out
            have g0 := (hMA.get 2 rfl).2.blk.get (k := v) HVV.out
            rw [HVE.out] at g0
            have HS := Lib.hid (ns_of hMA.drew)
            clear hMA hW f0 f1 d0 e0
            refine wp_region_noPanic ?_
            refine wp_region_held_drew (S := NsS w n (.slice (some ai) n ci) (.slice (some ap) n cp) wr.heap.size u) (by kernel_rfl) ?_ (fun hHeld => ?_)
            · exact HS.out
            refine take_l (i := 0) (v := ?_) rfl (by kernel_rfl) (by kernel_rfl) (by kernel_rfl) (fun _ _ _ h => h) (by rfl) ?_ hHeld ?_
            rotate_left
            · intro w hSw; obtain ⟨c1, c2, c3, c4⟩ := hSw; go_simp; first | done | with_reducible rfl
            try simp only [Act.put, List.setIfInBounds_toArray, List.set_cons_zero, List.set_cons_succ]
            refine take_l (i := 1) (v := ?_) rfl (by kernel_rfl) (by kernel_rfl) (by kernel_rfl) (fun _ _ _ h => h) (by rfl) ?_ hHeld ?_
            rotate_left
            · intro w hSw; obtain ⟨c1, c2, c3, c4⟩ := hSw; go_simp; first | done | with_reducible rfl
            try simp only [Act.put, List.setIfInBounds_toArray, List.set_cons_zero, List.set_cons_succ]
            refine take_l (i := 2) (v := ?_) rfl (by kernel_rfl) (by kernel_rfl) (by kernel_rfl) (fun _ _ _ h => h) (by rfl) ?_ hHeld ?_
            rotate_left
            · intro w hSw; obtain ⟨c1, c2, c3, c4⟩ := hSw; go_simp; first | done | with_reducible rfl
            try simp only [Act.put, List.setIfInBounds_toArray, List.set_cons_zero, List.set_cons_succ]
            refine take_l (i := 3) (v := ?_) rfl (by kernel_rfl) (by kernel_rfl) (by kernel_rfl) (fun _ _ _ h => h) (by rfl) ?_ hHeld ?_
            rotate_left
            · intro w hSw; obtain ⟨c1, c2, c3, c4⟩ := hSw; go_simp; first | done | with_reducible rfl
            try simp only [Act.put, List.setIfInBounds_toArray, List.set_cons_zero, List.set_cons_succ]
            refine take_l (i := 4) (v := ?_) rfl (by kernel_rfl) (by kernel_rfl) (by kernel_rfl) (fun _ _ _ h => h) (by rfl) ?_ hHeld ?_
            rotate_left
            · intro w hSw; obtain ⟨c1, c2, c3, c4⟩ := hSw; go_simp; first | done | with_reducible rfl
            try simp only [Act.put, List.setIfInBounds_toArray, List.set_cons_zero, List.set_cons_succ]
            refine take_l (i := 5) (v := ?_) rfl (by kernel_rfl) (by kernel_rfl) (by kernel_rfl) (fun _ _ _ h => h) (by rfl) ?_ hHeld ?_
            rotate_left
            · intro w hSw; obtain ⟨c1, c2, c3, c4⟩ := hSw; go_simp; first | done | with_reducible rfl
            try simp only [Act.put, List.setIfInBounds_toArray, List.set_cons_zero, List.set_cons_succ]
            refine take_l (i := 6) (v := ?_) rfl (by kernel_rfl) (by kernel_rfl) (by kernel_rfl) (fun _ _ _ h => h) (by rfl) ?_ hHeld ?_
            rotate_left
            · intro w hSw; obtain ⟨c1, c2, c3, c4⟩ := hSw; go_simp; first | done | with_reducible rfl
            try simp only [Act.put, List.setIfInBounds_toArray, List.set_cons_zero, List.set_cons_succ]
            refine take_l (i := 7) (v := ?_) rfl (by kernel_rfl) (by kernel_rfl) (by kernel_rfl) (fun _ _ _ h => h) (by rfl) ?_ hHeld ?_
            rotate_left
            · intro w hSw; obtain ⟨c1, c2, c3, c4⟩ := hSw; go_simp; first | done | with_reducible rfl
            try simp only [Act.put, List.setIfInBounds_toArray, List.set_cons_zero, List.set_cons_succ]
            refine take_l (i := 8) (v := ?_) rfl (by kernel_rfl) (by kernel_rfl) (by kernel_rfl) (fun _ _ _ h => h) (by rfl) ?_ hHeld ?_
            rotate_left
            · intro w hSw; obtain ⟨c1, c2, c3, c4⟩ := hSw; go_simp; first | done | with_reducible rfl
            try simp only [Act.put, List.setIfInBounds_toArray, List.set_cons_zero, List.set_cons_succ]
            refine take_l (i := 9) (v := ?_) rfl (by kernel_rfl) (by kernel_rfl) (by kernel_rfl) (fun _ _ _ h => h) (by rfl) ?_ hHeld ?_
            rotate_left
            · intro w hSw; obtain ⟨c1, c2, c3, c4⟩ := hSw; go_simp; first | done | with_reducible rfl
            try simp only [Act.put, List.setIfInBounds_toArray, List.set_cons_zero, List.set_cons_succ]
            refine take_l (i := 10) (v := ?_) rfl (by kernel_rfl) (by kernel_rfl) (by kernel_rfl) (fun _ _ _ h => h) (by rfl) ?_ hHeld ?_
            rotate_left
            · intro w hSw; obtain ⟨c1, c2, c3, c4⟩ := hSw; go_simp; first | done | with_reducible rfl
            try simp only [Act.put, List.setIfInBounds_toArray, List.set_cons_zero, List.set_cons_succ]
            refine take_l (i := 12) (v := ?_) rfl (by kernel_rfl) (by kernel_rfl) (by kernel_rfl) (fun _ _ _ h => h) (by rfl) ?_ hHeld ?_
            rotate_left
            · intro w hSw; obtain ⟨c1, c2, c3, c4⟩ := hSw; go_simp; first | done | with_reducible rfl
            try simp only [Act.put, List.setIfInBounds_toArray, List.set_cons_zero, List.set_cons_succ]
            refine take_l (i := 13) (v := ?_) rfl (by kernel_rfl) (by kernel_rfl) (by kernel_rfl) (fun _ _ _ h => h) (by rfl) ?_ hHeld ?_
            rotate_left
            · intro w hSw; obtain ⟨c1, c2, c3, c4⟩ := hSw; go_simp; first | done | with_reducible rfl
            try simp only [Act.put, List.setIfInBounds_toArray, List.set_cons_zero, List.set_cons_succ]
            refine take_l (i := 14) (v := ?_) rfl (by kernel_rfl) (by kernel_rfl) (by kernel_rfl) (fun _ _ _ h => h) (by rfl) ?_ hHeld ?_
            rotate_left
            · intro w hSw; obtain ⟨c1, c2, c3, c4⟩ := hSw; go_simp; first | done | with_reducible rfl
            try simp only [Act.put, List.setIfInBounds_toArray, List.set_cons_zero, List.set_cons_succ]
            refine take_l (i := 15) (v := ?_) rfl (by kernel_rfl) (by kernel_rfl) (by kernel_rfl) (fun _ _ _ h => h) (by rfl) ?_ hHeld ?_
            rotate_left
            · intro w hSw; obtain ⟨c1, c2, c3, c4⟩ := hSw; go_simp; first | done | with_reducible rfl
            try simp only [Act.put, List.setIfInBounds_toArray, List.set_cons_zero, List.set_cons_succ]
            refine wpAnyH_ready (rs := [11, 16]) (by kernel_rfl) (by simp) ?_
            refine cons_l rfl (fun K hK => ?_) (cons_l rfl (fun K hK => ?_) AllReadyH.nil)
            · go_simp
              refine hK.out _ _ ?_ (fun hHeld => ?_)
              · exact HS.out
              clear hK K
              try simp only [Act.put, List.setIfInBounds_toArray, List.set_cons_zero, List.set_cons_succ]
              refine wpAnyH_ready (rs := [16]) (by kernel_rfl) (by simp) ?_
              refine cons_l rfl (fun K hK => ?_) AllReadyH.nil
              go_simp
              refine (HCX.out _ HMA.out.drew.bel).mono ?_
              rintro e w2 ⟨rfl, hb2⟩
              have HM6 := Lib.hid (show Mem w _ w2 from HMA.out.drew.below hb2)
              have g6 := (HM6.out.get 2 rfl).2.blk.get (k := v) HVV.out
              rw [HVE.out] at g6
              have HS := Lib.hid (ns_of HM6.out)
              clear hb2
              refine hK.out _ _ ?_ (fun hHeld => ?_)
              · exact HS.out
              clear hK K
              try simp only [Act.put, List.setIfInBounds_toArray, List.set_cons_zero, List.set_cons_succ]
              refine wpAnyH_ready (rs := [17]) (by kernel_rfl) (by simp) ?_
              refine cons_l rfl (fun K hK => ?_) AllReadyH.nil
              go_simp
              have HM7 := Lib.hid (HM6.out.alloc (.cells #[.int .i64 bz] 3))
              have HS := Lib.hid (ns_of HM7.out)
              have g7 := (HM7.out.get 2 rfl).2.blk.get (k := v) HVV.out
              rw [HVE.out] at g7
              refine hK.out _ _ ?_ (fun hHeld => ?_)
              · exact HS.out
              clear hK K
              try simp only [Act.put, List.setIfInBounds_toArray, List.set_cons_zero, List.set_cons_succ]
              refine wpAnyH_ready (rs := [18]) (by kernel_rfl) (by simp) ?_
              refine cons_l rfl (fun K hK => ?_) AllReadyH.nil
              refine step_append_one rfl (.tmp 56) (.tmp 62) 26 rfl w.heap.size 3 i0 (.int .i64 0) 8 Tryz.underlying26 hi0 hz0 hz1 hz2 rfl (.slice A9 ys.length c9) ys.length (iv ys) rfl (by have h := (HM7.out.get 2 rfl).2.row v HVV.out (by rw [BvX_len HTL.out HLT.out]; exact HLT.out); rw [BvX_at HTL.out HLT.out, HVE.out] at h; exact h) (u := .int .i64 bz) rfl (Blk.new _ _ _) (one_int _) (len_ok (by omega)) (by omega) (by exact HM7.out.size) ?_
              intro v7 x7 ho7 hg7 hv7
              have HS := Lib.hid (show NsS w n (.slice (some ai) n ci) (.slice (some ap) n cp) wr.heap.size u x7 from ns_side HM7.out HVV.out (by rw [HVE.out]; exact hg7))
              have HM9 := Lib.hid (HM7.out.rowV 2 rfl (by decide) (t := v) (n' := ys.length + 1) (v' := v7) (xs' := iv ys ++ [.int .i64 bz]) (x1 := x7) (Nat.succ_pos _) (Nat.le_refl _) HVV.out (by rw [BvX_len HTL.out HLT.out]; exact HLT.out) (by rw [HVE.out]; exact hg7) ho7 (by rw [HVE.out]; exact hv7))
              have gg := (GridV.app (HM7.out.get 2 rfl).2 (by decide) (t := v) (Nat.succ_pos _) (Nat.le_refl _) HVV.out (by rw [BvX_len HTL.out HLT.out]; exact HLT.out) (by rw [HVE.out]; exact hg7) ho7 (by rw [HVE.out]; exact hv7)).1
              have g9 := gg.get (k := v) HVV.out
              have g9f := gg.frozen v
              obtain ⟨b9, c10, rfl⟩ := own_succ ho7
              refine hK.out _ _ ?_ (fun hHeld => ?_)
              · exact HS.out
              clear hK K
              try simp only [Act.put, List.setIfInBounds_toArray, List.set_cons_zero, List.set_cons_succ]
              refine take_l (i := 19) (v := ?_) rfl (by kernel_rfl) (by kernel_rfl) (by kernel_rfl) (fun _ _ _ h => h) (by rfl) ?_ hHeld ?_
              rotate_left
              · intro w hSw; go_simp; first | done | with_reducible rfl
              try simp only [Act.put, List.setIfInBounds_toArray, List.set_cons_zero, List.set_cons_succ]
              refine wpAnyH_ready (rs := [20]) (by kernel_rfl) (by simp) ?_
              refine cons_l rfl (fun K hK => ?_) AllReadyH.nil
              go_simp
              have HS := Lib.hid (ns_of HM9.out)
              refine hK.out _ _ ?_ (fun hHeld => ?_)
              · exact HS.out
              clear hK K
              try simp only [Act.put, List.setIfInBounds_toArray, List.set_cons_zero, List.set_cons_succ]
              refine wpAnyH_done (by kernel_rfl) ?_ _
              refine NoPanic.normal ?_
              have HM10 := Lib.hid (show NsM w p _ _ _ _ (gmax (g.ids.take (v + 1))) n _ (BvX n T v (row.take (x + 1))) _ from by
                rw [HRX2.out]
                have h := HM9.out.erase 0
                have e := BvX_set (T := T) (v := v) HTL.out HLT.out ys (ys ++ [bz])
                rw [List.length_append] at e
                have e2 : iv ys ++ [.int .i64 bz] = iv (ys ++ [bz]) := by unfold iv; simp
                rw [e2] at h
                have e3 : ys.length + 1 = ys.length + [bz].length := rfl
                rw [e3, e] at h
                exact h)
              clear HM9 HM7 HM6 g0 g6 g7 g9 g9f gg ho7 hg7 hv7
              go_wp2
              go_roundw
              case rel => exact ⟨x + 1, _, by go_num, by rw [HRL.out]; exact HLX.out, by rw [List.length_set]; exact HVS2.out, HM10.out⟩
              case measure => simp [intOf]; omega
            · go_simp
              refine (HCX.out _ HMA.out.drew.bel).mono ?_
              rintro e w2 ⟨rfl, hb2⟩
              have HM6 := Lib.hid (show Mem w _ w2 from HMA.out.drew.below hb2)
              have g6 := (HM6.out.get 2 rfl).2.blk.get (k := v) HVV.out
              rw [HVE.out] at g6
              have HS := Lib.hid (ns_of HM6.out)
              clear hb2
              refine hK.out _ _ ?_ (fun hHeld => ?_)
              · exact HS.out
              clear hK K
              try simp only [Act.put, List.setIfInBounds_toArray, List.set_cons_zero, List.set_cons_succ]
              refine wpAnyH_ready (rs := [11, 17]) (by kernel_rfl) (by simp) ?_
              refine cons_l rfl (fun K hK => ?_) (cons_l rfl (fun K hK => ?_) AllReadyH.nil)
              · go_simp
                refine hK.out _ _ ?_ (fun hHeld => ?_)
                · exact HS.out
                clear hK K
                try simp only [Act.put, List.setIfInBounds_toArray, List.set_cons_zero, List.set_cons_succ]
                refine wpAnyH_ready (rs := [17]) (by kernel_rfl) (by simp) ?_
                refine cons_l rfl (fun K hK => ?_) AllReadyH.nil
                go_simp
                have HM7 := Lib.hid (HM6.out.alloc (.cells #[.int .i64 bz] 3))
                have HS := Lib.hid (ns_of HM7.out)
                have g7 := (HM7.out.get 2 rfl).2.blk.get (k := v) HVV.out
                rw [HVE.out] at g7
                refine hK.out _ _ ?_ (fun hHeld => ?_)
                · exact HS.out
                clear hK K
                try simp only [Act.put, List.setIfInBounds_toArray, List.set_cons_zero, List.set_cons_succ]
                refine wpAnyH_ready (rs := [18]) (by kernel_rfl) (by simp) ?_
                refine cons_l rfl (fun K hK => ?_) AllReadyH.nil
                refine step_append_one rfl (.tmp 56) (.tmp 62) 26 rfl w.heap.size 3 i0 (.int .i64 0) 8 Tryz.underlying26 hi0 hz0 hz1 hz2 rfl (.slice A9 ys.length c9) ys.length (iv ys) rfl (by have h := (HM7.out.get 2 rfl).2.row v HVV.out (by rw [BvX_len HTL.out HLT.out]; exact HLT.out); rw [BvX_at HTL.out HLT.out, HVE.out] at h; exact h) (u := .int .i64 bz) rfl (Blk.new _ _ _) (one_int _) (len_ok (by omega)) (by omega) (by exact HM7.out.size) ?_
                intro v7 x7 ho7 hg7 hv7
                have HS := Lib.hid (show NsS w n (.slice (some ai) n ci) (.slice (some ap) n cp) wr.heap.size u x7 from ns_side HM7.out HVV.out (by rw [HVE.out]; exact hg7))
                have HM9 := Lib.hid (HM7.out.rowV 2 rfl (by decide) (t := v) (n' := ys.length + 1) (v' := v7) (xs' := iv ys ++ [.int .i64 bz]) (x1 := x7) (Nat.succ_pos _) (Nat.le_refl _) HVV.out (by rw [BvX_len HTL.out HLT.out]; exact HLT.out) (by rw [HVE.out]; exact hg7) ho7 (by rw [HVE.out]; exact hv7))
                have gg := (GridV.app (HM7.out.get 2 rfl).2 (by decide) (t := v) (Nat.succ_pos _) (Nat.le_refl _) HVV.out (by rw [BvX_len HTL.out HLT.out]; exact HLT.out) (by rw [HVE.out]; exact hg7) ho7 (by rw [HVE.out]; exact hv7)).1
                have g9 := gg.get (k := v) HVV.out
                have g9f := gg.frozen v
                obtain ⟨b9, c10, rfl⟩ := own_succ ho7
                refine hK.out _ _ ?_ (fun hHeld => ?_)
                · exact HS.out
                clear hK K
                try simp only [Act.put, List.setIfInBounds_toArray, List.set_cons_zero, List.set_cons_succ]
                refine take_l (i := 19) (v := ?_) rfl (by kernel_rfl) (by kernel_rfl) (by kernel_rfl) (fun _ _ _ h => h) (by rfl) ?_ hHeld ?_
                rotate_left
                · intro w hSw; go_simp; first | done | with_reducible rfl
                try simp only [Act.put, List.setIfInBounds_toArray, List.set_cons_zero, List.set_cons_succ]
                refine wpAnyH_ready (rs := [20]) (by kernel_rfl) (by simp) ?_
                refine cons_l rfl (fun K hK => ?_) AllReadyH.nil
                go_simp
                have HS := Lib.hid (ns_of HM9.out)
                refine hK.out _ _ ?_ (fun hHeld => ?_)
                · exact HS.out
                clear hK K
                try simp only [Act.put, List.setIfInBounds_toArray, List.set_cons_zero, List.set_cons_succ]
                refine wpAnyH_done (by kernel_rfl) ?_ _
                refine NoPanic.normal ?_
                have HM10 := Lib.hid (show NsM w p _ _ _ _ (gmax (g.ids.take (v + 1))) n _ (BvX n T v (row.take (x + 1))) _ from by
                  rw [HRX2.out]
                  have h := HM9.out.erase 0
                  have e := BvX_set (T := T) (v := v) HTL.out HLT.out ys (ys ++ [bz])
                  rw [List.length_append] at e
                  have e2 : iv ys ++ [.int .i64 bz] = iv (ys ++ [bz]) := by unfold iv; simp
                  rw [e2] at h
                  have e3 : ys.length + 1 = ys.length + [bz].length := rfl
                  rw [e3, e] at h
                  exact h)
                clear HM9 HM7 HM6 g0 g6 g7 g9 g9f gg ho7 hg7 hv7
                go_wp2
                go_roundw
                case rel => exact ⟨x + 1, _, by go_num, by rw [HRL.out]; exact HLX.out, by rw [List.length_set]; exact HVS2.out, HM10.out⟩
                case measure => simp [intOf]; omega
              · go_simp
                have HM7 := Lib.hid (HM6.out.alloc (.cells #[.int .i64 bz] 3))
                have HS := Lib.hid (ns_of HM7.out)
                have g7 := (HM7.out.get 2 rfl).2.blk.get (k := v) HVV.out
                rw [HVE.out] at g7
                refine hK.out _ _ ?_ (fun hHeld => ?_)
                · exact HS.out
                clear hK K
                try simp only [Act.put, List.setIfInBounds_toArray, List.set_cons_zero, List.set_cons_succ]
                refine wpAnyH_ready (rs := [11]) (by kernel_rfl) (by simp) ?_
                refine cons_l rfl (fun K hK => ?_) AllReadyH.nil
                go_simp
                refine hK.out _ _ ?_ (fun hHeld => ?_)
                · exact HS.out
                clear hK K
                try simp only [Act.put, List.setIfInBounds_toArray, List.set_cons_zero, List.set_cons_succ]
                refine wpAnyH_ready (rs := [18]) (by kernel_rfl) (by simp) ?_
                refine cons_l rfl (fun K hK => ?_) AllReadyH.nil
                refine step_append_one rfl (.tmp 56) (.tmp 62) 26 rfl w.heap.size 3 i0 (.int .i64 0) 8 Tryz.underlying26 hi0 hz0 hz1 hz2 rfl (.slice A9 ys.length c9) ys.length (iv ys) rfl (by have h := (HM7.out.get 2 rfl).2.row v HVV.out (by rw [BvX_len HTL.out HLT.out]; exact HLT.out); rw [BvX_at HTL.out HLT.out, HVE.out] at h; exact h) (u := .int .i64 bz) rfl (Blk.new _ _ _) (one_int _) (len_ok (by omega)) (by omega) (by exact HM7.out.size) ?_
                intro v7 x7 ho7 hg7 hv7
                have HS := Lib.hid (show NsS w n (.slice (some ai) n ci) (.slice (some ap) n cp) wr.heap.size u x7 from ns_side HM7.out HVV.out (by rw [HVE.out]; exact hg7))
                have HM9 := Lib.hid (HM7.out.rowV 2 rfl (by decide) (t := v) (n' := ys.length + 1) (v' := v7) (xs' := iv ys ++ [.int .i64 bz]) (x1 := x7) (Nat.succ_pos _) (Nat.le_refl _) HVV.out (by rw [BvX_len HTL.out HLT.out]; exact HLT.out) (by rw [HVE.out]; exact hg7) ho7 (by rw [HVE.out]; exact hv7))
                have gg := (GridV.app (HM7.out.get 2 rfl).2 (by decide) (t := v) (Nat.succ_pos _) (Nat.le_refl _) HVV.out (by rw [BvX_len HTL.out HLT.out]; exact HLT.out) (by rw [HVE.out]; exact hg7) ho7 (by rw [HVE.out]; exact hv7)).1
                have g9 := gg.get (k := v) HVV.out
                have g9f := gg.frozen v
                obtain ⟨b9, c10, rfl⟩ := own_succ ho7
                refine hK.out _ _ ?_ (fun hHeld => ?_)
                · exact HS.out
                clear hK K
                try simp only [Act.put, List.setIfInBounds_toArray, List.set_cons_zero, List.set_cons_succ]
                refine take_l (i := 19) (v := ?_) rfl (by kernel_rfl) (by kernel_rfl) (by kernel_rfl) (fun _ _ _ h => h) (by rfl) ?_ hHeld ?_
                rotate_left
                · intro w hSw; go_simp; first | done | with_reducible rfl
                try simp only [Act.put, List.setIfInBounds_toArray, List.set_cons_zero, List.set_cons_succ]
                refine wpAnyH_ready (rs := [20]) (by kernel_rfl) (by simp) ?_
                refine cons_l rfl (fun K hK => ?_) AllReadyH.nil
                go_simp
                have HS := Lib.hid (ns_of HM9.out)
                refine hK.out _ _ ?_ (fun hHeld => ?_)
                · exact HS.out
                clear hK K
                try simp only [Act.put, List.setIfInBounds_toArray, List.set_cons_zero, List.set_cons_succ]
                refine wpAnyH_done (by kernel_rfl) ?_ _
                refine NoPanic.normal ?_
                have HM10 := Lib.hid (show NsM w p _ _ _ _ (gmax (g.ids.take (v + 1))) n _ (BvX n T v (row.take (x + 1))) _ from by
                  rw [HRX2.out]
                  have h := HM9.out.erase 0
                  have e := BvX_set (T := T) (v := v) HTL.out HLT.out ys (ys ++ [bz])
                  rw [List.length_append] at e
                  have e2 : iv ys ++ [.int .i64 bz] = iv (ys ++ [bz]) := by unfold iv; simp
                  rw [e2] at h
                  have e3 : ys.length + 1 = ys.length + [bz].length := rfl
                  rw [e3, e] at h
                  exact h)
                clear HM9 HM7 HM6 g0 g6 g7 g9 g9f gg ho7 hg7 hv7
                go_wp2
                go_roundw
                case rel => exact ⟨x + 1, _, by go_num, by rw [HRL.out]; exact HLX.out, by rw [List.length_set]; exact HVS2.out, HM10.out⟩
                case measure => simp [intOf]; omega
          · obtain rfl : x = dn := by omega
            have HM9 := Lib.hid (show NsM w p _ _ _ _ (gmax (g.ids.take (v + 1))) n vs2 (Bv n T (v + 1)) wr from by
              have h := HM8.out
              rw [← BvX_full HTL.out HLT.out]
              rw [List.take_of_length_le (l := row) (i := x) (by rw [HRL.out]; exact Nat.le_refl _)] at h
              have e := HROW.out
              rw [e]
              exact h)
            go_wp2
            go_roundw
            case rel => exact ⟨v + 1, vs2, by go_num, HLT.out, HVS2.out, HM9.out⟩
            case measure => simp [intOf]; omega
    · obtain rfl : v = n := by omega
      obtain rfl := HTD.out
      have HM9 := Lib.hid (show NsM w p _ _ _ _ (gmax g.ids) v vs ((backs g).map fun r => (r.length, iv r)) wr from by
        have h := HM.out
        rw [List.take_of_length_le (l := g.ids) (i := v) (by rw [HLEN.out]; exact Nat.le_refl _), Bv_full HTL.out] at h
        exact h)
      have hs := (HM9.out.get 0 rfl).2
      unfold scC at hs
      have HS7 := Lib.hid (blk7 hs)
      have HSL := Lib.hid hs.lt
      have hb : Holds_ B0 B0 w wr := ⟨Nat.le_refl _, fun p hp => HM9.out.bel.cell (Nat.lt_of_lt_of_le hp hB0)⟩
      have H1 := Lib.hid (VarsAt.to hb HPV.out)
      have H2 := Lib.hid (RulesAt.to hb HPR.out)
      have H3 := Lib.hid (IntsAt.to hb HI0.out)
      have H4 := Lib.hid (PortsAt.to hb HQ0.out)
      clear hs hb
      go_wp2
      go_ret
      obtain ⟨s0, s1, s2, s3, s4, s5, s6, -⟩ := HS7.out
      refine ⟨w.heap.size + 1 + 1 + 1, rfl, ⟨Av, cv, Ar, cr, Ai, ci, Ap, cp, some ⟨w.heap.size + 1 + 1, 0, none⟩, (backs g).length, by omega, HSL.out, ⟨s0, s1, s2, by rw [HLEN.out]; exact s3, by rw [HN.out]; exact s4, s5, by rw [HTL.out]; exact s6⟩, H1.out, H2.out, H3.out, H4.out, ?_⟩, HM9.out.bel⟩
      exact ⟨w.heap.size + 1 + 1, vs, rfl, by omega, (HM9.out.get 1 rfl).2⟩
end Go.Proofs.YtdfklagiafmoiaaGreatDoor

/- A mover, made. -/
namespace Go.Proofs.YtdfklagiafmoiaaGreatDoor
open Go.RowKit

theorem BkOwn.base_ {w : World} {base base' : Nat} {v : Value} {T : Cfg} (h : BkOwn w base v T) (hb : base' ≤ base) : BkOwn w base' v T := by
  obtain ⟨gb, vs, e, h1, h2⟩ := h
  exact ⟨gb, vs, e, Nat.le_trans hb h1, h2.base_ hb⟩
theorem TabOwn.base_ {w : World} {base base' : Nat} {v : Value} {T : List (List Tm)} (h : TabOwn w base v T) (hb : base' ≤ base) : TabOwn w base' v T := by
  obtain ⟨gb, m, vs, e, h1, h2, h3⟩ := h
  exact ⟨gb, m, vs, e, Nat.le_trans hb h1, h2.base_ hb, h3⟩
theorem SceneOwn.base_ {w : World} {base base' B0 b : Nat} {p : Pg} {g : Gr} (h : SceneOwn w base B0 b p g) (hb : base' ≤ base) : SceneOwn w base' B0 b p g := by
  obtain ⟨Av, cv, Ar, cr, Ai, ci, Ap, cp, Ab, cb, h0, hlt, hc, h1, h2, h3, h4, h5⟩ := h
  exact ⟨Av, cv, Ar, cr, Ai, ci, Ap, cp, Ab, cb, Nat.le_trans hb h0, hlt, hc, h1, h2, h3, h4, h5.base_ hb⟩
def MkPost (w : World) (B0 : Nat) (p : Pg) (g : Gr) (e : Ending) (w' : World) : Prop := ∃ m, e = .returned (.pointer (some ⟨m, 0, none⟩)) ∧ MoverOwn w' w.heap.size B0 m p g ∧ Below w.heap.size w w'
set_option maxRecDepth 100000 in
set_option maxHeartbeats 16000000 in
theorem mover_p (p : Pg) (g : Gr) (hf : FitOk p g) (hlg : LightG g) (vp vg : Value) (w : World) (B0 : Nat) (hB0 : B0 ≤ w.heap.size) (hP0 : ProgAt w B0 vp p) (hG0 : GraphAt w B0 vg g) : Calls Tryz.prog 39 #[vp, vg] w (MkPost w B0 p g) := by
  have HP := Lib.hid hP0
  have HG := Lib.hid hG0
  have HF := Lib.hid hf
  have HLG := Lib.hid hlg
  have HB0 := Lib.hid hB0
  obtain ⟨vv, vr, rfl, hpv, hpr⟩ := hP0
  obtain ⟨Av, cv, rfl⟩ := vars_sl hpv
  obtain ⟨Ar, cr, rfl⟩ := ListAt.sl hpr
  obtain ⟨vi, vq, rfl, hi, hq⟩ := hG0
  have hM := ((Mem.start w).new 25 #[.string p.name, .slice Av p.vars.length cv, .slice Ar p.rules.length cr]).new 29 #[vi, vq]
  simp only [World.size_alloc] at hM
  have HM0 := Lib.hid hM
  have HPV := Lib.hid hpv
  have HPR := Lib.hid hpr
  clear hpv hpr hi hq hM hf hlg hB0
  go_enter Tryz.func39, Tryz.ntmps39
  go_upto_region 1 with fail
  generalize hW : World.alloc (World.alloc _ _) _ = W at *
  have hM := HM0.out
  obtain ⟨p0, p1, p2, pf⟩ := blk3 (hM.get 1 rfl).2
  obtain ⟨q0, q1, qf⟩ := blk2 (hM.get 0 rfl).2
  have hk1 : w.heap.size + 1 < W.heap.size := (hM.get 0 rfl).2.lt
  have hk0 : w.heap.size < W.heap.size := by omega
  have HBW := Lib.hid (show ∀ X, Below W.heap.size W X → Holds_ B0 B0 w X ∧ B0 ≤ X.heap.size from fun X hX => by
    have hb := HM0.out.bel.trans (hX.mono HM0.out.size)
    have h0 := HB0.out
    exact ⟨⟨Nat.le_refl _, fun p hp => hb.cell (Nat.lt_of_lt_of_le hp h0)⟩, Nat.le_trans h0 hb.size⟩)
  clear hM hW
  have rule := below_rule W
  have rule2 := below_addr W
  have HN1 := Lib.hid (show ∀ X, Below W.heap.size W X → Calls Tryz.prog 70 #[.agg #[.string p.name, .slice Av p.vars.length cv, .slice Ar p.rules.length cr], .agg #[vi, vq]] X (ScPost X B0 p g) from fun X hX => scene_p p g HF.out.gr _ _ X B0 (HBW.out X hX).2 (ProgAt.to (HBW.out X hX).1 HP.out) (GraphAt.to (HBW.out X hX).1 HG.out))
  have HN2 := Lib.hid (show ∀ X, Below W.heap.size W X → Calls Tryz.prog 69 #[.agg #[.string p.name, .slice Av p.vars.length cv, .slice Ar p.rules.length cr], .agg #[vi, vq]] X (TabPost X (tab p g)) from fun X hX => table_p p g HF.out HLG.out _ _ X (ProgAt.to (Holds_.more X (HBW.out X hX).2) (ProgAt.to (HBW.out X hX).1 HP.out)) (GraphAt.to (Holds_.more X (HBW.out X hX).2) (GraphAt.to (HBW.out X hX).1 HG.out)))
  go_region_held3 (fun X => Below W.heap.size W X) (first | exact Below.refl _ _ | exact Below.drew (Below.refl _ _) | assumption | exact below_step (by assumption) (by assumption) | exact balloc (by assumption) _)
    (first
      | (go_at_call 70; refine (HN1.out _ (Below.drew (Below.refl _ _))).mono ?_; rintro e w2 ⟨sb, rfl, hso, hb2⟩; have hx2 : Below W.heap.size W w2 := below_step hb2 (Below.drew (Below.refl _ _)); have HSO := Lib.hid hso; have HX2 := Lib.hid hx2; clear hso)
      | (go_at_call 69; refine (HN2.out _ HX2.out).mono ?_; rintro e w3 ⟨At, ct, rfl, -, hb3, hto⟩; have hx3 : Below W.heap.size W w3 := below_step hb3 HX2.out; have HTO := Lib.hid hto; have HX3 := Lib.hid hx3; have HB3 := Lib.hid hb3; clear hto))
  clear rule rule2 hx2 hx3 hb2 hb3
  obtain ⟨X, hX⟩ : ∃ X, w3.alloc (.cells #[.string p.name, .slice Av p.vars.length cv, .slice Ar p.rules.length cr, .pointer (some ⟨sb, 0, none⟩), .slice At (tab p g).length ct] 133) = X := ⟨_, rfl⟩
  have HBX := Lib.hid (show Below w3.heap.size w3 X from by rw [← hX]; exact balloc (Below.refl _ _) _)
  have HBL := Lib.hid (show Blk X w3.heap.size 133 #[.string p.name, .slice Av p.vars.length cv, .slice Ar p.rules.length cr, .pointer (some ⟨sb, 0, none⟩), .slice At (tab p g).length ct] from by rw [← hX]; exact Blk.new _ _ _)
  rw [hX]
  clear hX
  go_wp2
  go_ret
  have hw3 : Below w.heap.size w w3 := HM0.out.bel.trans (HX3.out.mono HM0.out.size)
  have hwX : Below w.heap.size w X := hw3.trans (HBX.out.mono hw3.size)
  have hW0 : w.heap.size ≤ W.heap.size := HM0.out.size
  have hb : Holds_ B0 B0 w X := ⟨Nat.le_refl _, fun p hp => hwX.cell (Nat.lt_of_lt_of_le hp HB0.out)⟩
  have h2 : B0 ≤ w2.heap.size := (HBW.out w2 HX2.out).2
  have htl : (tab p g).length = g.ports.length := by simp [tab]
  have hbl := HBL.out
  have hto := HTO.out
  rw [htl] at hbl hto
  refine ⟨w3.heap.size, rfl, ⟨sb, Av, cv, Ar, cr, At, ct, hw3.size, HBL.out.lt, ⟨hbl.cell 0, hbl.cell 1, hbl.cell 2, hbl.cell 3, hbl.cell 4⟩, VarsAt.to hb HPV.out, RulesAt.to hb HPR.out, ?_, ?_⟩, hwX⟩
  · exact (HSO.out.to (Kept2.below h2 (HB3.out.trans (HBX.out.mono HB3.out.size)))).base_ hW0
  · exact (hto.same (Kept2.below (B0 := 0) (Nat.zero_le _) HBX.out).hi).base_ (Nat.le_trans hW0 HX2.out.size)
end Go.Proofs.YtdfklagiafmoiaaGreatDoor

/- What a run asks ahead; the runner, made. -/
namespace Go.Proofs.YtdfklagiafmoiaaGreatDoor
open Go.RowKit

set_option maxRecDepth 100000 in
set_option maxHeartbeats 4000000 in
theorem rcheck_p (p : Pg) (g : Gr) (c : Cfg) (h : CfOk p g c) (hlg : LightG g) (kind : Int) (hk : 1 ≤ kind ∧ kind ≤ 4) (len : Nat) (hlen : len ≤ 4096) (vp vg : Value) (Ac : Option Addr) (cc : Nat) (w : World) (hP : ProgAt w w.heap.size vp p) (hG : GraphAt w w.heap.size vg g) (hC : ConfAt w w.heap.size (.slice Ac c.length cc) c) :
    Calls Tryz.prog 20 #[vp, vg, .int .i64 kind, .slice Ac c.length cc, .int .i64 (len : Int)] w (OkPost w) := by
  have HP := Lib.hid hP
  have HG := Lib.hid hG
  have HC := Lib.hid hC
  have HH := Lib.hid h
  obtain ⟨vv, vr, rfl, -, -⟩ := hP
  obtain ⟨vi, vq, rfl, -, -⟩ := hG
  have hM := ((Mem.start w).new 25 #[.string p.name, vv, vr]).new 29 #[vi, vq]
  simp only [World.size_alloc] at hM
  have HM0 := Lib.hid hM
  have hkd : decide (1 ≤ kind ∧ kind ≤ 4) = true := decide_eq_true hk
  have hl : ¬ (4096 : Int) < (len : Int) := by omega
  clear hC h hM hk hlen
  go_enter Tryz.func20, Tryz.ntmps20
  go_wp2_with fail
  refine (ccheck_p p g c HH.out hlg _ _ _ _ _ (ProgAt.to (Holds_.go HM0.out.bel) HP.out) (GraphAt.to (Holds_.go HM0.out.bel) HG.out) (ConfAt.to (Holds_.go HM0.out.bel) HC.out)).mono ?_
  rintro e w1 ⟨rfl, hb1⟩
  have HB := Lib.hid (HM0.out.below hb1).bel
  clear hb1 HM0
  go_wp2_with (go_at_call 38; refine (dvalid_p _ _).mono ?_; rintro e w' ⟨rfl, rfl⟩; rw [hkd])
  go_ret
  exact ⟨rfl, HB.out⟩
theorem below_set5' {W0 x : World} {v0 v1 v2 v3 v4 : Value} (h : Below W0.heap.size W0 x) :
    Below W0.heap.size W0 (((((x.setCell ⟨W0.heap.size, 0, none⟩ v0).setCell ⟨W0.heap.size, 1, none⟩ v1).setCell ⟨W0.heap.size, 2, none⟩ v2).setCell ⟨W0.heap.size, 3, none⟩ v3).setCell ⟨W0.heap.size, 4, none⟩ v4) :=
  ((((h.setCell (Nat.le_refl _) _).setCell (Nat.le_refl _) _).setCell (Nat.le_refl _) _).setCell (Nat.le_refl _) _).setCell (Nat.le_refl _) _
theorem MoverOwn.to {w X : World} {base B0 m : Nat} {p : Pg} {g : Gr} (h : MoverOwn w base B0 m p g) (k : Kept2 B0 base w X) : MoverOwn X base B0 m p g := by
  obtain ⟨sb, Av, cv, Ar, cr, At, ct, hb, hlt, hc, h1, h2, h3, h4⟩ := h
  have e := fun i => k.cell hb hlt i
  have k2 : Holds_ B0 B0 w X := ⟨Nat.le_refl _, k.holds.2⟩
  exact ⟨sb, Av, cv, Ar, cr, At, ct, hb, Nat.lt_of_lt_of_le hlt k.hi.1, ⟨by rw [e]; exact hc.c0, by rw [e]; exact hc.c1, by rw [e]; exact hc.c2, by rw [e]; exact hc.c3, by rw [e]; exact hc.c4⟩, VarsAt.to k2 h1, RulesAt.to k2 h2, h3.to k, h4.same k.hi⟩
theorem MoverOwn.base_ {w : World} {base base' B0 m : Nat} {p : Pg} {g : Gr} (h : MoverOwn w base B0 m p g) (hb : base' ≤ base) : MoverOwn w base' B0 m p g := by
  obtain ⟨sb, Av, cv, Ar, cr, At, ct, hb1, hlt, hc, h1, h2, h3, h4⟩ := h
  exact ⟨sb, Av, cv, Ar, cr, At, ct, Nat.le_trans hb hb1, hlt, hc, h1, h2, h3.base_ hb, h4.base_ hb⟩
theorem kept2_grown {w X : World} {B0 base b : Nat} (hg : w.grownBy X (some b)) (h1 : b < base) (h2 : B0 ≤ b) (h3 : B0 ≤ w.heap.size) : Kept2 B0 base w X :=
  ⟨fun i hi => hg.block i (by omega) (fun e => by injection e with e; omega), ⟨hg.size, fun i hi1 hi2 => hg.block i hi2 (fun e => by injection e with e; omega)⟩, h3⟩
def NrPost (w : World) (B0 : Nat) (p : Pg) (g : Gr) (kind : Int) (see : Value) (e : Ending) (w' : World) : Prop := ∃ (m : Nat) (vn : Value), e = .returned (.agg #[.pointer (some ⟨m, 0, none⟩), vn, .int .i64 kind, .int .u32 (allSet g.ports.length), see]) ∧ MoverOwn w' w.heap.size B0 m p g ∧ NetOwn w' w.heap.size vn (nets g) ∧ Below w.heap.size w w'
set_option maxRecDepth 100000 in
set_option maxHeartbeats 16000000 in
theorem runner_p (p : Pg) (g : Gr) (hf : FitOk p g) (hlg : LightG g) (kind : Int) (sf : Fn) (sc : Array Value) (vp vg : Value) (w : World) (B0 : Nat) (hB0 : B0 ≤ w.heap.size) (hP0 : ProgAt w B0 vp p) (hG0 : GraphAt w B0 vg g) : Calls Tryz.prog 21 #[vp, vg, .int .i64 kind, .func sf #[] sc] w (NrPost w B0 p g kind (.func sf #[] sc)) := by
  have HP := Lib.hid hP0
  have HG := Lib.hid hG0
  have HF := Lib.hid hf
  have HLG := Lib.hid hlg
  have HB0 := Lib.hid hB0
  obtain ⟨vv, vr, rfl, hpv, hpr⟩ := hP0
  obtain ⟨vi, vq, rfl, hi, hq⟩ := hG0
  have hM := ((Mem.start w).new 25 #[.string p.name, vv, vr]).new 29 #[vi, vq]
  simp only [World.size_alloc] at hM
  have HM0 := Lib.hid hM
  clear hpv hpr hq hM hf hlg hB0
  go_enter Tryz.func21, Tryz.ntmps21
  go_upto_region 1 with fail
  generalize hW : World.alloc (World.alloc w _) _ = W at *
  have hM := HM0.out
  obtain ⟨p0, p1, p2, pf⟩ := blk3 (hM.get 1 rfl).2
  obtain ⟨q0, q1, qf⟩ := blk2 (hM.get 0 rfl).2
  have hk1 : w.heap.size + 1 < W.heap.size := (hM.get 0 rfl).2.lt
  have hk0 : w.heap.size < W.heap.size := by omega
  have hWs : w.heap.size + 1 + 1 = W.heap.size := by rw [← hW]; simp
  rw [hWs]
  have HBW := Lib.hid (show ∀ X, Below W.heap.size W X → Holds_ B0 B0 w X ∧ B0 ≤ X.heap.size from fun X hX => by
    have hb := HM0.out.bel.trans (hX.mono HM0.out.size)
    have h0 := HB0.out
    exact ⟨⟨Nat.le_refl _, fun p hp => hb.cell (Nat.lt_of_lt_of_le hp h0)⟩, Nat.le_trans h0 hb.size⟩)
  clear hM hW hWs
  have rule := below_rule W
  have rule2 := below_addr W
  obtain ⟨Ai, ci, rfl⟩ := ints_sl hi
  have hgn := HF.out.gr.hi
  have hg1 := HF.out.gr.lo
  have HGL := Lib.hid HF.out.gr.len
  have HN1 := Lib.hid (show ∀ X, Below W.heap.size W X → Calls Tryz.prog 39 #[.agg #[.string p.name, vv, vr], .agg #[.slice Ai g.ids.length ci, vq]] X (MkPost X B0 p g) from fun X hX => mover_p p g HF.out HLG.out _ _ X B0 (HBW.out X hX).2 (ProgAt.to (HBW.out X hX).1 HP.out) (GraphAt.to (HBW.out X hX).1 HG.out))
  have HN2 := Lib.hid (show ∀ X, Below W.heap.size W X → Calls Tryz.prog 40 #[.agg #[.slice Ai g.ids.length ci, vq]] X (NtPost X g) from fun X hX => net_p g HF.out.gr _ X (GraphAt.to (Holds_.more X (HBW.out X hX).2) (GraphAt.to (HBW.out X hX).1 HG.out)))
  have HN3 := Lib.hid (show ∀ X, Calls Tryz.prog 41 #[.agg #[.slice Ai g.ids.length ci, vq]] X (fun e w' => e = .returned (.int .u32 (allSet g.ids.length)) ∧ Below X.heap.size X w') from fun X => all_p Ai g.ids.length ci (by have := HGL.out; omega) (by have := HGL.out; omega) vq X)
  have HAL := Lib.hid (show allSet g.ids.length = allSet g.ports.length from by rw [HGL.out])
  generalize allSet g.ids.length = al at *
  clear HGL
  generalize g.ids.length = gl at *
  clear hgn hg1
  obtain ⟨V, hV⟩ : ∃ V, W.alloc (.cells #[.pointer none, .slice none 0 0, .int .i64 0, .int .u32 0, .nilFunc] 66) = V := ⟨_, rfl⟩
  have hV1 : Below W.heap.size W V := by rw [← hV]; exact balloc (Below.refl _ _) _
  have HVB := Lib.hid (show Blk V W.heap.size 66 #[.pointer none, .slice none 0 0, .int .i64 0, .int .u32 0, .nilFunc] from by rw [← hV]; exact Blk.new _ _ _)
  rw [hV]
  clear hV
  go_region_held3 (fun X => Below W.heap.size W X) (first | with_reducible exact hV1 | with_reducible exact Below.drew hV1 | with_reducible assumption | with_reducible exact below_set5' (by assumption) | exact below_step (by assumption) (by assumption))
    (first
      | (go_at_call 39; refine (HN1.out _ (Below.drew hV1)).mono ?_; rintro e w2 ⟨m, rfl, hmo, hb2⟩; have hx2 : Below W.heap.size W w2 := below_step hb2 (Below.drew hV1); have HMO := Lib.hid hmo; have HX2 := Lib.hid hx2; have HBK := Lib.hid (HVB.out.drew.below hb2 HVB.out.lt); clear hmo)
      | (go_at_call 40; refine (HN2.out _ HX2.out).mono ?_; rintro e w3 ⟨vn, rfl, hno, hb3⟩; obtain ⟨bn, rfl, -⟩ := id hno; have hx3 : Below W.heap.size W w3 := below_step hb3 HX2.out; have HNO := Lib.hid hno; have HX3 := Lib.hid hx3; have HB3 := Lib.hid hb3; have HBK3 := Lib.hid (HBK.out.below hb3 HBK.out.lt); clear hno)
      | (go_at_call 41; refine (HN3.out _).mono ?_; rintro e w4 ⟨rfl, hb4⟩; have hx4 : Below W.heap.size W w4 := below_step hb4 HX3.out; have HX4 := Lib.hid hx4; have HB4 := Lib.hid hb4; have HBK4 := Lib.hid (HBK3.out.below hb4 HBK3.out.lt); obtain ⟨t0, t1, t2, t3, t4, tf⟩ := blk5 HBK4.out; have n4 : W.heap.size < w4.heap.size := HBK4.out.lt))
  have n5 := n4
  have hX4 : w4.grownBy (((((w4.setCell ⟨W.heap.size, 0, none⟩ (.pointer (some ⟨m, 0, none⟩))).setCell ⟨W.heap.size, 1, none⟩ (.slice (some ⟨bn, 0, none⟩) (nets g).length (nets g).length)).setCell ⟨W.heap.size, 2, none⟩ (.int .i64 kind)).setCell ⟨W.heap.size, 3, none⟩ (.int .u32 al)).setCell ⟨W.heap.size, 4, none⟩ (.func sf #[] sc)) (some W.heap.size) := by
    exact ((((gset' _ _ _ _).trans (gset' _ _ _ _)).trans (gset' _ _ _ _)).trans (gset' _ _ _ _)).trans (gset' _ _ _ _)
  have hBX := ((((HBK4.out.set_ 0 (.pointer (some ⟨m, 0, none⟩))).set_ 1 (.slice (some ⟨bn, 0, none⟩) (nets g).length (nets g).length)).set_ 2 (.int .i64 kind)).set_ 3 (.int .u32 al)).set_ 4 (.func sf #[] sc)
  clear rule rule2 hx2 hx3 hx4 hb2 hb3 hb4 p0 p1 p2 pf q0 q1 qf t0 t1 t2 t3 t4 tf n4
  rename_i hHeld
  generalize World.setCell _ _ _ = X at *
  have HX := Lib.hid hX4
  have HBX := Lib.hid hHeld
  obtain ⟨t0, t1, t2, t3, t4, tf⟩ := blk5 hBX
  have n6 : W.heap.size < X.heap.size := hBX.lt
  clear hX4 hHeld hBX
  go_wp2
  refine bodyPost_ret (v := .agg #[.pointer (some ⟨m, 0, none⟩), .slice (some ⟨bn, 0, none⟩) (nets g).length (nets g).length, .int .i64 kind, .int .u32 (allSet g.ports.length), .func sf #[] sc]) ?_ rfl ⟨m, _, rfl, ?_, ?_, ?_⟩
  · simp [results, Tryz.results21, go_sem, t0, t1, t2, t3, t4, HAL.out]
  · have hs := HB0.out
    have hm := HM0.out.size
    have hv := hV1.size
    have hlt := HVB.out.lt
    have e2 : w2.grownBy X (some W.heap.size) := (((gbelow HB3.out).trans (gbelow HB4.out)).but _).trans HX.out
    exact (HMO.out.to (kept2_grown e2 (show W.heap.size < V.drew.heap.size from hlt) (by omega) (by have := HX2.out.size; omega))).base_ (show w.heap.size ≤ V.drew.heap.size from by show w.heap.size ≤ V.heap.size; omega)
  · have hm := HM0.out.size
    have hx := HX2.out.size
    have e3 : w3.grownBy X (some W.heap.size) := ((gbelow HB4.out).but _).trans HX.out
    have hlt : W.heap.size < w2.heap.size := HBK.out.lt
    exact (HNO.out.same (kept2_grown (B0 := 0) (base := w2.heap.size) e3 hlt (by omega) (by omega)).hi).base_ (by omega)
  · exact HM0.out.bel.trans (HBX.out.mono HM0.out.size)
end Go.Proofs.YtdfklagiafmoiaaGreatDoor
