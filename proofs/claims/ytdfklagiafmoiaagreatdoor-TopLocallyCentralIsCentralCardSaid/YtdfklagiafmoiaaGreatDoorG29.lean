/- Lemmas of this seat, laid together out of 5 texts: no statement of the seat is proved here. -/
import Derived.Test.YtdfklagiafmoiaaGreatDoorG28
import Derived.Laws.BitsAllLaws
import Derived.Test.YtdfklagiafmoiaaGreatDoorG25
import Derived.Test.YtdfklagiafmoiaaGreatDoorG23
/- The set of the enabled nodes. -/
namespace Go.Proofs.YtdfklagiafmoiaaGreatDoor
open Go.RowKit

/-- the set of the numbers below n at which f holds -/
def setOf (f : Nat → Bool) : Nat → Nat
  | 0 => 0
  | n + 1 => if f n then setOf f n ||| 2 ^ n else setOf f n
theorem setOf_lt (f : Nat → Bool) : ∀ n, setOf f n < 2 ^ n
  | 0 => Nat.one_pos
  | n + 1 => by
    have ih := setOf_lt f n
    have h2 : 2 ^ n < 2 ^ (n + 1) := Nat.pow_lt_pow_right (by decide) (Nat.lt_succ_self n)
    unfold setOf
    split
    · exact Nat.or_lt_two_pow (Nat.lt_trans ih h2) h2
    · exact Nat.lt_trans ih h2
theorem setOf_bit (f : Nat → Bool) (i : Nat) : ∀ n, (setOf f n).testBit i = (decide (i < n) && f i)
  | 0 => by simp [setOf]
  | n + 1 => by
    have ih := setOf_bit f i n
    unfold setOf
    by_cases h : i = n
    · subst h
      by_cases hf : f i = true
      · rw [if_pos hf, Nat.testBit_or, ih]; simp [hf, Nat.testBit_two_pow_self]
      · rw [if_neg hf, ih]; simp [hf]
    · have e1 : (2 ^ n).testBit i = false := by rw [Nat.testBit_two_pow]; simp; omega
      have e2 : decide (i < n) = decide (i < n + 1) := by simp; omega
      split
      · rw [Nat.testBit_or, ih, e1, Bool.or_false, e2]
      · rw [ih, e2]
theorem pow32 {n : Nat} (h : n ≤ 24) : 2 ^ n ≤ 16777216 := Nat.pow_le_pow_right (n := 2) (by decide) h
theorem or_bit (s k : Nat) (hs : s < 4294967296) (hk : k < 32) : bits .or .u32 (s : Int) ((2 : Int) ^ k % 4294967296) = ((s ||| 2 ^ k : Nat) : Int) := by
  have h1 : 2 ^ k < 4294967296 := Nat.pow_lt_pow_right (a := 2) (n := 32) (by decide) hk
  have e : ((2 : Int) ^ k % 4294967296) = ((2 ^ k : Nat) : Int) := by
    have : ((2 ^ k : Nat) : Int) = (2 : Int) ^ k := by simp
    rw [← this]
    exact Int.emod_eq_of_lt (Int.natCast_nonneg _) (Int.ofNat_lt.2 h1)
  rw [e, u32_or_nat _ _ hs h1]
def NdRel (w : World) (f : Nat → Bool) (n : Nat) (s i : Value) (wr : World) : Prop := ∃ k : Nat, i = .int .i64 k ∧ k ≤ n ∧ s = .int .u32 (setOf f k) ∧ Below w.heap.size w wr
set_option maxRecDepth 100000 in
set_option maxHeartbeats 8000000 in
theorem nodes_p (f : Nat → Bool) (n : Nat) (hn : n ≤ 24) (a b : Addr) (w : World) (hC : ∀ v, v < n → ∀ X, Below w.heap.size w X → Calls Tryz.prog 106 #[.int .i64 (v : Int), .pointer (some a), .pointer (some b)] X fun e w' => e = .returned (.bool (f v)) ∧ Below X.heap.size X w') :
    Calls Tryz.prog 105 #[.int .i64 (n : Int), .func (.func 106) #[] #[.pointer (some a), .pointer (some b)]] w fun e w' => e = .returned (.int .u32 (setOf f n)) ∧ Below w.heap.size w w' := by
  have HC := Lib.hid hC
  clear hC
  go_enter Tryz.func105, Tryz.ntmps105
  go_wp2
  go_loopw [5, 8] (NdRel w f n) (fun _ i _ => n - (intOf i).toNat)
  case atStart => exact ⟨0, rfl, Nat.zero_le _, rfl, Below.refl _ _⟩
  case round =>
    obtain ⟨k, rfl, hk, rfl, hbel⟩ := hrel
    have HB := Lib.hid hbel
    clear hbel
    by_cases hlt : k < n
    · have hc := HC.out k hlt wr HB.out
      obtain ⟨s, hs⟩ : ∃ s, setOf f k = s := ⟨_, rfl⟩
      have hs2 : s < 16777216 := by rw [← hs]; exact Nat.lt_of_lt_of_le (setOf_lt f k) (pow32 (by omega))
      have HN := Lib.hid (show setOf f (k + 1) = if f k then s ||| 2 ^ k else s from by rw [← hs]; rfl)
      obtain ⟨fk, hfk⟩ : ∃ fk, f k = fk := ⟨_, rfl⟩
      rw [hfk] at hc HN
      rw [hs]
      have HCC := Lib.hid hc
      have HOR := Lib.hid (or_bit s k (by omega) (by omega))
      have HLT := Lib.hid hlt
      have k0 : (0 : Int) ≤ (k : Int) := by omega
      have k1 : (k : Int) < (n : Int) := by omega
      clear hs hc hfk
      cases fk
      · go_wp2_with fail
        refine HCC.out.mono ?_
        rintro e w2 ⟨rfl, hb2⟩
        have HB2 := Lib.hid (below_step hb2 HB.out)
        clear hb2 HCC
        go_wp2_with fail
        go_roundw
        case rel => exact ⟨k + 1, by go_num, HLT.out, val_int (by rw [HN.out]; rfl), HB2.out⟩
        case measure => simp [intOf]; omega
      · go_wp2_with fail
        refine HCC.out.mono ?_
        rintro e w2 ⟨rfl, hb2⟩
        have HB2 := Lib.hid (below_step hb2 HB.out)
        clear hb2 HCC
        go_wp2_with fail
        go_roundw
        case rel => exact ⟨k + 1, by go_num, HLT.out, val_int (by rw [HN.out, HOR.out]; rfl), HB2.out⟩
        case measure => simp [intOf]; omega
    · obtain rfl : k = n := by omega
      go_wp2
      go_ret
      exact ⟨rfl, HB.out⟩
/-- the enabled nodes -/
noncomputable def enF (p : Pg) (g : Gr) (c : Cfg) (v : Nat) : Bool := decide (0 ≤ ruleZ p g c v)
noncomputable def enS (p : Pg) (g : Gr) (c : Cfg) : Nat := setOf (enF p g c) g.ports.length
section
variable (p : Pg) (g : Gr) (c : Cfg) (hc : CfOk p g c) (m : Nat)
include hc
set_option maxRecDepth 100000 in
set_option maxHeartbeats 8000000 in
theorem enab1_p (v : Nat) (hv : v < g.ports.length) (a b : Nat) (Ac : Option Addr) (cc : Nat) (w : World) (h0 : w.cell? ⟨a, 0, none⟩ = some (.pointer (some ⟨m, 0, none⟩))) (h1 : w.cell? ⟨b, 0, none⟩ = some (.slice Ac c.length cc)) (hm : MoverAt w w.heap.size m p g) (hcf : ConfAt w w.heap.size (.slice Ac c.length cc) c) :
    Calls Tryz.prog 106 #[.int .i64 (v : Int), .pointer (some ⟨a, 0, none⟩), .pointer (some ⟨b, 0, none⟩)] w fun e w' => e = .returned (.bool (enF p g c v)) ∧ Below w.heap.size w w' := by
  have HR := Lib.hid (rule_p p g c hc m v hv Ac cc w hm hcf)
  obtain ⟨r, hr⟩ : ∃ r, ruleZ p g c v = r := ⟨_, rfl⟩
  rw [hr] at HR
  unfold enF
  rw [hr]
  clear hr hm hcf
  go_enter Tryz.func106, Tryz.ntmps106
  go_wp2_with fail
  refine HR.out.mono ?_
  rintro e w2 ⟨rfl, hb2⟩
  have HB := Lib.hid hb2
  clear hb2 HR
  go_wp2_with fail
  go_ret
  exact ⟨rfl, HB.out⟩
set_option maxRecDepth 100000 in
set_option maxHeartbeats 8000000 in
theorem enab_p (Ac : Option Addr) (cc : Nat) (w : World) (hm : MoverAt w w.heap.size m p g) (hcf : ConfAt w w.heap.size (.slice Ac c.length cc) c) :
    Calls Tryz.prog 71 #[.pointer (some ⟨m, 0, none⟩), .slice Ac c.length cc] w fun e w' => e = .returned (.int .u32 (enS p g c)) ∧ Below w.heap.size w w' := by
  have HM := Lib.hid (((Mem.start w).new 62 #[.pointer (some ⟨m, 0, none⟩)]).new 30 #[.slice Ac c.length cc])
  have hb1 := HM.out.bel
  have HE := Lib.hid (nodes_p (enF p g c) g.ports.length hc.fit.gr.hi ⟨w.heap.size, 0, none⟩ ⟨w.heap.size + 1, 0, none⟩ _ (fun v hv X hX => enab1_p p g c hc m v hv w.heap.size (w.heap.size + 1) Ac cc X
    (by have h := ((HM.out.below hX).get 1 rfl).2.cell 0; exact h) (by have h := ((HM.out.below hX).get 0 rfl).2.cell 0; simp only [World.size_alloc] at h; exact h) (MoverAt.to (Holds_.go (below_step hX hb1)) hm) (ConfAt.to (Holds_.go (below_step hX hb1)) hcf)))
  obtain ⟨sb, Av, cv, Ar, cr, At, ct, hb, hcm, -, -, hs, -⟩ := hm
  have m4 := (hb1.cell (p := ⟨m, 4, none⟩) hb).trans hcm.c4
  have HB1 := Lib.hid hb1
  clear hcm hs hcf hb1
  unfold enS
  go_enter Tryz.func71, Tryz.ntmps71
  go_wp2_with fail
  refine HE.out.mono ?_
  rintro e w2 ⟨rfl, hb2⟩
  have HB := Lib.hid (below_step hb2 HB1.out)
  clear hb2 HE
  go_wp2_with fail
  go_ret
  exact ⟨rfl, HB.out⟩
end
end Go.Proofs.YtdfklagiafmoiaaGreatDoor

/- What a node's move makes of its state. -/
namespace Go.Proofs.YtdfklagiafmoiaaGreatDoor
open Go.RowKit

/-- an assignment -/
noncomputable def setX (p : Pg) (g : Gr) (c : Cfg) (v : Nat) (s : List Int) (x : St) : List Int := s.set x.1.toNat (bringZ ((kindsOf p).getD x.1.toNat 0) (lh p g v x.1.toNat) (evL g c v x.2))
noncomputable def movS (p : Pg) (g : Gr) (c : Cfg) (v : Nat) (l : List St) : List Int := l.foldl (setX p g c v) (c.getD v [])
theorem movS_snoc (p : Pg) (g : Gr) (c : Cfg) (v : Nat) (l : List St) (k : Nat) (h : k < l.length) : movS p g c v (l.take (k + 1)) = setX p g c v (movS p g c v (l.take k)) l[k] := by
  unfold movS; rw [List.take_succ_eq_append_getElem h, List.foldl_append]; rfl
theorem setX_len (p : Pg) (g : Gr) (c : Cfg) (v : Nat) (s : List Int) (x : St) : (setX p g c v s x).length = s.length := by unfold setX; simp
theorem movS_len (p : Pg) (g : Gr) (c : Cfg) (v : Nat) (l : List St) : (movS p g c v l).length = (c.getD v []).length := by
  unfold movS
  have : ∀ (l : List St) (s : List Int), (l.foldl (setX p g c v) s).length = s.length := by
    intro l
    induction l with
    | nil => intro s; rfl
    | cons x l ih => intro s; rw [List.foldl_cons, ih, setX_len]
  exact this l _
theorem iv_set (s : List Int) (k : Nat) (z : Int) : (iv s).set k (.int .i64 z) = iv (s.set k z) := by unfold iv; rw [List.map_set]
def MvPost (w : World) (s : List Int) (e : Ending) (w' : World) : Prop := ∃ A cap, e = .returned (.slice A s.length cap) ∧ w'.ownsRow w.heap.size 3 1 (.slice A s.length cap) s.length (iv s) ∧ Below w.heap.size w w'
def MvRel (w : World) (p : Pg) (g : Gr) (c : Cfg) (v n b cap : Nat) (l : List St) (i : Value) (wr : World) : Prop := ∃ k : Nat, i = .int .i64 k ∧ k ≤ l.length ∧ Mem w [cR w.heap.size 3 1 (.slice (some ⟨b, 0, none⟩) n cap) n (iv (movS p g c v (l.take k)))] wr
section
variable (p : Pg) (g : Gr) (c : Cfg) (hc : CfOk p g c) (m v : Nat) (hv : v < g.ports.length)
include hv hc
set_option maxRecDepth 100000 in
set_option maxHeartbeats 16000000 in
theorem move_p (r : Nat) (hr : r < p.rules.length) (Ac : Option Addr) (cc : Nat) (w : World) (hm : MoverAt w w.heap.size m p g) (hcf : ConfAt w w.heap.size (.slice Ac c.length cc) c) :
    Calls Tryz.prog 109 #[.pointer (some ⟨m, 0, none⟩), .slice Ac c.length cc, .int .i64 (v : Int), .int .i64 (r : Int)] w (MvPost w (movS p g c v p.rules[r].sets)) := by
  obtain ⟨i0, hi0, hz0, hz1, hz2⟩ := info_parts Tryz.infoInt
  have HCF := Lib.hid hcf
  obtain ⟨sb, Av, cv, Ar, cr, At, ct, hb, hcm, hvs, hrs, hs, ht⟩ := hm
  obtain ⟨m0, m1, m2, m3, m4⟩ := hcm
  have hvc : v < c.length := by rw [hc.len]; exact hv
  obtain ⟨_, hlen, -⟩ := hc.at_ v hvc
  have hFO := (hc.fit.pg.forms r hr hr).sets
  have hTO := (hc.fit.pg.types r hr hr).sets
  have hvlo := hc.fit.pg.vlo
  have hvhi := hc.fit.pg.vhi
  have hsh := (hc.fit.pg.forms r hr hr).hi
  obtain ⟨ar, Ag, cg, As, cs, hA, hbr, -, -, r2, -, hss⟩ := rule_at hrs hr
  subst hA
  obtain ⟨ac, Ae, ce, hA, hbc, d0, he⟩ := conf_at hcf hvc
  subst hA
  have HE := Lib.hid (ints_reads he)
  have hrow : c.getD v [] = c[v]'hvc := by rw [List.getD_eq_getElem?_getD, List.getElem?_eq_getElem hvc]; rfl
  obtain ⟨row, hrw⟩ : ∃ row, c[v]'hvc = row := ⟨_, rfl⟩
  obtain ⟨L, hL⟩ : ∃ L, (p.rules[r]'hr).sets = L := ⟨_, rfl⟩
  have HS0 := Lib.hid (show movS p g c v (L.take 0) = row from by unfold movS; rw [hrow, hrw]; rfl)
  have HSL := Lib.hid (show ∀ l : List St, (movS p g c v l).length = p.vars.length from fun l => by rw [movS_len, hrow, hlen])
  rw [hrw] at d0 HE hlen
  rw [hL] at hFO hTO r2 hss hsh ⊢
  have HV := Lib.hid (fun (k : Nat) (hk : k < L.length) (X : World) (hX : Below w.heap.size w X) (A : Option Addr) (q : Nat) (hp : PairsAt X X.heap.size (.slice A L[k].2.length q) L[k].2) => svalL_p p g c hc sb v hv rfl (hFO k hk hk).2.1 (hTO k hk hk)
    (by
      obtain ⟨⟨s0, s1⟩, -, -⟩ := hFO k hk hk
      have e : ((p.vars.length : Nat) : Int) = (p.vars.length : Int) := rfl
      have h1 : L[k].1.toNat < p.vars.length := by omega
      have h2 : (kindsOf p).getD L[k].1.toNat 0 = p.vars[L[k].1.toNat].kind := by unfold kindsOf; rw [List.getD_eq_getElem?_getD, List.getElem?_map, List.getElem?_eq_getElem h1]; rfl
      rw [h2]
      rcases numB_kind (hc.fit.pg.nums _ h1 h1) with h | h | h <;> omega) (some ac) cc A q X (SceneAt.to (Holds_.go hX) hs) (ConfAt.to (Holds_.go hX) HCF.out) hp)
  have HI := Lib.hid (fun (k : Nat) (hk : k < L.length) => (hFO k hk hk).1)
  have HSS := Lib.hid hss
  have HVS := Lib.hid hvs
  have HT := Lib.hid ht
  have HTR := Lib.hid (show ∀ (x : Nat) (hx : x < p.vars.length) (h1 : v < (tab p g).length), (tab p g)[v].length = p.vars.length ∧ ∀ h2 : x < (tab p g)[v].length, (tab p g)[v][x] = lh p g v x from fun x hx h1 => ⟨by simp [tab], fun h2 => by
    have hp : v < g.ports.length := hv
    simp [tab, lh, List.getD_eq_getElem?_getD, hp, hx]⟩)
  have HKD := Lib.hid (show ∀ (x : Nat) (hx : x < p.vars.length), (kindsOf p).getD x 0 = p.vars[x].kind from fun x hx => by unfold kindsOf; rw [List.getD_eq_getElem?_getD, List.getElem?_map, List.getElem?_eq_getElem hx]; rfl)
  have HTL := Lib.hid (show (tab p g).length = g.ports.length from by simp [tab])
  obtain ⟨n, hn⟩ : ∃ n, p.vars.length = n := ⟨_, rfl⟩
  have HN := Lib.hid hn
  rw [hn] at m1 hvlo hvhi hlen
  obtain ⟨n1, rfl⟩ : ∃ n1, n = n1 + 1 := ⟨n - 1, by omega⟩
  have v0 : (0 : Int) ≤ (v : Int) := by omega
  have v1 : (v : Int) < (c.length : Int) := by omega
  have v2 : (v : Int) < (g.ports.length : Int) := by omega
  have r0 : (0 : Int) ≤ (r : Int) := by omega
  have r1 : (r : Int) < (p.rules.length : Int) := by omega
  have x1 : (ac.add v).block < w.heap.size := by rw [block_of_add]; exact hbc
  have x2 : (ar.add (r * 3)).block < w.heap.size := by rw [block_of_add]; exact hbr
  have HLEN := Lib.hid hlen
  have hl7 : row.length ≤ 6 := by omega
  clear hcf hs hc hss hvs ht hrs hrow hrw hL he hFO hTO hn hlen
  go_enter Tryz.func109, Tryz.ntmps109
  go_wp2_with (at_builtin; refine wpList_append_any _ rfl (.const (.slice none 0 0)) (.tmp 16) 26 rfl w.heap.size 3 i0 (.int .i64 0) 1 8 Tryz.underlying26 hi0 hz0 hz1 hz2 rfl (by decide) (.slice none 0 0) 0 [] rfl (World.ownsRow_nil _ _ _ _) w.heap.size Ae row.length ce (iv row) rfl HE.out (one_iv row) (len_ok (by omega)) (by omega) (Nat.le_refl _) ?_; intro u1 y1 ho1 hg1 hv1; rw [Nat.zero_add, HLEN.out] at ho1; obtain ⟨b, cap, rfl⟩ := own_succ ho1; have HMS := Lib.hid ((Mem.start w).pushRow (w' := y1) ((Below.refl w.heap.size w).grown hg1 (Nat.le_refl _) (fun k hk => by cases hk)) ho1); have hbx := HMS.out.bel; have q2 := (hbx.cell (p := ⟨m, 2, none⟩) hb).trans m2; have q3 := (hbx.cell (p := ⟨(ar.add (r * 3)).block, (ar.add (r * 3)).off + 2, none⟩) x2).trans r2; clear hv1 hg1 ho1 hbx)
  go_loopw [28] (MvRel w p g c v (n1 + 1) b cap L) (fun i _ => L.length - (intOf i).toNat)
  case atStart => exact ⟨0, rfl, Nat.zero_le _, by rw [HS0.out]; exact HMS.out⟩
  case round =>
    obtain ⟨k, rfl, hk, hM⟩ := hrel
    have HM := Lib.hid hM
    clear hM HMS q2 q3
    by_cases hlt : k < L.length
    · obtain ⟨ae, Ax, cx, hA, hbe, e0, e1, hpe⟩ := set_at (SetsAt.to (Holds_.go HM.out.bel) HSS.out) hlt
      subst hA
      obtain ⟨j0, j1⟩ := HI.out k hlt
      have hsn := movS_snoc p g c v L k hlt
      have hcv := HV.out k hlt
      obtain ⟨x, hx⟩ : ∃ x : St, L[k]'hlt = x := ⟨_, rfl⟩
      rw [hx] at e0 e1 hpe j0 j1 hsn hcv
      obtain ⟨xi, xe⟩ := x
      dsimp only at e0 e1 hpe j0 j1 hcv
      obtain ⟨j, rfl⟩ : ∃ j : Nat, xi = j := ⟨xi.toNat, by omega⟩
      obtain ⟨s, hs⟩ : ∃ s, movS p g c v (L.take k) = s := ⟨_, rfl⟩
      have hsl := HSL.out (L.take k)
      rw [hs] at hsn hsl
      have HSN := Lib.hid (show movS p g c v (L.take (k + 1)) = s.set j (bringZ ((kindsOf p).getD j 0) (lh p g v j) (evL g c v xe)) from hsn)
      have HM1 := Lib.hid (show Mem w [cR w.heap.size 3 1 (.slice (some ⟨b, 0, none⟩) (n1 + 1) cap) (n1 + 1) (iv s)] wr from by have h := HM.out; rw [hs] at h; exact h)
      have hjv : j < p.vars.length := by omega
      have HCV := Lib.hid (fun (X : World) (hX : Below wr.heap.size wr X) => hcv X (below_step hX HM1.out.bel) Ax cx (PairsAt.to (Holds_.go hX) hpe))
      have hvT : v < (tab p g).length := by rw [HTL.out]; exact hv
      obtain ⟨tr1, tr2⟩ := HTR.out j hjv hvT
      have hjT : j < (tab p g)[v].length := by rw [tr1]; exact hjv
      have tr3 := tr2 hjT
      have HMA := Lib.hid (HM1.out.new 78 #[.int .i64 (j : Int), .slice Ax xe.length cx])
      have hkd := HKD.out j hjv
      have hss2 := hsl
      rw [HN.out] at hss2
      have HSL2 := Lib.hid hss2
      have hjn : j < n1 + 1 := by rw [← HN.out]; exact hjv
      have kk0 : (0 : Int) ≤ (k : Int) := by omega
      have kk1 : (k : Int) < (L.length : Int) := by omega
      have jj0 : (0 : Int) ≤ (j : Int) := by omega
      have jj1 : (j : Int) < (n1 : Int) + 1 := by omega
      have HLT := Lib.hid hlt
      have xb := Lib.hid (show (ae.add (k * 2)).block < wr.heap.size from by rw [block_of_add]; exact hbe)
      have xb' := xb.out
      clear hcv hsn hs hsl hx hpe hss2 tr2 j1 j0
      go_upto_region 5 with fail
      generalize hW : World.alloc _ _ = W at *
      have hMA := HMA.out
      obtain ⟨t0, t1, tf⟩ := blk2 (hMA.get 0 rfl).2
      have hbel := hMA.bel
      have hz := (hMA.get 0 rfl).2.lt
      have g3 := (hbel.cell (p := ⟨m, 3, none⟩) hb).trans m3
      have hmW : m < W.heap.size := Nat.lt_of_lt_of_le hb hbel.size
      have hWb := Lib.hid (show Below wr.heap.size wr W from by rw [← hW]; exact balloc (Below.refl _ _) _)
      clear hMA hW hbel e0 e1
      have rule := below_rule W
      have rule2 := below_addr W
      go_region_held3 (fun X => Below W.heap.size W X) (first | exact Below.refl _ _ | exact Below.drew (Below.refl _ _) | assumption | exact below_step (by assumption) (by assumption))
        (first
          | (go_at_call 137; refine (HCV.out _ (hWb.out.drew)).mono ?_; rintro e w2 ⟨rfl, hb2⟩))
      clear rule rule2 g3 t0 t1 tf hz hmW
      have HM2 := Lib.hid (show Mem w _ w2 from HMA.out.drew.below hb2)
      clear hb2 HCV hWb HMA
      have hbel2 := HM2.out.bel
      obtain ⟨t0, t1, tf⟩ := blk2 (HM2.out.get 0 rfl).2
      have hz := (HM2.out.get 0 rfl).2.lt
      obtain ⟨av, hA, hbv, -, kd1, -⟩ := var_at (VarsAt.to (Holds_.below hbel2) HVS.out) hjv
      subst hA
      obtain ⟨at_, Af, cf, hA, hbt, f0, hf⟩ := row_at (PortsAt.to (Holds_.below hbel2) HT.out) hvT
      subst hA
      obtain ⟨af, hA, hbf, f1, f2⟩ := pair_at hf hjT
      subst hA
      rw [tr3] at f1 f2
      rw [tr1, HN.out] at f0
      have g1 := (hbel2.cell (p := ⟨m, 1, none⟩) hb).trans m1
      have g4 := (hbel2.cell (p := ⟨m, 4, none⟩) hb).trans m4
      obtain ⟨hb1, hb2⟩ := (HM2.out.get 1 rfl).lt b rfl
      have hb3 := ((HM1.out.get 0 rfl).lt b rfl).2
      have hw2 := hbel2.size
      have hmW : m < w2.heap.size := Nat.lt_of_lt_of_le hb hw2
      have x3 : (av.add (j * 6)).block < w.heap.size := by rw [block_of_add]; exact hbv
      have x4 : (at_.add v).block < w.heap.size := by rw [block_of_add]; exact hbt
      have x5 : (af.add (j * 2)).block < w.heap.size := by rw [block_of_add]; exact hbf
      have y3 : (av.add (j * 6)).block < w2.heap.size := by omega
      have y4 : (at_.add v).block < w2.heap.size := by omega
      have y5 : (af.add (j * 2)).block < w2.heap.size := by omega
      have n3 : (av.add (j * 6)).block ≠ b := by omega
      have n4 : (at_.add v).block ≠ b := by omega
      have n5 : (af.add (j * 2)).block ≠ b := by omega
      have n6 : wr.heap.size ≠ b := by omega
      have n7 : m ≠ b := by omega
      obtain ⟨kd, hkd2⟩ : ∃ kd, (p.vars[j]'hjv).kind = kd := ⟨_, rfl⟩
      obtain ⟨l1, hl1⟩ : ∃ l1, (lh p g v j).1 = l1 := ⟨_, rfl⟩
      obtain ⟨l2, hl2⟩ : ∃ l2, (lh p g v j).2 = l2 := ⟨_, rfl⟩
      rw [hkd2] at kd1 hkd
      rw [hl1] at f1
      rw [hl2] at f2
      have HLH := Lib.hid (show lh p g v j = (l1, l2) from by rw [← hl1, ← hl2])
      have HKD2 := Lib.hid hkd
      have hju : ∃ u0, (iv s)[j]? = some u0 := ⟨_, List.getElem?_eq_getElem (by unfold iv; rw [List.length_map, HSL2.out]; exact hjn)⟩
      obtain ⟨u0, hu0⟩ := hju
      obtain ⟨ev0, hev0⟩ : ∃ z, evL g c v xe = z := ⟨_, rfl⟩
      rw [hev0] at HSN ⊢
      clear hl1 hl2 hkd2 hev0 hkd hf tr1 tr3 hw2 hb3 hbel2 x3 x4 x5 hbv hbt hbf m0 m1 m2 m3 m4 d0 r2
      have rule := grown_rule w2 b
      have rule2 := grown_rule2 w2 b
      go_upto_region 6 with fail
      go_region_held3 (fun X => w2.grownBy X (some b)) (first | exact grown_below (Below.drew (Below.refl _ _)) | assumption | exact grown_set (by assumption))
        (first
          | (go_at_call 138; refine (bring_p _ _ _ _ _).mono ?_; rintro e w3 ⟨rfl, hb3⟩; have HM3 := Lib.hid (show Mem w _ w3 from HM2.out.drew.below hb3); have hg3 : w2.grownBy w3 (some b) := grown_below (below_step hb3 (bdrw (Below.refl w2.heap.size w2))); obtain ⟨a0, af0⟩ := own_at (HM3.out.get 1 rfl) hu0))
      have HM4 := Lib.hid (HM3.out.storeR 1 rfl j (.int .i64 (bringZ kd (l1, l2) ev0)) (iv_set s j _))
      clear rule rule2 hb3 HM3 hg3 a0 af0 t0 t1 tf g1 g4 f0 f1 f2 kd1
      go_wp2
      go_roundw
      case rel => exact ⟨k + 1, by go_num, HLT.out, by rw [HSN.out, HKD2.out, HLH.out]; exact HM4.out.erase 0⟩
      case measure => simp [intOf]; omega
    · obtain rfl : k = L.length := by omega
      have hM := HM.out
      rw [List.take_length] at hM
      have HR := Lib.hid (hM.get 0 rfl)
      have HL := Lib.hid (show (movS p g c v L).length = n1 + 1 by rw [HSL.out, HN.out])
      have HB := Lib.hid hM.bel
      clear hM
      go_wp2
      go_ret
      refine ⟨some ⟨b, 0, none⟩, cap, ?_, ?_, HB.out⟩
      · rw [HL.out]; rfl
      · rw [HL.out]; exact HR.out
end
end Go.Proofs.YtdfklagiafmoiaaGreatDoor

/- The scene, made: words. -/
namespace Go.Proofs.YtdfklagiafmoiaaGreatDoor
open Go.RowKit

/-- what lies beside a row stands behind the append to it -/
theorem Mem.sideV {w0 w x1 : World} {l : List (Ch w0.heap.size)} (h : Mem w0 l w) (i j : Nat) {g te e z : Nat} {vs : List Value} {R : List (Nat × List Value)} {c : Ch w0.heap.size} (hi : l[i]? = some (cV w0.heap.size g te e z vs R)) (hj : l[j]? = some c) (hij : i ≠ j) {t : Nat} (ht : t < vs.length) (hg : w.grownBy x1 vs[t].ownBlock) : c.P x1 := by
  obtain ⟨hil, hic⟩ := List.getElem?_eq_some_iff.1 hi
  obtain ⟨hjl, hjc⟩ := List.getElem?_eq_some_iff.1 hj
  refine c.keep (h.get j hj) hg (fun b eb hf => ?_)
  have h1 : (cV w0.heap.size g te e z vs R).F b := .inr ⟨t, ht, eb⟩
  rcases Nat.lt_or_gt_of_ne hij with hlt | hlt
  · exact List.pairwise_iff_getElem.1 h.2.2 i j hil hjl hlt b (hic ▸ h1) (hjc ▸ hf)
  · exact List.pairwise_iff_getElem.1 h.2.2 j i hjl hil hlt b (hjc ▸ hf) (hic ▸ h1)
/-- the rows: v of them done -/
def Bv (n : Nat) (T : Cfg) (v : Nat) : List (Nat × List Value) := (T.take v).map (fun r => (r.length, iv r)) ++ List.replicate (n - v) (0, [])
/-- .. and i numbers of the next -/
def BvX (n : Nat) (T : Cfg) (v : Nat) (ys : List Int) : List (Nat × List Value) := (T.take v).map (fun r => (r.length, iv r)) ++ (ys.length, iv ys) :: List.replicate (n - v - 1) (0, [])
section
variable {n v : Nat} {T : Cfg} (hT : T.length = n) (hv : v < n)
include hT hv
theorem Bv_open : Bv n T v = BvX n T v [] := by
  have _h := hT
  unfold Bv BvX
  obtain ⟨q, hq⟩ : ∃ q, n - v = q + 1 := ⟨n - v - 1, by omega⟩
  rw [hq, List.replicate_succ]
  rfl
theorem BvX_len {ys : List Int} : (BvX n T v ys).length = n := by unfold BvX; simp; omega
theorem BvX_at {ys : List Int} (h : v < (BvX n T v ys).length) : (BvX n T v ys)[v] = (ys.length, iv ys) := by
  have hl : ((T.take v).map fun r => (r.length, iv r)).length = v := by simp; omega
  have e : (BvX n T v ys)[v]? = some (ys.length, iv ys) := by
    unfold BvX
    rw [List.getElem?_append_right (by omega), hl, Nat.sub_self]
    rfl
  exact (List.getElem?_eq_some_iff.1 e).2
theorem BvX_set (ys zs : List Int) : (BvX n T v ys).set v (zs.length, iv zs) = BvX n T v zs := by
  unfold BvX
  have hl : ((T.take v).map fun r => (r.length, iv r)).length = v := by simp; omega
  rw [List.set_append_right _ _ (by omega), hl, Nat.sub_self, List.set_cons_zero]
theorem BvX_full : BvX n T v (T[v]'(by omega)) = Bv n T (v + 1) := by
  unfold BvX Bv
  rw [List.take_succ_eq_append_getElem (by omega), List.map_append, List.append_assoc, show n - (v + 1) = n - v - 1 by omega]
  rfl
end
theorem Bv_full {n : Nat} {T : Cfg} (hT : T.length = n) : Bv n T n = T.map fun r => (r.length, iv r) := by unfold Bv; rw [Nat.sub_self, ← hT, List.take_length]; simp
theorem Bv_zero (n : Nat) (T : Cfg) : Bv n T 0 = List.replicate n (0, []) := by unfold Bv; simp
theorem grid_conf {w : World} {base g te e : Nat} {vs : List Value} {R : List (Nat × List Value)} {T : Cfg} (h : GridV w base g te e 1 vs R) (hR : R = T.map fun r => (r.length, iv r)) :
    ConfAt w w.heap.size (.slice (some ⟨g, 0, none⟩) T.length T.length) T := by
  subst hR
  have hvl : vs.length = T.length := by rw [h.len, List.length_map]
  refine ⟨_, _, vs, rfl, reads_blk h.blk h.blk.lt (by omega), fun k x hx => ?_⟩
  obtain ⟨hk, rfl⟩ := List.getElem?_eq_some_iff.1 hx
  have hr := h.row k (by omega) (by simpa using hk)
  rw [List.getElem_map] at hr
  obtain ⟨A, c, hv, hi⟩ := ints_own (l := T[k]) hr
  refine ⟨[vs[k]'(by omega)], rfl, ⟨_, rfl, by rw [hv]; exact hi⟩, fun j u hj => ?_⟩
  rcases j with _ | j
  · simp only [List.getElem?_cons_zero, Option.some.injEq] at hj
    subst hj
    rw [Nat.mul_one, Nat.add_zero, List.getElem?_eq_getElem]
  · simp at hj
theorem backs_len (g : Gr) : (backs g).length = g.ports.length := by simp [backs]
theorem backs_row (g : Gr) (v : Nat) (hv : v < g.ports.length) (hb : v < (backs g).length) : (backs g)[v] = (g.ports[v]).map fun t => portTo (g.ports.getD t.1.toNat []) v := by
  simp [backs, List.getD_eq_getElem?_getD, hv]
/-- the backs, the call's own -/
def BkOwn (w : World) (base : Nat) (v : Value) (T : Cfg) : Prop := ∃ (gb : Nat) (vs : List Value), v = .slice (some ⟨gb, 0, none⟩) T.length T.length ∧ base ≤ gb ∧ GridV w base gb 26 3 1 vs (T.map fun r => (r.length, iv r))
/-- a scene whose own parts lie from base on, its arguments' below B0 -/
def SceneOwn (w : World) (base B0 b : Nat) (p : Pg) (g : Gr) : Prop := ∃ (Av : Option Addr) (cv : Nat) (Ar : Option Addr) (cr : Nat) (Ai : Option Addr) (ci : Nat) (Ap : Option Addr) (cp : Nat) (Ab : Option Addr) (cb : Nat), base ≤ b ∧ b < w.heap.size ∧ SceneC w b p g Av cv Ar cr Ai ci Ap cp Ab cb ∧
  VarsAt w B0 (.slice Av p.vars.length cv) p.vars ∧ RulesAt w B0 (.slice Ar p.rules.length cr) p.rules ∧ IntsAt w B0 (.slice Ai g.ids.length ci) g.ids ∧ PortsAt w B0 (.slice Ap g.ports.length cp) g.ports ∧ BkOwn w base (.slice Ab (backs g).length cb) (backs g)
/-- what stands from base on stands -/
def Same (base : Nat) (w X : World) : Prop := w.heap.size ≤ X.heap.size ∧ ∀ b, base ≤ b → b < w.heap.size → X.heap[b]? = w.heap[b]?
theorem own_same {w X : World} {base e z n : Nat} {v : Value} {xs : List Value} (h : w.ownsRow base e z v n xs) (hk : Same base w X) : X.ownsRow base e z v n xs := by
  refine ⟨h.1, ?_⟩
  rcases h.2 with h1 | ⟨g, cap, cur, hv, hg, hh, hr⟩
  · exact .inl h1
  · have hlt : g < w.heap.size := by
      have := (h.lt g (by rw [hv]; rfl)).2
      exact this
    exact .inr ⟨g, cap, cur, hv, hg, (hk.2 g hg hlt).trans hh, hr⟩
theorem GridV.same {w X : World} {base g te e z : Nat} {vs : List Value} {R : List (Nat × List Value)} (h : GridV w base g te e z vs R) (hg : base ≤ g) (hk : Same base w X) : GridV X base g te e z vs R :=
  ⟨h.len, (hk.2 g hg h.blk.lt).trans h.blk, fun x hv hr => own_same (h.row x hv hr) hk, h.ne⟩
theorem BkOwn.same {w X : World} {base : Nat} {v : Value} {T : Cfg} (h : BkOwn w base v T) (hk : Same base w X) : BkOwn X base v T := by
  obtain ⟨gb, vs, e, hb, hg⟩ := h
  exact ⟨gb, vs, e, hb, hg.same hb hk⟩
theorem BkOwn.conf {w : World} {base : Nat} {v : Value} {T : Cfg} (h : BkOwn w base v T) : ConfAt w w.heap.size v T := by
  obtain ⟨gb, vs, rfl, hb, hg⟩ := h
  exact grid_conf hg rfl
theorem TabOwn.same {w X : World} {base : Nat} {v : Value} {T : List (List Tm)} (h : TabOwn w base v T) (hk : Same base w X) : TabOwn X base v T := by
  obtain ⟨gb, m, vs, e, hb, hg, hm⟩ := h
  exact ⟨gb, m, vs, e, hb, hg.same hb hk, hm⟩
theorem TabOwn.ports {w : World} {base : Nat} {v : Value} {T : List (List Tm)} (h : TabOwn w base v T) : PortsAt w w.heap.size v T := by
  obtain ⟨gb, m, vs, rfl, hb, hg, hm⟩ := h
  exact grid_ports hg rfl hm
/-- what lies below B0 stands too -/
structure Kept2 (B0 base : Nat) (w X : World) : Prop where
  lo : ∀ b, b < B0 → X.heap[b]? = w.heap[b]?
  hi : Same base w X
  b0 : B0 ≤ w.heap.size
theorem Kept2.holds {B0 base : Nat} {w X : World} (h : Kept2 B0 base w X) : Holds_ B0 X.heap.size w X := ⟨Nat.le_trans h.b0 h.hi.1, fun p hp => World.cell?_of_block (h.lo p.block hp)⟩
theorem Kept2.cell {B0 base : Nat} {w X : World} (h : Kept2 B0 base w X) {b : Nat} (h1 : base ≤ b) (h2 : b < w.heap.size) (i : Nat) : X.cell? ⟨b, i, none⟩ = w.cell? ⟨b, i, none⟩ := World.cell?_of_block (h.hi.2 b h1 h2)
theorem Kept2.refl {B0 base : Nat} {w : World} (h : B0 ≤ w.heap.size) : Kept2 B0 base w w := ⟨fun _ _ => rfl, ⟨Nat.le_refl _, fun _ _ _ => rfl⟩, h⟩
theorem Kept2.below {B0 base : Nat} {w X : World} (hb : B0 ≤ w.heap.size) (h : Below w.heap.size w X) : Kept2 B0 base w X := ⟨fun b h1 => h.block b (by omega), ⟨h.size, fun b _ h2 => h.block b h2⟩, hb⟩
theorem SceneOwn.at_ {w X : World} {base B0 b : Nat} {p : Pg} {g : Gr} (h : SceneOwn w base B0 b p g) (k : Kept2 B0 base w X) : SceneAt X X.heap.size b p g := by
  obtain ⟨Av, cv, Ar, cr, Ai, ci, Ap, cp, Ab, cb, hb, hlt, hc, h1, h2, h3, h4, h5⟩ := h
  have e := fun i => k.cell hb hlt i
  exact ⟨Av, cv, Ar, cr, Ai, ci, Ap, cp, Ab, cb, Nat.lt_of_lt_of_le hlt k.hi.1, ⟨by rw [e]; exact hc.c0, by rw [e]; exact hc.c1, by rw [e]; exact hc.c2, by rw [e]; exact hc.c3, by rw [e]; exact hc.c4, by rw [e]; exact hc.c5, by rw [e]; exact hc.c6⟩, VarsAt.to k.holds h1, RulesAt.to k.holds h2, IntsAt.to k.holds h3, PortsAt.to k.holds h4, (h5.same k.hi).conf⟩
theorem SceneOwn.to {w X : World} {base B0 b : Nat} {p : Pg} {g : Gr} (h : SceneOwn w base B0 b p g) (k : Kept2 B0 base w X) : SceneOwn X base B0 b p g := by
  obtain ⟨Av, cv, Ar, cr, Ai, ci, Ap, cp, Ab, cb, hb, hlt, hc, h1, h2, h3, h4, h5⟩ := h
  have e := fun i => k.cell hb hlt i
  have k2 : Holds_ B0 B0 w X := ⟨Nat.le_refl _, k.holds.2⟩
  exact ⟨Av, cv, Ar, cr, Ai, ci, Ap, cp, Ab, cb, hb, Nat.lt_of_lt_of_le hlt k.hi.1, ⟨by rw [e]; exact hc.c0, by rw [e]; exact hc.c1, by rw [e]; exact hc.c2, by rw [e]; exact hc.c3, by rw [e]; exact hc.c4, by rw [e]; exact hc.c5, by rw [e]; exact hc.c6⟩, VarsAt.to k2 h1, RulesAt.to k2 h2, IntsAt.to k2 h3, PortsAt.to k2 h4, h5.same k.hi⟩
def scC (p : Pg) (vv vr vi vp : Value) (z : Int) (n R : Nat) : Array Value := #[.string p.name, vv, vr, vi, vp, .int .i64 z, .slice (some ⟨R, 0, none⟩) n n]
end Go.Proofs.YtdfklagiafmoiaaGreatDoor

/- A mover's own parts; a step. -/
namespace Go.Proofs.YtdfklagiafmoiaaGreatDoor
open Go.RowKit

/-- a mover whose own parts lie from base on, its arguments' below B0 -/
def MoverOwn (w : World) (base B0 m : Nat) (p : Pg) (g : Gr) : Prop := ∃ (sb : Nat) (Av : Option Addr) (cv : Nat) (Ar : Option Addr) (cr : Nat) (At : Option Addr) (ct : Nat), base ≤ m ∧ m < w.heap.size ∧ MoverC w m sb p g Av cv Ar cr At ct ∧
  VarsAt w B0 (.slice Av p.vars.length cv) p.vars ∧ RulesAt w B0 (.slice Ar p.rules.length cr) p.rules ∧ SceneOwn w base B0 sb p g ∧ TabOwn w base (.slice At g.ports.length ct) (tab p g)
theorem MoverOwn.at_ {w X : World} {base B0 m : Nat} {p : Pg} {g : Gr} (h : MoverOwn w base B0 m p g) (k : Kept2 B0 base w X) : MoverAt X X.heap.size m p g := by
  obtain ⟨sb, Av, cv, Ar, cr, At, ct, hb, hlt, hc, h1, h2, h3, h4⟩ := h
  have e := fun i => k.cell hb hlt i
  exact ⟨sb, Av, cv, Ar, cr, At, ct, Nat.lt_of_lt_of_le hlt k.hi.1, ⟨by rw [e]; exact hc.c0, by rw [e]; exact hc.c1, by rw [e]; exact hc.c2, by rw [e]; exact hc.c3, by rw [e]; exact hc.c4⟩, VarsAt.to k.holds h1, RulesAt.to k.holds h2, h3.at_ k, (h4.same k.hi).ports⟩
end Go.Proofs.YtdfklagiafmoiaaGreatDoor

/- A step of the mover. -/
namespace Go.Proofs.YtdfklagiafmoiaaGreatDoor
open Go.RowKit

/-- a node's state behind its move -/
noncomputable def movC (p : Pg) (g : Gr) (c : Cfg) (v : Nat) : List Int := match p.rules[ruleN p g c v]? with | some r => movS p g c v r.sets | none => c.getD v []
/-- a step of which the first k nodes have been seen -/
noncomputable def stepK (p : Pg) (g : Gr) (c : Cfg) (set k : Nat) : Cfg := (List.range c.length).map fun v => if v < k ∧ set.testBit v = true then movC p g c v else c.getD v []
noncomputable def stepC (p : Pg) (g : Gr) (c : Cfg) (set : Nat) : Cfg := stepK p g c set c.length
section
variable (p : Pg) (g : Gr) (c : Cfg) (set : Nat)
theorem stepK_len (k : Nat) : (stepK p g c set k).length = c.length := by unfold stepK; simp
theorem stepK_at {k v : Nat} (h : v < (stepK p g c set k).length) : (stepK p g c set k)[v] = if v < k ∧ set.testBit v = true then movC p g c v else c.getD v [] := by
  simp [stepK]
theorem stepK_zero : stepK p g c set 0 = c := by
  refine List.ext_getElem (stepK_len p g c set 0) fun v h1 h2 => ?_
  rw [stepK_at, if_neg (by omega), List.getD_eq_getElem?_getD, List.getElem?_eq_getElem h2]; rfl
theorem stepK_yes {k : Nat} (h : set.testBit k = true) : (stepK p g c set k).set k (movC p g c k) = stepK p g c set (k + 1) := by
  refine List.ext_getElem (by rw [List.length_set, stepK_len, stepK_len]) fun v h1 h2 => ?_
  rw [List.getElem_set, stepK_at]
  split
  · rename_i e; subst e; rw [stepK_at, if_pos ⟨Nat.lt_succ_self _, h⟩]
  · rename_i e
    rw [stepK_at]
    by_cases hb : v < k ∧ set.testBit v = true
    · rw [if_pos hb, if_pos ⟨by omega, hb.2⟩]
    · rw [if_neg hb, if_neg (fun h3 => hb ⟨by omega, h3.2⟩)]
theorem stepK_no {k : Nat} (h : set.testBit k = false) : stepK p g c set k = stepK p g c set (k + 1) := by
  refine List.ext_getElem (by rw [stepK_len, stepK_len]) fun v h1 h2 => ?_
  rw [stepK_at, stepK_at]
  by_cases hb : v < k ∧ set.testBit v = true
  · rw [if_pos hb, if_pos ⟨by omega, hb.2⟩]
  · rw [if_neg hb, if_neg (fun h3 => by
      rcases (by omega : v < k ∨ v = k) with h4 | rfl
      · exact hb ⟨h4, h3.2⟩
      · rw [h] at h3; cases h3.2)]
end
theorem enF_rule {p : Pg} {g : Gr} {c : Cfg} {v : Nat} (h : enF p g c v = true) : ∃ hr : ruleN p g c v < p.rules.length, ruleZ p g c v = (ruleN p g c v : Int) ∧ movC p g c v = movS p g c v (p.rules[ruleN p g c v]'hr).sets := by
  unfold enF ruleZ at h
  have h1 : ruleN p g c v < p.rules.length := by
    by_cases h2 : ruleN p g c v < p.rules.length
    · exact h2
    · rw [if_neg h2] at h; simp at h
  exact ⟨h1, by unfold ruleZ; rw [if_pos h1], by unfold movC; rw [List.getElem?_eq_getElem h1]⟩
def StPost (w : World) (c : Cfg) (e : Ending) (w' : World) : Prop := ∃ gb vs, e = .returned (.slice (some ⟨gb, 0, none⟩) c.length c.length) ∧ CfW w' w.heap.size gb vs c ∧ Below w.heap.size w w'
def SpRel (w : World) (p : Pg) (g : Gr) (c : Cfg) (set n gb : Nat) (i : Value) (wr : World) : Prop := ∃ (k : Nat) (vs : List Value), i = .int .i64 k ∧ k ≤ n ∧ CfW wr w.heap.size gb vs (stepK p g c set k) ∧ Below w.heap.size w wr
section
variable (p : Pg) (g : Gr) (c : Cfg) (hc : CfOk p g c) (m set : Nat) (hset : set < 4294967296) (hen : ∀ v, v < g.ports.length → set.testBit v = true → enF p g c v = true)
include hc hset hen
set_option maxRecDepth 100000 in
set_option maxHeartbeats 16000000 in
theorem step_p (Ac : Option Addr) (cc : Nat) (w : World) (hm : MoverAt w w.heap.size m p g) (hcf : ConfAt w w.heap.size (.slice Ac c.length cc) c) :
    Calls Tryz.prog 74 #[.pointer (some ⟨m, 0, none⟩), .slice Ac c.length cc, .int .u32 (set : Int)] w (StPost w (stepC p g c set)) := by
  have HM := Lib.hid hm
  have HCF := Lib.hid hcf
  have HC := Lib.hid hc
  have HEN := Lib.hid hen
  have hn24 := hc.fit.gr.hi
  have hlen := hc.len
  have HCP := Lib.hid (copy_p c (by omega) (fun k hk => by
    obtain ⟨_, h1, -⟩ := hc.at_ k hk
    have := hc.fit.pg.vhi
    omega) Ac cc w hcf)
  obtain ⟨n, hn⟩ : ∃ n, c.length = n := ⟨_, rfl⟩
  have HN := Lib.hid hn
  have HNP := Lib.hid (show g.ports.length = n from by omega)
  unfold CopyPost at HCP
  rw [hn] at HCP
  have hn2 : n ≤ 24 := by omega
  rw [hn]
  unfold StPost stepC
  rw [stepK_len, hn]
  clear hm hcf hc hen hlen hn hn24
  go_enter Tryz.func74, Tryz.ntmps74
  go_wp2_with fail
  refine HCP.out.mono ?_
  rintro e w1 ⟨gb, vs0, rfl, hcw, hb1⟩
  have HCW := Lib.hid hcw
  have HB1 := Lib.hid hb1
  clear hcw hb1 HCP
  go_wp2_with fail
  go_loopw [13] (SpRel w p g c set n gb) (fun i _ => n - (intOf i).toNat)
  case atStart => exact ⟨0, vs0, rfl, Nat.zero_le _, by rw [stepK_zero]; exact HCW.out, HB1.out⟩
  case round =>
    obtain ⟨k, vs, rfl, hk, hcw, hbel⟩ := hrel
    have HW := Lib.hid hcw
    have HB := Lib.hid hbel
    clear hcw hbel HCW HB1
    by_cases hlt : k < n
    · have k0 : (0 : Int) ≤ (k : Int) := by omega
      have k1 : (k : Int) < (n : Int) := by omega
      have HLT := Lib.hid hlt
      obtain ⟨b, hb⟩ : ∃ b, set.testBit k = b := ⟨_, rfl⟩
      have hbit := Pl.has_bit set k hset
      rw [hb] at hbit
      have HBT := Lib.hid hb
      clear hb
      cases b
      · go_wp2_with fail
        go_roundw
        case rel => exact ⟨k + 1, vs, by go_num, HLT.out, by rw [← stepK_no p g c set HBT.out]; exact HW.out, HB.out⟩
        case measure => simp [intOf]; omega
      · have hkP : k < g.ports.length := by rw [HNP.out]; exact hlt
        obtain ⟨hr, hrz, hmc⟩ := enF_rule (HEN.out k hkP HBT.out)
        have HR1 := Lib.hid (rule_p p g c HC.out m k hkP Ac cc wr (MoverAt.to (Holds_.go HB.out) HM.out) (by rw [HN.out]; exact ConfAt.to (Holds_.go HB.out) (by have h := HCF.out; rw [HN.out] at h; exact h)))
        have HR2 := Lib.hid (fun (X : World) (hX : Below w.heap.size w X) => move_p p g c HC.out m k hkP (ruleN p g c k) hr Ac cc X (MoverAt.to (Holds_.go hX) HM.out) (ConfAt.to (Holds_.go hX) HCF.out))
        rw [hrz, HN.out] at HR1
        rw [← hmc, HN.out] at HR2
        have HSY := Lib.hid (stepK_yes p g c set HBT.out)
        obtain ⟨row, hrow⟩ : ∃ row, movC p g c k = row := ⟨_, rfl⟩
        rw [hrow] at HR2 HSY
        clear hr hrz hmc hrow hkP
        go_wp2_with fail
        refine HR1.out.mono ?_
        rintro e w2 ⟨rfl, hb2⟩
        have HB2 := Lib.hid (below_step hb2 HB.out)
        have HB2' := Lib.hid hb2
        clear hb2 HR1
        go_wp2_with fail
        refine (HR2.out _ HB2.out).mono ?_
        rintro e w3 ⟨A3, c3, rfl, ho3, hb3⟩
        have HB3 := Lib.hid (below_step hb3 HB2.out)
        have HB3' := Lib.hid (below_step hb3 HB2'.out)
        have HW3 := Lib.hid (HW.out.below HB3'.out)
        have hvl : k < vs.length := by rw [HW.out.len, stepK_len, HN.out]; exact HLT.out
        have d0 := HW3.out.blk.get (k := k) hvl
        have df := HW3.out.blk.frozen k
        have hg := HW.out.blk.lt
        have HRO := Lib.hid (RowOff.own (l := row) (lo := w.heap.size) ho3 (Nat.lt_of_lt_of_le hg HB2'.out.size) HB2.out.size)
        obtain ⟨v0, hv0⟩ : ∃ v0, vs[k]'hvl = v0 := ⟨_, rfl⟩
        rw [hv0] at d0
        clear hb3 ho3 hv0
        go_wp2_with fail
        go_roundw
        case rel => exact ⟨k + 1, _, by go_num, HLT.out, by rw [← HSY.out]; exact HW3.out.set HRO.out, HB3.out.setCell (HW.out.lo_) _⟩
        case measure => simp [intOf]; omega
    · obtain rfl : k = n := by omega
      go_wp2
      go_ret
      exact ⟨gb, vs, rfl, HW.out, HB.out⟩
end
end Go.Proofs.YtdfklagiafmoiaaGreatDoor
