/- Lemmas of this seat, laid together out of 2 texts: no statement of the seat is proved here. -/
import Derived.Test.YtdfklagiafmoiaaGreatDoorG22
import Derived.Test.YtdfklagiafmoiaaGreatDoorG39
import Derived.Test.YtdfklagiafmoiaaGreatDoorG16
/- The program of the laws' sanity check, its graph and its run, plain. -/
namespace Go.Proofs.YtdfklagiafmoiaaGreatDoor
open Go.RowKit

theorem flat_uniq : ∀ (s t : Ex) (r r' : List Tm), s.ok → t.ok → s.flat ++ r = t.flat ++ r' → s = t ∧ r = r'
  | .z x, .z y, r, r', _, _, h => by simp only [Ex.flat, List.cons_append, List.nil_append, List.cons.injEq] at h; exact ⟨by rw [h.1], h.2⟩
  | .u x a, .u y b, r, r', h1, h2, h => by
    simp only [Ex.flat, List.cons_append, List.cons.injEq] at h
    obtain ⟨e1, e2⟩ := flat_uniq a b r r' h1.2 h2.2 h.2
    exact ⟨by rw [h.1, e1], e2⟩
  | .b x a c, .b y b d, r, r', h1, h2, h => by
    simp only [Ex.flat, List.cons_append, List.cons.injEq, List.append_assoc] at h
    obtain ⟨e1, e2⟩ := flat_uniq a b _ _ h1.2.1 h2.2.1 h.2
    obtain ⟨e3, e4⟩ := flat_uniq c d r r' h1.2.2 h2.2.2 e2
    exact ⟨by rw [h.1, e1, e3], e4⟩
  | .i x a c e, .i y b d f, r, r', h1, h2, h => by
    simp only [Ex.flat, List.cons_append, List.cons.injEq, List.append_assoc] at h
    obtain ⟨e1, e2⟩ := flat_uniq a b _ _ h1.2.1 h2.2.1 h.2
    obtain ⟨e3, e4⟩ := flat_uniq c d _ _ h1.2.2.1 h2.2.2.1 e2
    obtain ⟨e5, e6⟩ := flat_uniq e f r r' h1.2.2.2 h2.2.2.2 e4
    exact ⟨by rw [h.1, e1, e3, e5], e6⟩
  | .z x, .u y b, r, r', h1, h2, h => by simp only [Ex.flat, List.cons_append, List.cons.injEq] at h; simp only [Ex.ok] at h1 h2; rw [h.1] at h1; omega
  | .z x, .b y b d, r, r', h1, h2, h => by simp only [Ex.flat, List.cons_append, List.cons.injEq] at h; simp only [Ex.ok] at h1 h2; rw [h.1] at h1; omega
  | .z x, .i y b d f, r, r', h1, h2, h => by simp only [Ex.flat, List.cons_append, List.cons.injEq] at h; simp only [Ex.ok] at h1 h2; rw [h.1] at h1; omega
  | .u x a, .z y, r, r', h1, h2, h => by simp only [Ex.flat, List.cons_append, List.cons.injEq] at h; simp only [Ex.ok] at h1 h2; rw [h.1] at h1; omega
  | .u x a, .b y b d, r, r', h1, h2, h => by simp only [Ex.flat, List.cons_append, List.cons.injEq] at h; simp only [Ex.ok] at h1 h2; rw [h.1] at h1; omega
  | .u x a, .i y b d f, r, r', h1, h2, h => by simp only [Ex.flat, List.cons_append, List.cons.injEq] at h; simp only [Ex.ok] at h1 h2; rw [h.1] at h1; omega
  | .b x a c, .z y, r, r', h1, h2, h => by simp only [Ex.flat, List.cons_append, List.cons.injEq] at h; simp only [Ex.ok] at h1 h2; rw [h.1] at h1; omega
  | .b x a c, .u y b, r, r', h1, h2, h => by simp only [Ex.flat, List.cons_append, List.cons.injEq] at h; simp only [Ex.ok] at h1 h2; rw [h.1] at h1; omega
  | .b x a c, .i y b d f, r, r', h1, h2, h => by simp only [Ex.flat, List.cons_append, List.cons.injEq] at h; simp only [Ex.ok] at h1 h2; rw [h.1] at h1; omega
  | .i x a c e, .z y, r, r', h1, h2, h => by simp only [Ex.flat, List.cons_append, List.cons.injEq] at h; simp only [Ex.ok] at h1 h2; rw [h.1] at h1; omega
  | .i x a c e, .u y b, r, r', h1, h2, h => by simp only [Ex.flat, List.cons_append, List.cons.injEq] at h; simp only [Ex.ok] at h1 h2; rw [h.1] at h1; omega
  | .i x a c e, .b y b d, r, r', h1, h2, h => by simp only [Ex.flat, List.cons_append, List.cons.injEq] at h; simp only [Ex.ok] at h1 h2; rw [h.1] at h1; omega
theorem treeOf_eq {l : List Tm} {t : Ex} (h : t.ok) (e : t.flat = l) (hb : t.bdOk false) : treeOf l = t := by
  obtain ⟨q1, q2, -⟩ := treeOf_spec ⟨t, h, e, hb⟩
  exact (flat_uniq _ _ [] [] q1 h (by rw [List.append_nil, List.append_nil, q2, e])).1
def exG : Ex := .u (21, 0) (.b (35, 0) (.z (12, 0)) (.z (5, 0)))
def exV : Ex := .u (27, 0) (.z (12, 0))
theorem exG_ok : exG.ok := ⟨by decide, by decide, show ar 12 = 0 by decide, show ar 5 = 0 by decide⟩
theorem exV_ok : exV.ok := ⟨by decide, show ar 12 = 0 by decide⟩
theorem exG_ty : exG.ty [1] false = 2 := by decide
theorem exV_ty : exV.ty [1] false = 1 := by decide
theorem evG (g : Gr) (c : Cfg) (v : Nat) : evL g c v gdL = ev g c v (-1) exG := by unfold evL; rw [treeOf_eq (l := gdL) exG_ok rfl (ty_bd [1] exG false (by rw [exG_ty]; decide))]
theorem evV (g : Gr) (c : Cfg) (v : Nat) : evL g c v vaL = ev g c v (-1) exV := by unfold evL; rw [treeOf_eq (l := vaL) exV_ok rfl (ty_bd [1] exV false (by rw [exV_ty]; decide))]
def colR : Rl := ⟨fS, gdL, [(0, vaL)]⟩
def colP : Pg := ⟨txt ⟨1, 8, 15⟩, [⟨cS, 1, 0, 0, 1, 0⟩], [colR]⟩
def g2 : Gr := ⟨[0, 1], [[(1, 1)], [(0, 1)]]⟩
def c20 : Cfg := [[0], [0]]
def c21 : Cfg := [[1], [0]]
theorem colP_ok : PgOk colP where
  vlo := by decide
  vhi := by decide
  rhi := by decide
  name := coS_name
  vnames := fun j h _ => by
    obtain rfl : j = 0 := by have : j < 1 := h; omega
    exact ⟨cS_name, fun m _ hm => absurd hm (Nat.not_lt_zero _)⟩
  rnames := fun j h _ => by
    obtain rfl : j = 0 := by have : j < 1 := h; omega
    exact ⟨fS_name, fun m _ hm => absurd hm (Nat.not_lt_zero _)⟩
  nums := fun j h _ => by
    obtain rfl : j = 0 := by have : j < 1 := h; omega
    show numB ⟨cS, 1, 0, 0, 1, 0⟩ = true
    unfold numB; decide
  forms := fun j h _ => by
    obtain rfl : j = 0 := by have : j < 1 := h; omega
    show FormOk 1 colR
    refine ⟨by decide, by decide, ⟨exG, exG_ok, rfl, by decide, by decide, by decide, by decide⟩, fun k hk _ => ?_⟩
    obtain rfl : k = 0 := by have : k < 1 := hk; omega
    show (0 ≤ (0 : Int) ∧ (0 : Int) < ((1 : Nat) : Int)) ∧ ExOk 1 vaL ∧ _
    exact ⟨⟨by decide, by decide⟩, ⟨exV, exV_ok, rfl, by decide, by decide, by decide, by decide⟩, fun m _ hm => absurd hm (Nat.not_lt_zero _)⟩
  types := fun j h _ => by
    obtain rfl : j = 0 := by have : j < 1 := h; omega
    refine ⟨⟨exG, exG_ok, rfl, exG_ty⟩, fun k hk _ => ?_⟩
    obtain rfl : k = 0 := by have : k < 1 := hk; omega
    exact ⟨exV, exV_ok, rfl, exV_ty⟩
theorem g2_ok : GrOk g2 where
  lo := by decide
  hi := by decide
  len := rfl
  ids := fun j h => by
    have h2 : j < 2 := h
    rcases (by omega : j = 0 ∨ j = 1) with rfl | rfl
    · refine ⟨by decide, by decide, by decide, by decide, fun k hk _ => ?_, fun m _ hm => absurd hm (Nat.not_lt_zero _)⟩
      obtain rfl : k = 0 := by have : k < 1 := hk; omega
      show (0 ≤ (1 : Int) ∧ (1 : Int) < ((2 : Nat) : Int)) ∧ (1 : Int) ≠ ((0 : Nat) : Int) ∧ (1 ≤ (1 : Int) ∧ (1 : Int) ≤ 15) ∧ _
      exact ⟨by decide, by decide, by decide, fun m _ hm => absurd hm (Nat.not_lt_zero _)⟩
    · refine ⟨by decide, by decide, by decide, by decide, fun k hk _ => ?_, fun m hm h1 => ?_⟩
      · obtain rfl : k = 0 := by have : k < 1 := hk; omega
        show (0 ≤ (0 : Int) ∧ (0 : Int) < ((2 : Nat) : Int)) ∧ (0 : Int) ≠ ((1 : Nat) : Int) ∧ (1 ≤ (1 : Int) ∧ (1 : Int) ≤ 15) ∧ _
        exact ⟨by decide, by decide, by decide, fun m _ hm => absurd hm (Nat.not_lt_zero _)⟩
      · obtain rfl : m = 0 := by omega
        show (0 : Int) ≠ 1
        decide
  sym := fun v i hv hi => by
    have h2 : v < 2 := hv
    rcases (by omega : v = 0 ∨ v = 1) with rfl | rfl
    · obtain rfl : i = 0 := by have : i < 1 := hi; omega
      exact ⟨by decide, by decide, 1, 0, by decide, by decide, by decide, by decide, by decide⟩
    · obtain rfl : i = 0 := by have : i < 1 := hi; omega
      exact ⟨by decide, by decide, 0, 0, by decide, by decide, by decide, by decide, by decide⟩
theorem g2_light : LightG g2 where
  i := by decide
  n := by decide
  p := fun v h => by
    have h2 : v < 2 := h
    rcases (by omega : v = 0 ∨ v = 1) with rfl | rfl
    · show 1 ≤ 30; decide
    · show 1 ≤ 30; decide
theorem fit2 : FitOk colP g2 := ⟨colP_ok, g2_ok, fun j h => by
  obtain rfl : j = 0 := by have : j < 1 := h; omega
  exact ⟨by decide, fun _ => by decide⟩⟩
theorem c20_ok : CfOk colP g2 c20 := ⟨fit2, rfl, fun v hv => by
  have h2 : v < 2 := hv
  rcases (by omega : v = 0 ∨ v = 1) with rfl | rfl
  · refine ⟨by decide, rfl, fun j h _ => ?_⟩
    obtain rfl : j = 0 := by have : j < 1 := h; omega
    show (lh colP g2 0 0).1 ≤ 0 ∧ 0 ≤ (lh colP g2 0 0).2
    decide
  · refine ⟨by decide, rfl, fun j h _ => ?_⟩
    obtain rfl : j = 0 := by have : j < 1 := h; omega
    show (lh colP g2 1 0).1 ≤ 0 ∧ 0 ≤ (lh colP g2 1 0).2
    decide⟩
theorem rule2 (c : Cfg) (v : Nat) : ruleN colP g2 c v = if ev g2 c v (-1) exG != 0 then 0 else 1 := by
  show List.findIdx (fun r : Rl => evL g2 c v r.guard != 0) [colR] = _
  rw [List.findIdx_cons]
  rw [show evL g2 c v colR.guard = ev g2 c v (-1) exG from evG g2 c v]
  cases (ev g2 c v (-1) exG != 0) <;> rfl
theorem enF2 (c : Cfg) (v : Nat) : enF colP g2 c v = (ev g2 c v (-1) exG != 0) := by
  unfold enF ruleZ
  rw [rule2]
  cases (ev g2 c v (-1) exG != 0) <;> decide
theorem enS2 (c : Cfg) : enS colP g2 c = setOf (fun v => ev g2 c v (-1) exG != 0) 2 := by
  unfold enS
  rw [show enF colP g2 c = fun v => ev g2 c v (-1) exG != 0 from funext (enF2 c)]
  rfl
theorem en20 : enS colP g2 c20 = 3 := by rw [enS2]; decide +kernel
theorem en21 : enS colP g2 c21 = 0 := by rw [enS2]; decide +kernel
theorem mov20 : movC colP g2 c20 0 = [1] := by
  unfold movC
  rw [rule2, show (if ev g2 c20 0 (-1) exG != 0 then 0 else 1) = 0 by decide +kernel]
  show movS colP g2 c20 0 [(0, vaL)] = [1]
  show setX colP g2 c20 0 (c20.getD 0 []) (0, vaL) = [1]
  unfold setX
  rw [evV]
  decide +kernel
theorem step20 : stepC colP g2 c20 1 = c21 := by
  unfold stepC stepK
  show [if 0 < c20.length ∧ Nat.testBit 1 0 = true then movC colP g2 c20 0 else c20.getD 0 [], if 1 < c20.length ∧ Nat.testBit 1 1 = true then movC colP g2 c20 1 else c20.getD 1 []] = c21
  rw [if_pos (by decide), if_neg (by decide), mov20]
  rfl
theorem fol20 : folL colP g2 1 c20 [3, 3] = [1] := by
  unfold folL
  rw [if_neg (by rw [en20]; decide), en20, show resZ g2 1 3 3 = 1 by decide +kernel, step20]
  unfold folL
  rw [if_pos en21]
theorem run20 : runC colP g2 c20 [1] = c21 := step20
theorem acc20 : accT colP g2 c20 [1] 1 = (1, 1, 0) := by
  unfold accT
  have e : EL colP g2 c20 [1] 2 = [3, 0] := by
    show [enS colP g2 (runC colP g2 c20 []), enS colP g2 (runC colP g2 c20 [1])] = [3, 0]
    rw [run20, en21]
    show [enS colP g2 c20, 0] = [3, 0]
    rw [en20]
  show Pl3.acc [1] (EL colP g2 c20 [1] 2) 1 = _
  rw [e]
  decide +kernel
end Go.Proofs.YtdfklagiafmoiaaGreatDoor

/- The parsing of the program of the laws' sanity check. -/
namespace Go.Proofs.YtdfklagiafmoiaaGreatDoor
open Go.RowKit

theorem own_keep {w w' : World} {base r e z n : Nat} {v : Value} {xs : List Value} (h : w.ownsRow base e z v n xs) (hg : w.grownBy w' (some r)) (hr : r < base) : w'.ownsRow base e z v n xs :=
  World.ownsRow.kept h hg (by
    cases hv : v.ownBlock with
    | none => exact .inl rfl
    | some b =>
      right
      intro e
      have := (World.ownsRow.lt h b hv).1
      injection e with e
      omega)
theorem listAt_one {α : Type} {w : World} {base e size : Nat} {R : α → List Value → Prop} {x : α} {v : Value} {us : List Value} (ho : w.ownsRow base e size v 1 us) (hR : R x us) (hl : us.length = size) : ListAt w w.heap.size size R v [x] := by
  obtain ⟨A, c, rfl⟩ := own_sl ho
  refine ⟨A, c, us, rfl, Reads.of_own ho, fun k y hk => ?_⟩
  cases k with
  | zero =>
    simp only [List.getElem?_cons_zero, Option.some.injEq] at hk
    subst hk
    exact ⟨us, hl, hR, fun j u hu => by rw [Nat.zero_mul, Nat.zero_add]; exact hu⟩
  | succ k => simp at hk
theorem prog_at {w : World} {b : Nat} {x4 x5 vg vs vv : Value} (h0 : w.ownsRow b 76 3 x5 1 [.string fS, vg, vs]) (h1 : w.ownsRow b 78 2 vs 1 [.int .i64 0, vv]) (h2 : w.ownsRow b 186 2 vv vaL.length (pc vaL))
    (h3 : w.ownsRow b 186 2 vg gdL.length (pc gdL)) (h6 : w.ownsRow b 103 6 x4 1 varL) : ProgAt w w.heap.size (.agg #[.string (txt ⟨1, 8, 15⟩), x4, x5]) colP := by
  obtain ⟨Av, cv, rfl⟩ := own_sl h2
  obtain ⟨Ag, cg, rfl⟩ := own_sl h3
  exact ⟨x4, x5, rfl, listAt_one h6 rfl rfl, listAt_one h0 ⟨_, vs, rfl, pairs_own h3 rfl, listAt_one h1 ⟨_, rfl, pairs_own h2 rfl⟩ rfl⟩ rfl⟩
set_option maxRecDepth 100000 in
set_option maxHeartbeats 8000000 in
theorem parse_r (X : World) : Calls Tryz.prog 18 #[.string colT] X fun e w' => ∃ v, e = .returned (.tuple #[v, .int .i64 0, .int .i64 0]) ∧ ProgAt w' w'.heap.size v colP ∧ Below X.heap.size X w' := by
  go_enter Tryz.func18, Tryz.ntmps18
  have HP0 := Lib.hid (show Blk (X.alloc (.cells #[.string ⟨#[]⟩, .slice none 0 0, .slice none 0 0] 25)) X.heap.size 25 #[.string ⟨#[]⟩, .slice none 0 0, .slice none 0 0] ∧ Below X.heap.size X (X.alloc (.cells #[.string ⟨#[]⟩, .slice none 0 0, .slice none 0 0] 25)) from ⟨Blk.new _ _ _, balloc (Below.refl _ _) _⟩)
  go_wp2_with fail
  generalize World.alloc _ _ = X1 at *
  refine (col_scan X1).mono ?_
  rintro e w2 ⟨vt, rfl, hM⟩
  obtain ⟨gt, ct, rfl⟩ := own_succ (n := 30) (hM.get 0 rfl)
  have HP2 := Lib.hid (show Blk w2 X.heap.size 25 #[.string ⟨#[]⟩, .slice none 0 0, .slice none 0 0] ∧ Below X.heap.size X w2 from ⟨HP0.out.1.below hM.bel HP0.out.1.lt, HP0.out.2.trans (hM.bel.mono HP0.out.2.size)⟩)
  have HT : Hid (TokS w2 w2.heap.size (.slice (some ⟨gt, 0, none⟩) 31 ct) colL) := Lib.hid ⟨_, ct, rfl, Reads.of_own (hM.get 0 rfl), own_cap (hM.get 0 rfl)⟩
  have HMB : Hid (Mem w2 [cD w2 colL nilV (.string ⟨#[]⟩) nilV nilV nilV] (w2.alloc (.cells #[.string colT, .slice (some ⟨gt, 0, none⟩) 31 ct, .slice none 0 0, .string ⟨#[]⟩, .slice none 0 0, .slice none 0 0, .slice none 0 0] 89))) :=
    Lib.hid ((Mem.start w2).push (galloc _ _) ⟨_, Blk.new _ _ _, HT.out⟩ (fun g e => Nat.le_of_eq (Eq.symm e)))
  clear hM HP0
  go_wp2_with fail
  refine (catch_r (cs := []) HMB.out).mono ?_
  rintro e w3 ⟨rfl, nm, x4, x5, x6, vg, vs, vv, hM⟩
  obtain ⟨A4, c4, rfl⟩ := own_sl (hM.get 6 rfl)
  obtain ⟨A5, c5, rfl⟩ := own_sl (hM.get 0 rfl)
  have HM3 := Lib.hid hM
  obtain ⟨v, hb, -⟩ := hM.rd 5 rfl
  obtain ⟨s0, s1, s2, s3, s4, s5, s6, sf⟩ := blk7r hb
  have HPR := Lib.hid (prog_at (hM.get 0 rfl) (hM.get 1 rfl) (hM.get 2 rfl) (hM.get 3 rfl) (hM.get 6 rfl))
  clear hM hb HMB HT
  generalize hpn : txt ⟨1, 8, 15⟩ = pn at *
  go_wp2_with fail
  refine (check_p colP colP_ok _ w3 HPR.out).mono ?_
  rintro e w4 ⟨rfl, hb4⟩
  have HM4 := Lib.hid (HM3.out.below hb4)
  clear hb4 HPR HM3 s0 s1 s2 s3 s4 s5 s6 sf
  have hM := HM4.out
  obtain ⟨v', hb, -⟩ := hM.rd 5 rfl
  obtain ⟨s0, s1, s2, s3, s4, s5, s6, sf⟩ := blk7r hb
  have HP4 := Lib.hid (show Blk w4 X.heap.size 25 #[.string ⟨#[]⟩, .slice none 0 0, .slice none 0 0] ∧ Below X.heap.size X w4 from ⟨HP2.out.1.below hM.bel HP2.out.1.lt, HP2.out.2.trans (hM.bel.mono HP2.out.2.size)⟩)
  obtain ⟨p0, p1, p2, pf⟩ := blk3 HP4.out.1
  have n1 : X.heap.size < w4.heap.size := HP4.out.1.lt
  have HX2 := Lib.hid (show X.heap.size < w2.heap.size from HP2.out.1.lt)
  have hY : Blk (((w4.setCell ⟨X.heap.size, 0, none⟩ (.string pn)).setCell ⟨X.heap.size, 1, none⟩ (.slice A4 1 c4)).setCell ⟨X.heap.size, 2, none⟩ (.slice A5 1 c5)) X.heap.size 25 #[.string pn, .slice A4 1 c4, .slice A5 1 c5] ∧ w4.grownBy (((w4.setCell ⟨X.heap.size, 0, none⟩ (.string pn)).setCell ⟨X.heap.size, 1, none⟩ (.slice A4 1 c4)).setCell ⟨X.heap.size, 2, none⟩ (.slice A5 1 c5)) (some X.heap.size) :=
    ⟨by simpa using ((HP4.out.1.set_ 0 (.string pn)).set_ 1 (.slice A4 1 c4)).set_ 2 (.slice A5 1 c5), ((gset' _ _ _ _).trans (gset' _ _ _ _)).trans (gset' _ _ _ _)⟩
  have HY := Lib.hid hY
  clear hY hM hb HP2
  go_wp2
  have hY := HY.out
  clear HY
  generalize World.setCell _ _ _ = Y at *
  obtain ⟨hb, hg⟩ := hY
  obtain ⟨q0, q1, q2, qf⟩ := blk3 hb
  have hx := HX2.out
  subst hpn
  refine bodyPost_ret (v := .tuple #[.agg #[.string (txt ⟨1, 8, 15⟩), .slice A4 1 c4, .slice A5 1 c5], .int .i64 0, .int .i64 0]) ?_ rfl ⟨_, rfl, ?_, ?_⟩
  · simp [results, Tryz.results18, go_sem, q0, q1, q2]
  · exact prog_at (own_keep (HM4.out.get 0 rfl) hg hx) (own_keep (HM4.out.get 1 rfl) hg hx) (own_keep (HM4.out.get 2 rfl) hg hx) (own_keep (HM4.out.get 3 rfl) hg hx) (own_keep (HM4.out.get 6 rfl) hg hx)
  · exact HP4.out.2.grown hg HP4.out.2.size (fun b e => by injection e with e; omega)
end Go.Proofs.YtdfklagiafmoiaaGreatDoor
