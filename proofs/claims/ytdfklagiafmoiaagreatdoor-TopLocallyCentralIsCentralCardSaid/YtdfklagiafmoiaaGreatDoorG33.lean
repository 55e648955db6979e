/- Lemmas of this seat, laid together out of 5 texts: no statement of the seat is proved here. -/
import Derived.Test.YtdfklagiafmoiaaGreatDoorG31
import Derived.Test.YtdfklagiafmoiaaGreatDoorG32
import Derived.Test.YtdfklagiafmoiaaGreatDoorG29
/- Independence of a set. -/
namespace Go.Proofs.YtdfklagiafmoiaaGreatDoor
open Go.RowKit Go.Shelf
attribute [local go_sem] Oper.semAt_some

theorem nodes0_p (set : Nat) (w : World) : Calls Tryz.prog 76 #[.int .u32 (set : Int)] w fun e w' => e = .returned (.func (.func 113) #[] #[.pointer (some ⟨w.heap.size, 0, none⟩)]) ∧ w.alloc (.cells #[.int .u32 (set : Int)] 34) = w' := by
  go_enter Tryz.func76, Tryz.ntmps76
  go_wp2
  go_ret
  exact ⟨rfl, rfl⟩
def clash (l : List Nat) (set v : Nat) : Bool := set.testBit v && (l.getD v 0 &&& set != 0)
def indep (l : List Nat) (set : Nat) : Bool := (List.range 32).all fun v => !clash l set v
theorem indep_no {l : List Nat} {set v : Nat} (hv : v < 32) (h : clash l set v = true) : indep l set = false := by
  unfold indep
  rw [List.all_eq_false]
  exact ⟨v, by simpa using hv, by simp [h]⟩
theorem indep_yes {l : List Nat} {set : Nat} (h : ∀ v, v < 32 → clash l set v = false) : indep l set = true := by
  unfold indep
  rw [List.all_eq_true]
  intro v hv
  rw [h v (by simpa using hv)]; rfl
theorem OffW.blk {w W W' : World} {bx g t : Nat} {cs : Array Value} (h : OffW w bx W W') (hg : g < w.heap.size) (hne : g ≠ bx) (hb : Blk W g t cs) : Blk W' g t cs := (h.2.2.2.2 g hg hne).trans hb
theorem OffW.below {w0 w W W' : World} {bx : Nat} (h : OffW w bx W W') (h1 : w0.heap.size ≤ w.heap.size) (h2 : w0.heap.size ≤ bx) (hb : Below w0.heap.size w0 W) : Below w0.heap.size w0 W' :=
  hb.trans ⟨h.1, h.2.1, h.2.2.1, h.2.2.2.1, fun k hk => h.2.2.2.2 k (by omega) (by omega)⟩
def InI (w : World) (l : List Nat) (set c : Nat) (A : Option Addr) (t : Nat) (W : World) : Prop :=
  (∀ v, v < t → clash l set v = false) ∧ Blk W w.heap.size 63 #[.slice A l.length c] ∧ Blk W (w.heap.size + 1) 34 #[.int .u32 (set : Int)] ∧ Blk W (w.heap.size + 1 + 1) 4 #[.bool false] ∧ Below w.heap.size w W ∧ w.heap.size + 4 ≤ W.heap.size
def InX (w : World) (l : List Nat) (set : Nat) (W : World) : Prop := indep l set = false ∧ Blk W (w.heap.size + 1 + 1) 4 #[.bool false] ∧ Below w.heap.size w W ∧ w.heap.size + 4 ≤ W.heap.size
set_option maxRecDepth 100000 in
set_option maxHeartbeats 4000000 in
theorem indep_in (l : List Nat) (set : Nat) (hset : set < 4294967296) (hl : ∀ x ∈ l, x < 4294967296) (hin : ∀ i, set.testBit i = true → i < l.length) (_hln : l.length ≤ 1000) (A : Option Addr) (c : Nat) (w : World) (ht : TzAt w) (hn : U32At w w.heap.size (.slice A l.length c) l) :
    CallsIn Fence.wide 9 Tryz.prog 108 #[.slice A l.length c, .int .u32 (set : Int)] w fun e w' => e = .returned (.bool (indep l set)) ∧ Below w.heap.size w w' := by
  refine callsIn_of_wp_marks Tryz.func108 rfl trivial ?_ rfl
  simp only [Tryz.ntmps108, List.size_toArray, List.length_cons, List.length_nil, Nat.reduceAdd, Nat.reduceSub, Array.replicate_succ, Array.replicate_zero, List.push_toArray, List.append_toArray, List.nil_append, List.cons_append]
  have HN := Lib.hid hn
  have HT := Lib.hid ht
  have HIN := Lib.hid hin
  have HL := Lib.hid hl
  have HM := Lib.hid ((((Mem.start w).new 63 #[.slice A l.length c]).new 34 #[.int .u32 (set : Int)]).new 4 #[.bool false])
  clear hn ht hin hl
  gi_wp2_with (refine ⟨trivial, ?_⟩; gi_at_call 76; refine (callsIn_wide.2 (nodes0_p set _)).mono ?_; rintro e w' ⟨rfl, rfl⟩)
  have HM4 := Lib.hid (show Mem w [cB w.heap.size (w.heap.size + 1 + 1 + 1) 34 #[.int .u32 (set : Int)], cB w.heap.size (w.heap.size + 1 + 1) 4 #[.bool false], cB w.heap.size (w.heap.size + 1) 34 #[.int .u32 (set : Int)], cB w.heap.size w.heap.size 63 #[.slice A l.length c]] _ from by
    have h := HM.out.new 34 #[.int .u32 (set : Int)]
    simp only [World.size_alloc] at h
    exact h)
  have HSZ := Lib.hid (show ((((w.alloc (.cells #[.slice A l.length c] 63)).alloc (.cells #[.int .u32 (set : Int)] 34)).alloc (.cells #[.bool false] 4)).alloc (.cells #[.int .u32 (set : Int)] 34)).heap.size = w.heap.size + 4 from by simp only [World.size_alloc])
  generalize World.alloc (World.alloc (World.alloc (World.alloc _ _) _) _) _ = X0 at *
  have hsz := HSZ.out
  have hb0 := (HM4.out.get 0 rfl).2
  refine wpIn_nodes 7 (w.heap.size + 1 + 1 + 1) set hset rfl rfl (by omega) hb0 (InI w l set c A) (InX w l set) ?hI ?hIx ?hTz ?hsz ?h0
    (fun v => { tmps := #[.slice A l.length c, .int .u32 (set : Int), .pointer (some ⟨w.heap.size, 0, none⟩), .pointer (some ⟨w.heap.size + 1, 0, none⟩), .pointer (some ⟨w.heap.size + 1 + 1, 0, none⟩), .int .i64 (v : Int), .int .u32 (set : Int), .func (.func 113) #[] #[.pointer (some ⟨w.heap.size + 1 + 1 + 1, 0, none⟩)], .int .i64 (v : Int), undef, undef, undef, undef, undef, undef, undef], defers := [] }) ?assign ?body ?done ?stop
  case hI =>
    rintro t W W' ⟨h1, h2, h3, h4, h5, h6⟩ ho
    exact ⟨h1, ho.blk (by omega) (by omega) h2, ho.blk (by omega) (by omega) h3, ho.blk (by omega) (by omega) h4, ho.below (by omega) (by omega) h5, Nat.le_trans h6 ho.2.2.2.1⟩
  case hIx =>
    rintro W W' ⟨h1, h4, h5, h6⟩ ho
    exact ⟨h1, ho.blk (by omega) (by omega) h4, ho.below (by omega) (by omega) h5, Nat.le_trans h6 ho.2.2.2.1⟩
  case hTz =>
    rintro t W ⟨_, _, _, _, h5, _⟩
    exact HT.out.below h5 HT.out.1
  case hsz =>
    rintro t W ⟨_, _, _, _, _, h6⟩
    omega
  case h0 => exact ⟨fun v hv => absurd hv (Nat.not_lt_zero _), (HM4.out.get 3 rfl).2, (HM4.out.get 2 rfl).2, (HM4.out.get 1 rfl).2, HM4.out.bel, by omega⟩
  case assign =>
    intro l' v W K hK
    gi_wp2
    exact hK
  case body =>
    rintro l' t v W htv hv ⟨h1, h2, h3, h4, h5, h6⟩ hbit hgap
    have hvl := HIN.out v hbit
    obtain ⟨ad, hA, hb, d0⟩ := u32_at (U32At.to (Holds_.go h5) HN.out) hvl
    subst hA
    have HXL := Lib.hid (HL.out _ (List.getElem_mem hvl))
    have hgd : l.getD v 0 = l[v]'hvl := by rw [List.getD_eq_getElem?_getD, List.getElem?_eq_getElem hvl]; rfl
    have HCL := Lib.hid (show clash l set v = (l[v]'hvl &&& set != 0) from by unfold clash; rw [hbit, hgd]; rfl)
    obtain ⟨x, hx⟩ : ∃ x, l[v]'hvl = x := ⟨_, rfl⟩
    rw [hx] at d0 HXL HCL
    have e1 := u32_and_nat x set HXL.out hset
    obtain ⟨y, hy⟩ : ∃ y, x &&& set = y := ⟨_, rfl⟩
    rw [hy] at e1 HCL
    have c2 : W.cell? ⟨w.heap.size, 0, none⟩ = some (.slice (some ad) l.length c) := h2.cell 0
    have c3 : W.cell? ⟨w.heap.size + 1, 0, none⟩ = some (.int .u32 (set : Int)) := h3.cell 0
    have c4 : W.cell? ⟨w.heap.size + 1 + 1, 0, none⟩ = some (.bool false) := h4.cell 0
    have f4 := h4.frozen 0
    have v0 : (0 : Int) ≤ (v : Int) := by omega
    have v1 : (v : Int) < (l.length : Int) := by omega
    have H1 := Lib.hid (show ∀ z, z < v → clash l set z = false from fun z hz => by
      rcases Nat.lt_or_ge z t with h | h
      · exact h1 z h
      · unfold clash; rw [hgap z h hz]; rfl)
    have H2 := Lib.hid h2
    have H3 := Lib.hid h3
    have H4 := Lib.hid h4
    have H5 := Lib.hid h5
    have H6 := Lib.hid h6
    clear hx hy hgd h1 h2 h3 h4 h5 h6 hgap
    have hmx : Tryz.prog.follows .mixedOrders = true := by kernel_rfl
    by_cases hy0 : y = 0
    · subst hy0
      gi_wp2
      gi_region_with_o (fail)
      all_goals gi_wp2
      all_goals (try go_bits)
      all_goals exact ⟨⟨fun z hz => by
        rcases (by omega : z < v ∨ z = v) with h | rfl
        · exact H1.out z h
        · exact HCL.out, H2.out, H3.out, H4.out, H5.out.drew, H6.out⟩, rfl, fun _ _ _ => rfl⟩
    · have e2 : ((y : Int) != 0) = true := by simp; omega
      gi_wp2
      gi_region_with_o (fail)
      all_goals gi_wp2
      all_goals (try go_bits)
      all_goals exact ⟨⟨indep_no (by assumption) (by rw [HCL.out]; simp [hy0]), H4.out.set_ 0 _, (H5.out.setCell (p := ⟨w.heap.size + 1 + 1, 0, none⟩) (show w.heap.size ≤ w.heap.size + 1 + 1 from by omega) _).drew, by simpa [World.setCell] using H6.out⟩, Below.heap_setCell W ⟨w.heap.size + 1 + 1, 0, none⟩ _ _ (show w.heap.size + 1 + 1 + 1 ≠ w.heap.size + 1 + 1 from by omega), fun k hk _ => Below.heap_setCell W ⟨w.heap.size + 1 + 1, 0, none⟩ _ k (show k ≠ w.heap.size + 1 + 1 from by omega)⟩
  case done =>
    rintro D t W hno ⟨h1, h2, h3, h4, h5, h6⟩ hK hD
    have c4 : W.cell? ⟨w.heap.size + 1 + 1, 0, none⟩ = some (.bool false) := h4.cell 0
    have f4 := h4.frozen 0
    have H1 := Lib.hid (show indep l set = true from indep_yes fun v hv => by
      rcases Nat.lt_or_ge v t with h | h
      · exact h1 v h
      · unfold clash; rw [hno v h]; rfl)
    have hK' : (W.setCell ⟨w.heap.size + 1 + 1, 0, none⟩ (.bool true)).heap[D]? = some (.deferred (some [])) := (Below.heap_setCell W ⟨w.heap.size + 1 + 1, 0, none⟩ _ D (show D ≠ w.heap.size + 1 + 1 from by omega)).trans hK
    have HB4 := Lib.hid (show Blk ((W.setCell ⟨w.heap.size + 1 + 1, 0, none⟩ (.bool true)).putObj D (.deferred none)) (w.heap.size + 1 + 1) 4 #[.bool true] from (World.putObj_heap_other (show w.heap.size + 1 + 1 ≠ D from by omega)).trans (h4.set_ 0 _))
    have HB5 := Lib.hid (h5.setCell (p := ⟨w.heap.size + 1 + 1, 0, none⟩) (show w.heap.size ≤ w.heap.size + 1 + 1 from by omega) (.bool true))
    clear h1 h2 h3 h4 h5
    gi_wp2
    refine ⟨by simp, .inl ⟨_, _, rfl, run_takeDeferred hK', ?_⟩⟩
    have hc : ((W.setCell ⟨w.heap.size + 1 + 1, 0, none⟩ (.bool true)).putObj D (.deferred none)).cell? ⟨w.heap.size + 1 + 1, 0, none⟩ = some (.bool true) := HB4.out.cell 0
    refine ⟨.bool true, ?_, by rw [H1.out], ?_⟩
    · simp [results, Tryz.f108, go_sem, hc]
    · exact belowK_b (w := w) (Nat.le_refl _) _ D _ _ (by omega) hK' rfl rfl |> HB5.out.trans
  case stop =>
    rintro D W ⟨h1, h4, h5, h6⟩ hK hD
    have hc : (W.putObj D (.deferred none)).cell? ⟨w.heap.size + 1 + 1, 0, none⟩ = some (.bool false) := (World.cell?_of_block (World.putObj_heap_other (show w.heap.size + 1 + 1 ≠ D from by omega))).trans (h4.cell 0)
    gi_wp2
    refine ⟨by simp, .inl ⟨_, _, rfl, run_takeDeferred hK, ?_⟩⟩
    refine ⟨.bool false, ?_, by rw [h1], ?_⟩
    · simp [results, Tryz.f108, go_sem, hc]
    · exact belowK_b (w := w) (Nat.le_refl _) _ D _ _ (by omega) hK rfl rfl |> h5.trans
theorem indep_p (l : List Nat) (set : Nat) (hset : set < 4294967296) (hl : ∀ x ∈ l, x < 4294967296) (hin : ∀ i, set.testBit i = true → i < l.length) (hln : l.length ≤ 1000) (A : Option Addr) (c : Nat) (w : World) (ht : TzAt w) (hn : U32At w w.heap.size (.slice A l.length c) l) :
    Calls Tryz.prog 108 #[.slice A l.length c, .int .u32 (set : Int)] w fun e w' => e = .returned (.bool (indep l set)) ∧ Below w.heap.size w w' :=
  callsIn_wide.1 (indep_in l set hset hl hin hln A c w ht hn)
end Go.Proofs.YtdfklagiafmoiaaGreatDoor

/- A step keeps what a configuration is; a node looks at itself and its neighbours alone. -/
namespace Go.Proofs.YtdfklagiafmoiaaGreatDoor

theorem lohi_le {p : Pg} {g : Gr} (hf : FitOk p g) {v j : Nat} (hj : j < p.vars.length) : (lh p g v j).1 ≤ (lh p g v j).2 ∧ ((kindsOf p).getD j 0 = 3 → (lh p g v j).1 = -1) := by
  have hx : p.vars.getD j ⟨⟨#[]⟩, 0, 0, 0, 0, 0⟩ = p.vars[j] := by rw [List.getD_eq_getElem?_getD, List.getElem?_eq_getElem hj]; rfl
  have hkd : (kindsOf p).getD j 0 = p.vars[j].kind := by unfold kindsOf; rw [List.getD_eq_getElem?_getD, List.getElem?_map, List.getElem?_eq_getElem hj]; rfl
  rw [hkd]
  unfold lh
  rw [hx]
  rcases numB_kind (hf.pg.nums j hj hj) with hk | hk | hk
  · obtain ⟨_, h1⟩ := hf.f j hj
    have h2 := (h1 hk).1
    have h3 := lohi_int (n := g.ports.length) (gr := gmax g.ids) (d := (g.ports.getD v []).length) hk
    rw [h3]
    exact ⟨by omega, fun h => by omega⟩
  · unfold lohi; rw [if_pos hk]; exact ⟨by decide, fun h => by omega⟩
  · unfold lohi; rw [if_neg (by omega), if_pos hk]; exact ⟨by dsimp only; omega, fun _ => rfl⟩
theorem bring_in {kd : Int} {r : Int × Int} {z : Int} (h : r.1 ≤ r.2) (h3 : kd = 3 → r.1 = -1) : r.1 ≤ bringZ kd r z ∧ bringZ kd r z ≤ r.2 := by
  unfold bringZ
  split
  · assumption
  · split
    · rename_i e; have := h3 e; omega
    · split <;> omega
/-- a row of a configuration -/
def RowIn (p : Pg) (g : Gr) (v : Nat) (s : List Int) : Prop := s.length = p.vars.length ∧ CvTo p g v s s.length
theorem setX_in {p : Pg} {g : Gr} {c : Cfg} {v : Nat} {s : List Int} {x : St} (hf : FitOk p g) (hs : RowIn p g v s) (_hx : 0 ≤ x.1 ∧ x.1 < p.vars.length) : RowIn p g v (setX p g c v s x) := by
  obtain ⟨h1, h2⟩ := hs
  refine ⟨by rw [setX_len]; exact h1, fun j hj hj2 => ?_⟩
  have hj' : j < s.length := by rwa [setX_len] at hj
  simp only [setX, List.getElem_set]
  split
  · rename_i e
    subst e
    obtain ⟨a, b⟩ := lohi_le hf (v := v) (j := x.1.toNat) (by omega)
    exact bring_in a b
  · exact h2 j hj' hj'
theorem fold_in {p : Pg} {g : Gr} {c : Cfg} {v : Nat} (hf : FitOk p g) : ∀ (l : List St) (s : List Int), RowIn p g v s → (∀ x ∈ l, 0 ≤ x.1 ∧ x.1 < p.vars.length) → RowIn p g v (l.foldl (setX p g c v) s)
  | [], s, hs, _ => hs
  | x :: l, s, hs, hl => fold_in hf l _ (setX_in hf hs (hl x (by simp))) (fun y hy => hl y (by simp [hy]))
theorem conf_row {p : Pg} {g : Gr} {c : Cfg} (hc : CfOk p g c) {v : Nat} (hv : v < c.length) : RowIn p g v (c.getD v []) := by
  obtain ⟨_, h1, h2⟩ := hc.at_ v hv
  rw [List.getD_eq_getElem?_getD, List.getElem?_eq_getElem hv]
  exact ⟨h1, h2⟩
theorem movC_in {p : Pg} {g : Gr} {c : Cfg} (hc : CfOk p g c) {v : Nat} (hv : v < c.length) : RowIn p g v (movC p g c v) := by
  unfold movC
  split
  · rename_i r hr
    obtain ⟨hk, rfl⟩ := List.getElem?_eq_some_iff.1 hr
    refine fold_in hc.fit _ _ (conf_row hc hv) (fun x hx => ?_)
    obtain ⟨j, hj, rfl⟩ := List.getElem_of_mem hx
    exact ((hc.fit.pg.forms _ hk hk).sets j hj hj).1
  · exact conf_row hc hv
theorem stepC_ok {p : Pg} {g : Gr} {c : Cfg} (hc : CfOk p g c) (set : Nat) : CfOk p g (stepC p g c set) := by
  have hl : (stepC p g c set).length = c.length := stepK_len p g c set _
  refine ⟨hc.fit, by rw [hl]; exact hc.len, fun v hv => ⟨hv, ?_⟩⟩
  have e : (stepC p g c set)[v] = if v < c.length ∧ set.testBit v = true then movC p g c v else c.getD v [] := stepK_at p g c set hv
  rw [hl] at hv
  rw [e]
  split
  · exact movC_in hc hv
  · exact conf_row hc hv
theorem findIdx_congr' {α : Type} {f f' : α → Bool} : ∀ (l : List α), (∀ x ∈ l, f x = f' x) → l.findIdx f = l.findIdx f'
  | [], _ => rfl
  | x :: l, h => by
    rw [List.findIdx_cons, List.findIdx_cons, h x (by simp), findIdx_congr' l (fun y hy => h y (by simp [hy]))]
section
variable {p : Pg} {g : Gr} {c d : Cfg} {v : Nat} (hp : PgOk p) (h : Near g c d v)
include hp h
theorem ruleN_near : ruleN p g c v = ruleN p g d v := by
  unfold ruleN
  refine findIdx_congr' _ (fun r hr => ?_)
  obtain ⟨i, hi, rfl⟩ := List.getElem_of_mem hr
  rw [evL_near h (hp.forms i hi hi).guard (hp.types i hi hi).guard (by decide)]
theorem enF_near : enF p g c v = enF p g d v := by
  unfold enF ruleZ
  rw [ruleN_near hp h]
theorem kinds_ne {j : Nat} (hj : j < p.vars.length) : (kindsOf p).getD j 0 ≠ 0 := by
  have _h := h
  unfold kindsOf; rw [List.getD_eq_getElem?_getD, List.getElem?_map, List.getElem?_eq_getElem hj]
  have := numB_kind (hp.nums j hj hj)
  simp only [Option.map_some, Option.getD_some]
  omega
theorem movC_near : movC p g c v = movC p g d v := by
  unfold movC
  rw [← ruleN_near hp h, h.1]
  split
  · rename_i r hr
    obtain ⟨hk, rfl⟩ := List.getElem?_eq_some_iff.1 hr
    have key : ∀ (l : List St) (s : List Int), (∀ x ∈ l, evL g c v x.2 = evL g d v x.2) → l.foldl (setX p g c v) s = l.foldl (setX p g d v) s := by
      intro l
      induction l with
      | nil => intro s _; rfl
      | cons x l ih =>
        intro s hl
        rw [List.foldl_cons, List.foldl_cons, ih _ (fun y hy => hl y (by simp [hy]))]
        congr 1
        unfold setX
        rw [hl x (by simp)]
    unfold movS
    rw [h.1]
    refine key _ _ (fun x hx => ?_)
    obtain ⟨j, hj, rfl⟩ := List.getElem_of_mem hx
    obtain ⟨hr1, hr2, -⟩ := (hp.forms _ hk hk).sets j hj hj
    exact evL_near h hr2 ((hp.types _ hk hk).sets j hj hj) (kinds_ne hp h (by omega))
  · rfl
end
end Go.Proofs.YtdfklagiafmoiaaGreatDoor

/- Plain: a run; a set of nodes that are not neighbours moves node by node. -/
namespace Go.Proofs.YtdfklagiafmoiaaGreatDoor

/-- the last configuration of a schedule -/
noncomputable def runC (p : Pg) (g : Gr) (c : Cfg) (l : List Nat) : Cfg := l.foldl (stepC p g) c
def lowS (n : Nat) : Nat := if n = 0 then 0 else 2 ^ tz n
def greedy (l : List Nat) (s : Nat) : Nat → Nat
  | 0 => 0
  | k + 1 => if s.testBit k = true ∧ l.getD k 0 &&& greedy l s k = 0 then greedy l s k ||| 2 ^ k else greedy l s k
def resZ (g : Gr) (kind : Int) (en wish : Nat) : Nat :=
  let w1 := wish &&& en
  let w2 := if w1 = 0 then lowS en else w1
  if kind = 1 then lowS w2 else if kind = 2 then greedy (nets g) w2 32 else if kind = 4 then en else w2
def permB (g : Gr) (kind : Int) (en ch : Nat) : Bool :=
  ch != 0 && ch &&& (4294967295 - en) == 0 && (if kind = 1 then drop1 ch == 0 else if kind = 2 then indep (nets g) ch else if kind = 4 then ch == en else true)
/-- a schedule that a daemon permits -/
def Good (p : Pg) (g : Gr) (kind : Int) : Cfg → List Nat → Prop
  | _, [] => True
  | c, s :: l => permB g kind (enS p g c) s = true ∧ Good p g kind (stepC p g c s) l
/-- what is chosen for wishes -/
noncomputable def folL (p : Pg) (g : Gr) (kind : Int) : Cfg → List Nat → List Nat
  | _, [] => []
  | c, w :: l => if enS p g c = 0 then [] else resZ g kind (enS p g c) w :: folL p g kind (stepC p g c (resZ g kind (enS p g c) w)) l
theorem enS_lt (p : Pg) (g : Gr) (c : Cfg) (hg : GrOk g) : enS p g c < 16777216 := by
  have h := setOf_lt (enF p g c) g.ports.length
  have := pow32 hg.hi
  unfold enS; omega
theorem enS_bit (p : Pg) (g : Gr) (c : Cfg) (i : Nat) : (enS p g c).testBit i = (decide (i < g.ports.length) && enF p g c i) := setOf_bit _ _ _
theorem bit_lt {n k i : Nat} (h : n < 2 ^ k) (hb : n.testBit i = true) : i < k := by
  rcases Nat.lt_or_ge i k with h' | h'
  · exact h'
  · rw [Nat.testBit_lt_two_pow (Nat.lt_of_lt_of_le h (Nat.pow_le_pow_right (n := 2) (by decide) h'))] at hb; cases hb
theorem sub_bit {a b : Nat} (ha : a < 4294967296) (hb : b < 4294967296) : a &&& (4294967295 - b) = 0 ↔ ∀ i, a.testBit i = true → b.testBit i = true := by
  constructor
  · intro h i hi
    have h1 : (a &&& (4294967295 - b)).testBit i = false := by rw [h]; exact Nat.zero_testBit i
    have h32 : i < 32 := bit_lt (k := 32) ha hi
    rw [Nat.testBit_and, show 4294967295 - b = 2 ^ 32 - (b + 1) by omega, Nat.testBit_two_pow_sub_succ (by omega), hi] at h1
    simpa [h32] using h1
  · intro h
    apply Nat.eq_of_testBit_eq
    intro i
    rw [Nat.zero_testBit, Nat.testBit_and, show 4294967295 - b = 2 ^ 32 - (b + 1) by omega, Nat.testBit_two_pow_sub_succ (by omega)]
    cases hi : a.testBit i
    · rfl
    · rw [h i hi]; simp
theorem and_zero {a b : Nat} : a &&& b = 0 ↔ ∀ i, a.testBit i = true → b.testBit i = false := by
  constructor
  · intro h i hi
    have h1 : (a &&& b).testBit i = false := by rw [h]; exact Nat.zero_testBit i
    rwa [Nat.testBit_and, hi, Bool.true_and] at h1
  · intro h
    apply Nat.eq_of_testBit_eq
    intro i
    rw [Nat.zero_testBit, Nat.testBit_and]
    cases hi : a.testBit i
    · rfl
    · rw [h i hi]; rfl
theorem nets_at {g : Gr} {v : Nat} (hv : v < g.ports.length) : (nets g).getD v 0 = nbr g v := by
  unfold nets; rw [List.getD_eq_getElem?_getD, List.getElem?_map, List.getElem?_range hv]; rfl
theorem nbr_bit {g : Gr} (v u : Nat) : (nbr g v).testBit u = true ↔ ∃ j, ∃ h : j < (g.ports.getD v []).length, ((g.ports.getD v [])[j]'h).1.toNat = u := by
  unfold nbr
  rw [nbrL_bit, List.any_eq_true]
  constructor
  · rintro ⟨t, ht, e⟩
    obtain ⟨j, hj, rfl⟩ := List.getElem_of_mem ht
    exact ⟨j, hj, by simpa using e⟩
  · rintro ⟨j, hj, e⟩
    exact ⟨_, List.getElem_mem hj, by simpa using e⟩
theorem ports_at {g : Gr} {v : Nat} (hv : v < g.ports.length) : g.ports.getD v [] = g.ports[v] := by rw [List.getD_eq_getElem?_getD, List.getElem?_eq_getElem hv]; rfl
theorem nbr_sym {g : Gr} (hg : GrOk g) {v u : Nat} (hv : v < g.ports.length) (h : (nbr g v).testBit u = true) : u < g.ports.length ∧ u ≠ v ∧ (nbr g u).testBit v = true := by
  obtain ⟨j, hj, e⟩ := (nbr_bit v u).1 h
  simp only [ports_at hv] at hj e
  obtain ⟨_, hi, u', k, hu', hk, e1, e2, -⟩ := hg.sym v j hv hj
  obtain ⟨_, _, _, _, hlk, _⟩ := hg.ids v hv
  have h3 := (hlk j hj hj).2.1
  rw [e1] at e
  have e' : u' = u := by simpa using e
  subst e'
  refine ⟨hu', fun h4 => h3 (by rw [e1, h4]), (nbr_bit u' v).2 ⟨k, by rw [ports_at hu']; exact hk, ?_⟩⟩
  have := portTo_inv hk e2
  simp only [ports_at hu']
  rw [this]; simp
/-- agreement at a node and its neighbours -/
theorem near_of {g : Gr} (_hg : GrOk g) {c d : Cfg} {v : Nat} (_hv : v < g.ports.length) (h0 : c.getD v [] = d.getD v []) (h : ∀ u, (nbr g v).testBit u = true → c.getD u [] = d.getD u []) : Near g c d v := by
  refine ⟨h0, fun j hj => h _ ((nbr_bit v _).2 ⟨j, hj, ?_⟩)⟩
  have key : ∀ (l : List Tm) (h : j < l.length), l[j].1.toNat = (l.getD ((j : Int)).toNat (0, 0)).1.toNat := fun l h => by
    rw [Int.toNat_natCast, List.getD_eq_getElem?_getD, List.getElem?_eq_getElem h]; rfl
  exact key _ hj
section
variable {p : Pg} {g : Gr} {c : Cfg} (hc : CfOk p g c) {S : Nat} (hS : indep (nets g) S = true) (hin : ∀ i, S.testBit i = true → i < g.ports.length)
theorem stepK_get (k v : Nat) : (stepK p g c S k).getD v [] = if v < c.length ∧ v < k ∧ S.testBit v = true then movC p g c v else c.getD v [] := by
  by_cases hv : v < c.length
  · rw [List.getD_eq_getElem?_getD, List.getElem?_eq_getElem (by rw [stepK_len]; exact hv), Option.getD_some, stepK_at]
    by_cases h : v < k ∧ S.testBit v = true
    · rw [if_pos h, if_pos ⟨hv, h⟩]
    · rw [if_neg h, if_neg (fun h2 => h h2.2)]
  · rw [if_neg (fun h => hv h.1), List.getD_eq_getElem?_getD, List.getElem?_eq_none (by rw [stepK_len]; omega), List.getD_eq_getElem?_getD, List.getElem?_eq_none (by omega)]
include hc hS hin
theorem indep_nbr {v u : Nat} (hv : S.testBit v = true) (hu : (nbr g v).testBit u = true) : S.testBit u = false := by
  have hvl := hin v hv
  have hg := hc.fit.gr.hi
  unfold indep at hS
  rw [List.all_eq_true] at hS
  have h1 := hS v (List.mem_range.2 (by omega))
  unfold clash at h1
  rw [hv, nets_at hvl] at h1
  simp only [Bool.true_and, Bool.not_eq_true', bne_eq_false_iff_eq] at h1
  exact and_zero.1 h1 u hu
theorem stepK_near {v : Nat} (hv : S.testBit v = true) (k : Nat) (hk : k ≤ v) : Near g c (stepK p g c S k) v := by
  refine near_of hc.fit.gr (hin v hv) ?_ (fun u hu => ?_)
  · rw [stepK_get, if_neg (by omega)]
  · rw [stepK_get, if_neg (fun h => by have := indep_nbr hc hS hin hv hu; rw [this] at h; cases h.2.2)]
theorem single_step {v : Nat} (hv : S.testBit v = true) : stepC p g (stepK p g c S v) (2 ^ v) = stepK p g c S (v + 1) := by
  have hl : (stepC p g (stepK p g c S v) (2 ^ v)).length = c.length := by rw [show (stepC p g (stepK p g c S v) (2 ^ v)).length = (stepK p g c S v).length from stepK_len _ _ _ _ _, stepK_len]
  have hvl := hin v hv
  have hlc := hc.len
  refine List.ext_getElem (by rw [hl, stepK_len]) fun u h1 h2 => ?_
  have e1 : (stepC p g (stepK p g c S v) (2 ^ v))[u] = if u < (stepK p g c S v).length ∧ (2 ^ v).testBit u = true then movC p g (stepK p g c S v) u else (stepK p g c S v).getD u [] := stepK_at p g _ _ h1
  rw [e1, stepK_at, stepK_len, stepK_get]
  have hu : u < c.length := by rw [← hl]; exact h1
  by_cases e : u = v
  · subst e
    rw [if_pos ⟨hu, by simp⟩, if_pos ⟨Nat.lt_succ_self _, hv⟩]
    exact (movC_near hc.fit.pg (stepK_near hc hS hin hv u (Nat.le_refl _))).symm
  · have hne : (2 ^ v).testBit u = false := by rw [Nat.testBit_two_pow]; simpa using fun h => e h.symm
    rw [if_neg (fun h => by rw [hne] at h; cases h.2)]
    by_cases h3 : u < v ∧ S.testBit u = true
    · rw [if_pos ⟨hu, h3⟩, if_pos ⟨by omega, h3.2⟩]
    · rw [if_neg (fun h => h3 h.2), if_neg (fun h => h3 ⟨by omega, h.2⟩)]
end
/-- the elements of a set below k, ascending, each by itself -/
def singles (S : Nat) : Nat → List Nat
  | 0 => []
  | k + 1 => if S.testBit k = true then singles S k ++ [2 ^ k] else singles S k
theorem Good.app {p : Pg} {g : Gr} {kind : Int} : ∀ (l : List Nat) {c : Cfg} {m : List Nat}, Good p g kind c l → Good p g kind (runC p g c l) m → Good p g kind c (l ++ m)
  | [], _, _, _, h => h
  | _s :: l, _c, _m, h1, h2 => ⟨h1.1, Good.app l h1.2 h2⟩
theorem runC_app {p : Pg} {g : Gr} {c : Cfg} (l m : List Nat) : runC p g c (l ++ m) = runC p g (runC p g c l) m := by unfold runC; rw [List.foldl_append]
theorem perm_single {p : Pg} {g : Gr} (hg : GrOk g) {c : Cfg} {v : Nat} (hv : v < g.ports.length) (h : enF p g c v = true) : permB g 1 (enS p g c) (2 ^ v) = true := by
  have hn := hg.hi
  have hp : 2 ^ v < 4294967296 := Nat.lt_of_lt_of_le (Nat.pow_lt_pow_right (by decide) (show v < 32 by omega)) (by decide)
  have h0 : 0 < 2 ^ v := Nat.two_pow_pos v
  have he := enS_lt p g c hg
  unfold permB
  rw [if_pos rfl, Bool.and_eq_true, Bool.and_eq_true]
  refine ⟨⟨by simp, ?_⟩, ?_⟩
  · rw [beq_iff_eq, sub_bit hp (by omega)]
    intro i hi
    rw [Nat.testBit_two_pow] at hi
    have : v = i := by simpa using hi
    subst this
    rw [enS_bit, h]; simpa using hv
  · rw [beq_iff_eq]
    apply Nat.eq_of_testBit_eq
    intro i
    rw [drop1_bit h0 hp, Nat.zero_testBit, Nat.testBit_two_pow]
    have hl := low_of h0 hp
    have htz : tz (2 ^ v) = v := by
      have := hl.at_
      rw [Nat.testBit_two_pow] at this
      exact (by simpa using this : v = tz (2 ^ v)).symm
    rw [htz]
    by_cases e : v = i
    · subst e; simp
    · simp [e]
section
variable {p : Pg} {g : Gr} {c : Cfg} (hc : CfOk p g c) {S : Nat} {kind : Int} (hS : permB g kind (enS p g c) S = true) (h32 : S < 4294967296)
include hc hS h32
theorem perm_in : S ≠ 0 ∧ S < 16777216 ∧ ∀ i, S.testBit i = true → i < g.ports.length ∧ enF p g c i = true := by
  unfold permB at hS
  simp only [Bool.and_eq_true, bne_iff_ne, beq_iff_eq] at hS
  have he := enS_lt p g c hc.fit.gr
  have h1 := (sub_bit h32 (by omega)).1 hS.1.2
  have h2 : ∀ i, S.testBit i = true → i < g.ports.length ∧ enF p g c i = true := fun i hi => by
    have := h1 i hi
    rw [enS_bit] at this
    simpa using this
  have hn := hc.fit.gr.hi
  refine ⟨hS.1.1, Nat.lt_pow_two_of_testBit (n := 24) S fun i hi => ?_, h2⟩
  cases hb : S.testBit i
  · rfl
  · have := (h2 i hb).1; omega
end
section
variable {p : Pg} {g : Gr} {c : Cfg} (hc : CfOk p g c) {S : Nat} (hS : permB g 2 (enS p g c) S = true) (h32 : S < 4294967296)
include hc hS h32
theorem singles_run (k : Nat) : Good p g 1 c (singles S k) ∧ runC p g c (singles S k) = stepK p g c S k := by
  obtain ⟨-, h2, h3⟩ := perm_in hc hS h32
  have h1 : indep (nets g) S = true := by
    unfold permB at hS
    rw [if_neg (by decide), if_pos rfl, Bool.and_eq_true] at hS
    exact hS.2
  induction k with
  | zero => exact ⟨trivial, (stepK_zero p g c S).symm⟩
  | succ k ih =>
    unfold singles
    by_cases hb : S.testBit k = true
    · rw [if_pos hb]
      refine ⟨Good.app _ ih.1 ⟨?_, trivial⟩, ?_⟩
      · rw [ih.2]
        have := stepK_near hc h1 (fun i hi => (h3 i hi).1) hb k (Nat.le_refl _)
        exact perm_single hc.fit.gr (h3 k hb).1 (by rw [← enF_near hc.fit.pg this]; exact (h3 k hb).2)
      · rw [runC_app, ih.2]
        exact single_step hc h1 (fun i hi => (h3 i hi).1) hb
    · rw [if_neg hb]
      exact ⟨ih.1, by rw [ih.2]; exact stepK_no p g c S (by simpa using hb)⟩
end
end Go.Proofs.YtdfklagiafmoiaaGreatDoor

/- Plain: what a daemon answers to a wish is permitted; a locally central run node by node. -/
namespace Go.Proofs.YtdfklagiafmoiaaGreatDoor

theorem lowS_bit {n : Nat} (h0 : n ≠ 0) (_h : n < 4294967296) (i : Nat) : (lowS n).testBit i = decide (i = tz n) := by
  unfold lowS; rw [if_neg h0, Nat.testBit_two_pow]
  congr 1
  exact propext ⟨Eq.symm, Eq.symm⟩
theorem lowS_ne {n : Nat} (h0 : n ≠ 0) : lowS n ≠ 0 := by
  unfold lowS; rw [if_neg h0]
  have := Nat.two_pow_pos (tz n)
  omega
theorem lowS_lt {n : Nat} (h0 : n ≠ 0) (h : n < 4294967296) : lowS n < 4294967296 := by
  unfold lowS; rw [if_neg h0]
  exact Nat.lt_of_lt_of_le (Nat.pow_lt_pow_right (by decide) (low_of (Nat.pos_of_ne_zero h0) h).lt) (by decide)
theorem tz_pow {k : Nat} (h : k < 32) : tz (2 ^ k) = k := by
  have hl := low_of (Nat.two_pow_pos k) (Nat.lt_of_lt_of_le (Nat.pow_lt_pow_right (by decide) h) (by decide : 2 ^ 32 ≤ 4294967296))
  have := hl.at_
  rw [Nat.testBit_two_pow] at this
  exact (by simpa using this : k = tz (2 ^ k)).symm
theorem drop1_pow {k : Nat} (h : k < 32) : drop1 (2 ^ k) = 0 := by
  apply Nat.eq_of_testBit_eq
  intro i
  rw [drop1_bit (Nat.two_pow_pos k) (Nat.lt_of_lt_of_le (Nat.pow_lt_pow_right (by decide) h) (by decide : 2 ^ 32 ≤ 4294967296)), tz_pow h, Nat.zero_testBit, Nat.testBit_two_pow]
  by_cases e : k = i
  · subst e; simp
  · simp [e]
theorem greedy_in (l : List Nat) (s : Nat) : ∀ k i, (greedy l s k).testBit i = true → s.testBit i = true ∧ i < k
  | 0, i, h => by unfold greedy at h; rw [Nat.zero_testBit] at h; cases h
  | k + 1, i, h => by
    unfold greedy at h
    split at h
    · rename_i hc
      rw [Nat.testBit_or, Nat.testBit_two_pow, Bool.or_eq_true] at h
      rcases h with h | h
      · have := greedy_in l s k i h; exact ⟨this.1, by omega⟩
      · have : k = i := by simpa using h
        subst this; exact ⟨hc.1, Nat.lt_succ_self _⟩
    · have := greedy_in l s k i h; exact ⟨this.1, by omega⟩
theorem greedy_mono (l : List Nat) (s : Nat) : ∀ d k i, (greedy l s k).testBit i = true → (greedy l s (k + d)).testBit i = true
  | 0, _, _, h => h
  | d + 1, k, i, h => by
    have := greedy_mono l s d k i h
    rw [show k + (d + 1) = (k + d) + 1 from rfl]
    unfold greedy
    split
    · rw [Nat.testBit_or, this]; rfl
    · exact this
theorem greedy_low (l : List Nat) {s : Nat} (h0 : s ≠ 0) (h : s < 4294967296) : (greedy l s 32).testBit (tz s) = true := by
  have hl := low_of (Nat.pos_of_ne_zero h0) h
  have hz : greedy l s (tz s) = 0 := by
    apply Nat.eq_of_testBit_eq
    intro i
    rw [Nat.zero_testBit]
    cases hb : (greedy l s (tz s)).testBit i
    · rfl
    · obtain ⟨h1, h2⟩ := greedy_in l s _ i hb
      rw [hl.below i h2] at h1; cases h1
  have h1 : (greedy l s (tz s + 1)).testBit (tz s) = true := by
    unfold greedy
    rw [hz, if_pos ⟨hl.at_, Nat.and_zero _⟩, Nat.testBit_or, Nat.testBit_two_pow]; simp
  have := greedy_mono l s (32 - (tz s + 1)) _ _ h1
  rwa [show tz s + 1 + (32 - (tz s + 1)) = 32 from by have := hl.lt; omega] at this
theorem greedy_apart {g : Gr} (hg : GrOk g) (s : Nat) (hs : ∀ i, s.testBit i = true → i < g.ports.length) : ∀ k v u, (greedy (nets g) s k).testBit v = true → (greedy (nets g) s k).testBit u = true → (nbr g v).testBit u = false
  | 0, v, u, h, _ => by unfold greedy at h; rw [Nat.zero_testBit] at h; cases h
  | k + 1, v, u, hv, hu => by
    have ih := greedy_apart hg s hs k
    unfold greedy at hv hu
    split at hv
    · rename_i hc
      rw [if_pos hc] at hu
      rw [Nat.testBit_or, Nat.testBit_two_pow, Bool.or_eq_true] at hv hu
      have hk := hs k hc.1
      rw [nets_at hk] at hc
      have hno := hc.2
      have key : ∀ u, (greedy (nets g) s k).testBit u = true → (nbr g k).testBit u = false := fun u hu => by
        have h1 : (nbr g k &&& greedy (nets g) s k).testBit u = false := by rw [hno]; exact Nat.zero_testBit u
        rw [Nat.testBit_and, hu, Bool.and_true] at h1; exact h1
      have hkk : (nbr g k).testBit k = false := by
        cases h1 : (nbr g k).testBit k
        · rfl
        · exact absurd rfl (nbr_sym hg hk h1).2.1
      have hd : ∀ j, decide (k = j) = true → j = k := fun j h => (by simpa using h : k = j).symm
      rcases hv with hv | hv <;> rcases hu with hu | hu
      · exact ih v u hv hu
      · obtain rfl := hd _ hu
        cases h1 : (nbr g v).testBit u
        · rfl
        · have h2 := (nbr_sym hg (hs v (greedy_in _ _ _ _ hv).1) h1).2.2
          rw [key v hv] at h2; cases h2
      · obtain rfl := hd _ hv
        exact key u hu
      · obtain rfl := hd _ hv
        obtain rfl := hd _ hu
        exact hkk
    · rename_i hc
      rw [if_neg hc] at hu
      exact ih v u hv hu
theorem perm_of {g : Gr} {kind : Int} {en ch : Nat} (h0 : ch ≠ 0) (h1 : ch < 4294967296) (he : en < 4294967296) (h2 : ∀ i, ch.testBit i = true → en.testBit i = true)
    (h3 : (if kind = 1 then drop1 ch == 0 else if kind = 2 then indep (nets g) ch else if kind = 4 then ch == en else true) = true) : permB g kind en ch = true := by
  unfold permB
  rw [h3, Bool.and_true, Bool.and_eq_true]
  exact ⟨by simpa using h0, by rw [beq_iff_eq]; exact (sub_bit h1 he).2 h2⟩
theorem ne_bit {a i : Nat} (h : a.testBit i = true) : a ≠ 0 := fun e => by rw [e, Nat.zero_testBit] at h; cases h
theorem lt_bits {a : Nat} (h : ∀ i, a.testBit i = true → i < 32) : a < 4294967296 :=
  Nat.lt_pow_two_of_testBit (n := 32) a fun i hi => by
    cases hb : a.testBit i
    · rfl
    · have := h i hb; omega
theorem perm_res {g : Gr} (hg : GrOk g) (kind : Int) {en : Nat} (wish : Nat) (h0 : en ≠ 0) (he : ∀ i, en.testBit i = true → i < g.ports.length) :
    permB g kind en (resZ g kind en wish) = true ∧ resZ g kind en wish < 4294967296 := by
  have hn := hg.hi
  have hen : en < 4294967296 := lt_bits fun i hi => by have := he i hi; omega
  unfold resZ
  obtain ⟨w2, hw2⟩ : ∃ w2, (if wish &&& en = 0 then lowS en else wish &&& en) = w2 := ⟨_, rfl⟩
  have hw : w2 ≠ 0 ∧ ∀ i, w2.testBit i = true → en.testBit i = true := by
    rw [← hw2]
    split
    · refine ⟨lowS_ne h0, fun i hi => ?_⟩
      rw [lowS_bit h0 hen] at hi
      have : i = tz en := by simpa using hi
      subst this
      exact (low_of (Nat.pos_of_ne_zero h0) hen).at_
    · rename_i h; exact ⟨h, fun i hi => by rw [Nat.testBit_and] at hi; simp at hi; exact hi.2⟩
  dsimp only
  rw [hw2]
  obtain ⟨w0, w1⟩ := hw
  have wlt : w2 < 4294967296 := lt_bits fun i hi => by have := he i (w1 i hi); omega
  split
  · rename_i hk
    have h2 : ∀ i, (lowS w2).testBit i = true → en.testBit i = true := fun i hi => by
      rw [lowS_bit w0 wlt] at hi
      have : i = tz w2 := by simpa using hi
      subst this
      exact w1 _ (low_of (Nat.pos_of_ne_zero w0) wlt).at_
    refine ⟨perm_of (lowS_ne w0) (lowS_lt w0 wlt) hen h2 ?_, lowS_lt w0 wlt⟩
    rw [if_pos hk]
    unfold lowS
    rw [if_neg w0, drop1_pow (low_of (Nat.pos_of_ne_zero w0) wlt).lt]; rfl
  · split
    · rename_i hk1 hk
      have h2 : ∀ i, (greedy (nets g) w2 32).testBit i = true → en.testBit i = true := fun i hi => w1 i (greedy_in _ _ _ _ hi).1
      have hlt : greedy (nets g) w2 32 < 4294967296 := lt_bits fun i hi => (greedy_in _ _ _ _ hi).2
      refine ⟨perm_of (ne_bit (greedy_low (nets g) w0 wlt)) hlt hen h2 ?_, hlt⟩
      rw [if_neg hk1, if_pos hk]
      refine indep_yes fun v hv => ?_
      unfold clash
      cases hb : (greedy (nets g) w2 32).testBit v
      · rfl
      · have hvl := he v (h2 v hb)
        rw [nets_at hvl, Bool.true_and, bne_eq_false_iff_eq, and_zero]
        intro i hi
        cases hb2 : (greedy (nets g) w2 32).testBit i
        · rfl
        · have := greedy_apart hg w2 (fun i hi => he i (w1 i hi)) 32 v i hb hb2
          rw [this] at hi; cases hi
    · rename_i hk1 hk2
      split
      · rename_i hk4
        exact ⟨perm_of h0 hen hen (fun _ h => h) (by rw [if_neg hk1, if_neg hk2, if_pos hk4]; simp), hen⟩
      · rename_i hk4
        exact ⟨perm_of w0 wlt hen w1 (by rw [if_neg hk1, if_neg hk2, if_neg hk4]), wlt⟩
theorem enS_in {p : Pg} {g : Gr} {c : Cfg} : ∀ i, (enS p g c).testBit i = true → i < g.ports.length := fun i hi => by
  rw [enS_bit] at hi
  simp only [Bool.and_eq_true, decide_eq_true_eq] at hi
  exact hi.1
theorem folL_good {p : Pg} {g : Gr} (kind : Int) : ∀ (ws : List Nat) {c : Cfg}, CfOk p g c → Good p g kind c (folL p g kind c ws) ∧ (∀ s ∈ folL p g kind c ws, s < 4294967296) ∧ (folL p g kind c ws).length ≤ ws.length
  | [], c, _ => ⟨trivial, fun s hs => (by cases hs), Nat.le_refl _⟩
  | w :: ws, c, hc => by
    unfold folL
    split
    · exact ⟨trivial, fun s hs => (by cases hs), Nat.zero_le _⟩
    · rename_i h0
      obtain ⟨h1, h2⟩ := perm_res hc.fit.gr kind w h0 enS_in
      obtain ⟨i1, i2, i3⟩ := folL_good kind ws (stepC_ok hc (resZ g kind (enS p g c) w))
      refine ⟨⟨h1, i1⟩, fun s hs => ?_, by simp; exact i3⟩
      rcases List.mem_cons.1 hs with rfl | hs
      · exact h2
      · exact i2 s hs
/-- all of it, node by node -/
def sgl (L : List Nat) : List Nat := L.flatMap fun S => singles S 32
theorem stepK_big {p : Pg} {g : Gr} {c : Cfg} {S k : Nat} (h : c.length ≤ k) : stepK p g c S k = stepC p g c S := by
  unfold stepC
  refine List.ext_getElem (by rw [stepK_len, stepK_len]) fun v h1 h2 => ?_
  rw [stepK_at, stepK_at]
  rw [stepK_len] at h1
  by_cases hb : S.testBit v = true
  · rw [if_pos ⟨by omega, hb⟩, if_pos ⟨h1, hb⟩]
  · rw [if_neg (fun h => hb h.2), if_neg (fun h => hb h.2)]
theorem singles_len (S : Nat) : ∀ k, (singles S k).length = Pl.popTo S k
  | 0 => rfl
  | k + 1 => by
    unfold singles Pl.popTo
    split
    · rename_i h; rw [List.length_append, singles_len S k, h]; rfl
    · rename_i h; rw [singles_len S k, show S.testBit k = false by simpa using h]; rfl
theorem singles_pow (S : Nat) : ∀ k, k ≤ 32 → ∀ x ∈ singles S k, ∃ i, i < 32 ∧ x = 2 ^ i
  | 0, _, x, h => by cases h
  | k + 1, hk, x, h => by
    unfold singles at h
    split at h
    · rcases List.mem_append.1 h with h | h
      · exact singles_pow S k (by omega) x h
      · exact ⟨k, by omega, by simpa using h⟩
    · exact singles_pow S k (by omega) x h
def popSum (L : List Nat) : Nat := (L.map Pl.pop).sum
theorem pop_pow {k : Nat} (h : k < 32) : Pl.pop (2 ^ k) = 1 := by
  have key : ∀ k, k < 32 → Pl.pop (2 ^ k) = 1 := by decide +kernel
  exact key k h
theorem popSum_app (L M : List Nat) : popSum (L ++ M) = popSum L + popSum M := by unfold popSum; rw [List.map_append, List.sum_append]
theorem popSum_ones : ∀ (L : List Nat), (∀ x ∈ L, ∃ i, i < 32 ∧ x = 2 ^ i) → popSum L = L.length
  | [], _ => rfl
  | x :: L, h => by
    obtain ⟨i, hi, e⟩ := h x (by simp)
    have ih := popSum_ones L fun y hy => h y (by simp [hy])
    unfold popSum at ih ⊢
    rw [List.map_cons, List.sum_cons, ih, e, pop_pow hi, List.length_cons]; omega
theorem sgl_pow {L : List Nat} : ∀ x ∈ sgl L, ∃ i, i < 32 ∧ x = 2 ^ i := fun x hx => by
  unfold sgl at hx
  obtain ⟨S, _, h⟩ := List.mem_flatMap.1 hx
  exact singles_pow S 32 (Nat.le_refl _) x h
theorem sgl_len : ∀ (L : List Nat), (sgl L).length = popSum L
  | [] => rfl
  | S :: L => by
    have := sgl_len L
    unfold sgl at this ⊢
    rw [List.flatMap_cons, List.length_append, this, singles_len]
    unfold popSum Pl.pop
    rw [List.map_cons, List.sum_cons]
/-- a locally central run, node by node under the central daemon -/
theorem central {p : Pg} {g : Gr} : ∀ (L : List Nat) {c : Cfg}, CfOk p g c → Good p g 2 c L → (∀ s ∈ L, s < 4294967296) → Good p g 1 c (sgl L) ∧ runC p g c (sgl L) = runC p g c L
  | [], c, _, _, _ => ⟨trivial, rfl⟩
  | S :: L, c, hc, hG, h32 => by
    obtain ⟨s1, s2⟩ := singles_run hc hG.1 (h32 S (by simp)) 32
    have hn := hc.fit.gr.hi
    have hl := hc.len
    rw [stepK_big (by omega)] at s2
    obtain ⟨i1, i2⟩ := central L (stepC_ok hc S) hG.2 fun s hs => h32 s (by simp [hs])
    have e : sgl (S :: L) = singles S 32 ++ sgl L := by unfold sgl; rw [List.flatMap_cons]
    rw [e]
    refine ⟨Good.app _ s1 (by rw [s2]; exact i1), ?_⟩
    rw [runC_app, s2, i2]; rfl
end Go.Proofs.YtdfklagiafmoiaaGreatDoor

/- Permits. -/
namespace Go.Proofs.YtdfklagiafmoiaaGreatDoor
open Go.RowKit

section
variable (g : Gr) (hg : GrOk g) (kind : Int) (en ch : Nat) (hen : ∀ i, en.testBit i = true → i < g.ports.length) (hch : ch < 4294967296) (hp : permB g kind en ch = true) (A : Option Addr) (c : Nat) (w : World)
include hg hen hch hp
set_option maxRecDepth 100000 in
set_option maxHeartbeats 4000000 in
theorem permits_p (ht : TzAt w) (hn : U32At w w.heap.size (.slice A (nets g).length c) (nets g)) :
    Calls Tryz.prog 73 #[.slice A (nets g).length c, .int .i64 kind, .int .u32 (en : Int), .int .u32 (ch : Int)] w fun e w' => e = .returned (.bool true) ∧ Below w.heap.size w w' := by
  have hgn := hg.hi
  have hen32 : en < 4294967296 := lt_bits fun i hi => by have := hen i hi; omega
  unfold permB at hp
  simp only [Bool.and_eq_true, bne_iff_ne, beq_iff_eq] at hp
  obtain ⟨⟨h0, h1⟩, h2⟩ := hp
  have hsub := (sub_bit hch hen32).1 h1
  have b0 : ((ch : Int) == 0) = false := beq_eq_false_iff_ne.2 (by omega)
  have e1 : bits .andNot .u32 (ch : Int) (en : Int) = 0 := by rw [u32_andNot_nat _ _ hch hen32, h1]; rfl
  have hln : (nets g).length = g.ports.length := by simp [nets]
  have HI := Lib.hid (fun (h : indep (nets g) ch = true) => show Calls Tryz.prog 108 #[.slice A (nets g).length c, .int .u32 (ch : Int)] w fun e w' => e = .returned (.bool true) ∧ Below w.heap.size w w' from by
    have := indep_p (nets g) ch hch (fun x hx => by
      unfold nets at hx
      obtain ⟨v, hv, rfl⟩ := List.mem_map.1 hx
      have hv := List.mem_range.1 hv
      refine lt_bits fun i hi => ?_
      have := (nbr_sym hg hv hi).1; omega) (fun i hi => by rw [hln]; exact hen i (hsub i hi)) (by omega) A c w ht hn
    rwa [h] at this)
  generalize nets g = l at *
  clear ht hn h1 hsub hgn hen hg hln
  by_cases hk1 : kind = 1
  · subst hk1
    rw [if_pos rfl] at h2
    have e2 := drop1_bits (show 0 < ch by omega) hch
    have e3 : bits .and .u32 (ch : Int) ((ch : Int) - 1) = ((drop1 ch : Nat) : Int) := by rw [← e2]; congr 1; omega
    have e4 : drop1 ch = 0 := by simpa using h2
    rw [e4] at e2 e3
    clear h2 e4
    go_enter Tryz.func73, Tryz.ntmps73
    go_wp2
    go_ret
    exact ⟨rfl, Below.refl _ _⟩
  · have k1 : (kind == 1) = false := beq_eq_false_iff_ne.2 hk1
    rw [if_neg hk1] at h2
    by_cases hk2 : kind = 2
    · subst hk2
      rw [if_pos rfl] at h2
      have HI2 := Lib.hid (HI.out h2)
      clear h2 HI
      go_enter Tryz.func73, Tryz.ntmps73
      go_wp2_with fail
      refine HI2.out.mono ?_
      rintro e w' ⟨rfl, hb⟩
      go_wp2
      go_ret
      exact ⟨rfl, hb⟩
    · have k2 : (kind == 2) = false := beq_eq_false_iff_ne.2 hk2
      rw [if_neg hk2] at h2
      by_cases hk4 : kind = 4
      · subst hk4
        rw [if_pos rfl] at h2
        have : ch = en := by simpa using h2
        subst this
        clear HI h2
        go_enter Tryz.func73, Tryz.ntmps73
        go_wp2
        go_ret
        exact ⟨ret_bool (by simp), Below.refl _ _⟩
      · have k4 : (kind == 4) = false := beq_eq_false_iff_ne.2 hk4
        clear HI h2
        go_enter Tryz.func73, Tryz.ntmps73
        go_wp2
        go_ret
        exact ⟨rfl, Below.refl _ _⟩
end
end Go.Proofs.YtdfklagiafmoiaaGreatDoor
