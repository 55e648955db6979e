/- Lemmas of this seat, laid together out of 3 texts: no statement of the seat is proved here. -/
import Derived.Test.YtdfklagiafmoiaaGreatDoorG24
import Derived.Test.YtdfklagiafmoiaaGreatDoorG34
import Derived.Test.YtdfklagiafmoiaaGreatDoorG33
import Derived.Test.YtdfklagiafmoiaaGreatDoorG36
import Derived.Test.YtdfklagiafmoiaaGreatDoorG25
import Derived.Test.YtdfklagiafmoiaaGreatDoorG23
import Derived.Test.YtdfklagiafmoiaaGreatDoorG03
/- Words for a run: stretches of memory that stand; the counts of a run. -/
namespace Go.Proofs.YtdfklagiafmoiaaGreatDoor
open Go.RowKit

/-- the blocks from lo on, as they stand in a world -/
def cF (B lo : Nat) (hlo : B ≤ lo) (w1 : World) : Ch B :=
  ⟨fun w => Same lo w1 w, fun g => lo ≤ g ∧ g < w1.heap.size,
    fun h hg hr => ⟨Nat.le_trans h.1 hg.size, fun b h1 h2 => (hg.block b (Nat.lt_of_lt_of_le h2 h.1) (fun e => hr b e.symm ⟨h1, h2⟩)).trans (h.2 b h1 h2)⟩,
    fun h e => ⟨Nat.le_trans hlo e.1, Nat.lt_of_lt_of_le e.2 h.1⟩⟩
theorem Same.refl (lo : Nat) (w : World) : Same lo w w := ⟨Nat.le_refl _, fun _ _ _ => rfl⟩
theorem Mem.pushF {w0 w w' : World} {l : List (Ch w0.heap.size)} (h : Mem w0 l w) (hb : Below w.heap.size w w') : Mem w0 (cF w0.heap.size w.heap.size h.size w' :: l) w' :=
  h.pushBelow hb (Same.refl _ _) (fun _ e => e.1)
theorem RowOff.same {w X : World} {lo g : Nat} {v : Value} {l : List Int} (h : RowOff w lo g v l) (hk : Same lo w X) : RowOff X lo g v l := by
  obtain ⟨A, c, rfl, hA, A', c', vals, e, hr, hkd⟩ := h
  injection e with e1 e2 e3
  subst e1 e3
  refine ⟨A, c, rfl, hA, A, c, vals, rfl, ⟨hr.1, fun hn => ?_⟩, hkd⟩
  obtain ⟨ad, hA', hb, hc⟩ := hr.2 hn
  refine ⟨ad, hA', Nat.lt_of_lt_of_le hb hk.1, fun j u hj => ?_⟩
  rw [← hc j u hj]
  exact World.cell?_of_block (hk.2 _ (by rw [block_of_add]; exact (hA ad hA').2) (by rw [block_of_add]; exact hb))
theorem CfW.same {w X : World} {lo g : Nat} {vs : List Value} {c : Cfg} (h : CfW w lo g vs c) (hk : Same lo w X) : CfW X lo g vs c :=
  ⟨h.lo_, h.len, (hk.2 g h.lo_ h.blk.lt).trans h.blk, fun k hv hc => (h.row k hv hc).same hk⟩
section
variable (p : Pg) (g : Gr) (c0 : Cfg) (L : List Nat)
/-- the i-th configuration of a run, its enabled nodes, the list of these, the counts -/
noncomputable def Cx (i : Nat) : Cfg := runC p g c0 (L.take i)
noncomputable def Ex_ (i : Nat) : Nat := enS p g (Cx p g c0 L i)
noncomputable def EL (m : Nat) : List Nat := (List.range m).map (Ex_ p g c0 L)
noncomputable def accT (i : Nat) : Nat × Nat × Nat := Pl3.acc L (EL p g c0 L (L.length + 1)) i
noncomputable def accV (i : Nat) : Value := cnt (i : Nat) (popSum (L.take i) : Nat) ((accT p g c0 L i).1 : Nat) ((accT p g c0 L i).2.1 : Nat) (accT p g c0 L i).2.2
theorem Cx_zero : Cx p g c0 L 0 = c0 := rfl
theorem Cx_succ {i : Nat} (h : i < L.length) : Cx p g c0 L (i + 1) = stepC p g (Cx p g c0 L i) L[i] := by
  unfold Cx runC; rw [List.take_succ_eq_append_getElem h, List.foldl_append]; rfl
theorem Cx_end : Cx p g c0 L L.length = runC p g c0 L := by unfold Cx; rw [List.take_length]
theorem Cx_ok (hc : CfOk p g c0) : ∀ i, CfOk p g (Cx p g c0 L i) := by
  intro i
  unfold Cx
  have key : ∀ (M : List Nat) (c : Cfg), CfOk p g c → CfOk p g (runC p g c M) := by
    intro M
    induction M with
    | nil => exact fun c h => h
    | cons s M ih => exact fun c h => ih _ (stepC_ok h s)
  exact key _ _ hc
theorem EL_succ (m : Nat) : EL p g c0 L (m + 1) = EL p g c0 L m ++ [Ex_ p g c0 L m] := by unfold EL; rw [List.range_succ, List.map_append]; rfl
theorem EL_get {i m : Nat} (h : i < m) : (EL p g c0 L m).getD i 0 = Ex_ p g c0 L i := by
  unfold EL; rw [List.getD_eq_getElem?_getD, List.getElem?_map, List.getElem?_range h]; rfl
theorem Good_at {kind : Int} : ∀ (M : List Nat) (c : Cfg) {i : Nat}, Good p g kind c M → ∀ h : i < M.length, permB g kind (enS p g (runC p g c (M.take i))) M[i] = true
  | [], c, i, _, h => absurd h (Nat.not_lt_zero _)
  | s :: M, c, 0, hg, h => hg.1
  | s :: M, c, i + 1, hg, h => by
    have := Good_at M (stepC p g c s) (i := i) hg.2 (by simpa using h)
    simpa [runC] using this
theorem popSum_snoc {i : Nat} (h : i < L.length) : popSum (L.take (i + 1)) = popSum (L.take i) + Pl.pop L[i] := by
  rw [List.take_succ_eq_append_getElem h, popSum_app]; unfold popSum; simp
/-- what stands of a run -/
structure RunOk (kind : Int) : Prop where
  ok : CfOk p g c0
  good : Good p g kind c0 L
  lt : ∀ s ∈ L, s < 4294967296
  len : L.length ≤ 4096
variable {p g c0 L} {kind : Int} (hR : RunOk p g c0 L kind)
include hR
theorem RunOk.perm {i : Nat} (h : i < L.length) : permB g kind (Ex_ p g c0 L i) L[i] = true := Good_at p g L c0 hR.good h
theorem RunOk.set {i : Nat} (h : i < L.length) : L[i] ≠ 0 ∧ L[i] < 16777216 ∧ ∀ v, L[i].testBit v = true → v < g.ports.length ∧ enF p g (Cx p g c0 L i) v = true :=
  perm_in (Cx_ok p g c0 L hR.ok i) (hR.perm h) (hR.lt _ (List.getElem_mem h))
theorem RunOk.en_lt (i : Nat) : Ex_ p g c0 L i < 16777216 := enS_lt p g _ hR.ok.fit.gr
theorem RunOk.EL_lt (m i : Nat) : (EL p g c0 L m).getD i 0 < 16777216 := by
  by_cases h : i < m
  · rw [EL_get p g c0 L h]; exact hR.en_lt i
  · unfold EL; rw [List.getD_eq_getElem?_getD, List.getElem?_eq_none (by simp; omega)]; decide
theorem RunOk.pops : ∀ i, i ≤ L.length → i ≤ popSum (L.take i) ∧ popSum (L.take i) ≤ 24 * i
  | 0, _ => by simp [popSum]
  | i + 1, h => by
    have ih := RunOk.pops i (by omega)
    obtain ⟨h0, h1, -⟩ := hR.set (i := i) (by omega)
    have h2 := Pl.pop_pos _ h0 (by omega)
    have h3 := Pl.pop_le24 _ h1
    rw [popSum_snoc L (by omega)]
    omega
theorem RunOk.bounds {i : Nat} (_h : i ≤ L.length) : (accT p g c0 L i).1 ≤ (accT p g c0 L i).2.1 ∧ (accT p g c0 L i).2.1 ≤ (accT p g c0 L i).1 + 1 ∧ (accT p g c0 L i).2.1 ≤ i ∧ (accT p g c0 L i).2.2 < 16777216 :=
  Pl4.acc_bounds L _ (fun i => hR.EL_lt _ i) i
theorem RunOk.valid {i : Nat} (h : i ≤ L.length) : Pl.valid (i : Nat) (popSum (L.take i) : Nat) ((accT p g c0 L i).1 : Nat) ((accT p g c0 L i).2.1 : Nat) (accT p g c0 L i).2.2 = true := by
  obtain ⟨h1, h2, h3, h4⟩ := hR.bounds h
  have h5 := hR.pops i h
  have h6 := hR.len
  unfold Pl.valid
  rw [decide_eq_true_eq]
  omega
theorem RunOk.zero : accV p g c0 L 0 = cnt 0 0 0 0 (Ex_ p g c0 L 0) := by
  have _h := hR
  unfold accV accT Pl3.acc
  rw [EL_get p g c0 L (by omega)]
  simp [popSum]
/-- one more step in the account -/
theorem RunOk.add {i : Nat} (h : i < L.length) (w : World) :
    Calls Tryz.prog 75 #[accV p g c0 L i, .int .u32 (L[i] : Nat), .int .u32 (Ex_ p g c0 L (i + 1) : Nat)] w fun e w' => e = .returned (.tuple #[accV p g c0 L (i + 1), .int .i64 0]) ∧ Below w.heap.size w w' := by
  obtain ⟨h0, h1, -⟩ := hR.set h
  obtain ⟨b1, b2, b3, b4⟩ := hR.bounds (Nat.le_of_lt h)
  have hl := hR.len
  have e2 : L.getD i 0 = L[i] := by rw [List.getD_eq_getElem?_getD, List.getElem?_eq_getElem h]; rfl
  have e3 : (EL p g c0 L (L.length + 1)).getD (i + 1) 0 = Ex_ p g c0 L (i + 1) := EL_get p g c0 L (by omega)
  have ha : accT p g c0 L (i + 1) = (if Pl.rest (accT p g c0 L i).2.2 L[i] (Ex_ p g c0 L (i + 1)) = 0 then ((accT p g c0 L i).1 + 1, (accT p g c0 L i).1 + 1, Ex_ p g c0 L (i + 1)) else ((accT p g c0 L i).1, (accT p g c0 L i).1 + 1, Pl.rest (accT p g c0 L i).2.2 L[i] (Ex_ p g c0 L (i + 1)))) := by
    rw [show accT p g c0 L (i + 1) = (let a := accT p g c0 L i; let p_ := Pl.rest a.2.2 (L.getD i 0) ((EL p g c0 L (L.length + 1)).getD (i + 1) 0); if p_ = 0 then (a.1 + 1, a.1 + 1, (EL p g c0 L (L.length + 1)).getD (i + 1) 0) else (a.1, a.1 + 1, p_)) from rfl]
    dsimp only
    rw [e2, e3]
  refine acc_add _ _ _ _ _ _ _ _ _ _ _ _ (by omega) (hR.valid (Nat.le_of_lt h)) (Nat.pos_of_ne_zero h0) h1 (hR.en_lt _) (by omega) rfl (popSum_snoc L h) ?_ ?_ ?_ w
  all_goals (rw [ha]; split <;> rfl)
end
end Go.Proofs.YtdfklagiafmoiaaGreatDoor

/- Eight cells stored. -/
namespace Go.Proofs.YtdfklagiafmoiaaGreatDoor
open Go.RowKit

theorem Mem.set8 {w0 w : World} {l : List (Ch w0.heap.size)} (h : Mem w0 l w) (i : Nat) {g : Nat} {t : TypeId} {a0 a1 a2 a3 a4 a5 a6 a7 : Value} (hi : l[i]? = some (cB w0.heap.size g t #[a0, a1, a2, a3, a4, a5, a6, a7])) (b0 b1 b2 b3 b4 b5 b6 b7 : Value) :
    Mem w0 (l.set i (cB w0.heap.size g t #[b0, b1, b2, b3, b4, b5, b6, b7])) ((((((((w.setCell ⟨g, 0, none⟩ b0).setCell ⟨g, 1, none⟩ b1).setCell ⟨g, 2, none⟩ b2).setCell ⟨g, 3, none⟩ b3).setCell ⟨g, 4, none⟩ b4).setCell ⟨g, 5, none⟩ b5).setCell ⟨g, 6, none⟩ b6).setCell ⟨g, 7, none⟩ b7) := by
  have hb := (h.get i hi)
  refine h.step i hi (row := some g) (((((((gset' _ _ _ _).trans (gset' _ _ _ _)).trans (gset' _ _ _ _)).trans (gset' _ _ _ _)).trans (gset' _ _ _ _)).trans (gset' _ _ _ _)).trans (gset' _ _ _ _) |>.trans (gset' _ _ _ _)) (fun b e => by injection e with e; exact e.symm) ⟨hb.1, ?_⟩ (fun b e => .inl e)
  have h8 := (((((((hb.2.set_ 0 b0).set_ 1 b1).set_ 2 b2).set_ 3 b3).set_ 4 b4).set_ 5 b5).set_ 6 b6).set_ 7 b7
  simpa [List.setIfInBounds_toArray] using h8
theorem Mem.set6 {w0 w : World} {l : List (Ch w0.heap.size)} (h : Mem w0 l w) (i : Nat) {g : Nat} {t : TypeId} {a0 a1 a2 a3 a4 a5 a6 a7 : Value} (hi : l[i]? = some (cB w0.heap.size g t #[a0, a1, a2, a3, a4, a5, a6, a7])) (b2 b3 b4 b5 b6 b7 : Value) :
    Mem w0 (l.set i (cB w0.heap.size g t #[a0, a1, b2, b3, b4, b5, b6, b7])) ((((((w.setCell ⟨g, 2, none⟩ b2).setCell ⟨g, 3, none⟩ b3).setCell ⟨g, 4, none⟩ b4).setCell ⟨g, 5, none⟩ b5).setCell ⟨g, 6, none⟩ b6).setCell ⟨g, 7, none⟩ b7) := by
  have hb := (h.get i hi)
  refine h.step i hi (row := some g) ((((((gset' _ _ _ _).trans (gset' _ _ _ _)).trans (gset' _ _ _ _)).trans (gset' _ _ _ _)).trans (gset' _ _ _ _)).trans (gset' _ _ _ _)) (fun b e => by injection e with e; exact e.symm) ⟨hb.1, ?_⟩ (fun b e => .inl e)
  have h8 := (((((hb.2.set_ 2 b2).set_ 3 b3).set_ 4 b4).set_ 5 b5).set_ 6 b6).set_ 7 b7
  simpa [List.setIfInBounds_toArray] using h8
end Go.Proofs.YtdfklagiafmoiaaGreatDoor

/- A run. -/
namespace Go.Proofs.YtdfklagiafmoiaaGreatDoor
open Go.RowKit

theorem and_all {x n : Nat} (h : x < 2 ^ n) (hn : n ≤ 24) : bits .and .u32 (x : Int) (allSet n) = (x : Int) := by
  have h2 := pow32 hn
  have h1 := Nat.two_pow_pos n
  have e : allSet n = ((2 ^ n - 1 : Nat) : Int) := by unfold allSet; rw [Int.natCast_sub (by omega)]; simp
  rw [e, u32_and_nat _ _ (by omega) (by omega), Nat.and_two_pow_sub_one_eq_mod, Nat.mod_eq_of_lt h]
theorem one_u32 (z : Int) : ∀ y ∈ [Value.int .u32 z], y.oneCell' = true := by intro y hy; rw [List.mem_singleton] at hy; subst hy; rfl
theorem u32_own' {w : World} {base e n : Nat} {v : Value} {l : List Nat} (h : w.ownsRow base e 1 v n (uv l)) : U32At w w.heap.size v l := by
  obtain ⟨A, c, rfl, h2⟩ := u32_own h
  exact h2
theorem CfW.lo {w : World} {lo lo' gb : Nat} {vs : List Value} {c : Cfg} (h : CfW w lo gb vs c) (hl : lo' ≤ lo) : CfW w lo' gb vs c :=
  ⟨Nat.le_trans hl h.lo_, h.len, h.blk, fun k hv hc => by
    obtain ⟨A, c, e, hA, hi⟩ := h.row k hv hc
    exact ⟨A, c, e, fun ad ha => ⟨(hA ad ha).1, Nat.le_trans hl (hA ad ha).2⟩, hi⟩⟩
/-- a run's parameters -/
structure RunP where
  p : Pg
  g : Gr
  c : Cfg
  L : List Nat
  kind : Int
  len : Nat
variable (q : RunP)
/-- what a shower is told keeps memory in order -/
def SeeOk (w0 : World) (fs : Nat) (sc : List Value) (J : Nat → List (Ch w0.heap.size) → Prop) : Prop :=
  ∀ (i : Nat) (l cs : List (Ch w0.heap.size)) (X : World) (gb : Nat), i ≤ q.L.length → J i cs → Mem w0 (l ++ cs) X →
    ConfAt X X.heap.size (.slice (some ⟨gb, 0, none⟩) q.c.length q.c.length) (Cx q.p q.g q.c q.L i) →
    Calls Tryz.prog fs (.slice (some ⟨gb, 0, none⟩) q.c.length q.c.length :: .int .u32 (Ex_ q.p q.g q.c q.L i : Nat) :: accV q.p q.g q.c q.L i :: sc).toArray X fun e w' =>
      (∃ v, e = .returned v) ∧ ∃ cs', J (i + 1) cs' ∧ Mem w0 (l ++ cs') w'
def ChooseOk (w0 : World) (base : Nat) (w : World) (fc : Nat) (cc : List Value) : Prop :=
  ∀ (i : Nat) (X : World), i ≤ q.L.length → i < q.len → Below w0.heap.size w0 X → Same base w X →
    Calls Tryz.prog fc (.int .i64 (i : Int) :: .int .u32 (Ex_ q.p q.g q.c q.L i : Nat) :: cc).toArray X fun e w' =>
      (∃ z : Nat, (∀ h : i < q.L.length, z = q.L[i]) ∧ e = .returned (.tuple #[.int .u32 (z : Int), .bool (decide (i < q.L.length))])) ∧ Below X.heap.size X w'
noncomputable def accA (i : Nat) : Array Value := #[.int .i64 (i : Nat), .int .i64 (popSum (q.L.take i) : Nat), .int .i64 ((accT q.p q.g q.c q.L i).1 : Nat), .int .i64 ((accT q.p q.g q.c q.L i).2.1 : Nat), .int .u32 ((accT q.p q.g q.c q.L i).2.2 : Nat)]
theorem accV_eq (i : Nat) : accV q.p q.g q.c q.L i = .agg (accA q i) := rfl
def trV (gb n : Nat) (vC vE : Value) (k : Array Value) : Value := .agg (#[vC, vE, .slice (some ⟨gb, 0, none⟩) n n] ++ k)
def ExecPost (w0 : World) (base : Nat) (w wb : World) (J : Nat → List (Ch w0.heap.size) → Prop) (e : Ending) (w' : World) : Prop :=
  ∃ (gb : Nat) (vs : List Value) (vC vE : Value) (cs : List (Ch w0.heap.size)), e = .returned (.tuple #[trV gb q.c.length vC vE (accA q q.L.length), .int .i64 0]) ∧
    CfW w' w.heap.size gb vs (runC q.p q.g q.c q.L) ∧
    J (q.L.length + 1) cs ∧ Mem w0 (cR w0.heap.size 34 1 vE (q.L.length + 1) (uv (EL q.p q.g q.c q.L (q.L.length + 1))) :: cR w0.heap.size 34 1 vC q.L.length (uv q.L) :: cs) w' ∧ Same base wb w'
theorem blk8 {w : World} {g : Nat} {t : TypeId} {a0 a1 a2 a3 a4 a5 a6 a7 : Value} (h : Blk w g t #[a0, a1, a2, a3, a4, a5, a6, a7]) :
    w.cell? ⟨g, 0, none⟩ = some a0 ∧ w.cell? ⟨g, 1, none⟩ = some a1 ∧ w.cell? ⟨g, 2, none⟩ = some a2 ∧ w.cell? ⟨g, 3, none⟩ = some a3 ∧ w.cell? ⟨g, 4, none⟩ = some a4 ∧ w.cell? ⟨g, 5, none⟩ = some a5 ∧ w.cell? ⟨g, 6, none⟩ = some a6 ∧ w.cell? ⟨g, 7, none⟩ = some a7 ∧ ∀ o, w.frozen? ⟨g, o, none⟩ = false :=
  ⟨h.cell 0, h.cell 1, h.cell 2, h.cell 3, h.cell 4, h.cell 5, h.cell 6, h.cell 7, h.frozen⟩
def z8 : Array Value := #[.slice none 0 0, .slice none 0 0, .slice none 0 0, .int .i64 0, .int .i64 0, .int .i64 0, .int .i64 0, .int .u32 0]
def trA (vC vE : Value) : Array Value := #[vC, vE, .slice none 0 0, .int .i64 0, .int .i64 0, .int .i64 0, .int .i64 0, .int .u32 0]
def rnA (m bn n : Nat) (kind al : Int) (fs : Nat) (sc : List Value) : Array Value := #[.pointer (some ⟨m, 0, none⟩), .slice (some ⟨bn, 0, none⟩) n n, .int .i64 kind, .int .u32 al, .func (.func fs) #[] sc.toArray]
theorem kept_of {w0 w X : World} {base : Nat} (h1 : Below w0.heap.size w0 w) (h2 : Below w0.heap.size w0 X) (h3 : Same base w X) : Kept2 w0.heap.size base w X :=
  ⟨fun b hb => (h2.block b hb).trans (h1.block b hb).symm, h3, h1.size⟩
/-- the memory of a run behind i steps -/
def ExM (w0 : World) (base : Nat) (hb0 : w0.heap.size ≤ base) (w wb : World) (rA : Array Value) (i gb kb : Nat) (vC vE : Value) (cs : List (Ch w0.heap.size)) (wr : World) : Prop :=
  ∃ (lo : Nat) (hlo : w0.heap.size ≤ lo) (wc : World) (vs : List Value), w.heap.size ≤ lo ∧ CfW wc lo gb vs (Cx q.p q.g q.c q.L i) ∧
    Mem w0 (cR w0.heap.size 34 1 vE (i + 1) (uv (EL q.p q.g q.c q.L (i + 1))) :: cR w0.heap.size 34 1 vC i (uv (q.L.take i)) ::
      cB w0.heap.size kb 36 (accA q i) :: cF w0.heap.size lo hlo wc :: cB w0.heap.size (w.heap.size + 1 + 1) 38 (trA vC vE) :: cB w0.heap.size (w.heap.size + 1) 38 z8 :: cB w0.heap.size w.heap.size 66 rA :: cF w0.heap.size base hb0 wb :: cs) wr
def XRel (w0 : World) (base : Nat) (hb0 : w0.heap.size ≤ base) (w wb : World) (rA : Array Value) (kb : Nat) (J : Nat → List (Ch w0.heap.size) → Prop) (vc ve vi : Value) (wr : World) : Prop :=
  ∃ (i gb : Nat) (vC vE : Value) (cs : List (Ch w0.heap.size)), vi = .int .i64 (i : Nat) ∧ i ≤ q.L.length ∧ vc = .slice (some ⟨gb, 0, none⟩) q.c.length q.c.length ∧ ve = .int .u32 (Ex_ q.p q.g q.c q.L i : Nat) ∧ J (i + 1) cs ∧ ExM q w0 base hb0 w wb rA i gb kb vC vE cs wr
section
variable {q} (hR : RunOk q.p q.g q.c q.L q.kind)
include hR
theorem Cx_len (i : Nat) : (Cx q.p q.g q.c q.L i).length = q.c.length := by rw [(Cx_ok _ _ _ _ hR.ok i).len, hR.ok.len]
theorem conf_x {X : World} {lo gb i : Nat} {vs : List Value} (h : CfW X lo gb vs (Cx q.p q.g q.c q.L i)) : ConfAt X X.heap.size (.slice (some ⟨gb, 0, none⟩) q.c.length q.c.length) (Cx q.p q.g q.c q.L i) := by
  have := h.conf
  rwa [Cx_len hR] at this
theorem en_x {X : World} {lo gb m i : Nat} {vs : List Value} (hm : MoverAt X X.heap.size m q.p q.g) (h : CfW X lo gb vs (Cx q.p q.g q.c q.L i)) :
    Calls Tryz.prog 71 #[.pointer (some ⟨m, 0, none⟩), .slice (some ⟨gb, 0, none⟩) q.c.length q.c.length] X fun e w' => e = .returned (.int .u32 (Ex_ q.p q.g q.c q.L i : Nat)) ∧ Below X.heap.size X w' := by
  have := enab_p q.p q.g _ (Cx_ok _ _ _ _ hR.ok i) m (some ⟨gb, 0, none⟩) (Cx q.p q.g q.c q.L i).length X hm h.conf
  rwa [Cx_len hR] at this
theorem st_x {X : World} {lo gb m i : Nat} {vs : List Value} (hi : i < q.L.length) (hm : MoverAt X X.heap.size m q.p q.g) (h : CfW X lo gb vs (Cx q.p q.g q.c q.L i)) :
    Calls Tryz.prog 74 #[.pointer (some ⟨m, 0, none⟩), .slice (some ⟨gb, 0, none⟩) q.c.length q.c.length, .int .u32 (q.L[i] : Nat)] X fun e w' =>
      ∃ gb' vs', e = .returned (.slice (some ⟨gb', 0, none⟩) q.c.length q.c.length) ∧ CfW w' X.heap.size gb' vs' (Cx q.p q.g q.c q.L (i + 1)) ∧ Below X.heap.size X w' := by
  obtain ⟨-, h1, h2⟩ := hR.set hi
  have := step_p q.p q.g _ (Cx_ok _ _ _ _ hR.ok i) m q.L[i] (by omega) (fun v _ hv => (h2 v hv).2) (some ⟨gb, 0, none⟩) (Cx q.p q.g q.c q.L i).length X hm h.conf
  unfold StPost at this
  rw [← Cx_succ _ _ _ _ hi, Cx_len hR, Cx_len hR] at this
  exact this
end
theorem accA_ex (i : Nat) : ∃ z0 z1 z2 z3 z4 : Int, accA q i = #[.int .i64 z0, .int .i64 z1, .int .i64 z2, .int .i64 z3, .int .u32 z4] := ⟨_, _, _, _, _, rfl⟩
set_option maxRecDepth 100000 in
set_option maxHeartbeats 16000000 in
theorem exec_p (hR : RunOk q.p q.g q.c q.L q.kind) (hlen : q.L.length ≤ q.len) (hln : q.len ≤ 4096)
    (w0 : World) (base : Nat) (hb0 : w0.heap.size ≤ base) (w wb : World) (hwb : Below w0.heap.size w0 wb) (cs : List (Ch w0.heap.size)) (J : Nat → List (Ch w0.heap.size) → Prop) (hJ : J 0 cs)
    (hM : Mem w0 (cF w0.heap.size base hb0 wb :: cs) w) (m : Nat) (hm : MoverOwn wb base w0.heap.size m q.p q.g) (vn : Value) (hnet : NetOwn wb base vn (nets q.g)) (htz : TzAt w0)
    (fs : Nat) (sc : List Value) (hs : SeeOk q w0 fs sc J) (hes : ∀ a W, (callFunc fs a).run Tryz.prog W = .ok (.enter fs a) W) (fc : Nat) (cc : List Value) (hc : ChooseOk q w0 base wb fc cc) (hec : ∀ a W, (callFunc fc a).run Tryz.prog W = .ok (.enter fc a) W)
    (Ac : Option Addr) (capc : Nat) (hcf : ConfAt w w0.heap.size (.slice Ac q.c.length capc) q.c) :
    Calls Tryz.prog 42 #[.agg #[.pointer (some ⟨m, 0, none⟩), vn, .int .i64 q.kind, .int .u32 (allSet q.g.ports.length), .func (.func fs) #[] sc.toArray], .slice Ac q.c.length capc, .int .i64 (q.len : Int), .func (.func fc) #[] cc.toArray] w (ExecPost q w0 base w wb J) := by
  have HR := Lib.hid hR
  have HS := Lib.hid hs
  have HC := Lib.hid hc
  have HJ := Lib.hid hJ
  have HM := Lib.hid hM
  have HWB := Lib.hid hwb
  have HMO := Lib.hid hm
  have HNE := Lib.hid hnet
  have HTZ := Lib.hid htz
  have HCF := Lib.hid hcf
  have HLN := Lib.hid hlen
  obtain ⟨bn, rfl, -⟩ := hnet
  clear hs hc hJ hM hwb hm htz hcf hR hlen
  go_enter Tryz.func42, Tryz.ntmps42
  go_wp2_with fail
  have HNL := Lib.hid HR.out.ok.len
  have HNN := Lib.hid HR.out.ok.fit.gr.hi
  have hM3 := ((HM.out.new 66 (rnA m bn (nets q.g).length q.kind (allSet q.g.ports.length) fs sc)).new 38 z8).new 38 z8
  simp only [World.size_alloc] at hM3
  have HW := Lib.hid (show Below w.heap.size w (((w.alloc (.cells (rnA m bn (nets q.g).length q.kind (allSet q.g.ports.length) fs sc) 66)).alloc (.cells z8 38)).alloc (.cells z8 38)) from balloc (balloc (balloc (Below.refl _ _) _) _) _)
  have HM3 := Lib.hid hM3
  clear hM3
  unfold rnA z8 at HM3 HW
  generalize World.alloc (World.alloc (World.alloc _ _) _) _ = W at *
  have HCW := Lib.hid (show ConfAt W W.heap.size (.slice Ac q.c.length capc) q.c from ConfAt.to ⟨HM3.out.size, fun p hp => HW.out.cell (Nat.lt_of_lt_of_le hp HM.out.size)⟩ HCF.out)
  refine (copy_p q.c (by have := HNL.out; have := HNN.out; omega) (fun k hk => by
    obtain ⟨_, h1, -⟩ := HR.out.ok.at_ k hk
    have := HR.out.ok.fit.pg.vhi
    omega) Ac capc W HCW.out).mono ?_
  rintro e w1 ⟨gb, vs, rfl, hcw, hb1⟩
  have HM4 := Lib.hid (HM3.out.pushF hb1)
  have HCV := Lib.hid hcw
  clear hb1 hcw HCW
  have hM := HM4.out
  obtain ⟨r0, r1, r2, r3, r4, rf⟩ := blk5 (hM.get 3 rfl).2
  have s0 : w.heap.size < w1.heap.size := (hM.get 3 rfl).2.lt
  have s1 : w.heap.size + 1 < w1.heap.size := (hM.get 2 rfl).2.lt
  have s2 : w.heap.size + 1 + 1 < w1.heap.size := (hM.get 1 rfl).2.lt
  have HE0 := Lib.hid (show ∀ X, Below w1.heap.size w1 X → Calls Tryz.prog 71 #[.pointer (some ⟨m, 0, none⟩), .slice (some ⟨gb, 0, none⟩) q.c.length q.c.length] X fun e w' => e = .returned (.int .u32 (Ex_ q.p q.g q.c q.L 0 : Nat)) ∧ Below X.heap.size X w' from fun X hX => by
    have hMX := HM4.out.below hX
    exact enab_p q.p q.g q.c HR.out.ok m _ _ X (HMO.out.at_ (kept_of HWB.out hMX.bel (hMX.get 4 rfl))) (HCV.out.same (hMX.get 0 rfl)).conf)
  have hx0 := HR.out.en_lt 0
  have HAL := Lib.hid (show bits .and .u32 (Ex_ q.p q.g q.c q.L 0 : Int) (allSet q.g.ports.length) = (Ex_ q.p q.g q.c q.L 0 : Int) from and_all (setOf_lt (enF q.p q.g q.c) q.g.ports.length) HNN.out)
  obtain ⟨x0, hX0⟩ : ∃ x0, Ex_ q.p q.g q.c q.L 0 = x0 := ⟨_, rfl⟩
  have HX0 := Lib.hid hX0
  rw [hX0] at HE0 hx0 HAL
  have hal := HAL.out
  clear hM hX0
  go_upto_region 3 with fail
  have rule := below_rule w1
  have rule2 := below_addr w1
  go_region_held3 (fun X => Below w1.heap.size w1 X) (first | with_reducible exact Below.refl _ _ | with_reducible exact Below.drew (Below.refl _ _) | with_reducible assumption | exact below_step (by assumption) (by assumption))
    (first | (go_at_call 71; refine (HE0.out _ (Below.drew (Below.refl _ _))).mono ?_; rintro e w2 ⟨rfl, hb2⟩; have hx2 : Below w1.heap.size w1 w2 := below_step hb2 (Below.drew (Below.refl _ _))))
  have HX2 := Lib.hid hx2
  clear rule rule2 hb2 hx2 r0 r1 r2 r3 r4 rf
  have HM5 := Lib.hid (HM4.out.below HX2.out)
  clear HE0 hal HM4
  rename_i hHeld
  clear hHeld
  go_wp2_with fail
  refine (acc_begin x0 (by omega) w2).mono ?_
  rintro e w3 ⟨rfl, hb3⟩
  have HM6 := Lib.hid (HM5.out.below hb3)
  clear hb3 HM5
  have hM := HM6.out
  obtain ⟨r0, r1, r2, r3, r4, rf⟩ := blk5 (hM.get 3 rfl).2
  have t0 : w.heap.size < w3.heap.size := (hM.get 3 rfl).2.lt
  have t1 : w.heap.size + 1 < w3.heap.size := (hM.get 2 rfl).2.lt
  have t2 : w.heap.size + 1 + 1 < w3.heap.size := (hM.get 1 rfl).2.lt
  clear s0 s1 s2 hM
  rw [Nat.mod_eq_of_lt hx0]
  unfold cnt
  have HM7 := Lib.hid (HM6.out.new 36 #[.int .i64 0, .int .i64 0, .int .i64 0, .int .i64 0, .int .u32 (x0 : Nat)])
  have HA0 := Lib.hid (show accA q 0 = #[.int .i64 0, .int .i64 0, .int .i64 0, .int .i64 0, .int .u32 (x0 : Nat)] from by
    have h := HR.out.zero
    rw [HX0.out, accV_eq] at h
    unfold cnt at h
    injection h)
  have HS0 := Lib.hid (show ∀ X, X = _ → _ from fun X hX => HS.out 0 [_, _, _, _, _, _] cs X gb (Nat.zero_le _) HJ.out (by rw [hX]; exact HM7.out) (by rw [hX]; exact (HCV.out.same (HM7.out.get 1 rfl)).conf))
  rw [HX0.out, HR.out.zero, HX0.out] at HS0
  unfold cnt at HS0
  go_wp2_with fail
  refine (HS0.out _ rfl).mono ?_
  rintro e w4 ⟨⟨v4, rfl⟩, cs1, hj1, hM8⟩
  have HM8 := Lib.hid hM8
  have HJ1 := Lib.hid hj1
  clear hM8 hj1 HS0 r0 r1 r2 r3 r4 rf t0 t1 t2 HM6
  have HM9 := Lib.hid ((HM8.out.nil_ 34 1).nil_ 34 1)
  have hM := HM8.out
  obtain ⟨r0, r1, r2, r3, r4, r5, r6, r7, rf⟩ := blk8 (hM.get 2 rfl).2
  have t2 : w.heap.size + 1 + 1 < w4.heap.size := (hM.get 2 rfl).2.lt
  obtain ⟨i0, hi0, hz0, hz1, hz2⟩ := info_parts Tryz.infoU32
  clear hM HM7
  go_wp2_with (at_builtin; refine wpList_append_one rfl (.tmp 34) (.tmp 36) 31 rfl w0.heap.size 34 i0 (.int .u32 0) 4 Tryz.underlying31 hi0 hz0 hz1 hz2 rfl _ 0 [] rfl (World.ownsRow.alloc (HM9.out.get 0 rfl) _) (u := .int .u32 (x0 : Nat)) rfl (Blk.new _ _ _) (one_u32 _) (len_ok (by omega)) (by omega) (by have := HM9.out.size; simp; omega) ?_; intro v1 x1 ho1 hg1 hv1; obtain ⟨A1, c1, rfl⟩ := own_sl ho1; have HM10 := Lib.hid (HM9.out.app 0 rfl (grown_pre hg1) ho1 hv1 (by simp)); clear ho1 hg1 hv1; obtain ⟨r0, r1, r2, r3, r4, r5, r6, r7, rf⟩ := blk8 (HM10.out.get 4 rfl).2; have t2 : w.heap.size + 1 + 1 < x1.heap.size := (HM10.out.get 4 rfl).2.lt)
  have HM11 := Lib.hid (HM10.out.set_ 4 rfl 1 (.slice A1 (0 + 1) c1) rfl)
  clear HM8 HM9 HM10 r0 r1 r2 r3 r4 r5 r6 r7 rf t2
  go_loopw [1, 11, 40] (XRel q w0 base hb0 w wb (rnA m bn (nets q.g).length q.kind (allSet q.g.ports.length) fs sc) w3.heap.size J) (fun _ _ i _ => q.len - (intOf i).toNat)
  case atStart =>
    refine ⟨0, gb, .slice none 0 0, .slice A1 1 c1, cs1, rfl, Nat.zero_le _, rfl, by rw [HX0.out], HJ1.out, W.heap.size, HM3.out.size, w1, vs, HW.out.size, HCV.out, ?_⟩
    have h := HM11.out
    rw [← HA0.out] at h
    have e : uv (EL q.p q.g q.c q.L (0 + 1)) = [.int .u32 (x0 : Nat)] := by rw [EL_succ, HX0.out]; rfl
    rw [e]
    exact h
  case round =>
    clear HM11 HX2 HCV HX0 HA0 HAL hx0 HJ1 HJ
    obtain ⟨i, gb', vC, vE, cs2, rfl, hi, rfl, rfl, hj, lo, hlo, wc, vs2, hlo2, hcw, hM⟩ := hrel
    obtain ⟨AE, cE, rfl⟩ := own_sl (hM.get 0 rfl)
    obtain ⟨AC, cC, rfl⟩ := own_sl (hM.get 1 rfl)
    have HMr := Lib.hid hM
    have HCV := Lib.hid hcw
    have HJr := Lib.hid hj
    have HLO := Lib.hid hlo2
    clear hM hcw hj hlo2
    by_cases hlt : i < q.L.length
    · have hil : i < q.len := by have := HLN.out; omega
      have hcall := HC.out i wr hi hil HMr.out.bel (HMr.out.get 7 rfl)
      rw [decide_eq_true hlt] at hcall
      have HCH := Lib.hid hcall
      obtain ⟨hS0, hS1, hS2⟩ := HR.out.set hlt
      have HPM := Lib.hid (HR.out.perm hlt)
      have HZ := Lib.hid (fun (z : Nat) (h : ∀ h : i < q.L.length, z = q.L[i]) => h hlt)
      have HADD := Lib.hid (fun (X : World) => HR.out.add hlt X)
      have HST := Lib.hid (fun (X : World) (lo gb : Nat) (vs : List Value) (hm : MoverAt X X.heap.size m q.p q.g) (h : CfW X lo gb vs (Cx q.p q.g q.c q.L i)) => st_x HR.out hlt hm h)
      have HUV := Lib.hid (show uv (q.L.take (i + 1)) = uv (q.L.take i) ++ [.int .u32 (q.L[i] : Nat)] from by rw [List.take_succ_eq_append_getElem hlt]; unfold uv; rw [List.map_append]; rfl)
      obtain ⟨S, hS⟩ : ∃ S, q.L[i] = S := ⟨_, rfl⟩
      rw [hS] at hS0 hS1 hS2 HPM HADD HST HUV
      have HSS := Lib.hid hS
      have HLT := Lib.hid hlt
      have HEN := Lib.hid (show ∀ v, (Ex_ q.p q.g q.c q.L i).testBit v = true → v < q.g.ports.length from fun v hv => enS_in v hv)
      have HXI := Lib.hid (HR.out.en_lt i)
      have HUE := Lib.hid (show uv (EL q.p q.g q.c q.L (i + 1 + 1)) = uv (EL q.p q.g q.c q.L (i + 1)) ++ [.int .u32 (Ex_ q.p q.g q.c q.L (i + 1) : Nat)] from by rw [EL_succ q.p q.g q.c q.L (i + 1)]; unfold uv; rw [List.map_append]; rfl)
      have HAL := Lib.hid (show bits .and .u32 (Ex_ q.p q.g q.c q.L (i + 1) : Int) (allSet q.g.ports.length) = (Ex_ q.p q.g q.c q.L (i + 1) : Int) from and_all (setOf_lt _ _) HNN.out)
      have HN4 := Lib.hid (show i < 4096 by omega)
      have k1 : (i : Int) < (q.len : Int) := by omega
      have k0 : (0 : Int) ≤ (i : Int) := by omega
      clear hcall hS hi hil r0 r1 r2 r3 r4 r5 r6 r7 rf t2
      obtain ⟨en, hen⟩ : ∃ en, Ex_ q.p q.g q.c q.L i = en := ⟨_, rfl⟩
      rw [hen] at HCH HPM HEN HXI
      rw [hen]
      clear hen
      go_wp2_with fail
      refine HCH.out.mono ?_
      rintro e w5 ⟨⟨z, hz, rfl⟩, hb5⟩
      obtain rfl : z = S := (HZ.out z hz).trans HSS.out
      have HM5 := Lib.hid (HMr.out.below hb5)
      clear hb5 hz HCH HZ HMr
      obtain ⟨r0, r1, r2, r3, r4, rf⟩ := blk5 (HM5.out.get 6 rfl).2
      have t0 : w.heap.size < w5.heap.size := (HM5.out.get 6 rfl).2.lt
      go_wp2_with fail
      refine (permits_p q.g HR.out.ok.fit.gr q.kind en z HEN.out (by omega) HPM.out _ _ _ (HTZ.out.below HM5.out.bel HTZ.out.1) (HNE.out.same (HM5.out.get 7 rfl)).at_).mono ?_
      rintro e w6 ⟨rfl, hb6⟩
      have HM6 := Lib.hid (HM5.out.below hb6)
      clear hb6 HM5 r0 r1 r2 r3 r4 rf t0 HEN HPM
      obtain ⟨r0, r1, r2, r3, r4, rf⟩ := blk5 (HM6.out.get 6 rfl).2
      have t0 : w.heap.size < w6.heap.size := (HM6.out.get 6 rfl).2.lt
      go_wp2_with fail
      refine (HST.out w6 lo gb' vs2 (HMO.out.at_ (kept_of HWB.out HM6.out.bel (HM6.out.get 7 rfl))) (HCV.out.same (HM6.out.get 3 rfl))).mono ?_
      rintro e w7 ⟨gb2, vs3, rfl, hcw3, hb7⟩
      have HM7 := Lib.hid (((HM6.out.pushF hb7).erase 4).perm (List.perm_middle (l₁ := [_, _, _])).symm)
      have HCV3 := Lib.hid hcw3
      have HLO6 := Lib.hid (show w.heap.size ≤ w6.heap.size by omega)
      clear hb7 hcw3 r0 r1 r2 r3 r4 rf t0 HST HCV HLO
      obtain ⟨r0, r1, r2, r3, r4, rf⟩ := blk5 (HM7.out.get 6 rfl).2
      have t0 : w.heap.size < w7.heap.size := (HM7.out.get 6 rfl).2.lt
      have HE1 := Lib.hid (show ∀ X, Below w7.heap.size w7 X → Calls Tryz.prog 71 #[.pointer (some ⟨m, 0, none⟩), .slice (some ⟨gb2, 0, none⟩) q.c.length q.c.length] X fun e w' => e = .returned (.int .u32 (Ex_ q.p q.g q.c q.L (i + 1) : Nat)) ∧ Below X.heap.size X w' from fun X hX => by
        have hMX := HM7.out.below hX
        exact en_x HR.out (HMO.out.at_ (kept_of HWB.out hMX.bel (hMX.get 7 rfl))) (HCV3.out.same (hMX.get 3 rfl)))
      have HX1 := Lib.hid (HR.out.en_lt (i + 1))
      obtain ⟨xn, hxn⟩ : ∃ xn, Ex_ q.p q.g q.c q.L (i + 1) = xn := ⟨_, rfl⟩
      rw [hxn] at HE1 HX1 HAL HADD HUE
      have hal := HAL.out
      have HXN := Lib.hid hxn
      clear hxn
      go_upto_region 15 with fail
      have rule := below_rule w7
      have rule2 := below_addr w7
      go_region_held3 (fun X => Below w7.heap.size w7 X) (first | with_reducible exact Below.refl _ _ | with_reducible exact Below.drew (Below.refl _ _) | with_reducible assumption | exact below_step (by assumption) (by assumption))
        (first | (go_at_call 71; refine (HE1.out _ (Below.drew (Below.refl _ _))).mono ?_; rintro e w8 ⟨rfl, hb8⟩; have hx8 : Below w7.heap.size w7 w8 := below_step hb8 (Below.drew (Below.refl _ _))))
      have HM8 := Lib.hid (HM7.out.below hx8)
      rename_i hHeld
      clear rule rule2 hb8 hx8 r0 r1 r2 r3 r4 rf HE1 hal HM7 hHeld t0
      obtain ⟨z0, z1, z2, z3, z4, hz⟩ := accA_ex q i
      obtain ⟨y0, y1, y2, y3, y4, hy⟩ := accA_ex q (i + 1)
      rw [accV_eq, accV_eq, hz, hy] at HADD
      have HM8 := Lib.hid (HM8.out.blkc 2 rfl hz)
      have HYA := Lib.hid hy
      clear hz hy
      obtain ⟨r0, r1, r2, r3, r4, rf⟩ := blk5 (HM8.out.get 2 rfl).2
      have t0 : w3.heap.size < w8.heap.size := (HM8.out.get 2 rfl).2.lt
      go_wp2_with fail
      refine (HADD.out w8).mono ?_
      rintro e w9 ⟨rfl, hb9⟩
      have HM9 := Lib.hid (HM8.out.below hb9)
      clear hb9 HM8 r0 r1 r2 r3 r4 rf t0 HADD
      obtain ⟨r0, r1, r2, r3, r4, rf⟩ := blk5 (HM9.out.get 2 rfl).2
      have t0 : w3.heap.size < w9.heap.size := (HM9.out.get 2 rfl).2.lt
      obtain ⟨s0, s1, s2, s3, s4, sf⟩ := blk5 (HM9.out.get 6 rfl).2
      have t1 : w.heap.size < w9.heap.size := (HM9.out.get 6 rfl).2.lt
      have HMA := Lib.hid (((((HM9.out.set_ 2 rfl 0 (.int .i64 y0) rfl).set_ 2 rfl 1 (.int .i64 y1) rfl).set_ 2 rfl 2 (.int .i64 y2) rfl).set_ 2 rfl 3 (.int .i64 y3) rfl).set_ 2 rfl 4 (.int .u32 y4) rfl)
      have HNE1 := Lib.hid (show w.heap.size ≠ w3.heap.size from fun e => by
        have h1 := (HM9.out.get 6 rfl).2
        have h2 := (HM9.out.get 2 rfl).2
        exact absurd e (h1.ne_ h2 (by decide)))
      have hne1 := HNE1.out
      have HS1 := Lib.hid (HS.out (i + 1) [_, _, _, _, _, _, _, _] cs2 _ gb2 HLT.out HJr.out HMA.out (conf_x HR.out (HCV3.out.same (HMA.out.get 3 rfl))))
      rw [accV_eq, HYA.out, HXN.out] at HS1
      go_wp2_with fail
      refine HS1.out.mono ?_
      rintro e w10 ⟨⟨v10, rfl⟩, cs3, hj3, hM10⟩
      have HMB := Lib.hid hM10
      have HJ3 := Lib.hid hj3
      clear hM10 hj3 HS1 HMA HM9 HJr r0 r1 r2 r3 r4 rf s0 s1 s2 s3 s4 sf t0 t1 hne1
      obtain ⟨r0, r1, r2, r3, r4, r5, r6, r7, rf⟩ := blk8 (HMB.out.get 4 rfl).2
      have t2 : w.heap.size + 1 + 1 < w10.heap.size := (HMB.out.get 4 rfl).2.lt
      have n4 := HN4.out
      go_wp2_with (first
        | (at_builtin; refine wpList_append_one rfl (.tmp 87) (.tmp 89) 31 rfl w0.heap.size 34 i0 (.int .u32 0) 4 Tryz.underlying31 hi0 hz0 hz1 hz2 rfl _ i (uv (q.L.take i)) rfl (World.ownsRow.alloc (HMB.out.get 1 rfl) _) (u := .int .u32 (z : Nat)) rfl (Blk.new _ _ _) (one_u32 _) (len_ok (by omega)) (by omega) (by have := HMB.out.size; simp; omega) ?_; intro v1 x2 ho1 hg1 hv1; obtain ⟨A2, c2, rfl⟩ := own_sl ho1; have HMC := Lib.hid (HMB.out.app 1 rfl (grown_pre hg1) ho1 hv1 (by simp)); clear ho1 hg1 hv1; have HMD := Lib.hid (HMC.out.set_ 4 rfl 0 (.slice A2 (i + 1) c2) rfl); obtain ⟨r0, r1, r2, r3, r4, r5, r6, r7, rf⟩ := blk8 (HMC.out.get 4 rfl).2; have t2 : w.heap.size + 1 + 1 < x2.heap.size := (HMC.out.get 4 rfl).2.lt)
        | (at_builtin; refine wpList_append_one rfl (.tmp 93) (.tmp 95) 31 rfl w0.heap.size 34 i0 (.int .u32 0) 4 Tryz.underlying31 hi0 hz0 hz1 hz2 rfl _ (i + 1) (uv (EL q.p q.g q.c q.L (i + 1))) rfl (World.ownsRow.alloc (HMD.out.get 0 rfl) _) (u := .int .u32 (xn : Nat)) rfl (blk_new_at (by simp [World.setCell])) (one_u32 _) (len_ok (by omega)) (by omega) (Nat.le_trans HMD.out.size (by rw [World.size_alloc]; exact Nat.le_succ _)) ?_; intro v1 x3 ho1 hg1 hv1; obtain ⟨A3, c3, rfl⟩ := own_sl ho1; have HME := Lib.hid (HMD.out.app 0 rfl (grown_pre hg1) ho1 hv1 (by simp)); clear ho1 hg1 hv1; have HMF := Lib.hid (HME.out.set_ 4 rfl 1 (.slice A3 (i + 1 + 1) c3) rfl); obtain ⟨r0, r1, r2, r3, r4, r5, r6, r7, rf⟩ := blk8 (HME.out.get 4 rfl).2; have t2 : w.heap.size + 1 + 1 < x3.heap.size := (HME.out.get 4 rfl).2.lt))
      go_roundw
      case rel =>
        refine ⟨i + 1, gb2, .slice A2 (i + 1) c2, .slice A3 (i + 1 + 1) c3, cs3, by go_num, HLT.out, rfl, by rw [HXN.out], HJ3.out, w6.heap.size, HM6.out.size, w7, vs3, HLO6.out, HCV3.out, ?_⟩
        have h := HMF.out
        rw [HUV.out, HUE.out, HYA.out]
        exact h
      case measure => simp [intOf]; omega
    · have hiL : i = q.L.length := by omega
      have HIL := Lib.hid hiL
      have dF : decide (i < q.L.length) = false := decide_eq_false hlt
      have HLE := Lib.hid hi
      clear hiL hi r0 r1 r2 r3 r4 r5 r6 r7 rf t2 hlt
      have k0 : (0 : Int) ≤ (i : Int) := by omega
      by_cases hil : i < q.len
      · have hcall := HC.out i wr HLE.out hil HMr.out.bel (HMr.out.get 7 rfl)
        rw [dF] at hcall
        have HCH := Lib.hid hcall
        have k1 : (i : Int) < (q.len : Int) := by omega
        obtain ⟨en, hen⟩ : ∃ en, Ex_ q.p q.g q.c q.L i = en := ⟨_, rfl⟩
        rw [hen] at HCH
        rw [hen]
        clear hen hcall hil dF
        go_wp2_with fail
        refine HCH.out.mono ?_
        rintro e w5 ⟨⟨z, -, rfl⟩, hb5⟩
        have HM5 := Lib.hid (HMr.out.below hb5)
        clear hb5 HCH HMr
        obtain ⟨z0, z1, z2, z3, z4, hz⟩ := accA_ex q i
        have HM6 := Lib.hid (HM5.out.blkc 2 rfl hz)
        have HZA := Lib.hid hz
        clear HM5 hz
        obtain ⟨r0, r1, r2, r3, r4, r5, r6, r7, rf⟩ := blk8 (HM6.out.get 4 rfl).2
        have t2 : w.heap.size + 1 + 1 < w5.heap.size := (HM6.out.get 4 rfl).2.lt
        obtain ⟨s0, s1, s2, s3, s4, sf⟩ := blk5 (HM6.out.get 2 rfl).2
        have t1 : w3.heap.size < w5.heap.size := (HM6.out.get 2 rfl).2.lt
        have hn1 : w3.heap.size ≠ w.heap.size + 1 + 1 := (HM6.out.get 2 rfl).2.ne_ (HM6.out.get 4 rfl).2 (by decide)
        have hn2 : w.heap.size + 1 + 1 ≠ w3.heap.size := fun e => hn1 e.symm
        go_upto_region 21 with fail
        go_region
        have HM7 := (HM6.out.set6 4 rfl (.slice (some ⟨gb', 0, none⟩) q.c.length q.c.length) (.int .i64 z0) (.int .i64 z1) (.int .i64 z2) (.int .i64 z3) (.int .u32 z4)).drew
        generalize World.drew _ = X at *
        have HM7 := Lib.hid HM7
        clear r0 r1 r2 r3 r4 r5 r6 r7 rf t2 s0 s1 s2 s3 s4 sf t1 hn1 hn2
        obtain ⟨r0, r1, r2, r3, r4, r5, r6, r7, rf⟩ := blk8 (HM7.out.get 4 rfl).2
        obtain ⟨s0, s1, s2, s3, s4, s5, s6, s7, sf⟩ := blk8 (HM7.out.get 5 rfl).2
        have t2 : w.heap.size + 1 + 1 < X.heap.size := (HM7.out.get 4 rfl).2.lt
        have t1 : w.heap.size + 1 < X.heap.size := (HM7.out.get 5 rfl).2.lt
        have HM8 := HM7.out.set8 5 rfl (.slice AC i cC) (.slice AE (i + 1) cE) (.slice (some ⟨gb', 0, none⟩) q.c.length q.c.length) (.int .i64 z0) (.int .i64 z1) (.int .i64 z2) (.int .i64 z3) (.int .u32 z4)
        have HM8 := Lib.hid HM8
        go_wp2
        have hM8 := HM8.out
        clear HM8
        generalize World.setCell _ _ _ = Y at *
        have HM8 := Lib.hid hM8
        clear hM8 r0 r1 r2 r3 r4 r5 r6 r7 rf s0 s1 s2 s3 s4 s5 s6 s7 sf t1 t2
        obtain ⟨s0, s1, s2, s3, s4, s5, s6, s7, sf⟩ := blk8 (HM8.out.get 5 rfl).2
        have e1 : accA q q.L.length = #[.int .i64 z0, .int .i64 z1, .int .i64 z2, .int .i64 z3, .int .u32 z4] := by rw [← HIL.out, HZA.out]
        refine bodyPost_ret (v := .tuple #[trV gb' q.c.length (.slice AC i cC) (.slice AE (i + 1) cE) #[.int .i64 z0, .int .i64 z1, .int .i64 z2, .int .i64 z3, .int .u32 z4], .int .i64 0]) ?_ rfl ?_
        · simp [results, Tryz.results42, go_sem, trV, s0, s1, s2, s3, s4, s5, s6, s7]
        · have hMF : Mem w0 (cR w0.heap.size 34 1 (.slice AE (i + 1) cE) (i + 1) (uv (EL q.p q.g q.c q.L (i + 1))) :: cR w0.heap.size 34 1 (.slice AC i cC) i (uv (q.L.take i)) :: cs2) Y := (((((HM8.out.erase 2).erase 2).erase 2).erase 2).erase 2).erase 2
          refine ⟨gb', vs2, .slice AC i cC, .slice AE (i + 1) cE, cs2, by rw [e1], ?_, by rw [← HIL.out]; exact HJr.out, ?_, HM8.out.get 7 rfl⟩
          · have h := (HCV.out.same (HM8.out.get 3 rfl)).lo HLO.out
            rw [HIL.out, Cx_end] at h
            exact h
          · rw [← HIL.out]
            have e2 : q.L.take i = q.L := by rw [HIL.out, List.take_length]
            rw [e2] at hMF
            exact hMF
      · have HM5 := Lib.hid HMr.out
        have k1 : ¬ (i : Int) < (q.len : Int) := by omega
        obtain ⟨en, hen⟩ : ∃ en, Ex_ q.p q.g q.c q.L i = en := ⟨_, rfl⟩
        rw [hen]
        clear hen hil dF HMr
        obtain ⟨z0, z1, z2, z3, z4, hz⟩ := accA_ex q i
        have HM6 := Lib.hid (HM5.out.blkc 2 rfl hz)
        have HZA := Lib.hid hz
        clear HM5 hz
        obtain ⟨r0, r1, r2, r3, r4, r5, r6, r7, rf⟩ := blk8 (HM6.out.get 4 rfl).2
        have t2 : w.heap.size + 1 + 1 < wr.heap.size := (HM6.out.get 4 rfl).2.lt
        obtain ⟨s0, s1, s2, s3, s4, sf⟩ := blk5 (HM6.out.get 2 rfl).2
        have t1 : w3.heap.size < wr.heap.size := (HM6.out.get 2 rfl).2.lt
        have hn1 : w3.heap.size ≠ w.heap.size + 1 + 1 := (HM6.out.get 2 rfl).2.ne_ (HM6.out.get 4 rfl).2 (by decide)
        have hn2 : w.heap.size + 1 + 1 ≠ w3.heap.size := fun e => hn1 e.symm
        go_upto_region 21 with fail
        go_region
        have HM7 := (HM6.out.set6 4 rfl (.slice (some ⟨gb', 0, none⟩) q.c.length q.c.length) (.int .i64 z0) (.int .i64 z1) (.int .i64 z2) (.int .i64 z3) (.int .u32 z4)).drew
        generalize World.drew _ = X at *
        have HM7 := Lib.hid HM7
        clear r0 r1 r2 r3 r4 r5 r6 r7 rf t2 s0 s1 s2 s3 s4 sf t1 hn1 hn2
        obtain ⟨r0, r1, r2, r3, r4, r5, r6, r7, rf⟩ := blk8 (HM7.out.get 4 rfl).2
        obtain ⟨s0, s1, s2, s3, s4, s5, s6, s7, sf⟩ := blk8 (HM7.out.get 5 rfl).2
        have t2 : w.heap.size + 1 + 1 < X.heap.size := (HM7.out.get 4 rfl).2.lt
        have t1 : w.heap.size + 1 < X.heap.size := (HM7.out.get 5 rfl).2.lt
        have HM8 := HM7.out.set8 5 rfl (.slice AC i cC) (.slice AE (i + 1) cE) (.slice (some ⟨gb', 0, none⟩) q.c.length q.c.length) (.int .i64 z0) (.int .i64 z1) (.int .i64 z2) (.int .i64 z3) (.int .u32 z4)
        have HM8 := Lib.hid HM8
        go_wp2
        have hM8 := HM8.out
        clear HM8
        generalize World.setCell _ _ _ = Y at *
        have HM8 := Lib.hid hM8
        clear hM8 r0 r1 r2 r3 r4 r5 r6 r7 rf s0 s1 s2 s3 s4 s5 s6 s7 sf t1 t2
        obtain ⟨s0, s1, s2, s3, s4, s5, s6, s7, sf⟩ := blk8 (HM8.out.get 5 rfl).2
        have e1 : accA q q.L.length = #[.int .i64 z0, .int .i64 z1, .int .i64 z2, .int .i64 z3, .int .u32 z4] := by rw [← HIL.out, HZA.out]
        refine bodyPost_ret (v := .tuple #[trV gb' q.c.length (.slice AC i cC) (.slice AE (i + 1) cE) #[.int .i64 z0, .int .i64 z1, .int .i64 z2, .int .i64 z3, .int .u32 z4], .int .i64 0]) ?_ rfl ?_
        · simp [results, Tryz.results42, go_sem, trV, s0, s1, s2, s3, s4, s5, s6, s7]
        · have hMF : Mem w0 (cR w0.heap.size 34 1 (.slice AE (i + 1) cE) (i + 1) (uv (EL q.p q.g q.c q.L (i + 1))) :: cR w0.heap.size 34 1 (.slice AC i cC) i (uv (q.L.take i)) :: cs2) Y := (((((HM8.out.erase 2).erase 2).erase 2).erase 2).erase 2).erase 2
          refine ⟨gb', vs2, .slice AC i cC, .slice AE (i + 1) cE, cs2, by rw [e1], ?_, by rw [← HIL.out]; exact HJr.out, ?_, HM8.out.get 7 rfl⟩
          · have h := (HCV.out.same (HM8.out.get 3 rfl)).lo HLO.out
            rw [HIL.out, Cx_end] at h
            exact h
          · rw [← HIL.out]
            have e2 : q.L.take i = q.L := by rw [HIL.out, List.take_length]
            rw [e2] at hMF
            exact hMF
end Go.Proofs.YtdfklagiafmoiaaGreatDoor
