/- Lemmas of this seat, laid together out of 5 texts: no statement of the seat is proved here. -/
import Derived.Maps.RangeWalk
import Derived.WideKeyPair
import Derived.Test.YtdfklagiafmoiaaGreatDoorG16
/- A map from pairs of nodes to weights, of the call's own. -/
namespace Go.Proofs.YtdfklagiafmoiaaGreatDoor
open Go.RowKit
open Go.Maps (Keyed IsMap)

def kA (a b : Int) : Lit := .string (keyBytes [.int .i64 a, .int .i64 b])
def pV (a b : Int) : Value := .agg #[.int .i64 a, .int .i64 b]
def I64 (a : Int) : Prop := -9223372036854775808 ≤ a ∧ a ≤ 9223372036854775807
set_option maxRecDepth 100000 in
theorem Tryz.arr2 : Go.WideMaps.ArrKey Tryz.prog 167 3 2 := ⟨Tryz.underlying167, by kernel_rfl, by kernel_rfl, by kernel_rfl⟩
theorem Tryz.keyA : Keyed Tryz.prog 167 := Keyed.of_law Tryz.arr2.law
set_option maxRecDepth 100000 in
theorem Tryz.mapAI : Tryz.prog.underlying 210 = some (.map 167 3) := Tryz.underlying210
theorem Tryz.zeroI (w : World) : (zeroValue 3).run Tryz.prog w = .ok (.int .i64 0) w := by kernel_rfl
set_option maxRecDepth 100000 in
theorem Tryz.typesSize : ∃ m, Tryz.prog.types.size = m + 1 := by
  have h : 0 < Tryz.prog.types.size := of_decide_eq_true (by kernel_rfl)
  exact ⟨Tryz.prog.types.size - 1, by omega⟩
theorem kA_key {a b : Int} (ha : I64 a) (hb : I64 b) : keyOf Tryz.prog 167 (pV a b) = some (kA a b) := Go.WideMaps.keyOf_pair Tryz.arr2 Tryz.underlying3 Tryz.typesSize (WalkArith.wf_i64 ha) (WalkArith.wf_i64 hb)
theorem kA_inj {a b c d : Int} (ha : I64 a) (hb : I64 b) (hc : I64 c) (hd : I64 d) (h : kA a b = kA c d) : a = c ∧ b = d := by
  have h1 := kA_key ha hb
  rw [h] at h1
  have h2 := Tryz.keyA.inj h1 (kA_key hc hd)
  unfold pV at h2
  simp at h2
  exact h2
theorem kA_lit {a b : Int} : WideAt.IsKeyLit (kA a b) := by unfold kA; trivial
/-- what has been laid down when the link i of node v is next -/
def Pre (v i a j : Nat) : Prop := a < v ∨ a = v ∧ j < i
structure Wt (P : List (List Tm)) (v i : Nat) (D : DataW Unit) : Prop where
  has : ∀ kl, Go.Maps.has D kl = true → ∃ (a j : Nat) (ha : a < P.length) (hj : j < P[a].length), Pre v i a j ∧ kl = kA a P[a][j].1
  at_ : ∀ (a j : Nat) (ha : a < P.length) (hj : j < P[a].length), Pre v i a j → ∀ z, D.atKey (kA a P[a][j].1) z = .lit (.int .i64 P[a][j].2)
theorem Wt.start (P : List (List Tm)) : Wt P 0 0 (.map []) := ⟨fun kl h => by simp [Go.Maps.has] at h, fun a j ha hj h => by unfold Pre at h; omega⟩
theorem Wt.next {P : List (List Tm)} {v i : Nat} {D : DataW Unit} (h : Wt P v i D) (hv : v < P.length) (hi : P[v].length ≤ i) : Wt P (v + 1) 0 D := by
  refine ⟨fun kl hk => ?_, fun a j ha hj hp => ?_⟩
  · obtain ⟨a, j, ha, hj, hp, e⟩ := h.has kl hk
    exact ⟨a, j, ha, hj, by unfold Pre at *; omega, e⟩
  · refine h.at_ a j ha hj ?_
    unfold Pre at *
    rcases (by omega : a < v ∨ a = v) with h1 | rfl
    · exact .inl h1
    · exact .inr ⟨rfl, by omega⟩
/-- links to nodes that differ, of a node -/
structure LnOk (P : List (List Tm)) : Prop where
  n : P.length ≤ 1000
  to_ : ∀ (a j : Nat) (ha : a < P.length) (hj : j < P[a].length), 0 ≤ P[a][j].1 ∧ P[a][j].1 < P.length
  ne : ∀ (a j k : Nat) (ha : a < P.length) (hj : j < P[a].length) (hk : k < j), P[a][k].1 ≠ P[a][j].1
theorem LnOk.i64 {P : List (List Tm)} (h : LnOk P) {a j : Nat} (ha : a < P.length) (hj : j < P[a].length) : I64 (a : Int) ∧ I64 P[a][j].1 := by
  have := h.to_ a j ha hj
  have := h.n
  unfold I64; omega
theorem Wt.new {P : List (List Tm)} {v i : Nat} {D : DataW Unit} (h : Wt P v i D) (hP : LnOk P) (hv : v < P.length) (hi : i < P[v].length) : Go.Maps.has D (kA v P[v][i].1) = false := by
  cases hh : Go.Maps.has D (kA v P[v][i].1)
  · rfl
  · obtain ⟨a, j, ha, hj, hp, e⟩ := h.has _ hh
    obtain ⟨e1, e2⟩ := kA_inj (hP.i64 hv hi).1 (hP.i64 hv hi).2 (hP.i64 ha hj).1 (hP.i64 ha hj).2 e
    obtain rfl : v = a := by omega
    unfold Pre at hp
    exact absurd e2.symm (hP.ne v i j hv hi (by omega))
theorem Wt.step {P : List (List Tm)} {v i : Nat} {D : DataW Unit} (h : Wt P v i D) (hD : IsMap D) (hP : LnOk P) (hv : v < P.length) (hi : i < P[v].length) : Wt P v (i + 1) (D.put (kA v P[v][i].1) (.lit (.int .i64 P[v][i].2))) := by
  refine ⟨fun kl hk => ?_, fun a j ha hj hp z => ?_⟩
  · by_cases e : kl = kA v P[v][i].1
    · exact ⟨v, i, hv, hi, .inr ⟨rfl, by omega⟩, e⟩
    · rw [Go.Maps.has_put_other e] at hk
      obtain ⟨a, j, ha, hj, hp, e⟩ := h.has _ hk
      exact ⟨a, j, ha, hj, by unfold Pre at *; omega, e⟩
  · by_cases e : a = v ∧ j = i
    · obtain ⟨rfl, rfl⟩ := e
      rw [Go.Maps.atKey_put_same hD kA_lit]
    · have hp' : Pre v i a j := by unfold Pre at *; omega
      have hne : kA a P[a][j].1 ≠ kA v P[v][i].1 := by
        intro e2
        obtain ⟨e1, e2⟩ := kA_inj (hP.i64 ha hj).1 (hP.i64 ha hj).2 (hP.i64 hv hi).1 (hP.i64 hv hi).2 e2
        obtain rfl : a = v := by omega
        unfold Pre at hp'
        exact absurd e2 (hP.ne a i j hv hi (by omega))
      rw [Go.Maps.atKey_put_other hne]
      exact h.at_ a j ha hj hp' z
def WMap (w : World) (g n : Nat) (P : List (List Tm)) (v i : Nat) : Prop := ∃ D, Wt P v i D ∧ w.ownsMap Tryz.prog 167 (plainElem Tryz.prog 3) g n D
theorem WMap.kept {w w' : World} {row : Option Nat} {g n : Nat} {P : List (List Tm)} {v i : Nat} (h : WMap w g n P v i) (hg : w.grownBy w' row) (hne : some g ≠ row) : WMap w' g n P v i := let ⟨D, h1, h2⟩ := h; ⟨D, h1, h2.kept hg hne⟩
def cW (B g n : Nat) (P : List (List Tm)) (v i : Nat) : Ch B :=
  ⟨fun w => B ≤ g ∧ WMap w g n P v i, fun b => b = g, fun h hg hr => ⟨h.1, h.2.kept hg (fun e => hr g e.symm rfl)⟩, fun h e => by subst e; exact ⟨h.1, let ⟨_, _, h2⟩ := h.2; h2.lt⟩⟩
/-- the look-up of a pair that has not been laid down -/
theorem WMap.no {w : World} {g n : Nat} {P : List (List Tm)} {v i : Nat} (h : WMap w g n P v i) (hP : LnOk P) (hv : v < P.length) (hi : i < P[v].length) {a b : Int} (ha : a = v) (hb : b = P[v][i].1) :
    ∃ c : Int, (Instr.lookup 210 (.map (some g)) (.agg #[.int .i64 a, .int .i64 b]) true).run Tryz.prog w = .ok (.tuple #[.int .i64 c, .bool false]) w := by
  subst ha hb
  obtain ⟨D, hs, ho⟩ := h
  obtain ⟨u, ps, hr, hu⟩ := ho.look_ok Tryz.keyA Tryz.mapAI (Tryz.zeroI w) (plainElem_int Tryz.underlying3 (by decide)) (kA_key (hP.i64 hv hi).1 (hP.i64 hv hi).2)
  obtain ⟨c, rfl, _, _⟩ := plainElem_int_inv Tryz.underlying3 hu
  rw [hs.new hP hv hi] at hr
  exact ⟨c, hr⟩
theorem WMap.put {w : World} {g n : Nat} {P : List (List Tm)} {v i : Nat} (h : WMap w g n P v i) (hn : n < maxLen) (hP : LnOk P) (hv : v < P.length) (hi : i < P[v].length) (hw : I64 P[v][i].2) {a b c : Int} (ha : a = v) (hb : b = P[v][i].1) (hc : c = P[v][i].2) :
    ∃ w', (Instr.mapUpdate 210 (.map (some g)) (.agg #[.int .i64 a, .int .i64 b]) (.int .i64 c)).run Tryz.prog w = .ok () w' ∧ WMap w' g (n + 1) P v (i + 1) ∧ w.grownBy w' (some g) := by
  subst ha hb hc
  obtain ⟨D, hs, ho⟩ := h
  obtain ⟨w', hr, ho', hg⟩ := ho.update Tryz.keyA Tryz.mapAI hn (kA_key (hP.i64 hv hi).1 (hP.i64 hv hi).2) (plainElem_int Tryz.underlying3 (WalkArith.wf_i64 hw))
  exact ⟨w', hr, ⟨_, hs.step ho.isMap hP hv hi, ho'⟩, hg⟩
section
variable {w0 w : World} {l : List (Ch w0.heap.size)}
theorem Mem.wmap (h : Mem w0 l w) (P : List (List Tm)) : Mem w0 (cW w0.heap.size w.heap.size 0 P 0 0 :: l) (w.alloc (.map #[] 0)) :=
  h.push (galloc _ _) ⟨h.size, _, Wt.start P, World.ownsMap_made _ _ _ _⟩ (fun _g e => Nat.le_of_eq (Eq.symm e))
set_option maxRecDepth 100000 in
theorem Mem.wput (h : Mem w0 l w) (x : Nat) {g n : Nat} {P : List (List Tm)} {v i : Nat} (hx : l[x]? = some (cW w0.heap.size g n P v i)) (hn : n < maxLen) (hP : LnOk P) (hv : v < P.length) (hi : i < P[v].length) (hw : I64 P[v][i].2) {a b c : Int} (ha : a = v) (hb : b = P[v][i].1) (hc : c = P[v][i].2) :
    ∃ w', (Instr.mapUpdate 210 (.map (some g)) (.agg #[.int .i64 a, .int .i64 b]) (.int .i64 c)).run Tryz.prog w = .ok () w' ∧ Mem w0 (l.set x (cW w0.heap.size g (n + 1) P v (i + 1))) w' := by
  have hQ := h.get x hx
  obtain ⟨w', hr, ho, hg⟩ := hQ.2.put hn hP hv hi hw ha hb hc
  exact ⟨w', hr, h.step x hx hg (fun b e => by injection e with e; exact e.symm) ⟨hQ.1, ho⟩ (fun b e => .inl e)⟩
theorem Mem.wnext (h : Mem w0 l w) (x : Nat) {g n : Nat} {P : List (List Tm)} {v i : Nat} (hx : l[x]? = some (cW w0.heap.size g n P v i)) (hv : v < P.length) (hi : P[v].length ≤ i) : Mem w0 (l.set x (cW w0.heap.size g n P (v + 1) 0)) w := by
  have hQ := h.get x hx
  exact h.step (row := none) x hx (gbelow (Below.refl _ _)) (fun b e => by cases e) ⟨hQ.1, let ⟨D, h1, h2⟩ := hQ.2; ⟨D, h1.next hv hi, h2⟩⟩ (fun b e => .inl e)
theorem Mem.wroom (h : Mem w0 l w) (x : Nat) {g n n' : Nat} {P : List (List Tm)} {v i : Nat} (hx : l[x]? = some (cW w0.heap.size g n P v i)) (hn : n ≤ n') : Mem w0 (l.set x (cW w0.heap.size g n' P v i)) w := by
  have hQ := h.get x hx
  exact h.step (row := none) x hx (gbelow (Below.refl _ _)) (fun b e => by cases e) ⟨hQ.1, let ⟨D, h1, h2⟩ := hQ.2; ⟨D, h1, h2.mono hn⟩⟩ (fun b e => .inl e)
end
/-- a step of the range over the map: an entry with its shape -/
theorem next_sym {w : World} {ops : Array Oper} {rest : List Oper} {o : Oper} {a : Act} {Q : Exit → Act → World → Prop} (hg : o.guard = none) (it : Operand) (hop : o.op = Op.next it false) (b r n : Nat) (D : DataW Unit) (left : Lit → Bool) (cnt : Nat)
    (hit : a.eval it = .pointer (some ⟨r, 0, none⟩)) (h : w.ranges Tryz.prog 167 (plainElem Tryz.prog 3) b r n D left cnt) (G : Int → Int → Int → Prop)
    (hs : ∀ kl, left kl = true → ∃ x y c : Int, I64 x ∧ I64 y ∧ kl = kA x y ∧ (∀ z, D.atKey kl z = .lit (.int .i64 c)) ∧ G x y c)
    (hDone : wpList Tryz.prog ops Q rest (a.put o.dst (.tuple #[.bool false])) w)
    (hMore : ∀ (x y c : Int) (w' : World) (cnt' : Nat) (left' : Lit → Bool), G x y c → w'.ranges Tryz.prog 167 (plainElem Tryz.prog 3) b r n D left' cnt' → (∀ kl, left' kl = true → left kl = true) → cnt' < cnt → w.grownBy w' (some r) → w'.heap.size = w.heap.size →
      (Instr.entry (.pointer (some ⟨r, 0, none⟩))).run Tryz.prog w' = .ok (.tuple #[.agg #[.int .i64 x, .int .i64 y], .int .i64 c]) w' → wpList Tryz.prog ops Q rest (a.put o.dst (.tuple #[.bool true, .agg #[.int .i64 x, .int .i64 y], .int .i64 c])) w') :
    wpList Tryz.prog ops Q (o :: rest) a w :=
  wpList_next_ranges w hg it hop 167 Tryz.keyA (plainElem Tryz.prog 3) (fun v : Value => v) (Value.int .i64) (fun key _ _ => ⟨key, rfl⟩) (fun v y hv => by obtain ⟨c, rfl, _⟩ := plainElem_int_inv Tryz.underlying3 hv; exact ⟨c, rfl⟩)
    b r n D left cnt hit h (fun _ _ => hDone) (fun key c kl y w' cnt' hkey hlk hv hat hrg hlt hgr hsz hen => by
      obtain ⟨p, q, c', hp, hq, rfl, hc, hG⟩ := hs kl hlk
      obtain rfl : key = pV p q := Tryz.keyA.inj hkey (kA_key hp hq)
      obtain ⟨c2, ec, rfl, _⟩ := plainElem_int_inv Tryz.underlying3 hv
      cases ec
      have e := (hat .nil).symm.trans (hc .nil)
      have e2 : c = c' := by simpa using e
      subst e2
      exact hMore p q c w' cnt' _ hG hrg (fun kl hk => by simp at hk; exact hk.1) hlt hgr hsz hen)
end Go.Proofs.YtdfklagiafmoiaaGreatDoor

/- The program's look at the links of a graph. -/
namespace Go.Proofs.YtdfklagiafmoiaaGreatDoor
open Go.RowKit
open Go.Maps (Keyed IsMap)

structure SyOk (P : List (List Tm)) : Prop where
  ln : LnOk P
  len : ∀ (a : Nat) (ha : a < P.length), P[a].length ≤ 1000
  w : ∀ (a j : Nat) (ha : a < P.length) (hj : j < P[a].length), 1 ≤ P[a][j].2 ∧ P[a][j].2 ≤ 15
  self : ∀ (a j : Nat) (ha : a < P.length) (hj : j < P[a].length), P[a][j].1 ≠ a
  sym : ∀ (a j : Nat) (ha : a < P.length) (hj : j < P[a].length), ∃ (u k : Nat) (hu : u < P.length) (hk : k < P[u].length), P[a][j].1 = u ∧ P[u][k].1 = a ∧ P[u][k].2 = P[a][j].2
def SmRelO (w : World) (g : Nat) (P : List (List Tm)) (i : Value) (wr : World) : Prop := ∃ v : Nat, i = .int .i64 v ∧ v ≤ P.length ∧ Mem w [cW w.heap.size g (v * 1001) P v 0] wr
def SmRelI (w : World) (g : Nat) (P : List (List Tm)) (v n : Nat) (j : Value) (wr : World) : Prop := ∃ i : Nat, j = .int .i64 i ∧ i ≤ n ∧ Mem w [cW w.heap.size g (v * 1001 + i) P v i] wr
def EntG (P : List (List Tm)) (x y c : Int) : Prop := ∃ (a j : Nat) (ha : a < P.length) (hj : j < P[a].length), x = a ∧ y = P[a][j].1 ∧ c = P[a][j].2
def RgRel (w : World) (g rb n : Nat) (D : DataW Unit) (_x : Value) (wr : World) : Prop := ∃ (left : Lit → Bool) (cnt : Nat), wr.ranges Tryz.prog 167 (plainElem Tryz.prog 3) g rb n D left cnt ∧ (∀ kl, left kl = true → Go.Maps.has D kl = true) ∧ Below w.heap.size w wr
theorem Wt.entry {P : List (List Tm)} {D : DataW Unit} (h : Wt P P.length 0 D) (hP : SyOk P) {left : Lit → Bool} (hl : ∀ kl, left kl = true → Go.Maps.has D kl = true) (kl : Lit) (hk : left kl = true) : ∃ x y c : Int, I64 x ∧ I64 y ∧ kl = kA x y ∧ (∀ z, D.atKey kl z = .lit (.int .i64 c)) ∧ EntG P x y c := by
  obtain ⟨a, j, ha, hj, hp, e⟩ := h.has kl (hl kl hk)
  exact ⟨a, P[a][j].1, P[a][j].2, (hP.ln.i64 ha hj).1, (hP.ln.i64 ha hj).2, e, fun z => by rw [e]; exact h.at_ a j ha hj (.inl ha) z, a, j, ha, hj, rfl, rfl, rfl⟩
/-- the equal link at the other end -/
theorem Wt.back {w : World} {P : List (List Tm)} {D : DataW Unit} {g n : Nat} (h : Wt P P.length 0 D) (hP : SyOk P) (ho : w.ownsMap Tryz.prog 167 (plainElem Tryz.prog 3) g n D) {x y c : Int} (hG : EntG P x y c) :
    (Instr.lookup 210 (.map (some g)) (.agg #[.int .i64 y, .int .i64 x]) false).run Tryz.prog w = .ok (.int .i64 c) w := by
  obtain ⟨a, j, ha, hj, rfl, rfl, rfl⟩ := hG
  obtain ⟨u, k, hu, hk, e1, e2, e3⟩ := hP.sym a j ha hj
  obtain ⟨c, hr, hat, _⟩ := ho.lookup_int Tryz.keyA Tryz.mapAI Tryz.underlying3 (Tryz.zeroI w) (key := pV (P[a][j].1) (a : Int)) (kA_key (hP.ln.i64 ha hj).2 (hP.ln.i64 ha hj).1)
  have h1 := h.at_ u k hu hk (.inl hu) (.lit (.int .i64 0))
  rw [e1, ← e2] at hat
  rw [h1, e3] at hat
  have e4 : P[a][j].2 = c := by simpa using hat
  subst e4
  exact hr
set_option maxRecDepth 100000 in
set_option maxHeartbeats 16000000 in
theorem symm_p (P : List (List Tm)) (hP : SyOk P) (A : Option Addr) (c : Nat) (w : World) (h : PortsAt w w.heap.size (.slice A P.length c) P) :
    Calls Tryz.prog 131 #[.slice A P.length c] w (YesPost w) := by
  have H := Lib.hid h
  have HP := Lib.hid hP
  have hPn := hP.ln.n
  have HM0 := Lib.hid ((Mem.start w).wmap P)
  clear h hP
  have hmm := @run_makeMap Tryz.prog
  go_enter Tryz.func131, Tryz.ntmps131
  go_wp2_with fail
  clear hmm
  go_loopw [16] (SmRelO w w.heap.size P) (fun i _ => P.length - (intOf i).toNat)
  case atStart => exact ⟨0, rfl, Nat.zero_le _, by rw [Nat.zero_mul]; exact HM0.out⟩
  case round =>
    obtain ⟨v, rfl, hv, hM⟩ := hrel
    have HM := Lib.hid hM
    clear hM HM0
    by_cases hlt : v < P.length
    · obtain ⟨ap, Ae, ce, hA, hbp, d0w, he⟩ := row_at H.out hlt
      subst hA
      have hbp' : (ap.add v).block < w.heap.size := by rw [block_of_add]; exact hbp
      have hwz := HM.out.size
      have hap : ap.block < wr.heap.size := by omega
      have d0 := (HM.out.bel.cell (p := ap.add v) hbp').trans d0w
      obtain ⟨row, hrow⟩ : ∃ row, P[v]'hlt = row := ⟨_, rfl⟩
      rw [hrow] at d0 he
      have HROW := Lib.hid (show ∃ h : v < P.length, P[v]'h = row from ⟨hlt, hrow⟩)
      have hrl := HP.out.len v hlt
      rw [hrow] at hrl
      have HLT := Lib.hid hlt
      have k0 : (0 : Int) ≤ (v : Int) := by omega
      have k1 : (v : Int) < (P.length : Int) := by omega
      obtain ⟨rn, hrn⟩ : ∃ rn, row.length = rn := ⟨_, rfl⟩
      have HE := Lib.hid (show PairsAt w w.heap.size (.slice Ae rn ce) row from by rw [← hrn]; exact he)
      rw [hrn] at d0 hrl
      have HRN := Lib.hid hrn
      clear hrow he hrn d0w hbp'
      go_wp2
      go_loopw [23] (SmRelI w w.heap.size P v rn) (fun i _ => rn - (intOf i).toNat)
      case atStart => exact ⟨0, rfl, Nat.zero_le _, HM.out⟩
      case round =>
        obtain ⟨i, rfl, hi, hM⟩ := hrel
        have HMI := Lib.hid hM
        clear hM
        by_cases hlt2 : i < rn
        · have hirow : i < row.length := by rw [HRN.out]; exact hlt2
          obtain ⟨ad, hA, hb, c0, c1⟩ := pair_at (PairsAt.to (Holds_.go HMI.out.bel) HE.out) hirow
          subst hA
          obtain ⟨hvP, hrw⟩ := HROW.out
          subst hrw
          obtain ⟨t0, t1⟩ := HP.out.ln.to_ v i hvP hirow
          obtain ⟨w1, w2⟩ := HP.out.w v i hvP hirow
          have hself := HP.out.self v i hvP hirow
          obtain ⟨y, hy⟩ : ∃ y, (P[v]'hvP)[i].1 = y := ⟨_, rfl⟩
          obtain ⟨wt, hwt⟩ : ∃ wt, (P[v]'hvP)[i].2 = wt := ⟨_, rfl⟩
          rw [hy] at c0 t0 t1 hself
          rw [hwt] at c1 w1 w2
          have HMB := Lib.hid ((HMI.out.new 135 #[.int .i64 y, .int .i64 wt]).new 167 #[.int .i64 (v : Int), .int .i64 y])
          obtain ⟨cz, hlk⟩ := WMap.no (HMB.out.get 2 rfl).2 HP.out.ln hvP hirow (a := (v : Int)) (b := y) rfl hy.symm
          obtain ⟨w3, hup, hM3⟩ := HMB.out.wput 2 rfl (by unfold maxLen; omega) HP.out.ln hvP hirow (by rw [hwt]; unfold I64; omega) (a := (v : Int)) (b := y) (c := wt) rfl hy.symm hwt.symm
          have HM3 := Lib.hid hM3
          have e1 : ¬ y < 0 := by omega
          have e2 : ¬ (P.length : Int) ≤ y := by omega
          have e3 : (y == (v : Int)) = false := beq_eq_false_iff_ne.2 hself
          have e4 : ¬ wt < 1 := by omega
          have e5 : ¬ 15 < wt := by omega
          have i0 : (0 : Int) ≤ (i : Int) := by omega
          have i1 : (i : Int) < (rn : Int) := by omega
          have hbe : (ad.add (i * 2)).block < wr.heap.size := by rw [block_of_add]; exact hb
          have HLT2 := Lib.hid hlt2
          clear hM3 hy hwt hirow hself t0 t1 w1 w2 d0
          go_wp2
          go_roundw
          case rel => exact ⟨i + 1, by go_num, HLT2.out, (HM3.out.erase 0).erase 0⟩
          case measure => simp [intOf]; omega
        · obtain rfl : i = rn := by omega
          go_wp2
          go_roundw
          case rel =>
            obtain ⟨hvP, hrw⟩ := HROW.out
            exact ⟨v + 1, by go_num, HLT.out, (HMI.out.wnext 0 rfl hvP (by rw [hrw, HRN.out]; exact Nat.le_refl _)).wroom 0 rfl (by omega)⟩
          case measure => simp [intOf]; omega
    · obtain rfl : v = P.length := by omega
      obtain ⟨D, hwt, ho⟩ := (HM.out.get 0 rfl).2
      obtain ⟨w0, hrun, hrg0, hg0, hs0⟩ := ho.range Tryz.keyA Tryz.mapAI
      have HB0 := Lib.hid (HM.out.bel.grown hg0 HM.out.size (fun k hk => by cases hk))
      have HRG0 := Lib.hid hrg0
      have HWT := Lib.hid hwt
      have hr0 : w.heap.size ≤ wr.heap.size := HM.out.size
      obtain ⟨rb, hrb⟩ : ∃ rb, wr.heap.size = rb := ⟨_, rfl⟩
      rw [hrb] at hrun hr0 HRG0
      clear hwt ho hrg0 hg0 hrb
      go_wp2_with fail
      go_loopw [12] (RgRel w w.heap.size rb (P.length * 1001) D) (fun _ wr => wr.rangeLeft w.heap.size rb)
      case atStart => exact ⟨_, _, HRG0.out, fun _ h => h, HB0.out⟩
      case round =>
        obtain ⟨left, cnt, hrg, hlf, hbel⟩ := hrel
        have HRG := Lib.hid hrg
        have HLF := Lib.hid hlf
        have HB := Lib.hid hbel
        clear hrg hlf hbel HRG0 HB0 hrun hs0
        go_upto_region 21 with (at_next; refine next_sym rfl _ rfl w.heap.size rb _ D left cnt rfl HRG.out (EntG P) (HWT.out.entry HP.out HLF.out) ?_ ?_)
        · go_ret
          exact ⟨rfl, HB.out⟩
        · intro x y ct w1 cnt1 left1 hG hrg1 hl1 hlt1 hg1 hs1 hen
          have hback := HWT.out.back HP.out (hrg1.owns.alloc (.cells #[.int .i64 x, .int .i64 y] 167)) hG
          have HRG1 := Lib.hid (hrg1.alloc (.cells #[.int .i64 x, .int .i64 y] 167))
          have HL1 := Lib.hid hl1
          have HB1 := Lib.hid (HB.out.grown hg1 HB.out.size (fun k hk => by injection hk with hk; omega))
          have HB2 := Lib.hid (balloc HB1.out (.cells #[.int .i64 x, .int .i64 y] 167))
          have HLT1 := Lib.hid hlt1
          clear hG hrg1 hl1 hg1 hs1 hlt1
          go_wp2
          go_roundw
          case rel => exact ⟨left1, cnt1, HRG1.out, fun kl h => HLF.out kl (HL1.out kl h), HB2.out⟩
          case measure => rw [HRG1.out.left_eq, HRG.out.left_eq]; exact HLT1.out
end Go.Proofs.YtdfklagiafmoiaaGreatDoor

/- The program's Valid of a graph; the set of all nodes. -/
namespace Go.Proofs.YtdfklagiafmoiaaGreatDoor
open Go.RowKit

theorem portTo_inv {l : List Tm} {u : Int} {k : Nat} (hk : k < l.length) (h : portTo l u = k) : l[k].1 = u := by
  unfold portTo at h
  split at h
  · rename_i hx
    have := List.findIdx_getElem (w := hx)
    have e : l.findIdx (fun t => t.1 == u) = k := by omega
    simp only [e] at this
    simpa using this
  · omega
theorem GrOk.sy {g : Gr} (h : GrOk g) : SyOk g.ports := by
  have hn := h.hi
  have hl := h.len
  have hk : ∀ (a : Nat) (ha : a < g.ports.length), g.ports[a].length < g.ports.length ∧ LkOk g.ports.length a g.ports[a] g.ports[a].length := fun a ha => by
    obtain ⟨_, _, _, h2, h3, _⟩ := h.ids a ha
    exact ⟨h2, h3⟩
  refine ⟨⟨by omega, fun a j ha hj => ?_, fun a j k ha hj hk' => ?_⟩, fun a ha => ?_, fun a j ha hj => ?_, fun a j ha hj => ?_, fun a j ha hj => ?_⟩
  · have := ((hk a ha).2 j hj hj).1; omega
  · exact ((hk a ha).2 j hj hj).2.2.2 k (by omega) hk'
  · have := (hk a ha).1; omega
  · exact ((hk a ha).2 j hj hj).2.2.1
  · exact ((hk a ha).2 j hj hj).2.1
  · obtain ⟨_, _, u, k, hu, hk, e1, e2, e3⟩ := h.sym a j ha hj
    exact ⟨u, k, hu, hk, e1, portTo_inv hk e2, e3⟩
theorem gr_new {g : Gr} (h : GrOk g) : ∀ j (hj : j < g.ids.length), ∀ m (hm : m < g.ids.length), m < j → g.ids[m] ≠ g.ids[j] := by
  intro j hj m hm hmj
  obtain ⟨_, _, _, _, _, h4⟩ := h.ids j (by rw [← h.len]; exact hj)
  exact h4 m hm hmj
set_option maxRecDepth 100000 in
set_option maxHeartbeats 4000000 in
theorem gvalid_p (g : Gr) (hg : GrOk g) (v : Value) (w : World) (hG : GraphAt w w.heap.size v g) : Calls Tryz.prog 101 #[v] w (YesPost w) := by
  obtain ⟨vi, vq, rfl, hi, hq⟩ := hG
  obtain ⟨Ai, ci, rfl⟩ := ints_sl hi
  obtain ⟨Ap, cp, rfl⟩ := ports_sl hq
  have hlo := hg.lo
  have hhi := hg.hi
  have hlen := hg.len
  obtain ⟨n, hn⟩ : ∃ n, g.ports.length = n := ⟨_, rfl⟩
  have HM0 := Lib.hid ((Mem.start w).new 29 #[.slice Ai g.ids.length ci, .slice Ap g.ports.length cp])
  have HC := Lib.hid (diff_p g.ids (by omega) (gr_ids hg) (gr_new hg) Ai ci _ (IntsAt.to (Holds_.go HM0.out.bel) hi))
  have HS := Lib.hid (fun (X : World) (h : Below w.heap.size w X) => symm_p g.ports hg.sy Ap cp X (PortsAt.to (Holds_.go h) hq))
  rw [hlen, hn] at HM0 HC
  rw [hn] at HS hlo hhi
  rw [hlen, hn]
  clear hi hq hg hlen hn
  have e1 : ¬ (n : Int) < 1 := by omega
  have e2 : ¬ (24 : Int) < (n : Int) := by omega
  go_enter Tryz.func101, Tryz.ntmps101
  go_wp2_with fail
  refine HC.out.mono ?_
  rintro e w1 ⟨rfl, hb1⟩
  have HM1 := Lib.hid (HM0.out.below hb1)
  clear hb1 HM0 HC
  obtain ⟨q0, q1, qf⟩ := blk2 (HM1.out.get 0 rfl).2
  go_wp2_with fail
  refine (HS.out _ HM1.out.bel).mono ?_
  rintro e w2 ⟨rfl, hb2⟩
  have HB := Lib.hid (HM1.out.below hb2).bel
  clear hb2 q0 q1 qf
  go_wp2
  go_ret
  exact ⟨rfl, HB.out⟩
/-- the set of the first n nodes -/
def allSet (n : Nat) : Int := 2 ^ n - 1
set_option maxRecDepth 100000 in
set_option maxHeartbeats 4000000 in
theorem all_p (Ai : Option Addr) (n ci : Nat) (hn : 1 ≤ n) (hn2 : n ≤ 24) (vq : Value) (w : World) : Calls Tryz.prog 41 #[.agg #[.slice Ai n ci, vq]] w fun e w' => e = .returned (.int .u32 (allSet n)) ∧ Below w.heap.size w w' := by
  go_enter Tryz.func41, Tryz.ntmps41
  go_wp2
  go_ret
  refine ⟨?_, ?_⟩
  · have key : ∀ m : Fin 25, ((2:Int)^(m:Nat) % 4294967296 - 1) % 4294967296 = 2^(m:Nat) - 1 := by decide
    have := key ⟨n, by omega⟩
    dsimp only at this
    rw [this]; rfl
  · (repeat (with_reducible first | exact Below.refl _ _ | refine Below.setCell ?_ (by first | exact Nat.le_refl _ | (simp only [World.size_alloc]; omega)) _ | refine below_drewN ?_ _ | refine Below.drew ?_ | refine Below.alloc ?_ (by first | exact Nat.le_refl _ | (simp only [World.size_alloc]; omega)) _ | assumption))
end Go.Proofs.YtdfklagiafmoiaaGreatDoor

/- The greatest of some numbers; the bounds of a variable by the program. -/
namespace Go.Proofs.YtdfklagiafmoiaaGreatDoor
open Go.RowKit

def MxRel (w : World) (l : List Int) (m i : Value) (wr : World) : Prop := wr = w ∧ ∃ k : Nat, i = .int .i64 k ∧ 1 ≤ k ∧ k ≤ l.length ∧ m = .int .i64 (gmax (l.take k))
set_option maxHeartbeats 2000000 in
theorem max_p (l : List Int) (hl : l.length ≤ 1000) (h1 : 1 ≤ l.length) (hb : ∀ x ∈ l, 0 ≤ x ∧ x ≤ 255) (A : Option Addr) (c : Nat) (w : World) (hi : IntsAt w w.heap.size (.slice A l.length c) l) :
    Calls Tryz.prog 133 #[.slice A l.length c] w fun e w' => e = .returned (.int .i64 (gmax l)) ∧ w = w' := by
  obtain ⟨ad, hA, hbl, c0⟩ := int_at hi (k := 0) (by omega)
  subst hA
  have HI := Lib.hid hi
  have h00 : 0 < l.length := by omega
  have hg1 : gmax (l.take 1) = l[0]'h00 := by
    have := gmax_snoc l 0 h00
    rw [this, List.take_zero]
    have := (hb _ (List.getElem_mem h00)).1
    unfold gmax
    simp only [List.foldl_nil]
    omega
  obtain ⟨z0, hz0⟩ : ∃ z, l[0]'h00 = z := ⟨_, rfl⟩
  rw [hz0] at c0 hg1
  have ha0 : ad.add 0 = ad := by cases ad; simp [Addr.add]
  rw [ha0] at c0
  have HG1 := Lib.hid hg1
  have p1 : ¬ (l.length : Int) < 1 := by omega
  have p0 : (0 : Int) < (l.length : Int) := by omega
  clear hi hg1 hz0 hb
  go_enter Tryz.func133, Tryz.ntmps133
  go_wp2
  go_loopw [3, 4] (MxRel w l) (fun _ i _ => l.length - (intOf i).toNat)
  case atStart => exact ⟨rfl, 1, rfl, Nat.le_refl _, h1, val_int HG1.out.symm⟩
  case round =>
    obtain ⟨rfl, k, rfl, hk1, hk, rfl⟩ := hrel
    by_cases hlt : k < l.length
    · obtain ⟨ad, hA, hb, c0⟩ := int_at HI.out hlt
      injection hA with hA
      subst hA
      have HS := Lib.hid (gmax_snoc l k hlt)
      obtain ⟨z, hz⟩ : ∃ z : Int, l[k]'hlt = z := ⟨_, rfl⟩
      rw [hz] at c0 HS
      have HLT := Lib.hid hlt
      clear hz
      generalize gmax (l.take k) = m at *
      have k0 : (0 : Int) ≤ (k : Int) := by omega
      have k2 : (k : Int) < (l.length : Int) := by omega
      go_wp2
      all_goals
        go_roundw
        case rel => exact ⟨rfl, k + 1, by go_num, by omega, HLT.out, val_int (by rw [HS.out]; omega)⟩
        case measure => simp [intOf]; omega
    · obtain rfl : k = l.length := by omega
      have HF := Lib.hid (show gmax (l.take l.length) = gmax l by rw [List.take_length])
      generalize gmax (l.take l.length) = m at *
      go_wp2
      go_ret
      exact ⟨ret_int HF.out, rfl⟩
end Go.Proofs.YtdfklagiafmoiaaGreatDoor

/- The bounds of a variable by the program. -/
namespace Go.Proofs.YtdfklagiafmoiaaGreatDoor
open Go.RowKit

def RgPost (w : World) (r : Int × Int) (e : Ending) (w' : World) : Prop := e = .returned (.tuple #[.int .i64 r.1, .int .i64 r.2]) ∧ Below w.heap.size w w'
section
variable (x : Vr) (hnum : numB x = true) (g : Gr) (hgi : ∀ x ∈ g.ids, 0 ≤ x ∧ x ≤ 255) (hgl : g.ids.length ≤ 30) (hg1 : 1 ≤ g.ids.length) (Ai : Option Addr) (ci : Nat) (Ap : Option Addr) (cp : Nat) (w : World)
include hnum hgi hgl hg1 in
set_option maxRecDepth 100000 in
set_option maxHeartbeats 4000000 in
theorem bd1_p (hk : x.kind = 1) (z : Value) (hi : IntsAt w w.heap.size (.slice Ai g.ids.length ci) g.ids) :
    Calls Tryz.prog 132 #[varV x, graphV g Ai ci Ap cp, z] w (RgPost w (x.lo, x.hi + x.pn * g.ids.length + x.pid * gmax g.ids)) := by
  obtain ⟨n0, n1, n2, n3, n4, n5, -, n7, n8⟩ := numB_int hnum hk
  have HI := Lib.hid hi
  have HGI := Lib.hid hgi
  have hgb := gmax_bd hgi
  have m1 := mul_bd n2 n3 (b := (g.ids.length : Int)) (by omega) (by omega)
  have m2 := mul_bd n4 n5 hgb.1 hgb.2
  obtain ⟨gr, hgr⟩ : ∃ gr, gmax g.ids = gr := ⟨_, rfl⟩
  have HGR := Lib.hid hgr
  rw [hgr] at m2 ⊢
  clear hnum hk hgr hgb hi hgi
  obtain ⟨nm, kd, lo, hi, pn, pid⟩ := x
  dsimp only at *
  unfold varV graphV
  dsimp only
  have HM0 := Lib.hid (((Mem.start w).new 103 #[.string nm, .int .i64 kd, .int .i64 lo, .int .i64 hi, .int .i64 pn, .int .i64 pid]).new 29 #[.slice Ai g.ids.length ci, .slice Ap g.ports.length cp])
  have w1 := IntWalk.i64_in (pn * (g.ids.length : Int)) (by omega)
  have w2 := IntWalk.i64_in (hi + pn * (g.ids.length : Int)) (by omega)
  have w3 := IntWalk.i64_in (pid * gr) (by omega)
  have w4 := IntWalk.i64_in (hi + pn * (g.ids.length : Int) + pid * gr) (by omega)
  go_enter Tryz.func132, Tryz.ntmps132
  go_upto_region 1 with fail
  have HM1 := Lib.hid (show Mem w [cB w.heap.size (w.heap.size + 1) 29 #[.slice Ai g.ids.length ci, .slice Ap g.ports.length cp], cB w.heap.size w.heap.size 103 #[.string nm, .int .i64 kd, .int .i64 lo, .int .i64 hi, .int .i64 pn, .int .i64 pid]] _ from by have h := HM0.out; simp only [World.size_alloc] at h; exact h)
  generalize hW : World.alloc (World.alloc _ _) _ = W at *
  have hM := HM1.out
  obtain ⟨p0, p1, p2, p3, p4, p5, pf⟩ := blk6 (hM.get 1 rfl).2
  obtain ⟨q0, q1, qf⟩ := blk2 (hM.get 0 rfl).2
  have hk1 : w.heap.size + 1 < W.heap.size := (hM.get 0 rfl).2.lt
  have hk0 : w.heap.size < W.heap.size := by omega
  have hi1 := Lib.hid (IntsAt.to (Holds_.go (hM.bel.drew)) HI.out)
  clear hM hW HM0
  have rule := below_rule W
  have rule2 := below_addr W
  go_region_held3 (fun X => Below W.heap.size W X) (first | exact Below.refl _ _ | exact Below.drew (Below.refl _ _) | assumption | exact below_step (by assumption) (by assumption))
    (first
      | (go_at_call 133; refine (max_p g.ids (by omega) hg1 HGI.out Ai ci W.drew hi1.out).mono ?_; rintro e w' ⟨rfl, rfl⟩; rw [HGR.out]; have hbd := Below.drew (Below.refl W.heap.size W)))
  clear rule rule2
  go_wp2
  go_ret2
  exact ⟨rfl, (HM1.out.drew).bel⟩

set_option maxRecDepth 100000 in
theorem bd2_p (z : Value) : Calls Tryz.prog 134 #[varV x, graphV g Ai ci Ap cp, z] w (RgPost w (0, 1)) := by
  unfold varV graphV
  go_enter Tryz.func134, Tryz.ntmps134
  go_wp2
  go_ret2
  exact ⟨rfl, by (repeat (with_reducible first | exact Below.refl _ _ | refine Below.setCell ?_ (by first | exact Nat.le_refl _ | (simp only [World.size_alloc]; omega)) _ | refine below_drewN ?_ _ | refine Below.drew ?_ | refine Below.alloc ?_ (by first | exact Nat.le_refl _ | (simp only [World.size_alloc]; omega)) _ | assumption))⟩
set_option maxRecDepth 100000 in
set_option maxHeartbeats 4000000 in
theorem bd3_p (v : Nat) (hv : v < g.ports.length) (hdeg : g.ports[v].length ≤ 30) (hq : PortsAt w w.heap.size (.slice Ap g.ports.length cp) g.ports) :
    Calls Tryz.prog 135 #[varV x, graphV g Ai ci Ap cp, .int .i64 (v : Int)] w (RgPost w (-1, (g.ports[v].length : Int) - 1)) := by
  obtain ⟨ap, Ae, ce, hA, hbp, d0, -⟩ := row_at hq hv
  subst hA
  obtain ⟨dg, hdg⟩ : ∃ dg : Nat, (g.ports[v]'hv).length = dg := ⟨_, rfl⟩
  rw [hdg] at d0 hdeg ⊢
  clear hq hdg
  have v0 : (0 : Int) ≤ (v : Int) := by omega
  have v1 : (v : Int) < (g.ports.length : Int) := by omega
  have w1 := IntWalk.i64_in ((dg : Int) - 1) (by omega)
  have hbe : (ap.add v).block < w.heap.size := by rw [block_of_add]; exact hbp
  unfold varV graphV
  have HM0 := Lib.hid (((Mem.start w).new 103 #[.string x.name, .int .i64 x.kind, .int .i64 x.lo, .int .i64 x.hi, .int .i64 x.pn, .int .i64 x.pid]).new 29 #[.slice Ai g.ids.length ci, .slice (some ap) g.ports.length cp])
  go_enter Tryz.func135, Tryz.ntmps135
  go_upto_region 1 with fail
  go_quiet (fail)
  go_wp2
  go_ret2
  exact ⟨rfl, (HM0.out.drewN _).bel⟩
end
end Go.Proofs.YtdfklagiafmoiaaGreatDoor
