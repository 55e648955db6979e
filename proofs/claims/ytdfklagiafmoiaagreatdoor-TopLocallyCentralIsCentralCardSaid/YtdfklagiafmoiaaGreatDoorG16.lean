/- Lemmas of this seat, laid together out of 5 texts: no statement of the seat is proved here. -/
import Derived.Maps.OwnSet
import Derived.Test.YtdfklagiafmoiaaGreatDoorG15
/- A set that is a map to bools, of the call's own; the program's look at the names. -/
namespace Go.Proofs.YtdfklagiafmoiaaGreatDoor
open Go.RowKit
open Go.Maps (Keyed IsMap)

/-- what is not among the keys is not there -/
def Seen (ks : List Lit) (D : DataW Unit) : Prop := ∀ k, k ∉ ks → ∀ z, D.atKey k z = z
theorem Seen.start : Seen [] (.map []) := fun _ _ _ => rfl
theorem Seen.step {ks : List Lit} {D : DataW Unit} (h : Seen ks D) (t : Lit) (d : DataW Unit) : Seen (ks ++ [t]) (D.put t d) := by
  intro k hk z
  have h1 : k ≠ t := fun e => hk (by simp [e])
  have h2 : k ∉ ks := fun e => hk (by simp [e])
  rw [Go.Maps.atKey_put_other h1]; exact h k h2 z
def OnMap (w : World) (k : TypeId) (g n : Nat) (ks : List Lit) : Prop := ∃ D, Seen ks D ∧ w.ownsMap Tryz.prog k (plainElem Tryz.prog 4) g n D
theorem OnMap.kept {w w' : World} {row : Option Nat} {k : TypeId} {g n : Nat} {ks : List Lit} (h : OnMap w k g n ks) (hg : w.grownBy w' row) (hne : some g ≠ row) : OnMap w' k g n ks := let ⟨D, h1, h2⟩ := h; ⟨D, h1, h2.kept hg hne⟩
def cM (B : Nat) (k : TypeId) (g n : Nat) (ks : List Lit) : Ch B :=
  ⟨fun w => B ≤ g ∧ OnMap w k g n ks, fun b => b = g, fun h hg hr => ⟨h.1, h.2.kept hg (fun e => hr g e.symm rfl)⟩, fun h e => by subst e; exact ⟨h.1, let ⟨_, _, h2⟩ := h.2; h2.lt⟩⟩
theorem Tryz.zeroB (w : World) : (zeroValue 4).run Tryz.prog w = .ok (.bool false) w := by kernel_rfl
set_option maxRecDepth 100000 in
theorem bool_inv {v : Value} {b : Bool} {ps : List MemPlace} (h : plainElem (H := Unit) Tryz.prog 4 v = some (.lit (.bool b), ps)) : v = .bool b := by
  unfold plainElem at h
  rw [Tryz.underlying4] at h
  cases v <;> simp at h
  rw [h.1]
set_option maxRecDepth 100000 in
/-- a look-up of what is not there -/
theorem OnMap.no {w : World} {t k : TypeId} {g n : Nat} {ks : List Lit} (h : OnMap w k g n ks) (K : Keyed Tryz.prog k) (ht : Tryz.prog.underlying t = some (.map k 4)) {key : Value} {kl : Lit} (hkey : keyOf Tryz.prog k key = some kl) (hk : kl ∉ ks) :
    (Instr.lookup t (.map (some g)) key false).run Tryz.prog w = .ok (.bool false) w := by
  obtain ⟨D, hs, ho⟩ := h
  obtain ⟨v, ps, hr, hv⟩ := ho.lookup K ht (Tryz.zeroB w) (plainElem_bool Tryz.underlying4 false) hkey
  rw [hs kl hk] at hv
  rw [hr, bool_inv hv]
set_option maxRecDepth 100000 in
theorem OnMap.put {w : World} {t k : TypeId} {g n : Nat} {ks : List Lit} (h : OnMap w k g n ks) (K : Keyed Tryz.prog k) (ht : Tryz.prog.underlying t = some (.map k 4)) (hn : n < maxLen) {key : Value} {kl : Lit} (hkey : keyOf Tryz.prog k key = some kl) (b : Bool) :
    ∃ w', (Instr.mapUpdate t (.map (some g)) key (.bool b)).run Tryz.prog w = .ok () w' ∧ OnMap w' k g (n + 1) (ks ++ [kl]) ∧ w.grownBy w' (some g) := by
  obtain ⟨D, hs, ho⟩ := h
  obtain ⟨w', hr, ho', hg⟩ := ho.update K ht hn hkey (plainElem_bool Tryz.underlying4 b)
  exact ⟨w', hr, ⟨_, hs.step kl _, ho'⟩, hg⟩
section
variable {w0 w : World} {l : List (Ch w0.heap.size)}
set_option maxRecDepth 100000 in
theorem Mem.map (h : Mem w0 l w) (k : TypeId) : Mem w0 (cM w0.heap.size k w.heap.size 0 [] :: l) (w.alloc (.map #[] 0)) :=
  h.push (galloc _ _) ⟨h.size, _, Seen.start, World.ownsMap_made _ _ _ _⟩ (fun _g e => Nat.le_of_eq (Eq.symm e))
set_option maxRecDepth 100000 in
theorem Mem.put (h : Mem w0 l w) (i : Nat) {k : TypeId} {g n : Nat} {ks : List Lit} (hi : l[i]? = some (cM w0.heap.size k g n ks)) {t : TypeId} (K : Keyed Tryz.prog k) (ht : Tryz.prog.underlying t = some (.map k 4)) (hn : n < maxLen) {key : Value} {kl : Lit} (hkey : keyOf Tryz.prog k key = some kl) (b : Bool) :
    ∃ w', (Instr.mapUpdate t (.map (some g)) key (.bool b)).run Tryz.prog w = .ok () w' ∧ Mem w0 (l.set i (cM w0.heap.size k g (n + 1) (ks ++ [kl]))) w' ∧ w.grownBy w' (some g) := by
  have hP := h.get i hi
  obtain ⟨w', hr, ho, hg⟩ := hP.2.put K ht hn hkey b
  exact ⟨w', hr, h.step i hi hg (fun b e => by injection e with e; exact e.symm) ⟨hP.1, ho⟩ (fun b e => .inl e), hg⟩
end
set_option maxRecDepth 100000 in
theorem Tryz.keyS : Keyed Tryz.prog 9 := Go.Maps.string_keyed Tryz.underlying9
set_option maxRecDepth 100000 in
theorem Tryz.keyI : Keyed Tryz.prog 3 := Go.Maps.int_keyed Tryz.underlying3
set_option maxRecDepth 100000 in
theorem Tryz.mapSB : Tryz.prog.underlying 159 = some (.map 9 4) := Tryz.underlying159
set_option maxRecDepth 100000 in
theorem Tryz.mapIB : Tryz.prog.underlying 161 = some (.map 3 4) := Tryz.underlying161
def kS (s : ByteArray) : Lit := .string s.data.toList
set_option maxRecDepth 100000 in
theorem kS_key {s : ByteArray} (h : NameOk s) : keyOf Tryz.prog 9 (.string s) = some (kS s) := Go.WideMaps.keyOf_string_mk Tryz.underlying9 (by have := h.hi; unfold maxLen; omega)
theorem kS_inj {a b : ByteArray} (h : kS a = kS b) : a = b := by
  unfold kS at h
  injection h with h
  cases a; cases b
  simp at h
  simp [h]
theorem kS_new {l : List ByteArray} {k : Nat} (h : NmsOk l l.length) (hk : k < l.length) : kS l[k] ∉ (l.take k).map kS := by
  intro hm
  obtain ⟨x, hx, e⟩ := List.mem_map.1 hm
  obtain ⟨j, hj, rfl⟩ := List.getElem_of_mem hx
  rw [List.length_take] at hj
  have h1 := (h k hk hk).2 j (by omega) (by omega)
  rw [List.getElem_take] at e
  have e2 := kS_inj e
  rw [e2] at h1
  simp at h1
theorem kS_take {l : List ByteArray} {k : Nat} (hk : k < l.length) : (l.take k).map kS ++ [kS l[k]] = (l.take (k + 1)).map kS := by
  rw [List.take_succ_eq_append_getElem hk, List.map_append]; rfl
end Go.Proofs.YtdfklagiafmoiaaGreatDoor

/- The program's look at the names. -/
namespace Go.Proofs.YtdfklagiafmoiaaGreatDoor
open Go.RowKit
open Go.Maps (Keyed IsMap)

def SnRel (w : World) (cs : Array Value) (l : List ByteArray) (g : Nat) (i : Value) (wr : World) : Prop := ∃ k : Nat, i = .int .i64 k ∧ k ≤ l.length ∧ Mem w [cM w.heap.size 9 g k ((l.take k).map kS), cB w.heap.size w.heap.size 25 cs] wr
set_option maxRecDepth 100000 in
set_option maxHeartbeats 8000000 in
theorem named_p (p : Pg) (hp : PgOk p) (v : Value) (w : World) (hP : ProgAt w w.heap.size v p) : Calls Tryz.prog 61 #[v] w (YesPost w) := by
  obtain ⟨vv, vr, rfl, hv, hr⟩ := hP
  obtain ⟨Av, cv, rfl⟩ := vars_sl hv
  obtain ⟨Ar, cr, rfl⟩ := rules_sl hr
  have HV := Lib.hid hv
  have HR := Lib.hid hr
  have HP := Lib.hid hp
  have hv6 := hp.vhi
  have hr12 := hp.rhi
  have HM0 := Lib.hid ((Mem.start w).new 25 #[.string p.name, .slice Av p.vars.length cv, .slice Ar p.rules.length cr])
  clear hv hr hp
  have hmm := @run_makeMap Tryz.prog
  go_enter Tryz.func61, Tryz.ntmps61
  go_wp2_with (go_at_call 89; refine (name_p _ HP.out.name _).mono ?_; rintro e w' ⟨rfl, rfl⟩)
  have HM1 := Lib.hid (show Mem w [cM w.heap.size 9 (w.heap.size + 1) 0 [], cB w.heap.size w.heap.size 25 #[.string p.name, .slice Av p.vars.length cv, .slice Ar p.rules.length cr]] _ from by have h := HM0.out.map 9; simp only [World.size_alloc] at h; exact h)
  clear HM0
  go_loopw [17] (SnRel w #[.string p.name, .slice Av p.vars.length cv, .slice Ar p.rules.length cr] (vn p) (w.heap.size + 1)) (fun i _ => p.vars.length - (intOf i).toNat)
  case atStart => exact ⟨0, rfl, Nat.zero_le _, HM1.out⟩
  case round =>
    obtain ⟨k, rfl, hk, hM⟩ := hrel
    have HM := Lib.hid hM
    clear hM HM1
    have hvl : (vn p).length = p.vars.length := by simp [vn]
    by_cases hlt : k < p.vars.length
    · obtain ⟨ad, hA, hb, c0, c1, c2, c3, c4, c5⟩ := var_at (VarsAt.to (Holds_.go HM.out.bel) HV.out) hlt
      subst hA
      have hkv : k < (vn p).length := by omega
      have hnm : p.vars[k].name = (vn p)[k] := by simp [vn]
      have hnok := (HP.out.vnames k hkv hkv).1
      have hnew := kS_new HP.out.vnames hkv
      have HTK := Lib.hid (kS_take hkv)
      rw [← hnm] at hnok hnew HTK
      obtain ⟨x, hx⟩ : ∃ x : Vr, p.vars[k]'hlt = x := ⟨_, rfl⟩
      rw [hx] at c0 c1 c2 c3 c4 c5 hnok hnew HTK
      have HMA := Lib.hid (HM.out.new 103 #[.string x.name, .int .i64 x.kind, .int .i64 x.lo, .int .i64 x.hi, .int .i64 x.pn, .int .i64 x.pid])
      have hlk := OnMap.no (HMA.out.get 1 rfl).2 Tryz.keyS Tryz.mapSB (kS_key hnok) hnew
      obtain ⟨w2, hup, hM2, hg2⟩ := HMA.out.put 1 rfl Tryz.keyS Tryz.mapSB (by unfold maxLen; omega) (kS_key hnok) true
      have HM2 := Lib.hid hM2
      have HNO := Lib.hid hnok
      have k0 : (0 : Int) ≤ (k : Int) := by omega
      have k1 : (k : Int) < (p.vars.length : Int) := by omega
      have HLT := Lib.hid hlt
      have hbe : (ad.add (k * 6)).block < wr.heap.size := by rw [block_of_add]; exact hb
      clear hx hnm hnok hnew hM2 hg2 hmm
      go_wp2_with (go_at_call 89; refine (name_p _ HNO.out _).mono ?_; rintro e w' ⟨rfl, rfl⟩)
      go_roundw
      case rel => exact ⟨k + 1, by go_num, by have := HLT.out; omega, by rw [← HTK.out]; exact HM2.out.erase 0⟩
      case measure => simp [intOf]; omega
    · obtain rfl : k = p.vars.length := by omega
      obtain ⟨p0, p1, p2, pf⟩ := blk3 (HM.out.get 1 rfl).2
      have HM1 := Lib.hid ((HM.out.erase 0).map 9)
      have hb0 : w.heap.size < wr.heap.size := (HM.out.get 1 rfl).2.lt
      go_wp2_with fail
      clear p0 p1 p2 pf hb0
      generalize hW : World.alloc _ _ = W at *
      have hgz : w.heap.size ≤ wr.heap.size := HM.out.size
      obtain ⟨g, hg⟩ : ∃ g, wr.heap.size = g := ⟨_, rfl⟩
      rw [hg]
      have HM2 := Lib.hid (show Mem w [cM w.heap.size 9 g 0 [], cB w.heap.size w.heap.size 25 #[.string p.name, .slice Av p.vars.length cv, .slice Ar p.rules.length cr]] W from by have h := HM1.out; rw [hg] at h; exact h)
      clear hW hmm HM HM1 hg
      go_loopw [39] (SnRel w #[.string p.name, .slice Av p.vars.length cv, .slice Ar p.rules.length cr] (rn p) g) (fun i _ => p.rules.length - (intOf i).toNat)
      case atStart => exact ⟨0, rfl, Nat.zero_le _, HM2.out⟩
      case round =>
        obtain ⟨k, rfl, hk, hM⟩ := hrel
        have HM := Lib.hid hM
        clear hM HM2
        have hvl : (rn p).length = p.rules.length := by simp [rn]
        by_cases hlt : k < p.rules.length
        · obtain ⟨ad, Ag, cg, As, cs, hA, hb, c0, c1, c2, -, -⟩ := rule_at (RulesAt.to (Holds_.go HM.out.bel) HR.out) hlt
          subst hA
          have hkv : k < (rn p).length := by omega
          have hnm : p.rules[k].name = (rn p)[k] := by simp [rn]
          have hnok := (HP.out.rnames k hkv hkv).1
          have hnew := kS_new HP.out.rnames hkv
          have HTK := Lib.hid (kS_take hkv)
          rw [← hnm] at hnok hnew HTK
          obtain ⟨x, hx⟩ : ∃ x : Rl, p.rules[k]'hlt = x := ⟨_, rfl⟩
          rw [hx] at c0 c1 c2 hnok hnew HTK
          have HMA := Lib.hid (HM.out.new 76 #[.string x.name, .slice Ag x.guard.length cg, .slice As x.sets.length cs])
          have hlk := OnMap.no (HMA.out.get 1 rfl).2 Tryz.keyS Tryz.mapSB (kS_key hnok) hnew
          obtain ⟨w2, hup, hM2, hg2⟩ := HMA.out.put 1 rfl Tryz.keyS Tryz.mapSB (by unfold maxLen; omega) (kS_key hnok) true
          have HM2 := Lib.hid hM2
          have HNO := Lib.hid hnok
          have k0 : (0 : Int) ≤ (k : Int) := by omega
          have k1 : (k : Int) < (p.rules.length : Int) := by omega
          have HLT := Lib.hid hlt
          have hbe : (ad.add (k * 3)).block < wr.heap.size := by rw [block_of_add]; exact hb
          clear hx hnm hnok hnew hM2 hg2
          go_wp2_with (go_at_call 89; refine (name_p _ HNO.out _).mono ?_; rintro e w' ⟨rfl, rfl⟩)
          go_roundw
          case rel => exact ⟨k + 1, by go_num, by have := HLT.out; omega, by rw [← HTK.out]; exact HM2.out.erase 0⟩
          case measure => simp [intOf]; omega
        · obtain rfl : k = p.rules.length := by omega
          go_wp2
          go_ret
          exact ⟨rfl, HM.out.bel⟩
end Go.Proofs.YtdfklagiafmoiaaGreatDoor

/- The program's look at a rule's form. -/
namespace Go.Proofs.YtdfklagiafmoiaaGreatDoor
open Go.RowKit
open Go.Maps (Keyed IsMap)

def kI (x : Int) : Lit := .int .i64 x
theorem kI_new {n : Nat} {l : List St} {k : Nat} (h : StOk n l l.length) (hk : k < l.length) : kI l[k].1 ∉ (l.take k).map fun s => kI s.1 := by
  intro hm
  obtain ⟨x, hx, e⟩ := List.mem_map.1 hm
  obtain ⟨j, hj, rfl⟩ := List.getElem_of_mem hx
  rw [List.length_take] at hj
  have h1 := (h k hk hk).2.2 j (by omega) (by omega)
  rw [List.getElem_take] at e
  unfold kI at e
  injection e with _ e
  exact h1 e
theorem kI_take {l : List St} {k : Nat} (hk : k < l.length) : ((l.take k).map fun s => kI s.1) ++ [kI l[k].1] = (l.take (k + 1)).map fun s => kI s.1 := by
  rw [List.take_succ_eq_append_getElem hk, List.map_append]; rfl
def FnRel (w : World) (cs : Array Value) (l : List St) (g : Nat) (i : Value) (wr : World) : Prop := ∃ k : Nat, i = .int .i64 k ∧ k ≤ l.length ∧ Mem w [cM w.heap.size 3 g k ((l.take k).map fun s => kI s.1), cB w.heap.size w.heap.size 76 cs] wr
set_option maxRecDepth 100000 in
set_option maxHeartbeats 8000000 in
theorem formed_p (r : Rl) (n : Nat) (hn : n ≤ 1000) (hf : FormOk n r) (Ag : Option Addr) (cg : Nat) (As : Option Addr) (cs : Nat) (w : World) (hg : PairsAt w w.heap.size (.slice Ag r.guard.length cg) r.guard) (hs : SetsAt w w.heap.size (.slice As r.sets.length cs) r.sets) :
    Calls Tryz.prog 63 #[ruleV r Ag cg As cs, .int .i64 (n : Int)] w (YesPost w) := by
  have HG := Lib.hid hg
  have HS := Lib.hid hs
  have HF := Lib.hid hf
  have hlo := hf.lo
  have hhi := hf.hi
  have HM0 := Lib.hid ((Mem.start w).new 76 #[.string r.name, .slice Ag r.guard.length cg, .slice As r.sets.length cs])
  have HC := Lib.hid (valid_p r.guard n hf.guard Ag cg _ _ (Nat.le_refl _) (PairsAt.to (Holds_.go HM0.out.bel) hg))
  clear hg hs hf
  unfold ruleV
  obtain ⟨sn, hsn⟩ : ∃ sn, r.sets.length = sn := ⟨_, rfl⟩
  have e1 : ((sn : Int) == 0) = false := beq_eq_false_iff_ne.2 (by omega)
  have e2 : ¬ (6 : Int) < (sn : Int) := by omega
  have HSN := Lib.hid hsn
  rw [hsn] at HM0 HS HC
  rw [hsn]
  clear hsn hlo hhi
  have hmm := @run_makeMap Tryz.prog
  go_enter Tryz.func63, Tryz.ntmps63
  go_wp2_with fail
  refine HC.out.mono ?_
  rintro e w1 ⟨rfl, hb1⟩
  have HM1 := Lib.hid (HM0.out.below hb1)
  clear HC HM0 hb1
  obtain ⟨p0, p1, p2, pf⟩ := blk3 (HM1.out.get 0 rfl).2
  have hb0 : w.heap.size < w1.heap.size := (HM1.out.get 0 rfl).2.lt
  have HM2 := Lib.hid (HM1.out.map 3)
  go_wp2_with fail
  clear p0 p1 p2 pf hb0
  generalize hW : World.alloc _ _ = W at *
  obtain ⟨g, hg⟩ : ∃ g, w1.heap.size = g := ⟨_, rfl⟩
  rw [hg]
  have HM3 := Lib.hid (show Mem w [cM w.heap.size 3 g 0 [], cB w.heap.size w.heap.size 76 #[.string r.name, .slice Ag r.guard.length cg, .slice As sn cs]] W from by have h := HM2.out; rw [hg] at h; exact h)
  clear hW hmm HM1 HM2 hg
  go_loopw [29] (FnRel w #[.string r.name, .slice Ag r.guard.length cg, .slice As sn cs] r.sets g) (fun i _ => sn - (intOf i).toNat)
  case atStart => exact ⟨0, rfl, Nat.zero_le _, HM3.out⟩
  case round =>
    obtain ⟨k, rfl, hk, hM⟩ := hrel
    have hsn := HSN.out
    rw [hsn] at hk
    have HM := Lib.hid hM
    clear hM HM3
    by_cases hlt : k < sn
    · have hlt' : k < r.sets.length := by omega
      obtain ⟨ad, Ae, ce, hA, hb, c0, c1, he⟩ := set_at (SetsAt.to (Holds_.go HM.out.bel) HS.out) hlt'
      subst hA
      obtain ⟨hx0, hxe, -⟩ := HF.out.sets k hlt' hlt'
      have hnew := kI_new HF.out.sets hlt'
      have HTK := Lib.hid (kI_take hlt')
      obtain ⟨x, hx⟩ : ∃ x : St, r.sets[k]'hlt' = x := ⟨_, rfl⟩
      rw [hx] at c0 c1 he hx0 hxe hnew HTK
      have hkey : keyOf Tryz.prog 3 (.int .i64 x.1) = some (kI x.1) := Go.Maps.keyOf_int_mk Tryz.underlying3 (WalkArith.wf_i64 (by omega))
      have HKEY := Lib.hid hkey
      have HMA := Lib.hid (HM.out.new 78 #[.int .i64 x.1, .slice Ae x.2.length ce])
      have hlk := OnMap.no (HMA.out.get 1 rfl).2 Tryz.keyI Tryz.mapIB hkey hnew
      have HC := Lib.hid (valid_p x.2 n hxe Ae ce _ _ (Nat.le_refl _) (PairsAt.to (Holds_.go (balloc (Below.refl _ wr) (.cells #[.int .i64 x.1, .slice Ae x.2.length ce] 78))) he))
      have hin : inR x.1 0 ((n : Int) - 1) = true := by unfold inR; simp; omega
      have HIN := Lib.hid hin
      have wn := IntWalk.i64_in ((n : Int) - 1) (by omega)
      have k0 : (0 : Int) ≤ (k : Int) := by omega
      have k1 : (k : Int) < (sn : Int) := by omega
      have HLT := Lib.hid hlt
      have hbe : (ad.add (k * 2)).block < wr.heap.size := by rw [block_of_add]; exact hb
      clear hx hnew hkey hin hxe he hlt' hsn hx0
      go_wp2_with (go_at_call 96; refine (within_p _ _ _ _).mono ?_; rintro e w' ⟨rfl, rfl⟩; rw [HIN.out])
      refine HC.out.mono ?_
      rintro e w2 ⟨rfl, hb2⟩
      have HM2 := Lib.hid (HMA.out.below hb2)
      clear HC HMA hb2 hlk c0 c1
      obtain ⟨q0, q1, qf⟩ := blk2 (HM2.out.get 0 rfl).2
      obtain ⟨w3, hup, hM3, hg3⟩ := HM2.out.put 1 rfl Tryz.keyI Tryz.mapIB (by unfold maxLen; omega) HKEY.out true
      have HM3 := Lib.hid hM3
      clear hM3 hg3
      go_wp2_with fail
      go_roundw
      case rel => exact ⟨k + 1, by go_num, by have := HLT.out; have := HSN.out; omega, by rw [← HTK.out]; exact HM3.out.erase 0⟩
      case measure => simp [intOf]; omega
    · obtain rfl : k = sn := by omega
      go_wp2
      go_ret
      exact ⟨rfl, HM.out.bel⟩
end Go.Proofs.YtdfklagiafmoiaaGreatDoor

/- The program's Check and Valid of a program. -/
namespace Go.Proofs.YtdfklagiafmoiaaGreatDoor
open Go.RowKit

def OkPost (w : World) (e : Ending) (w' : World) : Prop := e = .returned (.int .i64 0) ∧ Below w.heap.size w w'
def IxRel (w : World) (cs : Array Value) (n : Nat) (i : Value) (wr : World) : Prop := ∃ k : Nat, i = .int .i64 k ∧ k ≤ n ∧ Mem w [cB w.heap.size w.heap.size 25 cs] wr
def IyRel (w : World) (cs : Array Value) (n : Nat) (Ak : Option Addr) (ck : Nat) (ks : List Int) (i : Value) (wr : World) : Prop := ∃ k : Nat, i = .int .i64 k ∧ k ≤ n ∧ Mem w [cB w.heap.size w.heap.size 25 cs] wr ∧ IntsAt wr wr.heap.size (.slice Ak ks.length ck) ks
theorem kinds_known {p : Pg} (h : PgOk p) : ∀ x ∈ kindsOf p, knownK x = true := by
  intro x hx
  unfold kindsOf at hx
  obtain ⟨v, hv, rfl⟩ := List.mem_map.1 hx
  obtain ⟨j, hj, rfl⟩ := List.getElem_of_mem hv
  have := numB_kind (h.nums j hj hj)
  unfold knownK
  simp
  exact this
set_option maxRecDepth 100000 in
set_option maxHeartbeats 8000000 in
theorem check_p (p : Pg) (hp : PgOk p) (v : Value) (w : World) (hP : ProgAt w w.heap.size v p) : Calls Tryz.prog 34 #[v] w (OkPost w) := by
  have HP := Lib.hid hP
  obtain ⟨vv, vr, rfl, hv, hr⟩ := hP
  obtain ⟨Av, cv, rfl⟩ := vars_sl hv
  obtain ⟨Ar, cr, rfl⟩ := rules_sl hr
  have HV := Lib.hid hv
  have HR := Lib.hid hr
  have HO := Lib.hid hp
  obtain ⟨nv, hnv⟩ : ∃ nv, p.vars.length = nv := ⟨_, rfl⟩
  obtain ⟨nr, hnr⟩ : ∃ nr, p.rules.length = nr := ⟨_, rfl⟩
  have hv1 := hp.vlo
  have hv6 := hp.vhi
  have hr12 := hp.rhi
  have HM0 := Lib.hid ((Mem.start w).new 25 #[.string p.name, .slice Av p.vars.length cv, .slice Ar p.rules.length cr])
  rw [hnv] at hv1 hv6 HV HM0
  rw [hnr] at hr12 HR HM0
  rw [hnv, hnr]
  have e1 : ((nv : Int) == 0) = false := beq_eq_false_iff_ne.2 (by omega)
  have p6 : ¬ (6 : Int) < (nv : Int) := by omega
  have p12 : ¬ (12 : Int) < (nr : Int) := by omega
  have HNV := Lib.hid hnv
  have HNR := Lib.hid hnr
  clear hv hr hp hnv hnr
  go_enter Tryz.func34, Tryz.ntmps34
  go_wp2_with fail
  have HP1 := Lib.hid (show ProgAt _ _ (.agg #[.string p.name, .slice Av nv cv, .slice Ar nr cr]) p from by have h := ProgAt.to (Holds_.go HM0.out.bel) HP.out; rw [HNV.out, HNR.out] at h; exact h)
  refine (named_p p HO.out _ _ HP1.out).mono ?_
  rintro e w1 ⟨rfl, hb1⟩
  have HM1 := Lib.hid (HM0.out.below hb1)
  clear hb1 HM0 HP1
  obtain ⟨p0, p1, p2, pf⟩ := blk3 (HM1.out.get 0 rfl).2
  go_wp2
  clear p0 p1 p2 pf
  go_loopw [32] (IxRel w #[.string p.name, .slice Av nv cv, .slice Ar nr cr] nv) (fun i _ => nv - (intOf i).toNat)
  case atStart => exact ⟨0, rfl, Nat.zero_le _, HM1.out⟩
  case round =>
    obtain ⟨k, rfl, hk, hM⟩ := hrel
    have HM := Lib.hid hM
    obtain ⟨p0, p1, p2, pf⟩ := blk3 (hM.get 0 rfl).2
    clear hM HM1
    by_cases hlt : k < nv
    · have hlt' : k < p.vars.length := by have := HNV.out; omega
      obtain ⟨ad, hA, hb, c0, c1, c2, c3, c4, c5⟩ := var_at (VarsAt.to (Holds_.go HM.out.bel) HV.out) hlt'
      subst hA
      have HNX := Lib.hid (HO.out.nums k hlt' hlt')
      obtain ⟨x, hx⟩ : ∃ x : Vr, p.vars[k]'hlt' = x := ⟨_, rfl⟩
      rw [hx] at c0 c1 c2 c3 c4 c5 HNX
      have HLT := Lib.hid hlt
      have k0 : (0 : Int) ≤ (k : Int) := by omega
      have k1 : (k : Int) < (nv : Int) := by omega
      have hbe : (ad.add (k * 6)).block < wr.heap.size := by rw [block_of_add]; exact hb
      have HMA := Lib.hid (HM.out.alloc (.cells #[.string x.name, .int .i64 x.kind, .int .i64 x.lo, .int .i64 x.hi, .int .i64 x.pn, .int .i64 x.pid] 103))
      clear hx hlt'
      go_wp2_with fail
      refine (num_p x _).mono ?_
      rintro e w2 ⟨rfl, hb2⟩
      rw [HNX.out]
      have HM2 := Lib.hid (HMA.out.below hb2)
      clear hb2
      go_wp2
      go_roundw
      case rel => exact ⟨k + 1, by go_num, HLT.out, HM2.out⟩
      case measure => simp [intOf]; omega
    · obtain rfl : k = nv := by omega
      have HM2 := Lib.hid HM.out
      go_wp2
      clear p0 p1 p2 pf HM
      go_loopw [43] (IxRel w #[.string p.name, .slice Av k cv, .slice Ar nr cr] nr) (fun i _ => nr - (intOf i).toNat)
      case atStart => exact ⟨0, rfl, Nat.zero_le _, HM2.out⟩
      case round =>
        obtain ⟨j, rfl, hj, hM⟩ := hrel
        have HM := Lib.hid hM
        obtain ⟨p0, p1, p2, pf⟩ := blk3 (hM.get 0 rfl).2
        clear hM HM2
        by_cases hlt : j < nr
        · have hlt' : j < p.rules.length := by have := HNR.out; omega
          obtain ⟨ad, Ag, cg, As, cs, hA, hb, c0, c1, c2, hg, hs⟩ := rule_at (RulesAt.to (Holds_.go HM.out.bel) HR.out) hlt'
          subst hA
          have hfx := HO.out.forms j hlt' hlt'
          obtain ⟨x, hx⟩ : ∃ x : Rl, p.rules[j]'hlt' = x := ⟨_, rfl⟩
          rw [hx] at c0 c1 c2 hg hs hfx
          rw [HNV.out] at hfx
          have HBA := Lib.hid (balloc (Below.refl _ wr) (.cells #[.string x.name, .slice Ag x.guard.length cg, .slice As x.sets.length cs] 76))
          have HMA := Lib.hid (HM.out.alloc (.cells #[.string x.name, .slice Ag x.guard.length cg, .slice As x.sets.length cs] 76))
          have HC := Lib.hid (formed_p x k (by omega) hfx Ag cg As cs _ (PairsAt.to (Holds_.go HBA.out) hg) (SetsAt.to (Holds_.go HBA.out) hs))
          have HLT := Lib.hid hlt
          have k0 : (0 : Int) ≤ (j : Int) := by omega
          have k1 : (j : Int) < (nr : Int) := by omega
          have hwz : w.heap.size < wr.heap.size := (HM.out.get 0 rfl).2.lt
          have hbe : (ad.add (j * 3)).block < wr.heap.size := by rw [block_of_add]; exact hb
          clear hx hg hs hfx hlt'
          go_wp2_with fail
          refine HC.out.mono ?_
          rintro e w2 ⟨rfl, hb2⟩
          have HM2 := Lib.hid (HMA.out.below hb2)
          clear hb2 HC
          go_wp2
          go_roundw
          case rel => exact ⟨j + 1, by go_num, HLT.out, HM2.out⟩
          case measure => simp [intOf]; omega
        · obtain rfl : j = nr := by omega
          have HPW := Lib.hid (show ProgAt wr wr.heap.size (.agg #[.string p.name, .slice Av k cv, .slice Ar j cr]) p from by have h := ProgAt.to (Holds_.go HM.out.bel) HP.out; rw [HNV.out, HNR.out] at h; exact h)
          have HKL := Lib.hid (show (kindsOf p).length = k by rw [← HNV.out]; simp [kindsOf])
          go_wp2_with fail
          refine (kinds_p p (by have := HNV.out; omega) _ _ HPW.out).mono ?_
          rintro e w2 ⟨Ak, ck, rfl, hik, hb2⟩
          have HIK := Lib.hid hik
          have HM2 := Lib.hid (HM.out.below hb2)
          clear p0 p1 p2 pf hik hb2 HM
          obtain ⟨p0, p1, p2, pf⟩ := blk3 (HM2.out.get 0 rfl).2
          go_wp2
          clear p0 p1 p2 pf
          go_loopw [59] (IyRel w #[.string p.name, .slice Av k cv, .slice Ar j cr] j Ak ck (kindsOf p)) (fun i _ => j - (intOf i).toNat)
          case atStart => exact ⟨0, rfl, Nat.zero_le _, HM2.out, HIK.out⟩
          case round =>
            obtain ⟨i, rfl, hi, hM, hik⟩ := hrel
            have HM := Lib.hid hM
            have HIK2 := Lib.hid hik
            obtain ⟨p0, p1, p2, pf⟩ := blk3 (hM.get 0 rfl).2
            clear hM HM2 hik HIK
            by_cases hlt : i < j
            · have hlt' : i < p.rules.length := by have := HNR.out; omega
              obtain ⟨ad, Ag, cg, As, cs, hA, hb, c0, c1, c2, hg, hs⟩ := rule_at (RulesAt.to (Holds_.go HM.out.bel) HR.out) hlt'
              subst hA
              have hfx := HO.out.forms i hlt' hlt'
              have htx := HO.out.types i hlt' hlt'
              obtain ⟨x, hx⟩ : ∃ x : Rl, p.rules[i]'hlt' = x := ⟨_, rfl⟩
              rw [hx] at c0 c1 c2 hg hs hfx htx
              rw [HNV.out, ← HKL.out] at hfx
              have HBA := Lib.hid (balloc (Below.refl _ wr) (.cells #[.string x.name, .slice Ag x.guard.length cg, .slice As x.sets.length cs] 76))
              have HMA := Lib.hid (HM.out.alloc (.cells #[.string x.name, .slice Ag x.guard.length cg, .slice As x.sets.length cs] 76))
              have HC := Lib.hid (typed_p x (kindsOf p) (by rw [HKL.out]; omega) (kinds_known HO.out) hfx htx Ag cg As cs Ak ck _ (PairsAt.to (Holds_.go HBA.out) hg) (SetsAt.to (Holds_.go HBA.out) hs) (IntsAt.to (Holds_.go HBA.out) HIK2.out))
              have HLT := Lib.hid hlt
              have k0 : (0 : Int) ≤ (i : Int) := by omega
              have k1 : (i : Int) < (j : Int) := by omega
              have hwz : w.heap.size < wr.heap.size := (HM.out.get 0 rfl).2.lt
              have hbe : (ad.add (i * 3)).block < wr.heap.size := by rw [block_of_add]; exact hb
              clear hx hg hs hfx htx hlt'
              go_wp2_with fail
              refine HC.out.mono ?_
              rintro e w2 ⟨rfl, hb2⟩
              have HM2 := Lib.hid (HMA.out.below hb2)
              have HIK3 := Lib.hid (IntsAt.to (Holds_.go hb2) (IntsAt.to (Holds_.go HBA.out) HIK2.out))
              clear hb2 HC
              go_wp2
              go_roundw
              case rel => exact ⟨i + 1, by go_num, HLT.out, HM2.out, HIK3.out⟩
              case measure => simp [intOf]; omega
            · obtain rfl : i = j := by omega
              go_wp2
              go_ret
              exact ⟨rfl, HM.out.bel⟩

theorem pvalid_p (p : Pg) (hp : PgOk p) (v : Value) (w : World) (hP : ProgAt w w.heap.size v p) : Calls Tryz.prog 100 #[v] w (YesPost w) := by
  have HP := Lib.hid hP
  obtain ⟨vv, vr, rfl, hv, hr⟩ := hP
  clear hv hr
  have HM0 := Lib.hid ((Mem.start w).new 25 #[.string p.name, vv, vr])
  go_enter Tryz.func100, Tryz.ntmps100
  go_wp2_with fail
  refine (check_p p hp _ _ (ProgAt.to (Holds_.go HM0.out.bel) HP.out)).mono ?_
  rintro e w1 ⟨rfl, hb1⟩
  have HB := Lib.hid (HM0.out.below hb1).bel
  clear hb1
  go_wp2
  go_ret
  exact ⟨rfl, HB.out⟩
end Go.Proofs.YtdfklagiafmoiaaGreatDoor

/- The program's DifferentIDs. -/
namespace Go.Proofs.YtdfklagiafmoiaaGreatDoor
open Go.RowKit

def idCells (l : List Int) : Array Value := ((List.range 256).map fun (i : Nat) => Value.bool (decide ((i : Int) ∈ l))).toArray
set_option maxRecDepth 100000 in
theorem Tryz.zero209 : Tryz.zeroCells209 = idCells [] := by
  have h : Tryz.zeroCells209 = ((List.range 256).map fun (_ : Nat) => Value.bool false).toArray := by kernel_rfl
  rw [h]; unfold idCells; congr 1
theorem idCells_set (l : List Int) (x : Nat) : (idCells l).setIfInBounds x (.bool true) = idCells (l ++ [(x : Int)]) := by
  unfold idCells
  rw [List.setIfInBounds_toArray]
  congr 1
  apply List.ext_getElem?
  intro i
  rw [List.getElem?_set]
  simp only [List.getElem?_map, List.length_map, List.length_range]
  by_cases hxi : x = i
  · subst hxi
    rw [if_pos rfl]
    by_cases h : x < 256
    · rw [if_pos h, List.getElem?_range h]; simp
    · rw [if_neg h, List.getElem?_eq_none (by simp; omega)]; rfl
  · rw [if_neg hxi]
    by_cases h : i < 256
    · rw [List.getElem?_range h]; simp; intro h2; omega
    · rw [List.getElem?_eq_none (by simp; omega)]; rfl
theorem idCells_no {w : World} {g : Nat} {t : TypeId} {l : List Int} (h : Blk w g t (idCells l)) {x : Nat} (hx : x < 256) (hn : (x : Int) ∉ l) : w.cell? ⟨g, x, none⟩ = some (.bool false) := by
  have := Blk.get (l := (List.range 256).map fun (i : Nat) => Value.bool (decide ((i : Int) ∈ l))) h (k := x) (by simpa using hx)
  rw [this]
  simp [hn]
def IdRel (w : World) (l : List Int) (i : Value) (wr : World) : Prop := ∃ k : Nat, i = .int .i64 k ∧ k ≤ l.length ∧ Mem w [cB w.heap.size w.heap.size 209 (idCells (l.take k))] wr
theorem id_new {l : List Int} (hn : ∀ j (hj : j < l.length), ∀ m (hm : m < l.length), m < j → l[m] ≠ l[j]) {k : Nat} (hk : k < l.length) : l[k] ∉ l.take k := by
  intro h
  obtain ⟨j, hj, e⟩ := List.getElem_of_mem h
  rw [List.length_take] at hj
  rw [List.getElem_take] at e
  exact hn k hk j (by omega) (by omega) e
set_option maxRecDepth 100000 in
set_option maxHeartbeats 8000000 in
theorem diff_p (l : List Int) (hl : l.length ≤ 1000) (hb : ∀ x ∈ l, 0 ≤ x ∧ x ≤ 255) (hn : ∀ j (hj : j < l.length), ∀ m (hm : m < l.length), m < j → l[m] ≠ l[j]) (A : Option Addr) (c : Nat) (w : World) (h : IntsAt w w.heap.size (.slice A l.length c) l) :
    Calls Tryz.prog 130 #[.slice A l.length c] w (YesPost w) := by
  have H := Lib.hid h
  have HB := Lib.hid hb
  have HN := Lib.hid hn
  have HM0 := Lib.hid ((Mem.start w).new 209 (idCells []))
  clear h hb hn
  go_enter Tryz.func130, Tryz.ntmps130
  go_wp2
  rw [Tryz.zero209]
  go_loopw [8] (IdRel w l) (fun i _ => l.length - (intOf i).toNat)
  case atStart => exact ⟨0, rfl, Nat.zero_le _, HM0.out⟩
  case round =>
    obtain ⟨k, rfl, hk, hM⟩ := hrel
    have HM := Lib.hid hM
    clear hM HM0
    by_cases hlt : k < l.length
    · obtain ⟨ad, hA, hb, c0⟩ := int_at (IntsAt.to (Holds_.go HM.out.bel) H.out) hlt
      subst hA
      obtain ⟨x0, x1⟩ := HB.out _ (List.getElem_mem hlt)
      have hnew := id_new HN.out hlt
      have hTK : l.take (k + 1) = l.take k ++ [l[k]] := List.take_succ_eq_append_getElem hlt
      obtain ⟨z, hz⟩ : ∃ z : Int, l[k]'hlt = z := ⟨_, rfl⟩
      rw [hz] at c0 x0 x1 hnew hTK
      obtain ⟨x, rfl⟩ : ∃ x : Nat, z = x := ⟨z.toNat, by omega⟩
      have hx : x < 256 := by omega
      have d0 := idCells_no (HM.out.get 0 rfl).2 hx hnew
      have HMS := Lib.hid (HM.out.set_ 0 rfl x (.bool true) (idCells_set _ x))
      have hfz : wr.frozen? ⟨w.heap.size, x, none⟩ = false := (HM.out.get 0 rfl).2.frozen _
      have HTK := Lib.hid hTK
      clear hz hnew hTK
      have x2 : (x : Int) < 256 := by omega
      have x3 : ¬ (x : Int) < 0 := by omega
      have x4 : ¬ (255 : Int) < (x : Int) := by omega
      have k0 : (0 : Int) ≤ (k : Int) := by omega
      have k1 : (k : Int) < (l.length : Int) := by omega
      have HLT := Lib.hid hlt
      go_wp2
      go_roundw
      case rel => exact ⟨k + 1, by go_num, HLT.out, by rw [HTK.out]; exact HMS.out⟩
      case measure => simp [intOf]; omega
    · obtain rfl : k = l.length := by omega
      go_wp2
      go_ret
      exact ⟨rfl, HM.out.bel⟩
end Go.Proofs.YtdfklagiafmoiaaGreatDoor
