/- Lemmas of this seat, laid together out of 6 texts: no statement of the seat is proved here. -/
import Derived.Test.YtdfklagiafmoiaaGreatDoorG07
import Derived.Test.YtdfklagiafmoiaaGreatDoorG18
/- Expressions put together: leaf, operation; the level of '=='. -/
namespace Go.Proofs.YtdfklagiafmoiaaGreatDoor
open Go.RowKit

/-- an expression that a call has made -/
def TmOwn (w : World) (base : Nat) (v : Value) (l : List Tm) : Prop := w.ownsRow base 186 2 v l.length (pc l)
theorem TmOwn.keep {w w' : World} {base r : Nat} {v : Value} {l : List Tm} (h : TmOwn w base v l) (hg : w.grownBy w' (some r)) (hr : r < base) : TmOwn w' base v l :=
  World.ownsRow.kept h hg (by
    cases hv : v.ownBlock with
    | none => exact .inl rfl
    | some b =>
      right
      intro e
      have := (World.ownsRow.lt h b hv).1
      injection e with e
      omega)
theorem TmOwn.pairs {w : World} {base n c : Nat} {A : Option Addr} {l : List Tm} (h : TmOwn w base (.slice A n c) l) : n = l.length ∧ PairsAt w w.heap.size (.slice A l.length c) l := by
  have hn : n = l.length := by
    unfold TmOwn at h
    have h2 := own_sl h
    obtain ⟨A', c', e⟩ := h2
    injection e
  subst hn
  exact ⟨rfl, pairs_own h rfl⟩
theorem pc_len' (l : List Tm) : (pc l).length = l.length * 2 := by
  unfold pc
  induction l with
  | nil => rfl
  | cons t l ih => rw [List.flatMap_cons, List.length_append, ih, List.length_cons]; simp only [List.length_cons, List.length_nil]; omega
theorem pairs_reads {w : World} {B : Nat} {A : Option Addr} {n c : Nat} {l : List Tm} (h : PairsAt w B (.slice A n c) l) : Reads w B 2 A l.length (pc l) := by
  obtain ⟨A', c', vals, e, hr, hk⟩ := h
  injection e with e1 e2 e3
  subst e1 e3
  have hv : vals = pc l := by
    have hl := hr.1
    have hlen := pc_len' l
    have hget : ∀ k x, l[k]? = some x → (pc l)[k * 2]? = some (.int .i64 x.1) ∧ (pc l)[k * 2 + 1]? = some (.int .i64 x.2) := by
      clear hk hlen hl hr e2
      induction l with
      | nil => intro k x h; simp at h
      | cons t l ih =>
        intro k x h
        unfold pc
        rw [List.flatMap_cons]
        cases k with
        | zero => simp at h; subst h; exact ⟨rfl, rfl⟩
        | succ k =>
          have := ih k x (by simpa using h)
          rw [show (k + 1) * 2 = k * 2 + 1 + 1 by omega]
          exact this
    apply List.ext_getElem?
    intro j
    by_cases hj : j / 2 < l.length
    · obtain ⟨us, hu, eu, hc⟩ := hk (j / 2) l[j / 2] (List.getElem?_eq_getElem hj)
      obtain ⟨g0, g1⟩ := hget (j / 2) l[j / 2] (List.getElem?_eq_getElem hj)
      have e2 : us = [.int .i64 l[j / 2].1, .int .i64 l[j / 2].2] := eu
      subst e2
      rcases Nat.mod_two_eq_zero_or_one j with h2 | h2
      · have := hc 0 _ rfl
        rw [show j = j / 2 * 2 + 0 by omega, this, Nat.add_zero, g0]
      · have := hc 1 _ rfl
        rw [show j = j / 2 * 2 + 1 by omega, this, g1]
    · rw [List.getElem?_eq_none (by omega), List.getElem?_eq_none (by omega)]
  rw [← hv]; exact hr
theorem leaf_q (op arg : Int) (X : World) : Calls Tryz.prog 151 #[.int .i64 op, .int .i64 arg] X fun e w' => e = .returned (.slice (some ⟨X.heap.size, 0, none⟩) 1 1) ∧ TmOwn w' X.heap.size (.slice (some ⟨X.heap.size, 0, none⟩) 1 1) [(op, arg)] ∧ X.grownBy w' none := by
  have HG := Lib.hid (galloc X (.cells #[.int .i64 op, .int .i64 arg] 186))
  have HO := Lib.hid (show TmOwn (X.alloc (.cells #[.int .i64 op, .int .i64 arg] 186)) X.heap.size (.slice (some ⟨X.heap.size, 0, none⟩) 1 1) [(op, arg)] from ⟨rfl, .inr ⟨X.heap.size, 1, _, rfl, Nat.le_refl _, Blk.new _ _ _, Nat.le_refl _, by unfold maxLen; omega, rfl, rfl⟩⟩)
  go_enter Tryz.func151, Tryz.ntmps151
  go_wp2
  go_ret
  exact ⟨rfl, HO.out, HG.out⟩
theorem level_eq (X : World) : Calls Tryz.prog 150 #[.int .i64 35] X fun e w' => e = .returned (.int .i64 3) ∧ X = w' := by
  go_enter Tryz.func150, Tryz.ntmps150
  go_wp2
  go_ret
  exact ⟨rfl, rfl⟩
theorem Tryz.infoTerm : (Tryz.prog.info? 186).map (fun i => (i.zero, i.size, i.bytes)) = some (some (.agg #[.int .i64 0, .int .i64 0]), 2, 16) := by kernel_rfl
theorem one_pc (l : List Tm) : ∀ u ∈ pc l, u.oneCell' = true := by
  intro u hu
  unfold pc at hu
  obtain ⟨t, _, h⟩ := List.mem_flatMap.1 hu
  simp only [List.mem_cons, List.not_mem_nil, or_false] at h
  rcases h with rfl | rfl <;> rfl
def OpRel (X : World) (op : Int) (LL : List (List Tm)) (v i : Value) (wr : World) : Prop := ∃ k : Nat, i = .int .i64 k ∧ k ≤ LL.length ∧ Mem X [cR X.heap.size 186 2 v ((op, 0) :: (LL.take k).flatten).length (pc ((op, 0) :: (LL.take k).flatten))] wr
theorem take_flat (LL : List (List Tm)) (k : Nat) (h : k < LL.length) : (LL.take (k + 1)).flatten = (LL.take k).flatten ++ LL[k] := by
  rw [List.take_succ_eq_append_getElem h, List.flatten_append]; simp
set_option maxRecDepth 100000 in
set_option maxHeartbeats 8000000 in
theorem oper_q (op : Int) (LL : List (List Tm)) (hl : LL.length ≤ 10) (hn : LL.flatten.length ≤ 1000) (A : Option Addr) (c : Nat) (X : World) (h : PortsAt X X.heap.size (.slice A LL.length c) LL) :
    Calls Tryz.prog 123 #[.int .i64 op, .slice A LL.length c] X fun e w' => (∃ v, e = .returned v ∧ TmOwn w' X.heap.size v ((op, 0) :: LL.flatten)) ∧ X.grownBy w' none := by
  have HP := Lib.hid h
  have HL := Lib.hid (leaf_q op 0 X)
  have HN := Lib.hid hn
  obtain ⟨i0, hi0, hz0, hz1, hz2⟩ := info_parts Tryz.infoTerm
  obtain ⟨n, hnn⟩ : ∃ n, LL.length = n := ⟨_, rfl⟩
  rw [hnn] at HP hl
  rw [hnn]
  have HNN := Lib.hid hnn
  clear h hn hnn
  go_enter Tryz.func123, Tryz.ntmps123
  go_wp2_with fail
  refine HL.out.mono ?_
  rintro e w1 ⟨rfl, ho, hg⟩
  have HM1 := Lib.hid ((Mem.start X).push hg (c := cR X.heap.size 186 2 (.slice (some ⟨X.heap.size, 0, none⟩) 1 1) 1 (pc [(op, 0)])) ho (fun b e => by
    have e' : some X.heap.size = some b := e
    injection e' with e'
    omega))
  clear ho hg HL
  go_wp2_with fail
  go_loopw [5, 12] (OpRel X op LL) (fun _ i _ => n - (intOf i).toNat)
  case atStart => exact ⟨0, rfl, Nat.zero_le _, HM1.out⟩
  case round =>
    obtain ⟨k, rfl, hk, hM⟩ := hrel
    obtain ⟨acc, hacc⟩ : ∃ acc, (op, (0 : Int)) :: (LL.take k).flatten = acc := ⟨_, rfl⟩
    rw [hacc] at hM
    obtain ⟨N, hNa⟩ : ∃ N, acc.length = N := ⟨_, rfl⟩
    rw [hNa] at hM
    obtain ⟨Av, cv, rfl⟩ := own_sl (hM.get 0 rfl)
    rw [HNN.out] at hk
    have HM := Lib.hid hM
    clear hM HM1
    have k0 : (0 : Int) ≤ (k : Int) := by omega
    by_cases hlt : k < n
    · have hkL : k < LL.length := by rw [HNN.out]; exact hlt
      obtain ⟨ad, Ae, ce, hA, hb, c0, hp⟩ := row_at (PortsAt.to (Holds_.go HM.out.bel) HP.out) hkL
      subst hA
      have HTF := Lib.hid (take_flat LL k hkL)
      have HRD := Lib.hid (pairs_reads hp)
      have hsum : (LL.take k).flatten.length + (LL[k]'hkL).length ≤ 1000 := by
        have h1 : (LL.take (k + 1)).flatten.length ≤ LL.flatten.length := by
          conv => rhs; rw [← List.take_append_drop (k + 1) LL, List.flatten_append, List.length_append]
          omega
        rw [take_flat LL k hkL, List.length_append] at h1
        have := HN.out
        omega
      obtain ⟨row, hrow⟩ : ∃ row, LL[k]'hkL = row := ⟨_, rfl⟩
      rw [hrow] at c0 HTF HRD hsum
      obtain ⟨mr, hmr⟩ : ∃ mr, row.length = mr := ⟨_, rfl⟩
      rw [hmr] at c0 HRD hsum
      have hal : N ≤ 1001 ∧ N + mr ≤ 1001 := by rw [← hNa, ← hacc]; simp only [List.length_cons]; omega
      have HAC := Lib.hid hacc
      have HNA := Lib.hid hNa
      have HMR := Lib.hid hmr
      have HLT := Lib.hid hkL
      have k1 : (k : Int) < (n : Int) := by omega
      clear hp hrow hmr hacc hNa hsum hkL
      go_wp2_with (at_builtin; refine wpList_append_any _ rfl (.tmp 16) (.tmp 17) 73 rfl X.heap.size 186 i0 _ 2 16 Tryz.underlying73 hi0 hz0 hz1 hz2 rfl (by decide) _ N (pc acc) rfl (HM.out.get 0 rfl) wr.heap.size _ mr _ (pc row) rfl HRD.out (one_pc row) (len_ok (by omega)) (by omega) HM.out.size ?_; intro v1 x1 ho1 hg1 hv1; obtain ⟨A5, c5, rfl⟩ := own_sl ho1; have HM3 := Lib.hid (HM.out.app 0 rfl hg1 ho1 hv1 (Nat.le_refl _)); clear ho1 hg1 hv1)
      go_roundw
      case rel =>
        refine ⟨k + 1, by go_num, HLT.out, ?_⟩
        have e1 : (op, (0 : Int)) :: (LL.take (k + 1)).flatten = acc ++ row := by rw [HTF.out, ← HAC.out]; rfl
        have e2 : (acc ++ row).length = N + mr := by rw [List.length_append, HNA.out, HMR.out]
        have e3 : pc (acc ++ row) = pc acc ++ pc row := by unfold pc; rw [List.flatMap_append]
        rw [e1, e2, e3]
        exact HM3.out
      case measure => simp [intOf]; omega
    · obtain rfl : k = n := by omega
      have HF := Lib.hid (show TmOwn wr X.heap.size (.slice Av N cv) ((op, 0) :: LL.flatten) from by
        have h := HM.out.get 0 rfl
        have e : LL.take k = LL := by rw [← HNN.out, List.take_length]
        rw [e] at hacc
        unfold TmOwn
        rw [hacc, hNa]
        exact h)
      clear hacc hNa
      have HGB := Lib.hid (show X.grownBy wr none from gbelow HM.out.bel)
      go_wp2
      go_ret
      exact ⟨⟨_, rfl, HF.out⟩, HGB.out⟩
end Go.Proofs.YtdfklagiafmoiaaGreatDoor

/- A variable's name; expressions that are read. -/
namespace Go.Proofs.YtdfklagiafmoiaaGreatDoor
open Go.RowKit

def cS : ByteArray := ⟨#[99]⟩
/-- the names of the variables: one, 'c' -/
def NmOk (X : World) (r : Nat) (nm : Value) : Prop := ∃ nb cn, nm = .slice (some ⟨nb, 0, none⟩) 1 cn ∧ nb < X.heap.size ∧ nb ≠ r ∧ X.cell? ⟨nb, 0, none⟩ = some (.string cS)
theorem NmOk.keep {X Y : World} {r : Nat} {nm : Value} (h : NmOk X r nm) (hg : X.grownBy Y (some r)) : NmOk Y r nm := by
  obtain ⟨nb, cn, e, h1, h2, h3⟩ := h
  exact ⟨nb, cn, e, Nat.lt_of_lt_of_le h1 hg.size, h2, (World.cell?_of_block (hg.block nb h1 (fun e => h2 (by injection e)))).trans h3⟩
/-- a reading function of the parser: from the tokens l to l', giving e -/
def ExpQ (f : Nat) (args : List Value) (r : Nat) (l l' : List Tk) (e : List Tm) (nm x3 x4 x5 x6 : Value) : Prop :=
  ∀ X, RdS X r l nm x3 x4 x5 x6 → NmOk X r nm → Calls Tryz.prog f (.pointer (some ⟨r, 0, none⟩) :: args).toArray X fun en w' => ∃ v, en = .returned v ∧ TmOwn w' X.heap.size v e ∧ RdS w' r l' nm x3 x4 x5 x6 ∧ X.grownBy w' (some r)
theorem cS_name : NameOk cS := ⟨by decide, by decide, by decide, by decide, by decide +kernel⟩
set_option maxRecDepth 100000 in
set_option maxHeartbeats 4000000 in
theorem index_q (nb cn : Nat) (X : World) (h : X.cell? ⟨nb, 0, none⟩ = some (.string cS)) : Calls Tryz.prog 124 #[.slice (some ⟨nb, 0, none⟩) 1 cn, .string cS] X fun e w' => e = .returned (.int .i64 0) ∧ X = w' := by
  have hq : (cS.toList == cS.toList) = true := by simp
  generalize cS = s at *
  go_enter Tryz.func124, Tryz.ntmps124
  go_wp2
  go_loopw [8] (fun i wr => wr = X ∧ i = .int .i64 0) (fun _ _ => 0)
  case atStart => exact ⟨rfl, rfl⟩
  case round =>
    obtain ⟨rfl, rfl⟩ := hrel
    go_wp2
    go_ret
    exact ⟨rfl, rfl⟩
section
variable {X : World} {r : Nat} {t : Tk} {l : List Tk} {nm x3 x4 x5 x6 : Value} (h : RdS X r (t :: l) nm x3 x4 x5 x6) (hn : NmOk X r nm) (h1 : t.a ≤ t.e) (h2 : t.e ≤ colT.size) (hk : t.k = 1) (ht : txt t = cS)
include h hn h1 h2 hk ht
set_option maxRecDepth 100000 in
set_option maxHeartbeats 4000000 in
theorem variable_q : Calls Tryz.prog 94 #[.pointer (some ⟨r, 0, none⟩)] X fun e w' => e = .returned (.int .i64 0) ∧ TkPost X r l nm x3 x4 x5 x6 w' := by
  have HPK := Lib.hid (peek_q h h1 h2)
  rw [ht] at HPK
  have HH := Lib.hid h
  have HN := Lib.hid hn
  have HKD := Lib.hid (fun (Y : World) (hY : RdS Y r (t :: l) nm x3 x4 x5 x6) => kind_q hY)
  rw [hk] at HKD
  have HNM := Lib.hid (fun (Y : World) => name_p cS cS_name Y)
  have HIX := Lib.hid (fun (nb cn : Nat) (Y : World) (hY : Y.cell? ⟨nb, 0, none⟩ = some (.string cS)) => index_q nb cn Y hY)
  clear h hn h1 h2 hk ht
  go_enter Tryz.func94, Tryz.ntmps94
  go_wp2_with fail
  refine HPK.out.mono ?_
  rintro e w1 ⟨rfl, hg⟩
  have HG := Lib.hid hg
  have HH1 := Lib.hid (HH.out.keep hg)
  have HN1 := Lib.hid (HN.out.keep (hg.but _))
  clear hg HPK
  obtain ⟨v, hb, -⟩ := HH1.out
  obtain ⟨s0, s1, s2, s3, s4, s5, s6, sf⟩ := blk7r hb
  obtain ⟨nb, cn, rfl, -, -, c0⟩ := HN1.out
  have HTK := Lib.hid (take_q HH1.out)
  have HIX1 := Lib.hid (HIX.out nb cn w1 c0)
  have HK1 := Lib.hid (HKD.out w1 HH1.out)
  clear hb
  go_wp2_with (first
    | (go_at_call 88; refine HK1.out.mono ?_; rintro e w' ⟨rfl, rfl⟩)
    | (go_at_call 89; refine (HNM.out _).mono ?_; rintro e w' ⟨rfl, rfl⟩)
    | (go_at_call 124; refine HIX1.out.mono ?_; rintro e w' ⟨rfl, rfl⟩))
  refine HTK.out.mono ?_
  rintro e w2 ⟨rfl, hs, hg2⟩
  have HS := Lib.hid hs
  have HG2 := Lib.hid ((HG.out.but _).trans hg2)
  clear hs hg2
  go_wp2
  go_ret
  exact ⟨rfl, HS.out, HG2.out⟩
end
end Go.Proofs.YtdfklagiafmoiaaGreatDoor

/- The parser's levels. -/
namespace Go.Proofs.YtdfklagiafmoiaaGreatDoor
open Go.RowKit

/-- a token that lies in the text -/
def InT (t : Tk) : Prop := t.a ≤ t.e ∧ t.e ≤ colT.size
section
variable {r : Nat} {nm x3 x4 x5 x6 : Value}
set_option maxRecDepth 100000 in
set_option maxHeartbeats 4000000 in
theorem un_pass {t : Tk} {l l' : List Tk} {e : List Tm} (h : ExpQ 166 [] r (t :: l) l' e nm x3 x4 x5 x6) (hi : InT t) (h1 : ((txt t).toList == (⟨#[45]⟩ : ByteArray).toList) = false) (h2 : ((txt t).toList == (⟨#[33]⟩ : ByteArray).toList) = false) :
    ExpQ 148 [] r (t :: l) l' e nm x3 x4 x5 x6 := by
  intro X hX hN
  have HX := Lib.hid hX
  have HN := Lib.hid hN
  have H := Lib.hid h
  have HA1 := Lib.hid (fun Y (hY : RdS Y r (t :: l) nm x3 x4 x5 x6) => accept_no hY hi.1 hi.2 _ h1)
  have HA2 := Lib.hid (fun Y (hY : RdS Y r (t :: l) nm x3 x4 x5 x6) => accept_no hY hi.1 hi.2 _ h2)
  clear hX hN h hi h1 h2
  go_enter Tryz.func148, Tryz.ntmps148
  go_wp2_with fail
  refine (HA1.out X HX.out).mono ?_
  rintro en w1 ⟨rfl, hg1⟩
  have HG1 := Lib.hid hg1
  clear hg1
  go_wp2_with fail
  refine (HA2.out w1 (HX.out.keep HG1.out)).mono ?_
  rintro en w2 ⟨rfl, hg2⟩
  have HG2 := Lib.hid (HG1.out.trans hg2)
  clear hg2
  go_wp2_with fail
  refine (H.out w2 (HX.out.keep HG2.out) (HN.out.keep (HG2.out.but _))).mono ?_
  rintro en w3 ⟨v, rfl, ho, hs, hg3⟩
  have HO := Lib.hid (show TmOwn w3 X.heap.size v e from own_base ho HG2.out.size)
  have HS := Lib.hid hs
  have HG3 := Lib.hid ((HG2.out.but _).trans hg3)
  clear ho hs hg3
  go_wp2
  go_ret
  exact ⟨_, rfl, HO.out, HS.out, HG3.out⟩
set_option maxRecDepth 100000 in
set_option maxHeartbeats 4000000 in
theorem bin6 {l l' : List Tk} {e : List Tm} (h : ExpQ 148 [] r l l' e nm x3 x4 x5 x6) : ExpQ 122 [.int .i64 6] r l l' e nm x3 x4 x5 x6 := by
  intro X hX hN
  have H := Lib.hid (h X hX hN)
  clear hX hN h
  go_enter Tryz.func122, Tryz.ntmps122
  go_wp2_with fail
  refine H.out.mono ?_
  rintro en w3 ⟨v, rfl, ho, hs, hg3⟩
  have HO := Lib.hid ho
  have HS := Lib.hid hs
  have HG3 := Lib.hid hg3
  clear ho hs hg3
  go_wp2
  go_ret
  exact ⟨_, rfl, HO.out, HS.out, HG3.out⟩
set_option maxRecDepth 100000 in
set_option maxHeartbeats 4000000 in
theorem bin_pass {k : Nat} (hk : 1 ≤ k ∧ k ≤ 5) {t : Tk} {l l' : List Tk} {e : List Tm} {z : Int} (h : ExpQ 122 [.int .i64 ((k + 1 : Nat) : Int)] r l (t :: l') e nm x3 x4 x5 x6) (hi : InT t) (hz : FdOk (txt t) 30 binaryL z) (hz2 : z = 0 ∨ z = 35 ∧ k ≠ 3) :
    ExpQ 122 [.int .i64 (k : Int)] r l (t :: l') e nm x3 x4 x5 x6 := by
  intro X hX hN
  have H := Lib.hid (h X hX hN)
  have HPK := Lib.hid (fun Y (hY : RdS Y r (t :: l') nm x3 x4 x5 x6) => peek_q hY hi.1 hi.2)
  have HFD := Lib.hid (fun Y => binaryOp_q (txt t) z hz Y)
  have hk6 : ((k : Int) == 6) = false := beq_eq_false_iff_ne.2 (by omega)
  have w1 := IntWalk.i64_in ((k : Int) + 1) (by omega)
  have e1 : ((k + 1 : Nat) : Int) = (k : Int) + 1 := by omega
  rw [e1] at H
  clear hX hN h hi hz e1
  generalize txt t = q at *
  go_enter Tryz.func122, Tryz.ntmps122
  go_wp2_with fail
  refine H.out.mono ?_
  rintro en w3 ⟨v, rfl, ho, hs, hg3⟩
  obtain ⟨Av, cv, rfl⟩ := own_sl ho
  have HO := Lib.hid ho
  have HS := Lib.hid hs
  have HG3 := Lib.hid hg3
  have HLT := Lib.hid hs.lt
  clear ho hs hg3 H
  go_wp2_with fail
  go_loopw [5] (fun v5 wr => wr = w3 ∧ v5 = .slice Av e.length cv) (fun _ _ => 0)
  case atStart => exact ⟨rfl, rfl⟩
  case round =>
    obtain ⟨rfl, rfl⟩ := hrel
    go_wp2_with fail
    refine (HPK.out _ HS.out).mono ?_
    rintro en w4 ⟨rfl, hg4⟩
    have HG4 := Lib.hid hg4
    clear hg4
    go_wp2_with fail
    refine (HFD.out _).mono ?_
    rintro en w5 ⟨rfl, hg5⟩
    have HG5 := Lib.hid (HG4.out.trans hg5)
    have HF := Lib.hid (show TmOwn w5 X.heap.size (.slice Av e.length cv) e ∧ RdS w5 r (t :: l') nm x3 x4 x5 x6 ∧ X.grownBy w5 (some r) from ⟨World.ownsRow.kept HO.out HG5.out (by
      cases hv : Value.ownBlock (.slice Av e.length cv) with
      | none => exact .inl rfl
      | some b => exact .inr (by simp)), HS.out.keep HG5.out, HG3.out.trans (HG5.out.but _)⟩)
    clear hg5 HG4 HPK HFD
    rcases hz2 with rfl | ⟨rfl, hk3⟩
    · go_wp2
      go_ret
      exact ⟨_, rfl, HF.out.1, HF.out.2.1, HF.out.2.2⟩
    · have hk4 : ((3 : Int) == (k : Int)) = false := beq_eq_false_iff_ne.2 (by omega)
      go_wp2_with (go_at_call 150; refine (level_eq _).mono ?_; rintro en w' ⟨rfl, rfl⟩)
      go_ret
      exact ⟨_, rfl, HF.out.1, HF.out.2.1, HF.out.2.2⟩
end
end Go.Proofs.YtdfklagiafmoiaaGreatDoor

/- The parser's parts: a comparison; a choice; what is primary. -/
namespace Go.Proofs.YtdfklagiafmoiaaGreatDoor
open Go.RowKit

theorem TmOwn.keepN {w w' : World} {base : Nat} {v : Value} {l : List Tm} (h : TmOwn w base v l) (hg : w.grownBy w' none) : TmOwn w' base v l :=
  World.ownsRow.kept h hg (by
    cases v.ownBlock with
    | none => exact .inl rfl
    | some b => exact .inr (by simp))
theorem tm_at {w _w' : World} {base : Nat} {v : Value} {l : List Tm} (h : TmOwn w base v l) : ∃ A c, v = .slice A l.length c ∧ PairsAt w w.heap.size (.slice A l.length c) l := by
  obtain ⟨A, c, rfl⟩ := own_sl h
  exact ⟨A, c, rfl, pairs_own h rfl⟩
section
variable {r : Nat} {nm x3 x4 x5 x6 : Value}
set_option maxRecDepth 100000 in
set_option maxHeartbeats 4000000 in
theorem choice_pass {t : Tk} {l l' : List Tk} {e : List Tm} (h : ExpQ 122 [.int .i64 1] r l (t :: l') e nm x3 x4 x5 x6) (hi : InT t) (h1 : ((txt t).toList == (⟨#[63]⟩ : ByteArray).toList) = false) :
    ExpQ 93 [] r l (t :: l') e nm x3 x4 x5 x6 := by
  intro X hX hN
  have H := Lib.hid (h X hX hN)
  have HA1 := Lib.hid (fun Y (hY : RdS Y r (t :: l') nm x3 x4 x5 x6) => accept_no hY hi.1 hi.2 _ h1)
  clear hX hN h hi h1
  go_enter Tryz.func93, Tryz.ntmps93
  go_wp2_with fail
  refine H.out.mono ?_
  rintro en w3 ⟨v, rfl, ho, hs, hg3⟩
  obtain ⟨Av, cv, rfl⟩ := own_sl ho
  have HO := Lib.hid ho
  have HS := Lib.hid hs
  have HG3 := Lib.hid hg3
  clear ho hs hg3 H
  go_wp2_with fail
  refine (HA1.out w3 HS.out).mono ?_
  rintro en w4 ⟨rfl, hg4⟩
  have HF := Lib.hid (show TmOwn w4 X.heap.size (.slice Av e.length cv) e ∧ RdS w4 r (t :: l') nm x3 x4 x5 x6 ∧ X.grownBy w4 (some r) from ⟨TmOwn.keepN HO.out hg4, HS.out.keep hg4, HG3.out.trans (hg4.but _)⟩)
  clear hg4
  go_wp2
  go_ret
  exact ⟨_, rfl, HF.out.1, HF.out.2.1, HF.out.2.2⟩
set_option maxRecDepth 100000 in
set_option maxHeartbeats 4000000 in
theorem neigh_q {t1 t2 : Tk} {l : List Tk} (i1 : InT t1) (i2 : InT t2) (h1 : ((txt t1).toList == (⟨#[46]⟩ : ByteArray).toList) = true) (hk : t2.k = 1) (ht : txt t2 = cS) (hz : FdOk cS 13 fieldL 0) :
    ExpQ 187 [] r (t1 :: t2 :: l) l [(12, 0)] nm x3 x4 x5 x6 := by
  intro X hX hN
  have HA := Lib.hid (accept_yes hX i1.1 i1.2 _ h1)
  have HPK := Lib.hid (fun Y (hY : RdS Y r (t2 :: l) nm x3 x4 x5 x6) => peek_q hY i2.1 i2.2)
  have HVA := Lib.hid (fun Y (hY : RdS Y r (t2 :: l) nm x3 x4 x5 x6) (hn : NmOk Y r nm) => variable_q hY hn i2.1 i2.2 hk ht)
  have HFD := Lib.hid (fun Y => fieldOp_q cS 0 hz Y)
  have HN := Lib.hid hN
  rw [ht] at HPK
  clear hX hN i1 i2 h1 hk ht hz
  go_enter Tryz.func187, Tryz.ntmps187
  go_wp2_with fail
  refine HA.out.mono ?_
  rintro en w1 ⟨rfl, hs1, hg1⟩
  have HS1 := Lib.hid hs1
  have HG1 := Lib.hid hg1
  clear hs1 hg1 HA
  go_wp2_with fail
  refine (HPK.out w1 HS1.out).mono ?_
  rintro en w2 ⟨rfl, hg2⟩
  have HG2 := Lib.hid hg2
  clear hg2 HPK
  go_wp2_with fail
  refine (HFD.out w2).mono ?_
  rintro en w3 ⟨rfl, hg3⟩
  have HG3 := Lib.hid (HG2.out.trans hg3)
  clear hg3 HG2 HFD
  go_wp2_with fail
  refine (HVA.out w3 (HS1.out.keep HG3.out) ((HN.out.keep HG1.out).keep (HG3.out.but _))).mono ?_
  rintro en w4 ⟨rfl, hs4, hg4⟩
  have HS4 := Lib.hid hs4
  have HG4 := Lib.hid ((HG1.out.trans (HG3.out.but _)).trans hg4)
  clear hs4 hg4 HVA
  go_wp2_with fail
  refine (leaf_q 12 0 w4).mono ?_
  rintro en w5 ⟨rfl, ho, hg5⟩
  have HF := Lib.hid (show TmOwn w5 X.heap.size (.slice (some ⟨w4.heap.size, 0, none⟩) 1 1) [(12, 0)] ∧ RdS w5 r l nm x3 x4 x5 x6 ∧ X.grownBy w5 (some r) from ⟨own_base ho HG4.out.size, HS4.out.keep hg5, HG4.out.trans (hg5.but _)⟩)
  clear ho hg5
  go_wp2
  go_ret
  exact ⟨_, rfl, HF.out.1, HF.out.2.1, HF.out.2.2⟩
set_option maxRecDepth 100000 in
set_option maxHeartbeats 4000000 in
theorem prim_near {t : Tk} {l l' : List Tk} {e : List Tm} (h : ExpQ 187 [] r l l' e nm x3 x4 x5 x6) (hi : InT t) (hk : t.k = 1) (h0 : ((txt t).toList == (⟨#[40]⟩ : ByteArray).toList) = false) (h1 : ((txt t).toList == (⟨#[113]⟩ : ByteArray).toList) = true) :
    ExpQ 166 [] r (t :: l) l' e nm x3 x4 x5 x6 := by
  intro X hX hN
  have HX := Lib.hid hX
  have HN := Lib.hid hN
  have H := Lib.hid h
  have HPK := Lib.hid (fun Y (hY : RdS Y r (t :: l) nm x3 x4 x5 x6) => peek_q hY hi.1 hi.2)
  have HKD := Lib.hid (fun Y (hY : RdS Y r (t :: l) nm x3 x4 x5 x6) => kind_q hY)
  rw [hk] at HKD
  have HA0 := Lib.hid (fun Y (hY : RdS Y r (t :: l) nm x3 x4 x5 x6) => accept_no hY hi.1 hi.2 _ h0)
  have HA1 := Lib.hid (fun Y (hY : RdS Y r (t :: l) nm x3 x4 x5 x6) => accept_yes hY hi.1 hi.2 _ h1)
  clear hX hN h hi hk h0 h1
  go_enter Tryz.func166, Tryz.ntmps166
  go_wp2_with fail
  refine (HPK.out X HX.out).mono ?_
  rintro en w1 ⟨rfl, hg1⟩
  have HS1 := Lib.hid (HX.out.keep hg1)
  have HG1 := Lib.hid hg1
  clear hg1
  go_wp2_with fail
  refine (HKD.out w1 HS1.out).mono ?_
  rintro en w' ⟨rfl, rfl⟩
  go_wp2_with fail
  refine (HA0.out w1 HS1.out).mono ?_
  rintro en w2 ⟨rfl, hg2⟩
  have HG2 := Lib.hid (HG1.out.trans hg2)
  clear hg2
  go_wp2_with fail
  refine (HA1.out w2 (HX.out.keep HG2.out)).mono ?_
  rintro en w3 ⟨rfl, hs3, hg3⟩
  have HS3 := Lib.hid hs3
  have HG3 := Lib.hid ((HG2.out.but _).trans hg3)
  clear hs3 hg3
  go_wp2_with fail
  refine (H.out w3 HS3.out (HN.out.keep HG3.out)).mono ?_
  rintro en w4 ⟨v, rfl, ho, hs4, hg4⟩
  have HF := Lib.hid (show TmOwn w4 X.heap.size v e ∧ RdS w4 r l' nm x3 x4 x5 x6 ∧ X.grownBy w4 (some r) from ⟨own_base ho HG3.out.size, hs4, HG3.out.trans hg4⟩)
  clear ho hs4 hg4
  go_wp2
  go_ret
  exact ⟨_, rfl, HF.out.1, HF.out.2.1, HF.out.2.2⟩
end
end Go.Proofs.YtdfklagiafmoiaaGreatDoor

/- The parser's parts: an own variable; an aggregate; a comparison. -/
namespace Go.Proofs.YtdfklagiafmoiaaGreatDoor
open Go.RowKit

section
variable {r : Nat} {nm x3 x4 x5 x6 : Value}
set_option maxRecDepth 100000 in
set_option maxHeartbeats 4000000 in
theorem prim_own {t : Tk} {l : List Tk} (hi : InT t) (hk : t.k = 1) (ht : txt t = cS) (h0 : (cS.toList == (⟨#[40]⟩ : ByteArray).toList) = false) (h1 : (cS.toList == (⟨#[113]⟩ : ByteArray).toList) = false) (hz1 : FdOk cS 2 constantL 0) (hz2 : FdOk cS 20 aggregateL 0) :
    ExpQ 166 [] r (t :: l) l [(5, 0)] nm x3 x4 x5 x6 := by
  intro X hX hN
  have HX := Lib.hid hX
  have HN := Lib.hid hN
  have HPK := Lib.hid (fun Y (hY : RdS Y r (t :: l) nm x3 x4 x5 x6) => peek_q hY hi.1 hi.2)
  rw [ht] at HPK
  have HKD := Lib.hid (fun Y (hY : RdS Y r (t :: l) nm x3 x4 x5 x6) => kind_q hY)
  rw [hk] at HKD
  have HA0 := Lib.hid (fun Y (hY : RdS Y r (t :: l) nm x3 x4 x5 x6) => accept_no hY hi.1 hi.2 _ (by rw [ht]; exact h0))
  have HA1 := Lib.hid (fun Y (hY : RdS Y r (t :: l) nm x3 x4 x5 x6) => accept_no hY hi.1 hi.2 _ (by rw [ht]; exact h1))
  have HVA := Lib.hid (fun Y (hY : RdS Y r (t :: l) nm x3 x4 x5 x6) (hn : NmOk Y r nm) => variable_q hY hn hi.1 hi.2 hk ht)
  have HC := Lib.hid (fun Y => constantOp_q cS 0 hz1 Y)
  have HG := Lib.hid (fun Y => aggregateOp_q cS 0 hz2 Y)
  clear hX hN hi hk h0 h1 ht hz1 hz2
  go_enter Tryz.func166, Tryz.ntmps166
  go_wp2_with fail
  refine (HPK.out X HX.out).mono ?_
  rintro en w1 ⟨rfl, hg1⟩
  have HS1 := Lib.hid (HX.out.keep hg1)
  have HG1 := Lib.hid hg1
  clear hg1
  go_wp2_with fail
  refine (HKD.out w1 HS1.out).mono ?_
  rintro en w' ⟨rfl, rfl⟩
  go_wp2_with fail
  refine (HA0.out w1 HS1.out).mono ?_
  rintro en w2 ⟨rfl, hg2⟩
  have HG2 := Lib.hid (HG1.out.trans hg2)
  clear hg2
  go_wp2_with fail
  refine (HA1.out w2 (HX.out.keep HG2.out)).mono ?_
  rintro en w3 ⟨rfl, hg3⟩
  have HG3 := Lib.hid (HG2.out.trans hg3)
  clear hg3
  go_wp2_with fail
  refine (HC.out w3).mono ?_
  rintro en w4 ⟨rfl, hg4⟩
  have HG4 := Lib.hid (HG3.out.trans hg4)
  clear hg4
  go_wp2_with fail
  refine (HG.out w4).mono ?_
  rintro en w5 ⟨rfl, hg5⟩
  have HG5 := Lib.hid (HG4.out.trans hg5)
  clear hg5
  go_wp2_with fail
  refine (HVA.out w5 (HX.out.keep HG5.out) (HN.out.keep (HG5.out.but _))).mono ?_
  rintro en w6 ⟨rfl, hs6, hg6⟩
  have HS6 := Lib.hid hs6
  have HG6 := Lib.hid ((HG5.out.but _).trans hg6)
  clear hs6 hg6
  go_wp2_with fail
  refine (leaf_q 5 0 w6).mono ?_
  rintro en w7 ⟨rfl, ho, hg7⟩
  have HF := Lib.hid (show TmOwn w7 X.heap.size (.slice (some ⟨w6.heap.size, 0, none⟩) 1 1) [(5, 0)] ∧ RdS w7 r l nm x3 x4 x5 x6 ∧ X.grownBy w7 (some r) from ⟨own_base ho HG6.out.size, HS6.out.keep hg7, HG6.out.trans (hg7.but _)⟩)
  clear ho hg7
  go_wp2
  go_ret
  exact ⟨_, rfl, HF.out.1, HF.out.2.1, HF.out.2.2⟩
theorem ports_one {w : World} {b : Nat} {v : Value} {l : List Tm} (hb : Blk w b 73 #[v]) (h : PairsAt w w.heap.size v l) : PortsAt w w.heap.size (.slice (some ⟨b, 0, none⟩) [l].length 1) [l] :=
  ⟨_, _, [v], rfl, reads_blk (l := [v]) hb hb.lt rfl, fun k x hx => by
    cases k with
    | zero =>
      simp only [List.getElem?_cons_zero, Option.some.injEq] at hx
      subst hx
      exact ⟨[v], rfl, ⟨v, rfl, h⟩, fun j u hj => by simpa using hj⟩
    | succ k => simp at hx⟩
theorem ports_two {w : World} {b : Nat} {v u : Value} {l m : List Tm} (hb : Blk w b 73 #[v, u]) (h : PairsAt w w.heap.size v l) (h2 : PairsAt w w.heap.size u m) : PortsAt w w.heap.size (.slice (some ⟨b, 0, none⟩) [l, m].length 2) [l, m] :=
  ⟨_, _, [v, u], rfl, reads_blk (l := [v, u]) hb hb.lt rfl, fun k x hx => by
    rcases k with _ | _ | k
    · simp only [List.getElem?_cons_zero, Option.some.injEq] at hx
      subst hx
      exact ⟨[v], rfl, ⟨v, rfl, h⟩, fun j y hj => by
        rcases j with _ | j
        · simpa using hj
        · simp at hj⟩
    · simp only [List.getElem?_cons_succ, List.getElem?_cons_zero, Option.some.injEq] at hx
      subst hx
      exact ⟨[u], rfl, ⟨u, rfl, h2⟩, fun j y hj => by
        rcases j with _ | j
        · simpa using hj
        · simp at hj⟩
    · simp at hx⟩
theorem pairs_keep {w w' : World} {base : Nat} {A : Option Addr} {c : Nat} {l : List Tm} (h : TmOwn w base (.slice A l.length c) l) (hg : w.grownBy w' none) : PairsAt w' w'.heap.size (.slice A l.length c) l := (TmOwn.pairs (h.keepN hg)).2
set_option maxRecDepth 100000 in
set_option maxHeartbeats 4000000 in
theorem prim_agg {t t1 t2 : Tk} {l l' : List Tk} {e : List Tm} {op : Int} (h : ExpQ 93 [] r l (t2 :: l') e nm x3 x4 x5 x6) (he : e.length ≤ 900) (hi : InT t) (i1 : InT t1) (i2 : InT t2) (hk : t.k = 1) (s : ByteArray) (ht : txt t = s)
    (h0 : (s.toList == (⟨#[40]⟩ : ByteArray).toList) = false) (h1 : (s.toList == (⟨#[113]⟩ : ByteArray).toList) = false) (hz1 : FdOk s 2 constantL 0) (hz2 : FdOk s 20 aggregateL op) (hop : op ≠ 0)
    (ht1 : ((txt t1).toList == (⟨#[40]⟩ : ByteArray).toList) = true) (ht2 : ((txt t2).toList == (⟨#[41]⟩ : ByteArray).toList) = true) :
    ExpQ 166 [] r (t :: t1 :: l) l' ((op, 0) :: e) nm x3 x4 x5 x6 := by
  intro X hX hN
  have HX := Lib.hid hX
  have HN := Lib.hid hN
  have H := Lib.hid h
  have HPK := Lib.hid (fun Y (hY : RdS Y r (t :: t1 :: l) nm x3 x4 x5 x6) => peek_q hY hi.1 hi.2)
  rw [ht] at HPK
  have HKD := Lib.hid (fun Y (hY : RdS Y r (t :: t1 :: l) nm x3 x4 x5 x6) => kind_q hY)
  rw [hk] at HKD
  have HA0 := Lib.hid (fun Y (hY : RdS Y r (t :: t1 :: l) nm x3 x4 x5 x6) => accept_no hY hi.1 hi.2 _ (by rw [ht]; exact h0))
  have HA1 := Lib.hid (fun Y (hY : RdS Y r (t :: t1 :: l) nm x3 x4 x5 x6) => accept_no hY hi.1 hi.2 _ (by rw [ht]; exact h1))
  have HTK := Lib.hid (fun Y (hY : RdS Y r (t :: t1 :: l) nm x3 x4 x5 x6) => take_q hY)
  have HE1 := Lib.hid (fun Y (hY : RdS Y r (t1 :: l) nm x3 x4 x5 x6) => expect_q hY i1.1 i1.2 _ ht1)
  have HE2 := Lib.hid (fun Y (hY : RdS Y r (t2 :: l') nm x3 x4 x5 x6) => expect_q hY i2.1 i2.2 _ ht2)
  have HC := Lib.hid (fun Y => constantOp_q s 0 hz1 Y)
  have HG := Lib.hid (fun Y => aggregateOp_q s op hz2 Y)
  have HEL := Lib.hid he
  have hop' : (op != 0) = true := bne_iff_ne.2 hop
  clear hX hN hi hk h0 h1 ht hz1 hz2 h i1 i2 ht1 ht2 he hop
  go_enter Tryz.func166, Tryz.ntmps166
  go_wp2_with fail
  refine (HPK.out X HX.out).mono ?_
  rintro en w1 ⟨rfl, hg1⟩
  have HS1 := Lib.hid (HX.out.keep hg1)
  have HG1 := Lib.hid hg1
  clear hg1
  go_wp2_with fail
  refine (HKD.out w1 HS1.out).mono ?_
  rintro en w' ⟨rfl, rfl⟩
  go_wp2_with fail
  refine (HA0.out w1 HS1.out).mono ?_
  rintro en w2 ⟨rfl, hg2⟩
  have HG2 := Lib.hid (HG1.out.trans hg2)
  clear hg2
  go_wp2_with fail
  refine (HA1.out w2 (HX.out.keep HG2.out)).mono ?_
  rintro en w3 ⟨rfl, hg3⟩
  have HG3 := Lib.hid (HG2.out.trans hg3)
  clear hg3
  go_wp2_with fail
  refine (HC.out w3).mono ?_
  rintro en w4 ⟨rfl, hg4⟩
  have HG4 := Lib.hid (HG3.out.trans hg4)
  clear hg4
  go_wp2_with fail
  refine (HG.out w4).mono ?_
  rintro en w5 ⟨rfl, hg5⟩
  have HG5 := Lib.hid (HG4.out.trans hg5)
  clear hg5
  go_wp2_with fail
  refine (HTK.out w5 (HX.out.keep HG5.out)).mono ?_
  rintro en w6 ⟨rfl, hs6, hg6⟩
  have HS6 := Lib.hid hs6
  have HG6 := Lib.hid ((HG5.out.but _).trans hg6)
  clear hs6 hg6
  go_wp2_with fail
  refine (HE1.out w6 HS6.out).mono ?_
  rintro en w7 ⟨⟨v7, rfl⟩, hs7, hg7⟩
  have HS7 := Lib.hid hs7
  have HG7 := Lib.hid (HG6.out.trans hg7)
  clear hs7 hg7
  go_wp2_with fail
  refine (H.out w7 HS7.out (HN.out.keep HG7.out)).mono ?_
  rintro en w8 ⟨v, rfl, ho, hs8, hg8⟩
  obtain ⟨Av, cv, rfl⟩ := own_sl ho
  have HO := Lib.hid (show TmOwn w8 w7.heap.size _ e from ho)
  have HS8 := Lib.hid hs8
  have HG8 := Lib.hid (HG7.out.trans hg8)
  have HR7 := Lib.hid hs8.lt
  have HR8 := Lib.hid (HS7.out.lt)
  clear ho hs8 hg8
  go_wp2_with fail
  refine (HE2.out w8 HS8.out).mono ?_
  rintro en w9 ⟨⟨v9, rfl⟩, hs9, hg9⟩
  have HS9 := Lib.hid hs9
  have HG9 := Lib.hid (HG8.out.trans hg9)
  have HO9 := Lib.hid (HO.out.keep hg9 HR8.out)
  clear hs9 hg9
  have HP := Lib.hid (show PortsAt (w9.alloc (.cells #[.slice Av e.length cv] 73)) (w9.alloc (.cells #[.slice Av e.length cv] 73)).heap.size (.slice (some ⟨w9.heap.size, 0, none⟩) [e].length 1) [e] from ports_one (Blk.new _ _ _) (pairs_keep HO9.out (galloc _ _)))
  have HOP := Lib.hid (oper_q op [e] (by simp) (by have := HEL.out; simp; omega) _ _ _ HP.out)
  go_wp2_with fail
  refine HOP.out.mono ?_
  rintro en w10 ⟨⟨v10, rfl, ho10⟩, hg10⟩
  have HF := Lib.hid (show TmOwn w10 X.heap.size v10 ((op, 0) :: e) ∧ RdS w10 r l' nm x3 x4 x5 x6 ∧ X.grownBy w10 (some r) from by
    have hga := (galloc w9 (.cells #[.slice Av e.length cv] 73)).trans hg10
    refine ⟨?_, HS9.out.keep hga, HG9.out.trans (hga.but _)⟩
    rw [show [e].flatten = e from by simp] at ho10
    exact own_base ho10 (by have := HG9.out.size; simp; omega))
  clear ho10 hg10
  go_wp2
  go_ret
  exact ⟨_, rfl, HF.out.1, HF.out.2.1, HF.out.2.2⟩
end
end Go.Proofs.YtdfklagiafmoiaaGreatDoor

/- The parser's parts: a comparison. -/
namespace Go.Proofs.YtdfklagiafmoiaaGreatDoor
open Go.RowKit

section
variable {r : Nat} {nm x3 x4 x5 x6 : Value}
set_option maxRecDepth 100000 in
set_option maxHeartbeats 8000000 in
theorem bin_op3 {t : Tk} {l l1 l2 : List Tk} {e1 e2 : List Tm} (h1 : ExpQ 122 [.int .i64 4] r l (t :: l1) e1 nm x3 x4 x5 x6) (h2 : ExpQ 122 [.int .i64 4] r l1 l2 e2 nm x3 x4 x5 x6) (he : e1.length + e2.length ≤ 900) (hi : InT t) (hz : FdOk (txt t) 30 binaryL 35) :
    ExpQ 122 [.int .i64 3] r l l2 ((35, 0) :: (e1 ++ e2)) nm x3 x4 x5 x6 := by
  intro X hX hN
  have H1 := Lib.hid (h1 X hX hN)
  have H2 := Lib.hid h2
  have HN := Lib.hid hN
  have HPK := Lib.hid (fun Y (hY : RdS Y r (t :: l1) nm x3 x4 x5 x6) => peek_q hY hi.1 hi.2)
  have HTK := Lib.hid (fun Y (hY : RdS Y r (t :: l1) nm x3 x4 x5 x6) => take_q hY)
  have HFD := Lib.hid (fun Y => binaryOp_q (txt t) 35 hz Y)
  have HEL := Lib.hid he
  have HRX := Lib.hid hX.lt
  clear hX hN h1 h2 hi hz he
  generalize txt t = qq at *
  go_enter Tryz.func122, Tryz.ntmps122
  go_wp2_with fail
  refine H1.out.mono ?_
  rintro en w3 ⟨v, rfl, ho, hs, hg3⟩
  obtain ⟨Av, cv, rfl⟩ := own_sl ho
  have HO := Lib.hid (show TmOwn w3 X.heap.size _ e1 from ho)
  have HS := Lib.hid hs
  have HG3 := Lib.hid hg3
  clear ho hs hg3 H1
  go_wp2_with fail
  go_loopw [5] (fun v5 wr => wr = w3 ∧ v5 = .slice Av e1.length cv) (fun _ _ => 0)
  case atStart => exact ⟨rfl, rfl⟩
  case round =>
    obtain ⟨rfl, rfl⟩ := hrel
    go_wp2_with fail
    refine (HPK.out _ HS.out).mono ?_
    rintro en w4 ⟨rfl, hg4⟩
    have HG4 := Lib.hid hg4
    clear hg4
    go_wp2_with fail
    refine (HFD.out _).mono ?_
    rintro en w5 ⟨rfl, hg5⟩
    have HG5 := Lib.hid (HG4.out.trans hg5)
    have HO5 := Lib.hid (HO.out.keepN HG5.out)
    have HS5 := Lib.hid (HS.out.keep HG5.out)
    have HGX := Lib.hid (HG3.out.trans (HG5.out.but _))
    clear hg5 HG4 HPK HFD HG5
    go_wp2_with (go_at_call 150; refine (level_eq _).mono ?_; rintro en w' ⟨rfl, rfl⟩)
    refine (HTK.out _ HS5.out).mono ?_
    rintro en w6 ⟨rfl, hs6, hg6⟩
    have HS6 := Lib.hid hs6
    have HG6 := Lib.hid (HGX.out.trans hg6)
    have HO6 := Lib.hid (HO5.out.keep hg6 HRX.out)
    clear hs6 hg6
    go_wp2_with fail
    refine (H2.out w6 HS6.out (HN.out.keep HG6.out)).mono ?_
    rintro en w7 ⟨v7, rfl, ho7, hs7, hg7⟩
    obtain ⟨Au, cu, rfl⟩ := own_sl ho7
    have HOA := Lib.hid (HO6.out.keep hg7 HRX.out)
    have HOB := Lib.hid (show TmOwn w7 w6.heap.size (.slice Au e2.length cu) e2 from ho7)
    have HS7 := Lib.hid hs7
    have HG7 := Lib.hid (HG6.out.trans hg7)
    have HP := Lib.hid (show PortsAt (w7.alloc (.cells #[.slice Av e1.length cv, .slice Au e2.length cu] 73)) (w7.alloc (.cells #[.slice Av e1.length cv, .slice Au e2.length cu] 73)).heap.size (.slice (some ⟨w7.heap.size, 0, none⟩) [e1, e2].length 2) [e1, e2] from ports_two (Blk.new _ _ _) (pairs_keep HOA.out (galloc _ _)) (pairs_keep HOB.out (galloc _ _)))
    have HOP := Lib.hid (oper_q 35 [e1, e2] (by simp) (by have := HEL.out; simp; omega) _ _ _ HP.out)
    clear ho7 hs7 hg7
    go_wp2_with fail
    refine HOP.out.mono ?_
    rintro en w10 ⟨⟨v10, rfl, ho10⟩, hg10⟩
    have HF := Lib.hid (show TmOwn w10 X.heap.size v10 ((35, 0) :: (e1 ++ e2)) ∧ RdS w10 r l2 nm x3 x4 x5 x6 ∧ X.grownBy w10 (some r) from by
      have hga := (galloc w7 (.cells #[.slice Av e1.length cv, .slice Au e2.length cu] 73)).trans hg10
      refine ⟨?_, HS7.out.keep hga, HG7.out.trans (hga.but _)⟩
      rw [show [e1, e2].flatten = e1 ++ e2 from by simp] at ho10
      exact own_base ho10 (by have := HG7.out.size; simp; omega))
    clear ho10 hg10
    go_wp2
    go_ret
    exact ⟨_, rfl, HF.out.1, HF.out.2.1, HF.out.2.2⟩
end
end Go.Proofs.YtdfklagiafmoiaaGreatDoor
