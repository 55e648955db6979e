/- Lemmas of this seat, laid together out of 3 texts: no statement of the seat is proved here. -/
import Derived.Test.YtdfklagiafmoiaaGreatDoorG19
/- The two expressions of made.Colours, read. (Printed by genPB1.py.) -/
namespace Go.Proofs.YtdfklagiafmoiaaGreatDoor
open Go.RowKit

section
variable (r : Nat) (nm x3 x4 x5 x6 : Value)
theorem ex1 : ExpQ 187 [] r (colL.drop 16) (colL.drop 18) [(12, 0)] nm x3 x4 x5 x6 := neigh_q (t1 := ⟨3, 49, 50⟩) (t2 := ⟨1, 50, 51⟩) ⟨by decide, by decide⟩ ⟨by decide, by decide⟩ (by decide +kernel) rfl (by decide +kernel) ⟨by decide +kernel, .inr ⟨rfl, by decide +kernel⟩⟩
theorem ex2 : ExpQ 166 [] r (colL.drop 15) (colL.drop 18) [(12, 0)] nm x3 x4 x5 x6 := prim_near (t := ⟨1, 48, 49⟩) (ex1 r nm x3 x4 x5 x6) ⟨by decide, by decide⟩ rfl (by decide +kernel) (by decide +kernel)
theorem ex3 : ExpQ 148 [] r (colL.drop 15) (colL.drop 18) [(12, 0)] nm x3 x4 x5 x6 := un_pass (t := ⟨1, 48, 49⟩) (ex2 r nm x3 x4 x5 x6) ⟨by decide, by decide⟩ (by decide +kernel) (by decide +kernel)
theorem ex4 : ExpQ 122 [.int .i64 6] r (colL.drop 15) (colL.drop 18) [(12, 0)] nm x3 x4 x5 x6 := bin6 (ex3 r nm x3 x4 x5 x6)
theorem ex5 : ExpQ 122 [.int .i64 5] r (colL.drop 15) (colL.drop 18) [(12, 0)] nm x3 x4 x5 x6 := bin_pass (k := 5) (by decide) (t := ⟨3, 52, 54⟩) (ex4 r nm x3 x4 x5 x6) ⟨by decide, by decide⟩ ⟨by decide +kernel, .inl ⟨5, by decide, by decide, by decide +kernel, by decide +kernel⟩⟩ (.inr ⟨rfl, by decide⟩)
theorem ex6 : ExpQ 122 [.int .i64 4] r (colL.drop 15) (colL.drop 18) [(12, 0)] nm x3 x4 x5 x6 := bin_pass (k := 4) (by decide) (t := ⟨3, 52, 54⟩) (ex5 r nm x3 x4 x5 x6) ⟨by decide, by decide⟩ ⟨by decide +kernel, .inl ⟨5, by decide, by decide, by decide +kernel, by decide +kernel⟩⟩ (.inr ⟨rfl, by decide⟩)
theorem ex7 : ExpQ 166 [] r (colL.drop 19) (colL.drop 20) [(5, 0)] nm x3 x4 x5 x6 := prim_own (t := ⟨1, 55, 56⟩) ⟨by decide, by decide⟩ rfl (by decide +kernel) (by decide +kernel) (by decide +kernel) ⟨by decide +kernel, .inr ⟨rfl, by decide +kernel⟩⟩ ⟨by decide +kernel, .inr ⟨rfl, by decide +kernel⟩⟩
theorem ex8 : ExpQ 148 [] r (colL.drop 19) (colL.drop 20) [(5, 0)] nm x3 x4 x5 x6 := un_pass (t := ⟨1, 55, 56⟩) (ex7 r nm x3 x4 x5 x6) ⟨by decide, by decide⟩ (by decide +kernel) (by decide +kernel)
theorem ex9 : ExpQ 122 [.int .i64 6] r (colL.drop 19) (colL.drop 20) [(5, 0)] nm x3 x4 x5 x6 := bin6 (ex8 r nm x3 x4 x5 x6)
theorem ex10 : ExpQ 122 [.int .i64 5] r (colL.drop 19) (colL.drop 20) [(5, 0)] nm x3 x4 x5 x6 := bin_pass (k := 5) (by decide) (t := ⟨3, 56, 57⟩) (ex9 r nm x3 x4 x5 x6) ⟨by decide, by decide⟩ ⟨by decide +kernel, .inr ⟨rfl, by decide +kernel⟩⟩ (.inl rfl)
theorem ex11 : ExpQ 122 [.int .i64 4] r (colL.drop 19) (colL.drop 20) [(5, 0)] nm x3 x4 x5 x6 := bin_pass (k := 4) (by decide) (t := ⟨3, 56, 57⟩) (ex10 r nm x3 x4 x5 x6) ⟨by decide, by decide⟩ ⟨by decide +kernel, .inr ⟨rfl, by decide +kernel⟩⟩ (.inl rfl)
theorem ex12 : ExpQ 122 [.int .i64 3] r (colL.drop 15) (colL.drop 20) [(35, 0), (12, 0), (5, 0)] nm x3 x4 x5 x6 := bin_op3 (t := ⟨3, 52, 54⟩) (ex6 r nm x3 x4 x5 x6) (ex11 r nm x3 x4 x5 x6) (by decide) ⟨by decide, by decide⟩ ⟨by decide +kernel, .inl ⟨5, by decide, by decide, by decide +kernel, by decide +kernel⟩⟩
theorem ex13 : ExpQ 122 [.int .i64 2] r (colL.drop 15) (colL.drop 20) [(35, 0), (12, 0), (5, 0)] nm x3 x4 x5 x6 := bin_pass (k := 2) (by decide) (t := ⟨3, 56, 57⟩) (ex12 r nm x3 x4 x5 x6) ⟨by decide, by decide⟩ ⟨by decide +kernel, .inr ⟨rfl, by decide +kernel⟩⟩ (.inl rfl)
theorem ex14 : ExpQ 122 [.int .i64 1] r (colL.drop 15) (colL.drop 20) [(35, 0), (12, 0), (5, 0)] nm x3 x4 x5 x6 := bin_pass (k := 1) (by decide) (t := ⟨3, 56, 57⟩) (ex13 r nm x3 x4 x5 x6) ⟨by decide, by decide⟩ ⟨by decide +kernel, .inr ⟨rfl, by decide +kernel⟩⟩ (.inl rfl)
theorem ex15 : ExpQ 93 [] r (colL.drop 15) (colL.drop 20) [(35, 0), (12, 0), (5, 0)] nm x3 x4 x5 x6 := choice_pass (t := ⟨3, 56, 57⟩) (ex14 r nm x3 x4 x5 x6) ⟨by decide, by decide⟩ (by decide +kernel)
theorem ex16 : ExpQ 166 [] r (colL.drop 13) (colL.drop 21) [(21, 0), (35, 0), (12, 0), (5, 0)] nm x3 x4 x5 x6 := prim_agg (t := ⟨1, 43, 47⟩) (t1 := ⟨3, 47, 48⟩) (t2 := ⟨3, 56, 57⟩) (ex15 r nm x3 x4 x5 x6) (by decide) ⟨by decide, by decide⟩ ⟨by decide, by decide⟩ ⟨by decide, by decide⟩ rfl _ rfl (by decide +kernel) (by decide +kernel) ⟨by decide +kernel, .inr ⟨rfl, by decide +kernel⟩⟩ ⟨by decide +kernel, .inl ⟨1, by decide, by decide, by decide +kernel, by decide +kernel⟩⟩ (by decide) (by decide +kernel) (by decide +kernel)
theorem ex17 : ExpQ 148 [] r (colL.drop 13) (colL.drop 21) [(21, 0), (35, 0), (12, 0), (5, 0)] nm x3 x4 x5 x6 := un_pass (t := ⟨1, 43, 47⟩) (ex16 r nm x3 x4 x5 x6) ⟨by decide, by decide⟩ (by decide +kernel) (by decide +kernel)
theorem ex18 : ExpQ 122 [.int .i64 6] r (colL.drop 13) (colL.drop 21) [(21, 0), (35, 0), (12, 0), (5, 0)] nm x3 x4 x5 x6 := bin6 (ex17 r nm x3 x4 x5 x6)
theorem ex19 : ExpQ 122 [.int .i64 5] r (colL.drop 13) (colL.drop 21) [(21, 0), (35, 0), (12, 0), (5, 0)] nm x3 x4 x5 x6 := bin_pass (k := 5) (by decide) (t := ⟨3, 58, 60⟩) (ex18 r nm x3 x4 x5 x6) ⟨by decide, by decide⟩ ⟨by decide +kernel, .inr ⟨rfl, by decide +kernel⟩⟩ (.inl rfl)
theorem ex20 : ExpQ 122 [.int .i64 4] r (colL.drop 13) (colL.drop 21) [(21, 0), (35, 0), (12, 0), (5, 0)] nm x3 x4 x5 x6 := bin_pass (k := 4) (by decide) (t := ⟨3, 58, 60⟩) (ex19 r nm x3 x4 x5 x6) ⟨by decide, by decide⟩ ⟨by decide +kernel, .inr ⟨rfl, by decide +kernel⟩⟩ (.inl rfl)
theorem ex21 : ExpQ 122 [.int .i64 3] r (colL.drop 13) (colL.drop 21) [(21, 0), (35, 0), (12, 0), (5, 0)] nm x3 x4 x5 x6 := bin_pass (k := 3) (by decide) (t := ⟨3, 58, 60⟩) (ex20 r nm x3 x4 x5 x6) ⟨by decide, by decide⟩ ⟨by decide +kernel, .inr ⟨rfl, by decide +kernel⟩⟩ (.inl rfl)
theorem ex22 : ExpQ 122 [.int .i64 2] r (colL.drop 13) (colL.drop 21) [(21, 0), (35, 0), (12, 0), (5, 0)] nm x3 x4 x5 x6 := bin_pass (k := 2) (by decide) (t := ⟨3, 58, 60⟩) (ex21 r nm x3 x4 x5 x6) ⟨by decide, by decide⟩ ⟨by decide +kernel, .inr ⟨rfl, by decide +kernel⟩⟩ (.inl rfl)
theorem ex23 : ExpQ 122 [.int .i64 1] r (colL.drop 13) (colL.drop 21) [(21, 0), (35, 0), (12, 0), (5, 0)] nm x3 x4 x5 x6 := bin_pass (k := 1) (by decide) (t := ⟨3, 58, 60⟩) (ex22 r nm x3 x4 x5 x6) ⟨by decide, by decide⟩ ⟨by decide +kernel, .inr ⟨rfl, by decide +kernel⟩⟩ (.inl rfl)
theorem ex24 : ExpQ 93 [] r (colL.drop 13) (colL.drop 21) [(21, 0), (35, 0), (12, 0), (5, 0)] nm x3 x4 x5 x6 := choice_pass (t := ⟨3, 58, 60⟩) (ex23 r nm x3 x4 x5 x6) ⟨by decide, by decide⟩ (by decide +kernel)
theorem ex25 : ExpQ 187 [] r (colL.drop 27) (colL.drop 29) [(12, 0)] nm x3 x4 x5 x6 := neigh_q (t1 := ⟨3, 71, 72⟩) (t2 := ⟨1, 72, 73⟩) ⟨by decide, by decide⟩ ⟨by decide, by decide⟩ (by decide +kernel) rfl (by decide +kernel) ⟨by decide +kernel, .inr ⟨rfl, by decide +kernel⟩⟩
theorem ex26 : ExpQ 166 [] r (colL.drop 26) (colL.drop 29) [(12, 0)] nm x3 x4 x5 x6 := prim_near (t := ⟨1, 70, 71⟩) (ex25 r nm x3 x4 x5 x6) ⟨by decide, by decide⟩ rfl (by decide +kernel) (by decide +kernel)
theorem ex27 : ExpQ 148 [] r (colL.drop 26) (colL.drop 29) [(12, 0)] nm x3 x4 x5 x6 := un_pass (t := ⟨1, 70, 71⟩) (ex26 r nm x3 x4 x5 x6) ⟨by decide, by decide⟩ (by decide +kernel) (by decide +kernel)
theorem ex28 : ExpQ 122 [.int .i64 6] r (colL.drop 26) (colL.drop 29) [(12, 0)] nm x3 x4 x5 x6 := bin6 (ex27 r nm x3 x4 x5 x6)
theorem ex29 : ExpQ 122 [.int .i64 5] r (colL.drop 26) (colL.drop 29) [(12, 0)] nm x3 x4 x5 x6 := bin_pass (k := 5) (by decide) (t := ⟨3, 73, 74⟩) (ex28 r nm x3 x4 x5 x6) ⟨by decide, by decide⟩ ⟨by decide +kernel, .inr ⟨rfl, by decide +kernel⟩⟩ (.inl rfl)
theorem ex30 : ExpQ 122 [.int .i64 4] r (colL.drop 26) (colL.drop 29) [(12, 0)] nm x3 x4 x5 x6 := bin_pass (k := 4) (by decide) (t := ⟨3, 73, 74⟩) (ex29 r nm x3 x4 x5 x6) ⟨by decide, by decide⟩ ⟨by decide +kernel, .inr ⟨rfl, by decide +kernel⟩⟩ (.inl rfl)
theorem ex31 : ExpQ 122 [.int .i64 3] r (colL.drop 26) (colL.drop 29) [(12, 0)] nm x3 x4 x5 x6 := bin_pass (k := 3) (by decide) (t := ⟨3, 73, 74⟩) (ex30 r nm x3 x4 x5 x6) ⟨by decide, by decide⟩ ⟨by decide +kernel, .inr ⟨rfl, by decide +kernel⟩⟩ (.inl rfl)
theorem ex32 : ExpQ 122 [.int .i64 2] r (colL.drop 26) (colL.drop 29) [(12, 0)] nm x3 x4 x5 x6 := bin_pass (k := 2) (by decide) (t := ⟨3, 73, 74⟩) (ex31 r nm x3 x4 x5 x6) ⟨by decide, by decide⟩ ⟨by decide +kernel, .inr ⟨rfl, by decide +kernel⟩⟩ (.inl rfl)
theorem ex33 : ExpQ 122 [.int .i64 1] r (colL.drop 26) (colL.drop 29) [(12, 0)] nm x3 x4 x5 x6 := bin_pass (k := 1) (by decide) (t := ⟨3, 73, 74⟩) (ex32 r nm x3 x4 x5 x6) ⟨by decide, by decide⟩ ⟨by decide +kernel, .inr ⟨rfl, by decide +kernel⟩⟩ (.inl rfl)
theorem ex34 : ExpQ 93 [] r (colL.drop 26) (colL.drop 29) [(12, 0)] nm x3 x4 x5 x6 := choice_pass (t := ⟨3, 73, 74⟩) (ex33 r nm x3 x4 x5 x6) ⟨by decide, by decide⟩ (by decide +kernel)
theorem ex35 : ExpQ 166 [] r (colL.drop 24) (colL.drop 30) [(27, 0), (12, 0)] nm x3 x4 x5 x6 := prim_agg (t := ⟨1, 66, 69⟩) (t1 := ⟨3, 69, 70⟩) (t2 := ⟨3, 73, 74⟩) (ex34 r nm x3 x4 x5 x6) (by decide) ⟨by decide, by decide⟩ ⟨by decide, by decide⟩ ⟨by decide, by decide⟩ rfl _ rfl (by decide +kernel) (by decide +kernel) ⟨by decide +kernel, .inr ⟨rfl, by decide +kernel⟩⟩ ⟨by decide +kernel, .inl ⟨7, by decide, by decide, by decide +kernel, by decide +kernel⟩⟩ (by decide) (by decide +kernel) (by decide +kernel)
theorem ex36 : ExpQ 148 [] r (colL.drop 24) (colL.drop 30) [(27, 0), (12, 0)] nm x3 x4 x5 x6 := un_pass (t := ⟨1, 66, 69⟩) (ex35 r nm x3 x4 x5 x6) ⟨by decide, by decide⟩ (by decide +kernel) (by decide +kernel)
theorem ex37 : ExpQ 122 [.int .i64 6] r (colL.drop 24) (colL.drop 30) [(27, 0), (12, 0)] nm x3 x4 x5 x6 := bin6 (ex36 r nm x3 x4 x5 x6)
theorem ex38 : ExpQ 122 [.int .i64 5] r (colL.drop 24) (colL.drop 30) [(27, 0), (12, 0)] nm x3 x4 x5 x6 := bin_pass (k := 5) (by decide) (t := ⟨3, 74, 75⟩) (ex37 r nm x3 x4 x5 x6) ⟨by decide, by decide⟩ ⟨by decide +kernel, .inr ⟨rfl, by decide +kernel⟩⟩ (.inl rfl)
theorem ex39 : ExpQ 122 [.int .i64 4] r (colL.drop 24) (colL.drop 30) [(27, 0), (12, 0)] nm x3 x4 x5 x6 := bin_pass (k := 4) (by decide) (t := ⟨3, 74, 75⟩) (ex38 r nm x3 x4 x5 x6) ⟨by decide, by decide⟩ ⟨by decide +kernel, .inr ⟨rfl, by decide +kernel⟩⟩ (.inl rfl)
theorem ex40 : ExpQ 122 [.int .i64 3] r (colL.drop 24) (colL.drop 30) [(27, 0), (12, 0)] nm x3 x4 x5 x6 := bin_pass (k := 3) (by decide) (t := ⟨3, 74, 75⟩) (ex39 r nm x3 x4 x5 x6) ⟨by decide, by decide⟩ ⟨by decide +kernel, .inr ⟨rfl, by decide +kernel⟩⟩ (.inl rfl)
theorem ex41 : ExpQ 122 [.int .i64 2] r (colL.drop 24) (colL.drop 30) [(27, 0), (12, 0)] nm x3 x4 x5 x6 := bin_pass (k := 2) (by decide) (t := ⟨3, 74, 75⟩) (ex40 r nm x3 x4 x5 x6) ⟨by decide, by decide⟩ ⟨by decide +kernel, .inr ⟨rfl, by decide +kernel⟩⟩ (.inl rfl)
theorem ex42 : ExpQ 122 [.int .i64 1] r (colL.drop 24) (colL.drop 30) [(27, 0), (12, 0)] nm x3 x4 x5 x6 := bin_pass (k := 1) (by decide) (t := ⟨3, 74, 75⟩) (ex41 r nm x3 x4 x5 x6) ⟨by decide, by decide⟩ ⟨by decide +kernel, .inr ⟨rfl, by decide +kernel⟩⟩ (.inl rfl)
theorem ex43 : ExpQ 93 [] r (colL.drop 24) (colL.drop 30) [(27, 0), (12, 0)] nm x3 x4 x5 x6 := choice_pass (t := ⟨3, 74, 75⟩) (ex42 r nm x3 x4 x5 x6) ⟨by decide, by decide⟩ (by decide +kernel)
theorem guard_x : ExpQ 93 [] r (colL.drop 13) (colL.drop 21) [(21, 0), (35, 0), (12, 0), (5, 0)] nm x3 x4 x5 x6 := ex24 r nm x3 x4 x5 x6
theorem value_x : ExpQ 93 [] r (colL.drop 24) (colL.drop 30) [(27, 0), (12, 0)] nm x3 x4 x5 x6 := ex43 r nm x3 x4 x5 x6
end
end Go.Proofs.YtdfklagiafmoiaaGreatDoor

/- The reader of a program: a name, the number nought, a bound of n. -/
namespace Go.Proofs.YtdfklagiafmoiaaGreatDoor
open Go.RowKit

theorem field_num (a b c d : Value) (w : World) : (Instr.field 111 (.agg #[a, b, c, d]) 3).run Tryz.prog w = .ok d w := by
  simp [Instr.field, asAgg, go_sem]
section
variable {X : World} {r : Nat} {t : Tk} {l : List Tk} {nm x3 x4 x5 x6 : Value} (h : RdS X r (t :: l) nm x3 x4 x5 x6)
include h
set_option maxRecDepth 100000 in
set_option maxHeartbeats 4000000 in
theorem pname_q (hi : InT t) (hk : t.k = 1) (hnm : NameOk (txt t)) : Calls Tryz.prog 55 #[.pointer (some ⟨r, 0, none⟩), .slice none 0 0] X fun e w' => e = .returned (.string (txt t)) ∧ TkPost X r l nm x3 x4 x5 x6 w' := by
  have HPK := Lib.hid (peek_q h hi.1 hi.2)
  have HH := Lib.hid h
  have HKD := Lib.hid (fun (Y : World) (hY : RdS Y r (t :: l) nm x3 x4 x5 x6) => kind_q hY)
  rw [hk] at HKD
  have HTK := Lib.hid (fun (Y : World) (hY : RdS Y r (t :: l) nm x3 x4 x5 x6) => take_q hY)
  have HNM := Lib.hid (fun (Y : World) => name_p (txt t) hnm Y)
  clear h hi hk hnm
  generalize txt t = s at *
  go_enter Tryz.func55, Tryz.ntmps55
  go_wp2_with fail
  refine HPK.out.mono ?_
  rintro e w1 ⟨rfl, hg⟩
  have HG := Lib.hid hg
  have HH1 := Lib.hid (HH.out.keep hg)
  clear hg HPK
  have HK1 := Lib.hid (HKD.out w1 HH1.out)
  go_wp2_with (first
    | (go_at_call 88; refine HK1.out.mono ?_; rintro e w' ⟨rfl, rfl⟩)
    | (go_at_call 89; refine (HNM.out _).mono ?_; rintro e w' ⟨rfl, rfl⟩))
  go_loopw [28] (fun i wr => wr = w1 ∧ i = .int .i64 0) (fun _ _ => 0)
  case atStart => exact ⟨rfl, rfl⟩
  case round =>
    obtain ⟨rfl, rfl⟩ := hrel
    go_wp2_with fail
    refine (HTK.out _ HH1.out).mono ?_
    rintro e w2 ⟨rfl, hs, hg2⟩
    have HS := Lib.hid hs
    have HG2 := Lib.hid ((HG.out.but _).trans hg2)
    clear hs hg2
    go_wp2
    go_ret
    exact ⟨rfl, HS.out, HG2.out⟩
set_option maxRecDepth 100000 in
set_option maxHeartbeats 4000000 in
theorem number_q (hk : t.k = 2) : Calls Tryz.prog 91 #[.pointer (some ⟨r, 0, none⟩), .int .i64 0, .int .i64 4096] X fun e w' => e = .returned (.int .i64 0) ∧ TkPost X r l nm x3 x4 x5 x6 w' := by
  have HKD := Lib.hid (kind_q h)
  rw [hk] at HKD
  have HTK := Lib.hid (take_q h)
  obtain ⟨v, hb, ht⟩ := h
  obtain ⟨ad, c, rfl, hbl, hc, c0, c1, c2, c3⟩ := ht.head
  obtain ⟨s0, s1, s2, s3, s4, s5, s6, sf⟩ := blk7r hb
  have i1 : (0 : Int) < (l.length : Int) + 1 := by omega
  clear ht hb hk
  unfold tokV at HTK
  have hfn := field_num (.int .i64 (t.k : Nat)) (.int .i64 (t.a : Nat)) (.int .i64 (t.e : Nat)) (.int .i64 0)
  go_enter Tryz.func91, Tryz.ntmps91
  go_wp2_with (go_at_call 88; refine HKD.out.mono ?_; rintro e w' ⟨rfl, rfl⟩)
  refine HTK.out.mono ?_
  rintro e w2 ⟨rfl, hs⟩
  have HS := Lib.hid hs
  clear hs
  go_wp2
  go_ret
  exact ⟨rfl, HS.out⟩
end
/-- a bound 'n' in front of a semicolon -/
theorem RdS.other {X Y : World} {r b : Nat} {l : List Tk} {nm x3 x4 x5 x6 : Value} (h : RdS X r l nm x3 x4 x5 x6) (hg : X.grownBy Y (some b)) (hb : r < b) : RdS Y r l nm x3 x4 x5 x6 := by
  obtain ⟨v, hk, ht⟩ := h
  exact ⟨v, hk.grown hg (fun e => by injection e with e; omega), ht.keep hg (Nat.le_of_lt hk.lt) (fun g e => by injection e with e; omega)⟩
section
variable {X : World} {r xb : Nat} {t t2 : Tk} {l : List Tk} {nm x3 x4 x5 x6 : Value} (h : RdS X r (t :: t2 :: l) nm x3 x4 x5 x6)
include h
set_option maxRecDepth 100000 in
set_option maxHeartbeats 4000000 in
theorem bound_q (hrx : r < xb) (a0 : Value) (hx : Blk X xb 103 #[a0, .int .i64 1, .int .i64 0, .int .i64 0, .int .i64 0, .int .i64 0]) (hi : InT t) (i2 : InT t2) (hk : t.k = 1) (h1 : ((txt t).toList == (⟨#[110]⟩ : ByteArray).toList) = true) (h2 : ((txt t2).toList == (⟨#[43]⟩ : ByteArray).toList) = false) (h3 : ((txt t2).toList == (⟨#[45]⟩ : ByteArray).toList) = false) :
    Calls Tryz.prog 92 #[.pointer (some ⟨r, 0, none⟩), .pointer (some ⟨xb, 0, none⟩)] X fun e w' => (∃ v, e = .returned v) ∧ RdS w' r (t2 :: l) nm x3 x4 x5 x6 ∧ Blk w' xb 103 #[a0, .int .i64 1, .int .i64 0, .int .i64 0, .int .i64 1, .int .i64 0] ∧ ∃ Y, X.grownBy Y (some r) ∧ Y.grownBy w' (some xb) := by
  have HKD := Lib.hid (kind_q h)
  rw [hk] at HKD
  have HA := Lib.hid (accept_yes h hi.1 hi.2 _ h1)
  have HB1 := Lib.hid (fun (Y : World) (hY : RdS Y r (t2 :: l) nm x3 x4 x5 x6) => accept_no hY i2.1 i2.2 _ h2)
  have HB2 := Lib.hid (fun (Y : World) (hY : RdS Y r (t2 :: l) nm x3 x4 x5 x6) => accept_no hY i2.1 i2.2 _ h3)
  have HX := Lib.hid hx
  have HRX := Lib.hid hrx
  clear h hi i2 hk h1 h2 h3 hx hrx
  go_enter Tryz.func92, Tryz.ntmps92
  go_wp2_with (go_at_call 88; refine HKD.out.mono ?_; rintro e w' ⟨rfl, rfl⟩)
  refine HA.out.mono ?_
  rintro e w1 ⟨rfl, hs1, hg1⟩
  have HS1 := Lib.hid hs1
  have HG1 := Lib.hid hg1
  have hx1 : Blk w1 xb 103 #[a0, .int .i64 1, .int .i64 0, .int .i64 0, .int .i64 0, .int .i64 0] := HX.out.grown hg1 (fun e => by injection e with e; have := HRX.out; omega)
  have HX1 := Lib.hid hx1
  obtain ⟨u0, u1, u2, u3, u4, u5, uf⟩ := blk6 hx1
  have n1 : xb < w1.heap.size := hx1.lt
  clear hs1 hg1 hx1 HA HKD
  have HY := Lib.hid (show Blk (w1.setCell ⟨xb, 4, none⟩ (.int .i64 1)) xb 103 #[a0, .int .i64 1, .int .i64 0, .int .i64 0, .int .i64 1, .int .i64 0] ∧ w1.grownBy (w1.setCell ⟨xb, 4, none⟩ (.int .i64 1)) (some xb) from ⟨HX1.out.set_ 4 _, gset' _ _ _ _⟩)
  have HSY := Lib.hid (HS1.out.other HY.out.2 HRX.out)
  go_wp2_with fail
  generalize World.setCell _ _ _ = Y at *
  refine (HB1.out _ HSY.out).mono ?_
  rintro e w2 ⟨rfl, hg2⟩
  have HG2 := Lib.hid hg2
  clear hg2 u0 u1 u2 u3 u4 u5 uf n1
  go_wp2_with fail
  refine (HB2.out _ (HSY.out.keep HG2.out)).mono ?_
  rintro e w3 ⟨rfl, hg3⟩
  have HG3 := Lib.hid (HG2.out.trans hg3)
  clear hg3
  go_wp2
  go_end0
  exact ⟨⟨_, rfl⟩, HSY.out.keep HG3.out, HY.out.1.grown HG3.out (by simp), w1, HG1.out, HY.out.2.trans (HG3.out.but _)⟩
end
end Go.Proofs.YtdfklagiafmoiaaGreatDoor

/- The reader of a program: its block among the chunks of memory; a variable. -/
namespace Go.Proofs.YtdfklagiafmoiaaGreatDoor
open Go.RowKit

/-- the reader's chunk: the first block that is made behind w0 -/
def cD (w0 : World) (l : List Tk) (nm x3 x4 x5 x6 : Value) : Ch w0.heap.size :=
  ⟨fun w => ∃ v, Blk w w0.heap.size 89 (rdA v nm x3 x4 x5 x6) ∧ TokS w0 w0.heap.size v l, fun g => g = w0.heap.size,
    fun h hg hr => let ⟨v, hb, ht⟩ := h; ⟨v, hb.grown hg (fun e => hr _ e.symm rfl), ht⟩,
    fun h e => by obtain ⟨v, hb, _⟩ := h; subst e; exact ⟨Nat.le_refl _, hb.lt⟩⟩
section
variable {w0 X w' : World} {cs : List (Ch w0.heap.size)} {l l' : List Tk} {nm x3 x4 x5 x6 nm' x3' x4' x5' x6' : Value}
theorem Mem.rd (h : Mem w0 cs X) (i : Nat) (hi : cs[i]? = some (cD w0 l nm x3 x4 x5 x6)) : RdS X w0.heap.size l nm x3 x4 x5 x6 := by
  obtain ⟨v, hb, A, c, rfl, hr, hc⟩ := h.get i hi
  exact ⟨_, hb, A, c, rfl, hr.keep (fun p hp => h.bel.cell hp), hc⟩
theorem Mem.tk (h : Mem w0 cs X) (i : Nat) (hi : cs[i]? = some (cD w0 l nm x3 x4 x5 x6)) (hr : RdS w' w0.heap.size l' nm' x3' x4' x5' x6') (hg : X.grownBy w' (some w0.heap.size)) : Mem w0 (cs.set i (cD w0 l' nm' x3' x4' x5' x6')) w' := by
  have hb' : Below w0.heap.size w0 w' := h.bel.grown hg h.size (fun b e => by injection e with e; omega)
  obtain ⟨v, hb, A, c, rfl, hrd, hc⟩ := hr
  exact h.step i hi hg (fun g e => by injection e with e; exact e.symm) ⟨_, hb, A, c, rfl, hrd.keep (fun p hp => (hb'.cell hp).symm), hc⟩ (fun g e => .inl e)
/-- a step of the reader that makes something -/
theorem Mem.tkNew (h : Mem w0 cs X) (i : Nat) (hi : cs[i]? = some (cD w0 l nm x3 x4 x5 x6)) (hr : RdS w' w0.heap.size l' nm' x3' x4' x5' x6') (hg : X.grownBy w' (some w0.heap.size)) {c : Ch w0.heap.size} (hP : c.P w') (hF : ∀ g, c.F g → X.heap.size ≤ g) :
    Mem w0 (c :: cs.set i (cD w0 l' nm' x3' x4' x5' x6')) w' := by
  have h1 := h.tk i hi hr hg
  have hlt := (h.rd i hi).lt
  refine ⟨h1.1, fun d hd => ?_, List.pairwise_cons.2 ⟨fun d hd g k1 k2 => ?_, h1.2.2⟩⟩
  · rcases List.mem_cons.1 hd with rfl | hd
    · exact hP
    · exact h1.2.1 d hd
  · have h3 := hF g k1
    rcases List.mem_or_eq_of_mem_set hd with hd | rfl
    · have := (d.low (h.2.1 d hd) k2).2
      omega
    · have e : g = w0.heap.size := k2
      omega
theorem Mem.setD (h : Mem w0 cs X) (i : Nat) (hi : cs[i]? = some (cD w0 l nm x3 x4 x5 x6)) (k : Nat) (u : Value) (hk : ∀ v, (rdA v nm x3 x4 x5 x6).setIfInBounds k u = rdA v nm' x3' x4' x5' x6') :
    Mem w0 (cs.set i (cD w0 l nm' x3' x4' x5' x6')) (X.setCell ⟨w0.heap.size, k, none⟩ u) := by
  obtain ⟨v, hb, ht⟩ := h.get i hi
  refine h.step i hi (gset' X _ k u) (fun g e => by injection e with e; exact e.symm) ⟨v, ?_, ht⟩ (fun g e => .inl e)
  rw [← hk v]
  exact hb.set_ k u
/-- a slice made out of nothing -/
theorem Mem.pushNil (h : Mem w0 cs X) {x1 : World} {e z n S : Nat} {v1 : Value} {xs : List Value} (hg : X.grownBy x1 none) (ho : x1.ownsRow w0.heap.size e z v1 n xs) (hv : v1.ownBlock = (Value.slice none 0 0).ownBlock ∨ v1.ownBlock = some S) (hS : X.heap.size ≤ S) :
    Mem w0 (cR w0.heap.size e z v1 n xs :: cs) x1 := by
  refine h.push hg ho (fun g hg => ?_)
  have hg : v1.ownBlock = some g := hg
  rcases hv with hv | hv
  · rw [hv] at hg; cases hg
  · rw [hv] at hg; injection hg with hg; omega
/-- two blocks written, one behind the other -/
theorem Mem.two {c0 c0' c1 c1' : Ch w0.heap.size} (h : Mem w0 (c0 :: c1 :: cs) X) {Y : World} {r b : Nat} (h1 : X.grownBy Y (some r)) (k1 : c1.F r) (h2 : Y.grownBy w' (some b)) (k0 : c0.F b) (p0 : c0'.P w') (p1 : c1'.P w')
    (f0 : ∀ g, c0'.F g → c0.F g) (f1 : ∀ g, c1'.F g → c1.F g) : Mem w0 (c0' :: c1' :: cs) w' := by
  have q0 := List.pairwise_cons.1 h.2.2
  have q1 := List.pairwise_cons.1 q0.2
  have hb1 : Below w0.heap.size w0 Y := h.bel.grown h1 h.size (fun g e => by injection e with e; subst e; exact (c1.low (h.get 1 rfl) k1).1)
  have hb2 : Below w0.heap.size w0 w' := hb1.grown h2 hb1.size (fun g e => by injection e with e; subst e; exact (c0.low (h.get 0 rfl) k0).1)
  refine ⟨hb2, fun d hd => ?_, List.pairwise_cons.2 ⟨fun d hd g e1 e2 => ?_, List.pairwise_cons.2 ⟨fun d hd g e1 e2 => ?_, q1.2⟩⟩⟩
  · rcases List.mem_cons.1 hd with rfl | hd
    · exact p0
    · rcases List.mem_cons.1 hd with rfl | hd
      · exact p1
      · exact d.keep (d.keep (h.2.1 d (by simp [hd])) h1 (fun g e hf => by injection e with e; subst e; exact q1.1 d hd _ k1 hf)) h2 (fun g e hf => by injection e with e; subst e; exact q0.1 d (by simp [hd]) _ k0 hf)
  · rcases List.mem_cons.1 hd with rfl | hd
    · exact q0.1 c1 (by simp) g (f0 g e1) (f1 g e2)
    · exact q0.1 d (by simp [hd]) g (f0 g e1) e2
  · exact q1.1 d hd g (f1 g e1) e2
end
def nilV : Value := .slice none 0 0
def varL : List Value := [.string cS, .int .i64 1, .int .i64 0, .int .i64 0, .int .i64 1, .int .i64 0]
theorem Tryz.infoVar : (Tryz.prog.info? 103).map (fun i => (i.zero, i.size, i.bytes)) = some (some (.agg #[.string ⟨#[]⟩, .int .i64 0, .int .i64 0, .int .i64 0, .int .i64 0, .int .i64 0]), 6, 56) := by kernel_rfl
theorem Tryz.infoStr : (Tryz.prog.info? 9).map (fun i => (i.zero, i.size, i.bytes)) = some (some (.string ⟨#[]⟩), 1, 16) := by kernel_rfl
theorem one_str (s : ByteArray) : ∀ y ∈ [Value.string s], y.oneCell' = true := by intro y hy; rw [List.mem_singleton] at hy; subst hy; rfl
theorem one_var : ∀ y ∈ varL, y.oneCell' = true := by intro y hy; unfold varL at hy; simp only [List.mem_cons, List.not_mem_nil, or_false] at hy; rcases hy with rfl | rfl | rfl | rfl | rfl | rfl <;> rfl
theorem tC4 : txt ⟨1, 21, 22⟩ = cS := by decide +kernel
set_option maxRecDepth 100000 in
set_option maxHeartbeats 8000000 in
theorem variable_r {w0 : World} {cs : List (Ch w0.heap.size)} {x3 x5 x6 : Value} {X : World} (h : Mem w0 (cD w0 (colL.drop 4) nilV x3 nilV x5 x6 :: cs) X) :
    Calls Tryz.prog 57 #[.pointer (some ⟨w0.heap.size, 0, none⟩)] X fun e w' => (∃ v, e = .returned v) ∧ ∃ nm x4, Mem w0 (cR w0.heap.size 103 6 x4 1 varL :: cR w0.heap.size 9 1 nm 1 [.string cS] :: cD w0 (colL.drop 10) nm x3 x4 x5 x6 :: cs) w' := by
  unfold nilV at h
  have HM := Lib.hid h
  have HNA := Lib.hid (pname_q (t := ⟨1, 21, 22⟩) (l := colL.drop 5) (h.rd 0 rfl) ⟨by decide, by decide⟩ rfl (by rw [tC4]; exact cS_name))
  rw [tC4] at HNA
  obtain ⟨v, hb, -⟩ := h.rd 0 rfl
  obtain ⟨s0, s1, s2, s3, s4, s5, s6, sf⟩ := blk7r hb
  have hlt := hb.lt
  obtain ⟨j0, hj0, hy0, hy1, hy2⟩ := info_parts Tryz.infoStr
  obtain ⟨i0, hi0, hz0, hz1, hz2⟩ := info_parts Tryz.infoVar
  have HCS := Lib.hid (show ∀ q : ByteArray, q = cS → varL = [.string q, .int .i64 1, .int .i64 0, .int .i64 0, .int .i64 1, .int .i64 0] ∧ (∀ y ∈ [Value.string q, .int .i64 1, .int .i64 0, .int .i64 0, .int .i64 1, .int .i64 0], y.oneCell' = true) from fun q hq => by subst hq; exact ⟨rfl, one_var⟩)
  obtain ⟨q, hq⟩ : ∃ q, cS = q := ⟨_, rfl⟩
  have HQ := Lib.hid hq
  rw [hq] at HNA
  clear h hb hq
  go_enter Tryz.func57, Tryz.ntmps57
  go_wp2_with fail
  refine HNA.out.mono ?_
  rintro e w1 ⟨rfl, hs, hg⟩
  have HM1 := Lib.hid ((HM.out.tk 0 rfl hs hg).new 103 #[.string q, .int .i64 0, .int .i64 0, .int .i64 0, .int .i64 0, .int .i64 0])
  have HR := Lib.hid (show w0.heap.size < w1.heap.size from hs.lt)
  clear hs hg HM HNA s0 s1 s2 s3 s4 s5 s6 sf hlt
  go_wp2_with fail
  generalize World.alloc _ _ = W1 at *
  refine (expect_q (t := ⟨3, 23, 24⟩) (l := colL.drop 6) (HM1.out.rd 1 rfl) (by decide) (by decide) ⟨#[58]⟩ (by decide +kernel)).mono ?_
  rintro e w2 ⟨⟨v2, rfl⟩, hs, hg⟩
  have HM2 := Lib.hid (HM1.out.tk 1 rfl hs hg)
  clear hs hg HM1
  go_wp2_with fail
  refine (accept_no (t := ⟨2, 25, 26⟩) (l := colL.drop 7) (HM2.out.rd 1 rfl) (by decide) (by decide) ⟨#[98, 111, 111, 108]⟩ (by decide +kernel)).mono ?_
  rintro e w3 ⟨rfl, hg⟩
  have HM3 := Lib.hid (HM2.out.other hg)
  clear hg HM2
  go_wp2_with fail
  refine (accept_no (t := ⟨2, 25, 26⟩) (l := colL.drop 7) (HM3.out.rd 1 rfl) (by decide) (by decide) ⟨#[112, 111, 114, 116]⟩ (by decide +kernel)).mono ?_
  rintro e w4 ⟨rfl, hg⟩
  have HM4 := Lib.hid (HM3.out.other hg)
  obtain ⟨p0, p1, p2, p3, p4, p5, pf⟩ := blk6 (HM4.out.get 0 rfl).2
  have n1 : w1.heap.size < w4.heap.size := (HM4.out.get 0 rfl).2.lt
  have HM5 := Lib.hid (HM4.out.set_ 0 rfl 1 (.int .i64 1) rfl)
  clear hg HM3 HM4
  go_wp2_with fail
  generalize World.setCell _ _ _ = W5 at *
  clear p0 p1 p2 p3 p4 p5 pf n1
  refine (number_q (t := ⟨2, 25, 26⟩) (l := colL.drop 7) (HM5.out.rd 1 rfl) rfl).mono ?_
  rintro e w6 ⟨rfl, hs, hg⟩
  have HM6 := Lib.hid (HM5.out.tk 1 rfl hs hg)
  obtain ⟨p0, p1, p2, p3, p4, p5, pf⟩ := blk6 (HM6.out.get 0 rfl).2
  have n1 : w1.heap.size < w6.heap.size := (HM6.out.get 0 rfl).2.lt
  have HM7 := Lib.hid (HM6.out.set_ 0 rfl 2 (.int .i64 0) rfl)
  clear hs hg HM5 HM6
  go_wp2_with fail
  generalize World.setCell _ _ _ = W7 at *
  clear p0 p1 p2 p3 p4 p5 pf n1
  refine (expect_q (t := ⟨3, 27, 29⟩) (l := colL.drop 8) (HM7.out.rd 1 rfl) (by decide) (by decide) ⟨#[46, 46]⟩ (by decide +kernel)).mono ?_
  rintro e w8 ⟨⟨v8, rfl⟩, hs, hg⟩
  have HM8 := Lib.hid (HM7.out.tk 1 rfl hs hg)
  clear hs hg HM7
  go_wp2_with fail
  refine (bound_q (t := ⟨1, 30, 31⟩) (t2 := ⟨3, 31, 32⟩) (l := colL.drop 10) (HM8.out.rd 1 rfl) HR.out (.string q) (HM8.out.get 0 rfl).2 ⟨by decide, by decide⟩ ⟨by decide, by decide⟩ rfl (by decide +kernel) (by decide +kernel) (by decide +kernel)).mono ?_
  rintro e w9 ⟨⟨v9, rfl⟩, hs, hbk, Y, hg1, hg2⟩
  have HM9 := Lib.hid (show Mem w0 (cB w0.heap.size w1.heap.size 103 #[.string q, .int .i64 1, .int .i64 0, .int .i64 0, .int .i64 1, .int .i64 0] :: cD w0 (colL.drop 9) (.slice none 0 0) x3 (.slice none 0 0) x5 x6 :: cs) w9 from by
    have hb' : Below w0.heap.size w0 w9 := by
      have hb1 : Below w0.heap.size w0 Y := HM8.out.bel.grown hg1 HM8.out.size (fun g e => by injection e with e; omega)
      exact hb1.grown hg2 hb1.size (fun g e => by injection e with e; have := HR.out; omega)
    obtain ⟨v, hb, A, c, rfl, hrd, hc⟩ := hs
    exact HM8.out.two hg1 rfl hg2 rfl ⟨Nat.le_of_lt HR.out, hbk⟩ ⟨_, hb, A, c, rfl, hrd.keep (fun p hp => (hb'.cell hp).symm), hc⟩ (fun _ e => e) (fun _ e => e))
  clear hs hbk hg1 hg2 HM8 Y
  go_wp2_with fail
  refine (expect_q (t := ⟨3, 31, 32⟩) (l := colL.drop 10) (HM9.out.rd 1 rfl) (by decide) (by decide) ⟨#[59]⟩ (by decide +kernel)).mono ?_
  rintro e wa ⟨⟨va, rfl⟩, hs, hg⟩
  have HMa := Lib.hid (HM9.out.tk 1 rfl hs hg)
  clear hs hg HM9
  obtain ⟨p0, p1, p2, p3, p4, p5, pf⟩ := blk6 (HMa.out.get 0 rfl).2
  have n1 : w1.heap.size < wa.heap.size := (HMa.out.get 0 rfl).2.lt
  obtain ⟨v, hb, -⟩ := HMa.out.rd 1 rfl
  obtain ⟨s0, s1, s2, s3, s4, s5, s6, sf⟩ := blk7r hb
  have hlt := hb.lt
  have hsz := HMa.out.size
  clear hb
  go_upto_region 11 with fail
  go_cut [2] (fun p wx => p = .pointer (some ⟨w1.heap.size, 0, none⟩) ∧ ∃ A1 c1, Mem w0 (cR w0.heap.size 9 1 (.slice A1 1 c1) 1 [.string q] :: cB w0.heap.size w1.heap.size 103 #[.string q, .int .i64 1, .int .i64 0, .int .i64 0, .int .i64 1, .int .i64 0] :: cD w0 (colL.drop 10) (.slice A1 1 c1) x3 (.slice none 0 0) x5 x6 :: cs) wx)
  case first =>
    go_region_law (first
      | ((with_reducible refine step_append_any _ rfl (.tmp 46) (.tmp 49) 85 rfl w0.heap.size 9 j0 _ 1 16 Tryz.underlying85 hj0 hy0 hy1 hy2 rfl (by decide) (.slice none 0 0) 0 [] rfl ?_ (wa.heap.size + 1) (some ⟨wa.heap.size, 0, none⟩) 1 1 [.string q] rfl ?_ ?_ ?_ ?_ ?_ ?_); exact World.ownsRow_nil _ _ _ _; exact reads_new1 _ _ _; exact one_str q; exact len_ok (by omega); omega; (simp; omega); intro v1 x1 ho1 hg1 hv1; have HMb := Lib.hid (HMa.out.pushNil (grown_pre (grown_drew hg1)) ho1 (S := wa.heap.size + 1) (by simpa using hv1) (by omega)); obtain ⟨A1, c1, rfl⟩ := own_sl ho1; obtain ⟨v, hb, -⟩ := HMb.out.rd 2 rfl; obtain ⟨s0, s1, s2, s3, s4, s5, s6, sf⟩ := blk7r hb; have hlt := hb.lt; clear ho1 hg1 hv1 hb))
    all_goals
      go_wp2
      go_meet
      refine ⟨rfl, A1, c1, ?_⟩
      have h2 := HMb.out.setD 2 rfl 2 (.slice A1 1 c1) (fun _ => rfl)
      have h3 := h2.drew
      first | with_reducible exact h2 | with_reducible exact h3 | exact h2 | exact h3
  case rest =>
    obtain ⟨rfl, A1, c1, hM⟩ := hcut
    have HMb := Lib.hid hM
    clear hM HMa p0 p1 p2 p3 p4 p5 pf n1 s0 s1 s2 s3 s4 s5 s6 sf hlt hsz
    obtain ⟨p0, p1, p2, p3, p4, p5, pf⟩ := blk6 (HMb.out.get 1 rfl).2
    have n1 : w1.heap.size < wc.heap.size := (HMb.out.get 1 rfl).2.lt
    obtain ⟨v, hb, -⟩ := HMb.out.rd 2 rfl
    obtain ⟨s0, s1, s2, s3, s4, s5, s6, sf⟩ := blk7r hb
    have hlt := hb.lt
    have hsz := HMb.out.size
    clear hb
    go_upto_region 12 with fail
    go_region_law (first
      | ((with_reducible refine step_append_any _ rfl (.tmp 59) (.tmp 61) 22 rfl w0.heap.size 103 i0 _ 6 56 Tryz.underlying22 hi0 hz0 hz1 hz2 rfl (by decide) (.slice none 0 0) 0 [] rfl ?_ (wc.heap.size + 1) (some ⟨wc.heap.size, 0, none⟩) 1 1 [.string q, .int .i64 1, .int .i64 0, .int .i64 0, .int .i64 1, .int .i64 0] rfl ?_ ?_ ?_ ?_ ?_ ?_); exact World.ownsRow_nil _ _ _ _; exact reads_blk (l := [.string q, .int .i64 1, .int .i64 0, .int .i64 0, .int .i64 1, .int .i64 0]) (Blk.new _ _ _) (Nat.lt_succ_self _) rfl; exact (HCS.out q HQ.out.symm).2; exact len_ok (by omega); omega; (simp; omega); intro v1 x1 ho1 hg1 hv1; have HMd := Lib.hid (HMb.out.pushNil (grown_pre (grown_drew hg1)) ho1 (S := wc.heap.size + 1) (by simpa using hv1) (by omega)); obtain ⟨A2, c2, rfl⟩ := own_sl ho1; obtain ⟨v, hb, -⟩ := HMd.out.rd 3 rfl; obtain ⟨s0, s1, s2, s3, s4, s5, s6, sf⟩ := blk7r hb; have hlt := hb.lt; clear ho1 hg1 hv1 hb))
    all_goals
      go_wp2
      go_end0
      refine ⟨⟨_, rfl⟩, .slice A1 1 c1, .slice A2 1 c2, ?_⟩
      have h2 := (HMd.out.setD 3 rfl 4 (.slice A2 1 c2) (fun _ => rfl)).erase 2
      rw [(HCS.out q HQ.out.symm).1, HQ.out]
      have h3 := h2.drew
      first | with_reducible exact h2 | with_reducible exact h3 | exact h2 | exact h3
end Go.Proofs.YtdfklagiafmoiaaGreatDoor
