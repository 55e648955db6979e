/- Lemmas of this seat, laid together out of 2 texts: no statement of the seat is proved here. -/
import Derived.Test.YtdfklagiafmoiaaGreatDoorG20
/- The reader of a program: a rule. -/
namespace Go.Proofs.YtdfklagiafmoiaaGreatDoor
open Go.RowKit

section
variable {w0 X w' : World} {cs : List (Ch w0.heap.size)} {l l' : List Tk} {nm x3 x4 x5 x6 : Value}
theorem Mem.nmok (h : Mem w0 cs X) (i j : Nat) (hi : cs[i]? = some (cD w0 l nm x3 x4 x5 x6)) (hj : cs[j]? = some (cR w0.heap.size 9 1 nm 1 [.string cS])) : NmOk X w0.heap.size nm := by
  have ho : X.ownsRow w0.heap.size 9 1 nm 1 [.string cS] := h.get j hj
  obtain ⟨v, hb, -⟩ := h.rd i hi
  obtain ⟨g, c, rfl⟩ := own_succ ho
  have h1 := own_at (k := 0) ho rfl
  exact ⟨g, c, rfl, (ho.lt g rfl).2, fun e => own_blk_ne ho hb (by decide) (by rw [e]; rfl), h1.1⟩
/-- what a reading function of the parser has made -/
theorem Mem.exq (h : Mem w0 cs X) (i : Nat) (hi : cs[i]? = some (cD w0 l nm x3 x4 x5 x6)) {v : Value} {e : List Tm} (ht : TmOwn w' X.heap.size v e) (hr : RdS w' w0.heap.size l' nm x3 x4 x5 x6) (hg : X.grownBy w' (some w0.heap.size)) :
    Mem w0 (cR w0.heap.size 186 2 v e.length (pc e) :: cs.set i (cD w0 l' nm x3 x4 x5 x6)) w' :=
  h.tkNew i hi hr hg (own_base ht h.size) (fun g hg => (World.ownsRow.lt ht g hg).1)
end
def fS : ByteArray := ⟨#[102, 105, 120]⟩
theorem fS_name : NameOk fS := ⟨by decide, by decide, by decide, by decide, by decide +kernel⟩
def gdL : List Tm := [(21, 0), (35, 0), (12, 0), (5, 0)]
def vaL : List Tm := [(27, 0), (12, 0)]
theorem Tryz.infoRule : (Tryz.prog.info? 76).map (fun i => (i.zero, i.size, i.bytes)) = some (some (.agg #[.string ⟨#[]⟩, .slice none 0 0, .slice none 0 0]), 3, 64) := by kernel_rfl
theorem Tryz.infoSet : (Tryz.prog.info? 78).map (fun i => (i.zero, i.size, i.bytes)) = some (some (.agg #[.int .i64 0, .slice none 0 0]), 2, 32) := by kernel_rfl
theorem one_set (z : Int) (A : Option Addr) (n c : Nat) : ∀ y ∈ [Value.int .i64 z, .slice A n c], y.oneCell' = true := by intro y hy; simp only [List.mem_cons, List.not_mem_nil, or_false] at hy; rcases hy with rfl | rfl <;> rfl
theorem one_rule (s : ByteArray) (A : Option Addr) (n c : Nat) (B : Option Addr) (m d : Nat) : ∀ y ∈ [Value.string s, .slice A n c, .slice B m d], y.oneCell' = true := by intro y hy; simp only [List.mem_cons, List.not_mem_nil, or_false] at hy; rcases hy with rfl | rfl | rfl <;> rfl
theorem tF : txt ⟨1, 38, 41⟩ = fS := by decide +kernel
theorem tC22 : txt ⟨1, 61, 62⟩ = cS := by decide +kernel
set_option maxRecDepth 100000 in
set_option maxHeartbeats 8000000 in
theorem rule_r {w0 : World} {cs : List (Ch w0.heap.size)} {nm x3 x4 : Value} {X : World} (j : Nat) (hj : cs[j]? = some (cR w0.heap.size 9 1 nm 1 [.string cS])) (h : Mem w0 (cD w0 (colL.drop 11) nm x3 x4 nilV nilV :: cs) X) :
    Calls Tryz.prog 58 #[.pointer (some ⟨w0.heap.size, 0, none⟩)] X fun e w' => (∃ v, e = .returned v) ∧ ∃ x5 x6 vg vs vv, Mem w0 (cR w0.heap.size 76 3 x5 1 [.string fS, vg, vs] :: cR w0.heap.size 78 2 vs 1 [.int .i64 0, vv] ::
      cR w0.heap.size 186 2 vv vaL.length (pc vaL) :: cR w0.heap.size 186 2 vg gdL.length (pc gdL) :: cR w0.heap.size 9 1 x6 1 [.string fS] :: cD w0 [] nm x3 x4 x5 x6 :: cs) w' := by
  unfold nilV at h
  have HM := Lib.hid h
  have HJ := Lib.hid hj
  have HNA := Lib.hid (pname_q (t := ⟨1, 38, 41⟩) (l := colL.drop 12) (h.rd 0 rfl) ⟨by decide, by decide⟩ rfl (by rw [tF]; exact fS_name))
  rw [tF] at HNA
  obtain ⟨v, hb, -⟩ := h.rd 0 rfl
  obtain ⟨s0, s1, s2, s3, s4, s5, s6, sf⟩ := blk7r hb
  have hlt := hb.lt
  obtain ⟨j0, hj0, hy0, hy1, hy2⟩ := info_parts Tryz.infoStr
  obtain ⟨i0, hi0, hz0, hz1, hz2⟩ := info_parts Tryz.infoRule
  obtain ⟨k0, hk0, hx0, hx1, hx2⟩ := info_parts Tryz.infoSet
  obtain ⟨q, hq⟩ : ∃ q, fS = q := ⟨_, rfl⟩
  have HQ := Lib.hid hq
  rw [hq] at HNA
  clear h hb hq hj
  go_enter Tryz.func58, Tryz.ntmps58
  go_wp2_with fail
  refine HNA.out.mono ?_
  rintro e w1 ⟨rfl, hs, hg⟩
  have HM1 := Lib.hid ((HM.out.tk 0 rfl hs hg).new 76 #[.string q, .slice none 0 0, .slice none 0 0])
  clear hs hg HM HNA s0 s1 s2 s3 s4 s5 s6 sf hlt
  go_upto_region 1 with fail
  generalize World.alloc _ _ = W1 at *
  obtain ⟨p0, p1, p2, pf⟩ := blk3 (HM1.out.get 0 rfl).2
  have n1 : w1.heap.size < W1.heap.size := (HM1.out.get 0 rfl).2.lt
  obtain ⟨v, hb, -⟩ := HM1.out.rd 1 rfl
  obtain ⟨s0, s1, s2, s3, s4, s5, s6, sf⟩ := blk7r hb
  have hlt := hb.lt
  have hsz := HM1.out.size
  clear hb
  go_cut [2] (fun p wx => p = .pointer (some ⟨w1.heap.size, 0, none⟩) ∧ ∃ A1 c1, Mem w0 (cB w0.heap.size w1.heap.size 76 #[.string q, .slice none 0 0, .slice none 0 0] :: cR w0.heap.size 9 1 (.slice A1 1 c1) 1 [.string q] :: cD w0 (colL.drop 12) nm x3 x4 (.slice none 0 0) (.slice A1 1 c1) :: cs) wx)
  case first =>
    go_region_law (first
      | ((with_reducible refine step_append_any _ rfl (.tmp 15) (.tmp 18) 85 rfl w0.heap.size 9 j0 _ 1 16 Tryz.underlying85 hj0 hy0 hy1 hy2 rfl (by decide) (.slice none 0 0) 0 [] rfl ?_ (W1.heap.size + 1) (some ⟨W1.heap.size, 0, none⟩) 1 1 [.string q] rfl ?_ ?_ ?_ ?_ ?_ ?_); exact World.ownsRow_nil _ _ _ _; exact reads_new1 _ _ _; exact one_str q; exact len_ok (by omega); omega; (simp; omega); intro v1 x1 ho1 hg1 hv1; have HMb := Lib.hid (HM1.out.pushNil (grown_pre (grown_drew hg1)) ho1 (S := W1.heap.size + 1) (by simpa using hv1) (by omega)); obtain ⟨A1, c1, rfl⟩ := own_sl ho1; obtain ⟨v, hb, -⟩ := HMb.out.rd 2 rfl; obtain ⟨s0, s1, s2, s3, s4, s5, s6, sf⟩ := blk7r hb; have hlt := hb.lt; clear ho1 hg1 hv1 hb))
    all_goals
      go_wp2
      go_meet
      refine ⟨rfl, A1, c1, ?_⟩
      have h2 := (HMb.out.setD 2 rfl 6 (.slice A1 1 c1) (fun _ => rfl)).perm (List.Perm.swap _ _ _)
      have h3 := h2.drew
      first | with_reducible exact h2 | with_reducible exact h3 | exact h2 | exact h3
  case rest =>
    obtain ⟨rfl, A1, c1, hM⟩ := hcut
    have HM2 := Lib.hid hM
    clear hM HM1 p0 p1 p2 pf n1 s0 s1 s2 s3 s4 s5 s6 sf hlt hsz
    go_wp2_with fail
    refine (expect_q (t := ⟨3, 41, 42⟩) (l := colL.drop 13) (HM2.out.rd 2 rfl) (by decide) (by decide) ⟨#[58]⟩ (by decide +kernel)).mono ?_
    rintro e w3 ⟨⟨v3, rfl⟩, hs, hg⟩
    have HM3 := Lib.hid (HM2.out.tk 2 rfl hs hg)
    clear hs hg HM2
    go_wp2_with fail
    refine (guard_x w0.heap.size nm x3 x4 (.slice none 0 0) (.slice A1 1 c1) w3 (HM3.out.rd 2 rfl) (HM3.out.nmok 2 (j + 3) rfl HJ.out)).mono ?_
    rintro e w4 ⟨vg, rfl, ht, hs, hg⟩
    obtain ⟨Ag, cg, rfl⟩ := own_sl ht
    have HM4 := Lib.hid ((HM3.out.exq 2 rfl ht hs hg).perm (List.Perm.swap _ _ _))
    clear ht hs hg HM3
    obtain ⟨p0, p1, p2, pf⟩ := blk3 (HM4.out.get 0 rfl).2
    have n1 : w1.heap.size < w4.heap.size := (HM4.out.get 0 rfl).2.lt
    have HM5 := Lib.hid (HM4.out.set_ 0 rfl 1 (.slice Ag 4 cg) rfl)
    clear HM4
    go_wp2_with fail
    generalize World.setCell _ _ _ = W5 at *
    clear p0 p1 p2 pf n1
    refine (expect_q (t := ⟨3, 58, 60⟩) (l := colL.drop 22) (HM5.out.rd 3 rfl) (by decide) (by decide) ⟨#[45, 62]⟩ (by decide +kernel)).mono ?_
    rintro e w6 ⟨⟨v6, rfl⟩, hs, hg⟩
    have HM6 := Lib.hid (HM5.out.tk 3 rfl hs hg)
    clear hs hg HM5
    go_wp2_with fail
    have HM6 : Hid (Mem w0 (cB w0.heap.size w1.heap.size 76 #[.string q, .slice Ag 4 cg, .slice none 0 0] :: cR w0.heap.size 186 2 (.slice Ag 4 cg) gdL.length (pc gdL) :: cR w0.heap.size 9 1 (.slice A1 1 c1) 1 [.string q] :: cD w0 (colL.drop 22) nm x3 x4 (.slice none 0 0) (.slice A1 1 c1) :: cs) w6) := HM6
    go_loopw [] (fun wr => wr = w6) (fun _ => 0)
    case atStart => rfl
    case round =>
      subst hrel
      go_wp2_with fail
      refine (variable_q (t := ⟨1, 61, 62⟩) (l := colL.drop 23) (HM6.out.rd 3 rfl) (HM6.out.nmok 3 (j + 4) rfl HJ.out) (by decide) (by decide) rfl tC22).mono ?_
      rintro e w7 ⟨rfl, hs, hg⟩
      have HM7 := Lib.hid ((HM6.out.tk 3 rfl hs hg).new 78 #[.int .i64 0, .slice none 0 0])
      clear hs hg HM6
      go_wp2_with fail
      generalize World.alloc _ _ = W7 at *
      refine (expect_q (t := ⟨3, 63, 65⟩) (l := colL.drop 24) (HM7.out.rd 4 rfl) (by decide) (by decide) ⟨#[58, 61]⟩ (by decide +kernel)).mono ?_
      rintro e w8 ⟨⟨v8, rfl⟩, hs, hg⟩
      have HM8 := Lib.hid (HM7.out.tk 4 rfl hs hg)
      clear hs hg HM7
      go_wp2_with fail
      refine (value_x w0.heap.size nm x3 x4 (.slice none 0 0) (.slice A1 1 c1) w8 (HM8.out.rd 4 rfl) (HM8.out.nmok 4 (j + 5) rfl HJ.out)).mono ?_
      rintro e w9 ⟨vv, rfl, ht, hs, hg⟩
      obtain ⟨Av, cv, rfl⟩ := own_sl ht
      have HM9 : Hid (Mem w0 (cR w0.heap.size 186 2 (.slice Av 2 cv) vaL.length (pc vaL) :: cB w0.heap.size w7.heap.size 78 #[.int .i64 0, .slice none 0 0] :: cB w0.heap.size w1.heap.size 76 #[.string q, .slice Ag 4 cg, .slice none 0 0] :: cR w0.heap.size 186 2 (.slice Ag 4 cg) gdL.length (pc gdL) :: cR w0.heap.size 9 1 (.slice A1 1 c1) 1 [.string q] :: cD w0 (colL.drop 30) nm x3 x4 (.slice none 0 0) (.slice A1 1 c1) :: cs) w9) := Lib.hid (HM8.out.exq 4 rfl ht hs hg)
      clear ht hs hg HM8
      obtain ⟨p0, p1, pf⟩ := blk2 (HM9.out.get 1 rfl).2
      have n1 : w7.heap.size < w9.heap.size := (HM9.out.get 1 rfl).2.lt
      obtain ⟨r0, r1, r2, rf⟩ := blk3 (HM9.out.get 2 rfl).2
      have n2 : w1.heap.size < w9.heap.size := (HM9.out.get 2 rfl).2.lt
      have n3 : w7.heap.size ≠ w1.heap.size := (HM9.out.get 1 rfl).2.ne_ (HM9.out.get 2 rfl).2 (by decide)
      have n4 : w1.heap.size ≠ w7.heap.size := fun e => n3 e.symm
      have HMA := Lib.hid (HM9.out.set_ 1 rfl 1 (.slice Av 2 cv) rfl)
      have hsz := HMA.out.size
      clear HM9
      go_wp2_with (at_builtin; refine wpList_append_any _ rfl (.tmp 50) (.tmp 52) 74 rfl w0.heap.size 78 k0 _ 2 32 Tryz.underlying74 hk0 hx0 hx1 hx2 rfl (by decide) (.slice none 0 0) 0 [] rfl (World.ownsRow_nil _ _ _ _) (w9.heap.size + 1) (some ⟨w9.heap.size, 0, none⟩) 1 1 [.int .i64 0, .slice Av 2 cv] rfl (reads_blk (l := [.int .i64 0, .slice Av 2 cv]) (blk_new_at (by simp [World.setCell])) (Nat.lt_succ_self _) rfl) (one_set _ _ _ _) (len_ok (by omega)) (by omega) (by rw [World.size_alloc]; omega) ?_; intro v1 x1 ho1 hg1 hv1; have HMB := Lib.hid (HMA.out.pushNil (grown_pre hg1) ho1 (S := w9.heap.size + 1) (by simpa [World.setCell] using hv1) (by simp [World.setCell])); obtain ⟨As, c5, rfl⟩ := own_sl ho1; clear ho1 hg1 hv1 p0 p1 pf n1 r0 r1 r2 rf n2; obtain ⟨r0, r1, r2, rf⟩ := blk3 (HMB.out.get 3 rfl).2; have n2 : w1.heap.size < x1.heap.size := (HMB.out.get 3 rfl).2.lt)
      have HMC : Hid (Mem w0 (cR w0.heap.size 78 2 (.slice As 1 c5) 1 [.int .i64 0, .slice Av 2 cv] :: cR w0.heap.size 186 2 (.slice Av 2 cv) vaL.length (pc vaL) :: cB w0.heap.size w7.heap.size 78 #[.int .i64 0, .slice Av 2 cv] :: cB w0.heap.size w1.heap.size 76 #[.string q, .slice Ag 4 cg, .slice As 1 c5] :: cR w0.heap.size 186 2 (.slice Ag 4 cg) gdL.length (pc gdL) :: cR w0.heap.size 9 1 (.slice A1 1 c1) 1 [.string q] :: cD w0 (colL.drop 30) nm x3 x4 (.slice none 0 0) (.slice A1 1 c1) :: cs) (x1.setCell ⟨w1.heap.size, 2, none⟩ (.slice As 1 c5))) := Lib.hid (HMB.out.set_ 3 rfl 2 (.slice As 1 c5) rfl)
      clear HMB HMA r0 r1 r2 rf n2 n3 n4 hsz
      generalize World.setCell _ _ _ = X1 at *
      refine (accept_no (t := ⟨3, 74, 75⟩) (l := []) (HMC.out.rd 6 rfl) (by decide) (by decide) ⟨#[44]⟩ (by decide +kernel)).mono ?_
      rintro e x2 ⟨rfl, hg⟩
      have HMD := Lib.hid (HMC.out.other hg)
      clear hg HMC
      go_wp2_with fail
      refine (expect_q (t := ⟨3, 74, 75⟩) (l := []) (HMD.out.rd 6 rfl) (by decide) (by decide) ⟨#[59]⟩ (by decide +kernel)).mono ?_
      rintro e x3' ⟨⟨v5, rfl⟩, hs, hg⟩
      have HME := Lib.hid (HMD.out.tk 6 rfl hs hg)
      clear hs hg HMD
      obtain ⟨p0, p1, p2, pf⟩ := blk3 (HME.out.get 3 rfl).2
      have n1 : w1.heap.size < x3'.heap.size := (HME.out.get 3 rfl).2.lt
      obtain ⟨v, hb, -⟩ := HME.out.rd 6 rfl
      obtain ⟨s0, s1, s2, s3, s4, s5, s6, sf⟩ := blk7r hb
      have hlt := hb.lt
      have hsz := HME.out.size
      clear hb
      go_upto_region 11 with fail
      go_region_law (first
        | ((with_reducible refine step_append_any _ rfl (.tmp 69) (.tmp 71) 23 rfl w0.heap.size 76 i0 _ 3 64 Tryz.underlying23 hi0 hz0 hz1 hz2 rfl (by decide) (.slice none 0 0) 0 [] rfl ?_ (x3'.heap.size + 1) (some ⟨x3'.heap.size, 0, none⟩) 1 1 [.string q, .slice Ag 4 cg, .slice As 1 c5] rfl ?_ ?_ ?_ ?_ ?_ ?_); exact World.ownsRow_nil _ _ _ _; exact reads_blk (l := [.string q, .slice Ag 4 cg, .slice As 1 c5]) (Blk.new _ _ _) (Nat.lt_succ_self _) rfl; exact one_rule _ _ _ _ _ _ _; exact len_ok (by omega); omega; (simp; omega); intro v1 x1 ho1 hg1 hv1; have HMF := Lib.hid (HME.out.pushNil (grown_pre (grown_drew hg1)) ho1 (S := x3'.heap.size + 1) (by simpa using hv1) (by omega)); obtain ⟨Ar, cr, rfl⟩ := own_sl ho1; obtain ⟨v, hb, -⟩ := HMF.out.rd 7 rfl; obtain ⟨s0, s1, s2, s3, s4, s5, s6, sf⟩ := blk7r hb; have hlt := hb.lt; clear ho1 hg1 hv1 hb))
      all_goals
        go_wp2
        go_end0
        refine ⟨⟨_, rfl⟩, .slice Ar 1 cr, .slice A1 1 c1, .slice Ag 4 cg, .slice As 1 c5, .slice Av 2 cv, ?_⟩
        have h2 := ((HMF.out.setD 7 rfl 5 (.slice Ar 1 cr) (fun _ => rfl)).erase 3).erase 3
        rw [HQ.out]
        have h3 := h2.drew
        first | with_reducible exact h2 | with_reducible exact h3 | exact h2 | exact h3
end Go.Proofs.YtdfklagiafmoiaaGreatDoor

/- The reader of a program: declarations; the whole program. -/
namespace Go.Proofs.YtdfklagiafmoiaaGreatDoor
open Go.RowKit

section
variable {X : World} {r : Nat} {nm x3 x4 x5 x6 : Value} (h : RdS X r [] nm x3 x4 x5 x6)
include h
theorem peek_end : Calls Tryz.prog 87 #[.pointer (some ⟨r, 0, none⟩)] X fun e w' => e = .returned (.string ⟨#[]⟩) ∧ X.grownBy w' none := by
  obtain ⟨v, hb, A, c, rfl, -, -⟩ := h
  obtain ⟨s0, s1, s2, s3, s4, s5, s6, sf⟩ := blk7r hb
  simp only [List.length_nil] at s1
  clear hb
  go_enter Tryz.func87, Tryz.ntmps87
  go_wp2
  go_ret
  exact ⟨rfl, World.grownBy.refl _ _⟩
theorem done_end : Calls Tryz.prog 59 #[.pointer (some ⟨r, 0, none⟩)] X fun e w' => e = .returned (.bool true) ∧ X = w' := by
  obtain ⟨v, hb, A, c, rfl, -, -⟩ := h
  obtain ⟨s0, s1, s2, s3, s4, s5, s6, sf⟩ := blk7r hb
  simp only [List.length_nil] at s1
  clear hb
  go_enter Tryz.func59, Tryz.ntmps59
  go_wp2
  go_ret
  exact ⟨rfl, rfl⟩
end
theorem tV : txt ⟨1, 17, 20⟩ = ⟨#[118, 97, 114]⟩ := by decide +kernel
theorem tR : txt ⟨1, 33, 37⟩ = ⟨#[114, 117, 108, 101]⟩ := by decide +kernel
set_option maxRecDepth 100000 in
set_option maxHeartbeats 8000000 in
theorem many_var {w0 : World} {cs : List (Ch w0.heap.size)} {x3 x5 x6 : Value} {X : World} (h : Mem w0 (cD w0 (colL.drop 3) nilV x3 nilV x5 x6 :: cs) X) :
    Calls Tryz.prog 56 #[.pointer (some ⟨w0.heap.size, 0, none⟩), .string ⟨#[118, 97, 114]⟩, .int .i64 6, .func (.func 57) #[.pointer (some ⟨w0.heap.size, 0, none⟩)] #[]] X fun e w' =>
      (∃ v, e = .returned v) ∧ ∃ nm x4, Mem w0 (cR w0.heap.size 103 6 x4 1 varL :: cR w0.heap.size 9 1 nm 1 [.string cS] :: cD w0 (colL.drop 10) nm x3 x4 x5 x6 :: cs) w' := by
  have HM := Lib.hid h
  have HEQ := Lib.hid (show ((⟨#[114, 117, 108, 101]⟩ : ByteArray).toList == (⟨#[118, 97, 114]⟩ : ByteArray).toList) = false by decide +kernel)
  clear h
  go_enter Tryz.func56, Tryz.ntmps56
  go_wp2
  go_loopw [8] (fun i wr => (i = .int .i64 0 ∧ wr = X) ∨ (i = .int .i64 1 ∧ ∃ nm x4, Mem w0 (cR w0.heap.size 103 6 x4 1 varL :: cR w0.heap.size 9 1 nm 1 [.string cS] :: cD w0 (colL.drop 10) nm x3 x4 x5 x6 :: cs) wr)) (fun i _ => 1 - (intOf i).toNat)
  case atStart => exact .inl ⟨rfl, rfl⟩
  case round =>
    rcases hrel with ⟨rfl, rfl⟩ | ⟨rfl, nm, x4, hM⟩
    · go_wp2_with fail
      refine (peek_q (t := ⟨1, 17, 20⟩) (l := colL.drop 4) (HM.out.rd 0 rfl) (by decide) (by decide)).mono ?_
      rintro e w1 ⟨rfl, hg⟩
      rw [tV]
      have HM1 := Lib.hid (HM.out.other hg)
      clear hg
      go_wp2_with fail
      refine (take_q (t := ⟨1, 17, 20⟩) (l := colL.drop 4) (HM1.out.rd 0 rfl)).mono ?_
      rintro e w2 ⟨rfl, hs, hg⟩
      have HM2 := Lib.hid (HM1.out.tk 0 rfl hs hg)
      clear hs hg HM1
      unfold tokV
      go_wp2_with fail
      refine (variable_r HM2.out).mono ?_
      rintro e w3 ⟨⟨v3, rfl⟩, nm, x4, hM⟩
      have HM3 := Lib.hid hM
      clear hM HM2
      go_wp2
      go_roundw
      case rel => exact .inr ⟨rfl, nm, x4, HM3.out⟩
      case measure => simp [intOf]
    · have HM4 := Lib.hid hM
      clear hM
      go_wp2_with fail
      refine (peek_q (t := ⟨1, 33, 37⟩) (l := colL.drop 11) (HM4.out.rd 2 rfl) (by decide) (by decide)).mono ?_
      rintro e w1 ⟨rfl, hg⟩
      rw [tR]
      have HM5 := Lib.hid (HM4.out.other hg)
      clear hg
      have heq := HEQ.out
      go_wp2
      go_end0
      exact ⟨⟨_, rfl⟩, nm, x4, HM5.out⟩
/-- what the reader has made behind the whole program -/
def allL (w0 : World) (nm x4 x5 x6 vg vs vv : Value) (cs : List (Ch w0.heap.size)) : List (Ch w0.heap.size) :=
  cR w0.heap.size 76 3 x5 1 [.string fS, vg, vs] :: cR w0.heap.size 78 2 vs 1 [.int .i64 0, vv] :: cR w0.heap.size 186 2 vv vaL.length (pc vaL) :: cR w0.heap.size 186 2 vg gdL.length (pc gdL) :: cR w0.heap.size 9 1 x6 1 [.string fS] ::
    cD w0 [] nm (.string (txt ⟨1, 8, 15⟩)) x4 x5 x6 :: cR w0.heap.size 103 6 x4 1 varL :: cR w0.heap.size 9 1 nm 1 [.string cS] :: cs
set_option maxRecDepth 100000 in
set_option maxHeartbeats 8000000 in
theorem many_rule {w0 : World} {cs : List (Ch w0.heap.size)} {nm x4 : Value} {X : World} (h : Mem w0 (cD w0 (colL.drop 10) nm (.string (txt ⟨1, 8, 15⟩)) x4 nilV nilV :: cR w0.heap.size 103 6 x4 1 varL :: cR w0.heap.size 9 1 nm 1 [.string cS] :: cs) X) :
    Calls Tryz.prog 56 #[.pointer (some ⟨w0.heap.size, 0, none⟩), .string ⟨#[114, 117, 108, 101]⟩, .int .i64 12, .func (.func 58) #[.pointer (some ⟨w0.heap.size, 0, none⟩)] #[]] X fun e w' =>
      (∃ v, e = .returned v) ∧ ∃ x5 x6 vg vs vv, Mem w0 (allL w0 nm x4 x5 x6 vg vs vv cs) w' := by
  have HM := Lib.hid h
  have HEQ := Lib.hid (show ((⟨#[]⟩ : ByteArray).toList == (⟨#[114, 117, 108, 101]⟩ : ByteArray).toList) = false by decide +kernel)
  generalize hpn : txt ⟨1, 8, 15⟩ = pn at *
  clear h
  go_enter Tryz.func56, Tryz.ntmps56
  go_wp2
  go_loopw [8] (fun i wr => (i = .int .i64 0 ∧ wr = X) ∨ (i = .int .i64 1 ∧ ∃ x5 x6 vg vs vv, Mem w0 (allL w0 nm x4 x5 x6 vg vs vv cs) wr)) (fun i _ => 1 - (intOf i).toNat)
  case atStart => exact .inl ⟨rfl, rfl⟩
  case round =>
    rcases hrel with ⟨rfl, rfl⟩ | ⟨rfl, x5, x6, vg, vs, vv, hM⟩
    · go_wp2_with fail
      refine (peek_q (t := ⟨1, 33, 37⟩) (l := colL.drop 11) (HM.out.rd 0 rfl) (by decide) (by decide)).mono ?_
      rintro e w1 ⟨rfl, hg⟩
      rw [tR]
      have HM1 := Lib.hid (HM.out.other hg)
      clear hg
      go_wp2_with fail
      refine (take_q (t := ⟨1, 33, 37⟩) (l := colL.drop 11) (HM1.out.rd 0 rfl)).mono ?_
      rintro e w2 ⟨rfl, hs, hg⟩
      have HM2 := Lib.hid (HM1.out.tk 0 rfl hs hg)
      clear hs hg HM1
      unfold tokV
      go_wp2_with fail
      refine (rule_r 1 rfl HM2.out).mono ?_
      rintro e w3 ⟨⟨v3, rfl⟩, x5, x6, vg, vs, vv, hM⟩
      have HM3 := Lib.hid hM
      clear hM HM2
      go_wp2
      go_roundw
      case rel => exact .inr ⟨rfl, x5, x6, vg, vs, vv, by subst hpn; exact HM3.out⟩
      case measure => simp [intOf]
    · have HM4 := Lib.hid hM
      clear hM
      go_wp2_with fail
      refine (peek_end (HM4.out.rd 5 rfl)).mono ?_
      rintro e w1 ⟨rfl, hg⟩
      have HM5 := Lib.hid (HM4.out.other hg)
      clear hg
      have heq := HEQ.out
      go_wp2
      go_end0
      exact ⟨⟨_, rfl⟩, x5, x6, vg, vs, vv, HM5.out⟩
theorem coS_name : NameOk (txt ⟨1, 8, 15⟩) := ⟨by decide, by decide, by decide, by decide, by decide +kernel⟩
set_option maxRecDepth 100000 in
set_option maxHeartbeats 8000000 in
theorem all_r {w0 : World} {cs : List (Ch w0.heap.size)} {X : World} (h : Mem w0 (cD w0 colL nilV (.string ⟨#[]⟩) nilV nilV nilV :: cs) X) :
    Calls Tryz.prog 33 #[.pointer (some ⟨w0.heap.size, 0, none⟩)] X fun e w' => (∃ v, e = .returned v) ∧ ∃ nm x4 x5 x6 vg vs vv, Mem w0 (allL w0 nm x4 x5 x6 vg vs vv cs) w' := by
  have HM := Lib.hid h
  clear h
  go_enter Tryz.func33, Tryz.ntmps33
  go_wp2_with fail
  refine (expect_q (t := ⟨1, 0, 7⟩) (l := colL.drop 1) (HM.out.rd 0 rfl) (by decide) (by decide) ⟨#[112, 114, 111, 103, 114, 97, 109]⟩ (by decide +kernel)).mono ?_
  rintro e w1 ⟨⟨v1, rfl⟩, hs, hg⟩
  have HM1 := Lib.hid (HM.out.tk 0 rfl hs hg)
  clear hs hg HM
  go_wp2_with fail
  refine (pname_q (t := ⟨1, 8, 15⟩) (l := colL.drop 2) (HM1.out.rd 0 rfl) ⟨by decide, by decide⟩ rfl coS_name).mono ?_
  rintro e w2 ⟨rfl, hs, hg⟩
  have HM2 := Lib.hid (HM1.out.tk 0 rfl hs hg)
  clear hs hg HM1
  obtain ⟨v, hb, -⟩ := HM2.out.rd 0 rfl
  obtain ⟨s0, s1, s2, s3, s4, s5, s6, sf⟩ := blk7r hb
  have hlt := hb.lt
  have HM3 := Lib.hid (HM2.out.setD 0 rfl 3 (.string (txt ⟨1, 8, 15⟩)) (fun _ => rfl))
  clear hb HM2
  generalize hpn : txt ⟨1, 8, 15⟩ = pn at *
  go_wp2_with fail
  generalize World.setCell _ _ _ = W3 at *
  clear s0 s1 s2 s3 s4 s5 s6 sf hlt
  refine (expect_q (t := ⟨3, 15, 16⟩) (l := colL.drop 3) (HM3.out.rd 0 rfl) (by decide) (by decide) ⟨#[59]⟩ (by decide +kernel)).mono ?_
  rintro e w4 ⟨⟨v4, rfl⟩, hs, hg⟩
  have HM4 := Lib.hid (HM3.out.tk 0 rfl hs hg)
  clear hs hg HM3
  go_wp2_with fail
  refine (many_var HM4.out).mono ?_
  rintro e w5 ⟨⟨v5, rfl⟩, nm, x4, hM⟩
  have HM5 := Lib.hid (hM.perm (List.perm_middle (l₁ := [_, _])))
  clear hM HM4
  go_wp2_with fail
  subst hpn
  refine (many_rule HM5.out).mono ?_
  rintro e w6 ⟨⟨v6, rfl⟩, x5, x6, vg, vs, vv, hM⟩
  have HM6 := Lib.hid hM
  clear hM HM5
  go_wp2_with fail
  refine (done_end (HM6.out.rd 5 rfl)).mono ?_
  rintro e w7 ⟨rfl, rfl⟩
  go_wp2
  go_end0
  exact ⟨⟨_, rfl⟩, nm, x4, x5, x6, vg, vs, vv, HM6.out⟩
end Go.Proofs.YtdfklagiafmoiaaGreatDoor
