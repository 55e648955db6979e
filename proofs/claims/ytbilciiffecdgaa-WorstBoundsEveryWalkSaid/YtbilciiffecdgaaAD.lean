/- account.Add under one name; small words. -/
import Derived.Test.YtbilciiffecdgaaAC
import Derived.Test.YtbilciiffecdgaaF1m
import Derived.Test.YtbilciiffecdgaaMC
namespace Go.Proofs.Ytbilciiffecdgaa
open Go.RowKit

theorem acc_add (s m r b p ch af s' m' r' b' p' : Nat) (hp : p < 4294967296) (hv : Pl.valid s m r b p = true) (hc0 : 0 < ch) (hc : ch < 16777216) (ha : af < 16777216) (hs : s < 4096) (h1 : s' = s + 1) (h2 : m' = m + Pl.pop ch) (h3 : r' = r + if Pl.rest p ch af = 0 then 1 else 0) (h4 : b' = r + 1) (h5 : p' = if Pl.rest p ch af = 0 then af else Pl.rest p ch af) (w : World) :
    Calls Try.prog 31 #[cnt s m r b p, .int .u32 ch, .int .u32 af] w fun e w' => e = .returned (.tuple #[cnt s' m' r' b' p', .int .i64 0]) ∧ Below w.heap.size w w' := by
  have e1 : ((s + 1 : Nat) : Int) = (s : Int) + 1 := by omega
  have e2 : ((m + Pl.pop ch : Nat) : Int) = (m : Int) + Pl.pop ch := by omega
  have e3 : ((r + 1 : Nat) : Int) = (r : Int) + 1 := by omega
  by_cases hr : Pl.rest p ch af = 0
  · rw [if_pos hr] at h3 h5
    refine (add_done s m r b p ch af hp hv hc0 hc ha (by omega) hr w).mono fun e w' hh => ⟨?_, hh.2⟩
    rw [hh.1, h1, h2, h3, h4, h5, e1, e2, e3]
  · rw [if_neg hr, Nat.add_zero] at h3
    rw [if_neg hr] at h5
    refine (add_more s m r b p ch af hp hv hc0 hc ha (by omega) hr w).mono fun e w' hh => ⟨?_, hh.2⟩
    rw [hh.1, h1, h2, h3, h4, h5, e1, e2, e3]
theorem below_alloc' {W0 x : World} (h : Below W0.heap.size W0 x) (o : Obj) : Below W0.heap.size W0 (x.alloc o) := h.alloc h.size o
theorem below_set5' {W0 x : World} {v0 v1 v2 v3 v4 : Value} (h : Below W0.heap.size W0 x) :
    Below W0.heap.size W0 (((((x.setCell ⟨W0.heap.size, 0, none⟩ v0).setCell ⟨W0.heap.size, 1, none⟩ v1).setCell ⟨W0.heap.size, 2, none⟩ v2).setCell ⟨W0.heap.size, 3, none⟩ v3).setCell ⟨W0.heap.size, 4, none⟩ v4) :=
  ((((h.setCell (Nat.le_refl _) _).setCell (Nat.le_refl _) _).setCell (Nat.le_refl _) _).setCell (Nat.le_refl _) _).setCell (Nat.le_refl _) _
theorem below_set2' {W0 x : World} {v0 v1 : Value} (h : Below W0.heap.size W0 x) :
    Below W0.heap.size W0 ((x.setCell ⟨W0.heap.size, 0, none⟩ v0).setCell ⟨W0.heap.size, 1, none⟩ v1) :=
  (h.setCell (Nat.le_refl _) _).setCell (Nat.le_refl _) _
theorem u8_at {w w' : World} {A : Option Addr} {zs : List Int} {k : Nat} (h : Reads w w.heap.size 1 A zs.length (zs.map fun z : Int => Value.int .u8 z)) (hb : Below w.heap.size w w') (hk : k < zs.length) :
    ∃ ad, A = some ad ∧ ad.block < w.heap.size ∧ w'.cell? (ad.add k) = some (.int .u8 zs[k]) := by
  obtain ⟨ad, e, hbl, hc⟩ := h.2 (by omega)
  refine ⟨ad, e, hbl, ?_⟩
  rw [hb.cell (by rw [block_of_add]; exact hbl)]
  exact hc k _ (by rw [List.getElem?_map, List.getElem?_eq_getElem hk]; rfl)
theorem u8_wf {x : Int} (h : (Lit.int .u8 x).wf = true) : 0 ≤ x ∧ x < 256 := by
  simp [Lit.wf, IntKind.min, IntKind.max, IntKind.signed, IntKind.bits] at h
  exact ⟨by omega, by omega⟩

end Go.Proofs.Ytbilciiffecdgaa
