/- account.possible at two sets. -/
import Derived.Test.YthnjcnenncbagaaW2
namespace Go.Proofs.Ythnjcnenncbagaa
open Go.RowKit
theorem possible2 (b x y : Nat) (w : World) (hx : x < 4294967296) (hy : y < 4294967296) (c0 : w.cell? ⟨b, 0, none⟩ = some (.int .u32 x)) (c1 : w.cell? ⟨b, 1, none⟩ = some (.int .u32 y)) :
    Calls Try.prog 18 #[.slice (some ⟨b, 0, none⟩) 2 2] w fun e w' => e = .returned (.bool (decide (x < 16777216) && decide (y < 16777216))) ∧ w = w' := by
  have h := possible_any b [x, y] w (by simp) (by
    intro i hi
    match i, hi with
    | 0, _ => exact hx
    | 1, _ => exact hy) (by
    intro i hi
    match i, hi with
    | 0, _ => exact c0
    | 1, _ => exact c1)
  simpa using h
end Go.Proofs.Ythnjcnenncbagaa
