/-
  DERIVED. GIVEN WITH THE SEED: THE CARDS: each row of YtdfklagiafmoiaaGreatDoorRows.lean that lists a variable, with what it lists TIED to the program's text (the seventh form; the later family's looks); each row that meets fmt, with fmt's text TOLD by the authors' own Lean function (tested against real Go, not proved from fmt's source: count such statements apart). THE CARD IS WHAT COUNTS. Prove the row's statement (the work); the ties are given (YtdfklagiafmoiaaGreatDoorTie.lean); close each card by the builder's one call (the guide's Derived/Test/ToyasCard.lean, 'card_holds'). Laid BY PROGRAM, IN A SANDBOX (cutbox-door.mjs). By AI agents, Wed Nov 11 2026. No macro, syntax, notation, axiom, sorry.
-/
import Derived.Test.YtdfklagiafmoiaaGreatDoorRows
import GoSem.ClaimSeven
namespace Go.Proofs.YtdfklagiafmoiaaGreatDoor
namespace Rows

/-- THE TIED CARD OF 'selfstabtop.TopLocallyCentralIsCentral'. -/
def topLocallyCentralIsCentralCard : Claim7 := { stood := { row := topLocallyCentralIsCentralRow, standIns := [], harness := (true, "3c2d9a79006b218183a29d602de018e1cd5eaae6a831a921bdb4bb1988a4ba37"), looks := true }, kinds := [], alts := [], laidByText := true, laidKinds := [.data], laidTests := true, laidLooks := .later }
def TopLocallyCentralIsCentralCardSaid : Prop := Claim7.holds Tryz.pinned (.plain (OpenSpec.ofChange topLocallyCentralIsCentralSpec)) topLocallyCentralIsCentralCard

/-- THE TIED CARD OF 'selfstabtop.TopRoundsServeEverybody'. -/
def topRoundsServeEverybodyCard : Claim7 := { stood := { row := topRoundsServeEverybodyRow, standIns := [], harness := (true, "3c2d9a79006b218183a29d602de018e1cd5eaae6a831a921bdb4bb1988a4ba37"), looks := true }, kinds := [], alts := [], laidByText := true, laidKinds := [.data], laidTests := true, laidLooks := .later }
def TopRoundsServeEverybodyCardSaid : Prop := Claim7.holds Tryz.pinned (.plain (OpenSpec.ofChange topRoundsServeEverybodySpec)) topRoundsServeEverybodyCard

/-- THE SECOND FORM's CARD OF 'selfstabtop.TopLocallyCentralIsCentral'. -/
def topLocallyCentralIsCentralUptoCard : Claim7 := { stood := { row := topLocallyCentralIsCentralUptoRow, standIns := [], harness := (true, "3c2d9a79006b218183a29d602de018e1cd5eaae6a831a921bdb4bb1988a4ba37"), looks := true }, kinds := [], alts := [], laidByText := true, laidKinds := [.data], laidTests := true, laidLooks := .later }
def TopLocallyCentralIsCentralUptoCardSaid : Prop := Claim7.holds Tryz.pinned (.plain (OpenSpec.upto topLocallyCentralIsCentralSpec)) topLocallyCentralIsCentralUptoCard

/-- THE SECOND FORM's CARD OF 'selfstabtop.TopRoundsServeEverybody'. -/
def topRoundsServeEverybodyUptoCard : Claim7 := { stood := { row := topRoundsServeEverybodyUptoRow, standIns := [], harness := (true, "3c2d9a79006b218183a29d602de018e1cd5eaae6a831a921bdb4bb1988a4ba37"), looks := true }, kinds := [], alts := [], laidByText := true, laidKinds := [.data], laidTests := true, laidLooks := .later }
def TopRoundsServeEverybodyUptoCardSaid : Prop := Claim7.holds Tryz.pinned (.plain (OpenSpec.upto topRoundsServeEverybodySpec)) topRoundsServeEverybodyUptoCard
end Rows
end Go.Proofs.YtdfklagiafmoiaaGreatDoor
