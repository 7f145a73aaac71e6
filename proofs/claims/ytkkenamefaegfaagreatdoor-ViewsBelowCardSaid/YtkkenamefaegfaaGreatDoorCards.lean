/-
  DERIVED. GIVEN WITH THE SEED: THE CARDS: each row of YtkkenamefaegfaaGreatDoorRows.lean that lists a variable, with what it lists TIED to the program's text (the seventh form; the later family's looks); each row that meets fmt, with fmt's text TOLD by the authors' own Lean function (tested against real Go, not proved from fmt's source: count such statements apart). THE CARD IS WHAT COUNTS. Prove the row's statement (the work); the ties are given (YtkkenamefaegfaaGreatDoorTie.lean); close each card by the builder's one call (the guide's Derived/Test/ToyasCard.lean, 'card_holds'). Laid BY PROGRAM, IN A SANDBOX (cutbox-door.mjs). By AI agents, Wed Nov 11 2026. No macro, syntax, notation, axiom, sorry.
-/
import Derived.Test.YtkkenamefaegfaaGreatDoorRows
import GoSem.ClaimSeven
namespace Go.Proofs.YtkkenamefaegfaaGreatDoor
namespace Rows

/-- THE TIED CARD OF 'joinlearnlaw14.ViewsBelow'. -/
def viewsBelowCard : Claim7 := { stood := { row := viewsBelowRow, standIns := [], harness := (true, "5edaa4215bb1ac14d97cc40b4242cf7ba26f69152103bf437abc97a68b002fcd"), looks := true }, kinds := [], alts := [], laidByText := true, laidKinds := [.data, .data, .data, .sentinel, .sentinel], laidTests := true, laidLooks := .later }
def ViewsBelowCardSaid : Prop := Claim7.holds Tryz.pinned (.plain (OpenSpec.ofChange viewsBelowSpec)) viewsBelowCard

/-- THE SECOND FORM's CARD OF 'joinlearnlaw14.ViewsBelow'. -/
def viewsBelowUptoCard : Claim7 := { stood := { row := viewsBelowUptoRow, standIns := [], harness := (true, "5edaa4215bb1ac14d97cc40b4242cf7ba26f69152103bf437abc97a68b002fcd"), looks := true }, kinds := [], alts := [], laidByText := true, laidKinds := [.data, .data, .data, .sentinel, .sentinel], laidTests := true, laidLooks := .later }
def ViewsBelowUptoCardSaid : Prop := Claim7.holds Tryz.pinned (.plain (OpenSpec.upto viewsBelowSpec)) viewsBelowUptoCard
end Rows
end Go.Proofs.YtkkenamefaegfaaGreatDoor
