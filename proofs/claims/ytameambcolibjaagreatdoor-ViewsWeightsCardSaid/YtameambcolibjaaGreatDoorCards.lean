/-
  DERIVED. GIVEN WITH THE SEED: THE CARDS: each row of YtameambcolibjaaGreatDoorRows.lean that lists a variable, with what it lists TIED to the program's text (the seventh form; the later family's looks); each row that meets fmt, with fmt's text TOLD by the authors' own Lean function (tested against real Go, not proved from fmt's source: count such statements apart). THE CARD IS WHAT COUNTS. Prove the row's statement (the work); the ties are given (YtameambcolibjaaGreatDoorTie.lean); close each card by the builder's one call (the guide's Derived/Test/ToyasCard.lean, 'card_holds'). Laid BY PROGRAM, IN A SANDBOX (cutbox-door.mjs). By AI agents, Wed Nov 11 2026. No macro, syntax, notation, axiom, sorry.
-/
import Derived.Test.YtameambcolibjaaGreatDoorRows
import GoSem.ClaimSeven
namespace Go.Proofs.YtameambcolibjaaGreatDoor
namespace Rows

/-- THE TIED CARD OF 'joinlearnlaw14.ViewsWeights'. -/
def viewsWeightsCard : Claim7 := { stood := { row := viewsWeightsRow, standIns := [], harness := (true, "4d2e3d22b1127ad42849882aab6573e431a87362188ecf52a1e69f1c153cacc6"), looks := true }, kinds := [], alts := [], laidByText := true, laidKinds := [.data, .data, .data, .sentinel, .sentinel], laidTests := true, laidLooks := .later }
def ViewsWeightsCardSaid : Prop := Claim7.holds Tryz.pinned (.plain (OpenSpec.ofChange viewsWeightsSpec)) viewsWeightsCard

/-- THE SECOND FORM's CARD OF 'joinlearnlaw14.ViewsWeights'. -/
def viewsWeightsUptoCard : Claim7 := { stood := { row := viewsWeightsUptoRow, standIns := [], harness := (true, "4d2e3d22b1127ad42849882aab6573e431a87362188ecf52a1e69f1c153cacc6"), looks := true }, kinds := [], alts := [], laidByText := true, laidKinds := [.data, .data, .data, .sentinel, .sentinel], laidTests := true, laidLooks := .later }
def ViewsWeightsUptoCardSaid : Prop := Claim7.holds Tryz.pinned (.plain (OpenSpec.upto viewsWeightsSpec)) viewsWeightsUptoCard
end Rows
end Go.Proofs.YtameambcolibjaaGreatDoor
