/-
  DERIVED. GIVEN WITH THE SEED: THE CARDS: each row of YtoplpepiabedhaaGreatDoorRows.lean that lists a variable, with what it lists TIED to the program's text (the seventh form; the later family's looks); each row that meets fmt, with fmt's text TOLD by the authors' own Lean function (tested against real Go, not proved from fmt's source: count such statements apart). THE CARD IS WHAT COUNTS. Prove the row's statement (the work); the ties are given (YtoplpepiabedhaaGreatDoorTie.lean); close each card by the builder's one call (the guide's Derived/Test/ToyasCard.lean, 'card_holds'). Laid BY PROGRAM, IN A SANDBOX (cutbox-door.mjs). By AI agents, Wed Nov 11 2026. No macro, syntax, notation, axiom, sorry.
-/
import Derived.Test.YtoplpepiabedhaaGreatDoorRows
import GoSem.ClaimSeven
namespace Go.Proofs.YtoplpepiabedhaaGreatDoor
namespace Rows

/-- THE TIED CARD OF 'joinlearnlaw14.ViewsWeights'. -/
def viewsWeightsCard : Claim7 := { stood := { row := viewsWeightsRow, standIns := [], harness := (true, "0269271fd14138e665aeb2b0ee6f55d7332fd69919cc263d983c780920ab6749"), looks := true }, kinds := [], alts := [], laidByText := true, laidKinds := [.data, .data, .data, .sentinel, .sentinel], laidTests := true, laidLooks := .later }
def ViewsWeightsCardSaid : Prop := Claim7.holds Tryz.pinned (.plain (OpenSpec.ofChange viewsWeightsSpec)) viewsWeightsCard

/-- THE TIED CARD OF 'joinlearnlaw14.ViewsEmpty'. -/
def viewsEmptyCard : Claim7 := { stood := { row := viewsEmptyRow, standIns := [], harness := (true, "0269271fd14138e665aeb2b0ee6f55d7332fd69919cc263d983c780920ab6749"), looks := true }, kinds := [], alts := [], laidByText := true, laidKinds := [.data, .data, .data, .sentinel, .sentinel], laidTests := true, laidLooks := .later }
def ViewsEmptyCardSaid : Prop := Claim7.holds Tryz.pinned (.plain (OpenSpec.ofChange viewsEmptySpec)) viewsEmptyCard

/-- THE TIED CARD OF 'joinlearnlaw14.ViewsTotal'. -/
def viewsTotalCard : Claim7 := { stood := { row := viewsTotalRow, standIns := [], harness := (true, "0269271fd14138e665aeb2b0ee6f55d7332fd69919cc263d983c780920ab6749"), looks := true }, kinds := [], alts := [], laidByText := true, laidKinds := [.data, .data, .data, .sentinel, .sentinel], laidTests := true, laidLooks := .later }
def ViewsTotalCardSaid : Prop := Claim7.holds Tryz.pinned (.plain (OpenSpec.ofChange viewsTotalSpec)) viewsTotalCard

/-- THE TIED CARD OF 'joinlearnlaw14.ViewsBelow'. -/
def viewsBelowCard : Claim7 := { stood := { row := viewsBelowRow, standIns := [], harness := (true, "0269271fd14138e665aeb2b0ee6f55d7332fd69919cc263d983c780920ab6749"), looks := true }, kinds := [], alts := [], laidByText := true, laidKinds := [.data, .data, .data, .sentinel, .sentinel], laidTests := true, laidLooks := .later }
def ViewsBelowCardSaid : Prop := Claim7.holds Tryz.pinned (.plain (OpenSpec.ofChange viewsBelowSpec)) viewsBelowCard

/-- THE TIED CARD OF 'joinlearnlaw13.CofactorAdds'. -/
def cofactorAddsCard : Claim7 := { stood := { row := cofactorAddsRow, standIns := [], harness := (true, "0269271fd14138e665aeb2b0ee6f55d7332fd69919cc263d983c780920ab6749"), looks := true }, kinds := [], alts := [], laidByText := true, laidKinds := [.data, .data, .data, .sentinel, .sentinel], laidTests := true, laidLooks := .later }
def CofactorAddsCardSaid : Prop := Claim7.holds Tryz.pinned (.plain (OpenSpec.ofChange cofactorAddsSpec)) cofactorAddsCard

/-- THE TIED CARD OF 'joinlearnlaw14.ViewsBounds'. -/
def viewsBoundsCard : Claim7 := { stood := { row := viewsBoundsRow, standIns := [], harness := (true, "0269271fd14138e665aeb2b0ee6f55d7332fd69919cc263d983c780920ab6749"), looks := true }, kinds := [], alts := [], laidByText := true, laidKinds := [.data, .data, .data, .sentinel, .sentinel], laidTests := true, laidLooks := .later }
def ViewsBoundsCardSaid : Prop := Claim7.holds Tryz.pinned (.plain (OpenSpec.ofChange viewsBoundsSpec)) viewsBoundsCard

/-- THE SECOND FORM's CARD OF 'joinlearnlaw14.ViewsWeights'. -/
def viewsWeightsUptoCard : Claim7 := { stood := { row := viewsWeightsUptoRow, standIns := [], harness := (true, "0269271fd14138e665aeb2b0ee6f55d7332fd69919cc263d983c780920ab6749"), looks := true }, kinds := [], alts := [], laidByText := true, laidKinds := [.data, .data, .data, .sentinel, .sentinel], laidTests := true, laidLooks := .later }
def ViewsWeightsUptoCardSaid : Prop := Claim7.holds Tryz.pinned (.plain (OpenSpec.upto viewsWeightsSpec)) viewsWeightsUptoCard

/-- THE SECOND FORM's CARD OF 'joinlearnlaw14.ViewsEmpty'. -/
def viewsEmptyUptoCard : Claim7 := { stood := { row := viewsEmptyUptoRow, standIns := [], harness := (true, "0269271fd14138e665aeb2b0ee6f55d7332fd69919cc263d983c780920ab6749"), looks := true }, kinds := [], alts := [], laidByText := true, laidKinds := [.data, .data, .data, .sentinel, .sentinel], laidTests := true, laidLooks := .later }
def ViewsEmptyUptoCardSaid : Prop := Claim7.holds Tryz.pinned (.plain (OpenSpec.upto viewsEmptySpec)) viewsEmptyUptoCard

/-- THE SECOND FORM's CARD OF 'joinlearnlaw14.ViewsTotal'. -/
def viewsTotalUptoCard : Claim7 := { stood := { row := viewsTotalUptoRow, standIns := [], harness := (true, "0269271fd14138e665aeb2b0ee6f55d7332fd69919cc263d983c780920ab6749"), looks := true }, kinds := [], alts := [], laidByText := true, laidKinds := [.data, .data, .data, .sentinel, .sentinel], laidTests := true, laidLooks := .later }
def ViewsTotalUptoCardSaid : Prop := Claim7.holds Tryz.pinned (.plain (OpenSpec.upto viewsTotalSpec)) viewsTotalUptoCard

/-- THE SECOND FORM's CARD OF 'joinlearnlaw14.ViewsBelow'. -/
def viewsBelowUptoCard : Claim7 := { stood := { row := viewsBelowUptoRow, standIns := [], harness := (true, "0269271fd14138e665aeb2b0ee6f55d7332fd69919cc263d983c780920ab6749"), looks := true }, kinds := [], alts := [], laidByText := true, laidKinds := [.data, .data, .data, .sentinel, .sentinel], laidTests := true, laidLooks := .later }
def ViewsBelowUptoCardSaid : Prop := Claim7.holds Tryz.pinned (.plain (OpenSpec.upto viewsBelowSpec)) viewsBelowUptoCard

/-- THE SECOND FORM's CARD OF 'joinlearnlaw13.CofactorAdds'. -/
def cofactorAddsUptoCard : Claim7 := { stood := { row := cofactorAddsUptoRow, standIns := [], harness := (true, "0269271fd14138e665aeb2b0ee6f55d7332fd69919cc263d983c780920ab6749"), looks := true }, kinds := [], alts := [], laidByText := true, laidKinds := [.data, .data, .data, .sentinel, .sentinel], laidTests := true, laidLooks := .later }
def CofactorAddsUptoCardSaid : Prop := Claim7.holds Tryz.pinned (.plain (OpenSpec.upto cofactorAddsSpec)) cofactorAddsUptoCard

/-- THE SECOND FORM's CARD OF 'joinlearnlaw14.ViewsBounds'. -/
def viewsBoundsUptoCard : Claim7 := { stood := { row := viewsBoundsUptoRow, standIns := [], harness := (true, "0269271fd14138e665aeb2b0ee6f55d7332fd69919cc263d983c780920ab6749"), looks := true }, kinds := [], alts := [], laidByText := true, laidKinds := [.data, .data, .data, .sentinel, .sentinel], laidTests := true, laidLooks := .later }
def ViewsBoundsUptoCardSaid : Prop := Claim7.holds Tryz.pinned (.plain (OpenSpec.upto viewsBoundsSpec)) viewsBoundsUptoCard
end Rows
end Go.Proofs.YtoplpepiabedhaaGreatDoor
