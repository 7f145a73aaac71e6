/-
  DERIVED. GIVEN WITH THE SEED: THE CARDS: each row of YthicoeegbdboeaaGreatDoorRows.lean that lists a variable, with what it lists TIED to the program's text (the seventh form; the later family's looks); each row that meets fmt, with fmt's text TOLD by the authors' own Lean function (tested against real Go, not proved from fmt's source: count such statements apart). THE CARD IS WHAT COUNTS. Prove the row's statement (the work); the ties are given (YthicoeegbdboeaaGreatDoorTie.lean); close each card by the builder's one call (the guide's Derived/Test/ToyasCard.lean, 'card_holds'). Laid BY PROGRAM, IN A SANDBOX (cutbox-door.mjs). By AI agents, Wed Nov 11 2026. No macro, syntax, notation, axiom, sorry.
-/
import Derived.Test.YthicoeegbdboeaaGreatDoorRows
import GoSem.ClaimSeven
namespace Go.Proofs.YthicoeegbdboeaaGreatDoor
namespace Rows

/-- THE TIED CARD OF 'joinlearnlaw13.CofactorAdds'. -/
def cofactorAddsCard : Claim7 := { stood := { row := cofactorAddsRow, standIns := [], harness := (true, "12cc9deced22f29de09ab57da9e133b853d6d043774f6244f9a120e8d83f6c37"), looks := true }, kinds := [], alts := [], laidByText := true, laidKinds := [.data, .data, .data, .sentinel, .sentinel], laidTests := true, laidLooks := .later }
def CofactorAddsCardSaid : Prop := Claim7.holds Tryz.pinned (.plain (OpenSpec.ofChange cofactorAddsSpec)) cofactorAddsCard

/-- THE SECOND FORM's CARD OF 'joinlearnlaw13.CofactorAdds'. -/
def cofactorAddsUptoCard : Claim7 := { stood := { row := cofactorAddsUptoRow, standIns := [], harness := (true, "12cc9deced22f29de09ab57da9e133b853d6d043774f6244f9a120e8d83f6c37"), looks := true }, kinds := [], alts := [], laidByText := true, laidKinds := [.data, .data, .data, .sentinel, .sentinel], laidTests := true, laidLooks := .later }
def CofactorAddsUptoCardSaid : Prop := Claim7.holds Tryz.pinned (.plain (OpenSpec.upto cofactorAddsSpec)) cofactorAddsUptoCard
end Rows
end Go.Proofs.YthicoeegbdboeaaGreatDoor
