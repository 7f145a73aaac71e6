/-
  DERIVED. GIVEN WITH THE SEED: THE CARDS: each row of YtopjkdddicgajaaGreatDoorRows.lean that lists a variable, with what it lists TIED to the program's text (the seventh form; the later family's looks); each row that meets fmt, with fmt's text TOLD by the authors' own Lean function (tested against real Go, not proved from fmt's source: count such statements apart). THE CARD IS WHAT COUNTS. Prove the row's statement (the work); the ties are given (YtopjkdddicgajaaGreatDoorTie.lean); close each card by the builder's one call (the guide's Derived/Test/ToyasCard.lean, 'card_holds'). Laid BY PROGRAM, IN A SANDBOX (cutbox-door.mjs). By AI agents, Wed Nov 11 2026. No macro, syntax, notation, axiom, sorry.
-/
import Derived.Test.YtopjkdddicgajaaGreatDoorRows
import GoSem.ClaimSeven
namespace Go.Proofs.YtopjkdddicgajaaGreatDoor
namespace Rows

/-- THE TIED CARD OF 'joinlearnlaw40.SteplogLines'. -/
def steplogLinesCard : Claim7 := { stood := { row := steplogLinesRow, standIns := [], harness := (true, "1cdb6d19ef450c833547c6c97db4c247ebb158564f9f9ac0e57c9ea8e23ef360"), looks := true }, kinds := [], alts := [], laidByText := true, laidKinds := [.data, .data, .data, .data, .sentinel, .sentinel, .pinned], laidTests := true, laidLooks := .later }
def SteplogLinesCardSaid : Prop := Claim7.holds Tryz.pinned (.plain (OpenSpec.ofChange steplogLinesSpec)) steplogLinesCard

/-- THE TIED CARD OF 'joinlearnlaw40.SteplogJoins'. -/
def steplogJoinsCard : Claim7 := { stood := { row := steplogJoinsRow, standIns := [], harness := (true, "1cdb6d19ef450c833547c6c97db4c247ebb158564f9f9ac0e57c9ea8e23ef360"), looks := true }, kinds := [], alts := [], laidByText := true, laidKinds := [.data, .data, .data, .data, .sentinel, .sentinel, .pinned], laidTests := true, laidLooks := .later }
def SteplogJoinsCardSaid : Prop := Claim7.holds Tryz.pinned (.plain (OpenSpec.ofChange steplogJoinsSpec)) steplogJoinsCard

/-- THE TIED CARD OF 'joinlearnlaw40.SteplogReads'. -/
def steplogReadsCard : Claim7 := { stood := { row := steplogReadsRow, standIns := [], harness := (true, "1cdb6d19ef450c833547c6c97db4c247ebb158564f9f9ac0e57c9ea8e23ef360"), looks := true }, kinds := [], alts := [], laidByText := true, laidKinds := [.data, .data, .data, .data, .sentinel, .sentinel, .pinned], laidTests := true, laidLooks := .later }
def SteplogReadsCardSaid : Prop := Claim7.holds Tryz.pinned (.plain (OpenSpec.ofChange steplogReadsSpec)) steplogReadsCard

/-- THE SECOND FORM's CARD OF 'joinlearnlaw40.SteplogLines'. -/
def steplogLinesUptoCard : Claim7 := { stood := { row := steplogLinesUptoRow, standIns := [], harness := (true, "1cdb6d19ef450c833547c6c97db4c247ebb158564f9f9ac0e57c9ea8e23ef360"), looks := true }, kinds := [], alts := [], laidByText := true, laidKinds := [.data, .data, .data, .data, .sentinel, .sentinel, .pinned], laidTests := true, laidLooks := .later }
def SteplogLinesUptoCardSaid : Prop := Claim7.holds Tryz.pinned (.plain (OpenSpec.upto steplogLinesSpec)) steplogLinesUptoCard

/-- THE SECOND FORM's CARD OF 'joinlearnlaw40.SteplogJoins'. -/
def steplogJoinsUptoCard : Claim7 := { stood := { row := steplogJoinsUptoRow, standIns := [], harness := (true, "1cdb6d19ef450c833547c6c97db4c247ebb158564f9f9ac0e57c9ea8e23ef360"), looks := true }, kinds := [], alts := [], laidByText := true, laidKinds := [.data, .data, .data, .data, .sentinel, .sentinel, .pinned], laidTests := true, laidLooks := .later }
def SteplogJoinsUptoCardSaid : Prop := Claim7.holds Tryz.pinned (.plain (OpenSpec.upto steplogJoinsSpec)) steplogJoinsUptoCard

/-- THE SECOND FORM's CARD OF 'joinlearnlaw40.SteplogReads'. -/
def steplogReadsUptoCard : Claim7 := { stood := { row := steplogReadsUptoRow, standIns := [], harness := (true, "1cdb6d19ef450c833547c6c97db4c247ebb158564f9f9ac0e57c9ea8e23ef360"), looks := true }, kinds := [], alts := [], laidByText := true, laidKinds := [.data, .data, .data, .data, .sentinel, .sentinel, .pinned], laidTests := true, laidLooks := .later }
def SteplogReadsUptoCardSaid : Prop := Claim7.holds Tryz.pinned (.plain (OpenSpec.upto steplogReadsSpec)) steplogReadsUptoCard
end Rows
end Go.Proofs.YtopjkdddicgajaaGreatDoor
