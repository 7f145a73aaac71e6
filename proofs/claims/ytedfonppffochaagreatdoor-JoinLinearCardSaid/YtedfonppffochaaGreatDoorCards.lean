/-
  DERIVED. GIVEN WITH THE SEED: THE CARDS: each row of YtedfonppffochaaGreatDoorRows.lean that lists a variable, with what it lists TIED to the program's text (the seventh form; the later family's looks); each row that meets fmt, with fmt's text TOLD by the authors' own Lean function (tested against real Go, not proved from fmt's source: count such statements apart). THE CARD IS WHAT COUNTS. Prove the row's statement (the work); the ties are given (YtedfonppffochaaGreatDoorTie.lean); close each card by the builder's one call (the guide's Derived/Test/ToyasCard.lean, 'card_holds'). Laid BY PROGRAM, IN A SANDBOX (cutbox-door.mjs). By AI agents, Wed Nov 11 2026. No macro, syntax, notation, axiom, sorry.
-/
import Derived.Test.YtedfonppffochaaGreatDoorRows
import GoSem.ClaimSeven
namespace Go.Proofs.YtedfonppffochaaGreatDoor
namespace Rows

/-- THE TIED CARD OF 'joinlearnlaw06.JoinProduct'. -/
def joinProductCard : Claim7 := { stood := { row := joinProductRow, standIns := [], harness := (true, "ba71fdeaedff7c227d97212d70be79d728d49b843d75f1e553e1e67468d1e182"), looks := true }, kinds := [], alts := [], laidByText := true, laidKinds := [.data, .data, .data, .sentinel, .sentinel], laidTests := true, laidLooks := .later }
def JoinProductCardSaid : Prop := Claim7.holds Tryz.pinned (.plain (OpenSpec.ofChange joinProductSpec)) joinProductCard

/-- THE TIED CARD OF 'joinlearnlaw06.JoinRelations'. -/
def joinRelationsCard : Claim7 := { stood := { row := joinRelationsRow, standIns := [], harness := (true, "ba71fdeaedff7c227d97212d70be79d728d49b843d75f1e553e1e67468d1e182"), looks := true }, kinds := [], alts := [], laidByText := true, laidKinds := [.data, .data, .data, .sentinel, .sentinel], laidTests := true, laidLooks := .later }
def JoinRelationsCardSaid : Prop := Claim7.holds Tryz.pinned (.plain (OpenSpec.ofChange joinRelationsSpec)) joinRelationsCard

/-- THE TIED CARD OF 'joinlearnlaw06.JoinTuples'. -/
def joinTuplesCard : Claim7 := { stood := { row := joinTuplesRow, standIns := [], harness := (true, "ba71fdeaedff7c227d97212d70be79d728d49b843d75f1e553e1e67468d1e182"), looks := true }, kinds := [], alts := [], laidByText := true, laidKinds := [.data, .data, .data, .sentinel, .sentinel], laidTests := true, laidLooks := .later }
def JoinTuplesCardSaid : Prop := Claim7.holds Tryz.pinned (.plain (OpenSpec.ofChange joinTuplesSpec)) joinTuplesCard

/-- THE TIED CARD OF 'joinlearnlaw06.JoinLinear'. -/
def joinLinearCard : Claim7 := { stood := { row := joinLinearRow, standIns := [], harness := (true, "ba71fdeaedff7c227d97212d70be79d728d49b843d75f1e553e1e67468d1e182"), looks := true }, kinds := [], alts := [], laidByText := true, laidKinds := [.data, .data, .data, .sentinel, .sentinel], laidTests := true, laidLooks := .later }
def JoinLinearCardSaid : Prop := Claim7.holds Tryz.pinned (.plain (OpenSpec.ofChange joinLinearSpec)) joinLinearCard

/-- THE TIED CARD OF 'joinlearnlaw06.JoinMissing'. -/
def joinMissingCard : Claim7 := { stood := { row := joinMissingRow, standIns := [], harness := (true, "ba71fdeaedff7c227d97212d70be79d728d49b843d75f1e553e1e67468d1e182"), looks := true }, kinds := [], alts := [], laidByText := true, laidKinds := [.data, .data, .data, .sentinel, .sentinel], laidTests := true, laidLooks := .later }
def JoinMissingCardSaid : Prop := Claim7.holds Tryz.pinned (.plain (OpenSpec.ofChange joinMissingSpec)) joinMissingCard

/-- THE TIED CARD OF 'joinlearnlaw06.JoinExact'. -/
def joinExactCard : Claim7 := { stood := { row := joinExactRow, standIns := [], harness := (true, "ba71fdeaedff7c227d97212d70be79d728d49b843d75f1e553e1e67468d1e182"), looks := true }, kinds := [], alts := [], laidByText := true, laidKinds := [.data, .data, .data, .sentinel, .sentinel], laidTests := true, laidLooks := .later }
def JoinExactCardSaid : Prop := Claim7.holds Tryz.pinned (.plain (OpenSpec.ofChange joinExactSpec)) joinExactCard

/-- THE SECOND FORM's CARD OF 'joinlearnlaw06.JoinProduct'. -/
def joinProductUptoCard : Claim7 := { stood := { row := joinProductUptoRow, standIns := [], harness := (true, "ba71fdeaedff7c227d97212d70be79d728d49b843d75f1e553e1e67468d1e182"), looks := true }, kinds := [], alts := [], laidByText := true, laidKinds := [.data, .data, .data, .sentinel, .sentinel], laidTests := true, laidLooks := .later }
def JoinProductUptoCardSaid : Prop := Claim7.holds Tryz.pinned (.plain (OpenSpec.upto joinProductSpec)) joinProductUptoCard

/-- THE SECOND FORM's CARD OF 'joinlearnlaw06.JoinRelations'. -/
def joinRelationsUptoCard : Claim7 := { stood := { row := joinRelationsUptoRow, standIns := [], harness := (true, "ba71fdeaedff7c227d97212d70be79d728d49b843d75f1e553e1e67468d1e182"), looks := true }, kinds := [], alts := [], laidByText := true, laidKinds := [.data, .data, .data, .sentinel, .sentinel], laidTests := true, laidLooks := .later }
def JoinRelationsUptoCardSaid : Prop := Claim7.holds Tryz.pinned (.plain (OpenSpec.upto joinRelationsSpec)) joinRelationsUptoCard

/-- THE SECOND FORM's CARD OF 'joinlearnlaw06.JoinTuples'. -/
def joinTuplesUptoCard : Claim7 := { stood := { row := joinTuplesUptoRow, standIns := [], harness := (true, "ba71fdeaedff7c227d97212d70be79d728d49b843d75f1e553e1e67468d1e182"), looks := true }, kinds := [], alts := [], laidByText := true, laidKinds := [.data, .data, .data, .sentinel, .sentinel], laidTests := true, laidLooks := .later }
def JoinTuplesUptoCardSaid : Prop := Claim7.holds Tryz.pinned (.plain (OpenSpec.upto joinTuplesSpec)) joinTuplesUptoCard

/-- THE SECOND FORM's CARD OF 'joinlearnlaw06.JoinLinear'. -/
def joinLinearUptoCard : Claim7 := { stood := { row := joinLinearUptoRow, standIns := [], harness := (true, "ba71fdeaedff7c227d97212d70be79d728d49b843d75f1e553e1e67468d1e182"), looks := true }, kinds := [], alts := [], laidByText := true, laidKinds := [.data, .data, .data, .sentinel, .sentinel], laidTests := true, laidLooks := .later }
def JoinLinearUptoCardSaid : Prop := Claim7.holds Tryz.pinned (.plain (OpenSpec.upto joinLinearSpec)) joinLinearUptoCard

/-- THE SECOND FORM's CARD OF 'joinlearnlaw06.JoinMissing'. -/
def joinMissingUptoCard : Claim7 := { stood := { row := joinMissingUptoRow, standIns := [], harness := (true, "ba71fdeaedff7c227d97212d70be79d728d49b843d75f1e553e1e67468d1e182"), looks := true }, kinds := [], alts := [], laidByText := true, laidKinds := [.data, .data, .data, .sentinel, .sentinel], laidTests := true, laidLooks := .later }
def JoinMissingUptoCardSaid : Prop := Claim7.holds Tryz.pinned (.plain (OpenSpec.upto joinMissingSpec)) joinMissingUptoCard

/-- THE SECOND FORM's CARD OF 'joinlearnlaw06.JoinExact'. -/
def joinExactUptoCard : Claim7 := { stood := { row := joinExactUptoRow, standIns := [], harness := (true, "ba71fdeaedff7c227d97212d70be79d728d49b843d75f1e553e1e67468d1e182"), looks := true }, kinds := [], alts := [], laidByText := true, laidKinds := [.data, .data, .data, .sentinel, .sentinel], laidTests := true, laidLooks := .later }
def JoinExactUptoCardSaid : Prop := Claim7.holds Tryz.pinned (.plain (OpenSpec.upto joinExactSpec)) joinExactUptoCard
end Rows
end Go.Proofs.YtedfonppffochaaGreatDoor
