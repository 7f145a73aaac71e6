/-
  ViewsEmpty returns true for every input, and its argument reads afterwards as it read before. Conditions: the package variables of Go's library that the row lists are as the program's text lays them (the card ties them).
  The frame around the walk follows the guide's shell of a proof; the opening of the arguments and the walk are ours.
-/
import Derived.Test.YtoplpepiabedhaaGreatDoorJB16
import Derived.Test.YtoplpepiabedhaaGreatDoorJB17
import Derived.Test.YtoplpepiabedhaaGreatDoorCards
import Derived.Test.YtoplpepiabedhaaGreatDoorTie
import Derived.WalkKit
import Derived.ProofKit
import Derived.OpenShut
import Derived.ShutString
import Derived.ChangeOld
import Derived.Below
import Derived.Carry
import Derived.LaidMore
import Derived.Handed
import Derived.SevenTiedAt
namespace Go.Proofs.YtoplpepiabedhaaGreatDoor.viewsEmpty
open Go.ChangeShapes Go.WideShapes Go.ChangeAt Go.RowKit
open Go.ChangeMaps (open_string shut_string)
set_option linter.unusedVariables false

set_option maxHeartbeats 40000000 in
/-- THE STATEMENT -/
theorem proved : Rows.ViewsEmptyCardSaid :=
  Claim7.holds_tied_plain_at .later [] [.data, .data, .data, .sentinel, .sentinel] true (true, "0269271fd14138e665aeb2b0ee6f55d7332fd69919cc263d983c780920ab6749") true
    over (fun _ h => by cases h) (by as_aux_lemma => kernel_rfl) (fun _ h => by cases h) viewsEmpty_row_tie rfl ⟨rfl, rfl⟩ (by as_aux_lemma => kernel_rfl) rfl
    (fun f fn hf hfn => by
      obtain rfl : f = 4 := Option.some.inj ((show Tryz.prog.funcNamed "joinlearn/joinlearnlaw14.ViewsEmpty" = some 4 by kernel_rfl).symm.trans hf) |>.symm
      obtain rfl : fn = Tryz.f4 := (Option.some.inj (Tryz.func4.symm.trans hfn)).symm
      exact ⟨by as_aux_lemma => kernel_rfl, fun j t ht => by
        rw[Tryz.params4]at ht
        have hm : t ∈ [22] := by simpa using Array.mem_of_getElem? ht
        obtain rfl := List.mem_singleton.1 hm
        exact(show Tryz.prog.wantsStandIn 22 = false by kernel_rfl)⟩)
    goes
#print axioms proved
end Go.Proofs.YtoplpepiabedhaaGreatDoor.viewsEmpty
