/-
  ViewsBounds returns true for every input, and its argument reads afterwards as it read before. Conditions: the package variables of Go's library that the row lists are as the program's text lays them (the card ties them).
-/
import Derived.Test.YtoplpepiabedhaaGreatDoorJC16
import Derived.Test.YtoplpepiabedhaaGreatDoorJC17
namespace Go.Proofs.YtoplpepiabedhaaGreatDoor.viewsBounds
open Go.ChangeShapes Go.WideShapes Go.ChangeAt Go.RowKit
open Go.ChangeMaps (open_string shut_string)
set_option linter.unusedVariables false
set_option maxHeartbeats 40000000 in
/-- THE STATEMENT -/
theorem proved:Rows.ViewsBoundsCardSaid :=
  Claim7.holds_tied_plain_at .later [] [.data,.data,.data,.sentinel,.sentinel] true (true,"0269271fd14138e665aeb2b0ee6f55d7332fd69919cc263d983c780920ab6749") true
    over (fun _ h=>by cases h) (by as_aux_lemma=>kernel_rfl) (fun _ h=>by cases h) viewsBounds_row_tie rfl ⟨rfl,rfl⟩ (by as_aux_lemma=>kernel_rfl) rfl
    (fun f fn hf hfn=>by
      obtain rfl:f=8:=Option.some.inj ((show Tryz.prog.funcNamed "joinlearn/joinlearnlaw14.ViewsBounds"=some 8 by kernel_rfl).symm.trans hf) |>.symm
      obtain rfl:fn=Tryz.f8:=(Option.some.inj (Tryz.func8.symm.trans hfn)).symm
      exact ⟨by as_aux_lemma=>kernel_rfl,fun j t ht=>by
        rw[Tryz.params8]at ht
        have hm:t∈[22]:=by simpa using Array.mem_of_getElem? ht
        obtain rfl:=List.mem_singleton.1 hm
        exact(show Tryz.prog.wantsStandIn 22=false by kernel_rfl)⟩)
    goes
#print axioms proved
end Go.Proofs.YtoplpepiabedhaaGreatDoor.viewsBounds
