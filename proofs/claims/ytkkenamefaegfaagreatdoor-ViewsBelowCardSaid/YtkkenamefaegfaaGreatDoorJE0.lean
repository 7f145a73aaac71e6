/-
  ViewsBelow returns true for every input, and its argument reads afterwards as it read before. Conditions: the package variables of Go's library that the row lists are as the program's text lays them (the card ties them).
-/
import Derived.Test.YtkkenamefaegfaaGreatDoorJE18
import Derived.Test.YtkkenamefaegfaaGreatDoorJE19
namespace Go.Proofs.YtkkenamefaegfaaGreatDoor.viewsBelow
open Go.ChangeShapes Go.WideShapes Go.ChangeAt Go.RowKit
open Go.ChangeMaps (open_string shut_string)
set_option linter.unusedVariables false
set_option maxHeartbeats 40000000 in
/-- THE STATEMENT -/
theorem proved:Rows.ViewsBelowCardSaid :=
  Claim7.holds_tied_plain_at .later [] [.data,.data,.data,.sentinel,.sentinel] true (true,"5edaa4215bb1ac14d97cc40b4242cf7ba26f69152103bf437abc97a68b002fcd") true
    over (fun _ h=>by cases h) (by as_aux_lemma=>kernel_rfl) (fun _ h=>by cases h) viewsBelow_row_tie rfl ⟨rfl,rfl⟩ (by as_aux_lemma=>kernel_rfl) rfl
    (fun f fn hf hfn=>by
      obtain rfl:f=3:=Option.some.inj ((show Tryz.prog.funcNamed "joinlearn/joinlearnlaw14.ViewsBelow"=some 3 by kernel_rfl).symm.trans hf) |>.symm
      obtain rfl:fn=Tryz.f3:=(Option.some.inj (Tryz.func3.symm.trans hfn)).symm
      exact ⟨by as_aux_lemma=>kernel_rfl,fun j t ht=>by
        rw[Tryz.params3]at ht
        have hm:t∈[22]:=by simpa using Array.mem_of_getElem? ht
        obtain rfl:=List.mem_singleton.1 hm
        exact(show Tryz.prog.wantsStandIn 22=false by kernel_rfl)⟩)
    goes
#print axioms proved
end Go.Proofs.YtkkenamefaegfaaGreatDoor.viewsBelow
