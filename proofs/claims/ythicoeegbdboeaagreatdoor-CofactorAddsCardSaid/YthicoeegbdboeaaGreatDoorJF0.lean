/-
  CofactorAdds returns true for every input, and its argument reads afterwards as it read before. Conditions: the package variables of Go's library that the row lists are as the program's text lays them (the card ties them).
-/
import Derived.Test.YthicoeegbdboeaaGreatDoorJF18
import Derived.Test.YthicoeegbdboeaaGreatDoorJF19
namespace Go.Proofs.YthicoeegbdboeaaGreatDoor.cofactorAdds
open Go.ChangeShapes Go.WideShapes Go.ChangeAt Go.RowKit
open Go.ChangeMaps (open_string shut_string)
set_option linter.unusedVariables false
set_option maxHeartbeats 40000000 in
/-- THE STATEMENT -/
theorem proved:Rows.CofactorAddsCardSaid :=
  Claim7.holds_tied_plain_at .later [] [.data,.data,.data,.sentinel,.sentinel] true (true,"12cc9deced22f29de09ab57da9e133b853d6d043774f6244f9a120e8d83f6c37") true
    over (fun _ h=>by cases h) (by as_aux_lemma=>kernel_rfl) (fun _ h=>by cases h) cofactorAdds_row_tie rfl ⟨rfl,rfl⟩ (by as_aux_lemma=>kernel_rfl) rfl
    (fun f fn hf hfn=>by
      obtain rfl:f=3:=Option.some.inj ((show Tryz.prog.funcNamed "joinlearn/joinlearnlaw13.CofactorAdds"=some 3 by kernel_rfl).symm.trans hf) |>.symm
      obtain rfl:fn=Tryz.f3:=(Option.some.inj (Tryz.func3.symm.trans hfn)).symm
      exact ⟨by as_aux_lemma=>kernel_rfl,fun j t ht=>by
        rw[Tryz.params3]at ht
        have hm:t∈[22,5]:=by simpa using Array.mem_of_getElem? ht
        simp only[List.mem_cons,List.not_mem_nil,or_false]at hm
        rcases hm with rfl|rfl
        · exact(show Tryz.prog.wantsStandIn 22=false by kernel_rfl)
        · exact(show Tryz.prog.wantsStandIn 5=false by kernel_rfl)⟩)
    goes
#print axioms proved
end Go.Proofs.YthicoeegbdboeaaGreatDoor.cofactorAdds
