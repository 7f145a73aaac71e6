/- Lemmas. No condition. -/
import Derived.Test.YthicoeegbdboeaaGreatDoorCards
import Derived.Test.YthicoeegbdboeaaGreatDoorTie
import Derived.ProofKit
import Derived.SevenTiedAt
namespace Go.Proofs.YthicoeegbdboeaaGreatDoor.cofactorAdds
theorem goes_none {P:Program} (h:(P.funcs.toList.any Func.goes)=false) (f:FuncId):P.goes f=false:=by
  have j:∀ fn∈P.funcs.toList,Func.goes fn=false:=fun fn hfn=>by simpa using List.any_eq_false.1 h fn hfn
  have q:P.funcs.any Func.goes=false:=by rw [← Array.any_toList]; exact h
  have r:((P.closure f).any fun g=>(P.funcs[g]?).any Func.goes)=false:=by
    refine List.any_eq_false.2 fun g _=>?_
    cases hg:P.funcs[g]? with
    | none=>simp
    | some fn=>simpa using j fn (Array.mem_toList_iff.2 (Array.mem_of_getElem? hg))
  unfold Program.goes
  rw [q,r]; simp
theorem goesBy_none {P:Program} (h:(P.funcs.toList.any Func.goes)=false) (c:OpenClaim) (hs:c.start= .entering):c.goesBy P=false:=by
  have j:P.goesFrom c.func=false:=by
    unfold Program.goesFrom
    cases P.funcNamed c.func with
    | none=>rfl
    | some f=>exact goes_none h f
  unfold OpenClaim.goesBy Program.goesAt
  rw [j,hs]; rfl
theorem goes_no:(Tryz.pinned.checked.prog.funcs.toList.any Func.goes)=false:=by kernel_rfl
theorem goes:false=Rows.cofactorAddsRow.goesBy Tryz.pinned.checked.prog:=(goesBy_none goes_no Rows.cofactorAddsRow rfl).symm
end Go.Proofs.YthicoeegbdboeaaGreatDoor.cofactorAdds
