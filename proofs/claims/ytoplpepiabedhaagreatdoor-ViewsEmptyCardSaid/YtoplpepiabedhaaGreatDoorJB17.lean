/-
  The call starts no goroutine: no function of the program does. (The kernel would want too much memory for the functions that the call can come to.)
-/
import Derived.Test.YtoplpepiabedhaaGreatDoorCards
import Derived.Test.YtoplpepiabedhaaGreatDoorTie
import Derived.ProofKit
import Derived.SevenTiedAt
namespace Go.Proofs.YtoplpepiabedhaaGreatDoor.viewsEmpty
theorem goes_none {P : Program} (h : (P.funcs.toList.any Func.goes) = false) (f : FuncId) : P.goes f = false := by
  have h1 : ∀ fn ∈ P.funcs.toList, Func.goes fn = false := fun fn hfn => by simpa using List.any_eq_false.1 h fn hfn
  have h2 : P.funcs.any Func.goes = false := by rw [← Array.any_toList]; exact h
  have h3 : ((P.closure f).any fun g => (P.funcs[g]?).any Func.goes) = false := by
    refine List.any_eq_false.2 fun g _ => ?_
    cases hg : P.funcs[g]? with
    | none => simp
    | some fn => simpa using h1 fn (Array.mem_toList_iff.2 (Array.mem_of_getElem? hg))
  unfold Program.goes
  rw [h2, h3]; simp
theorem goesBy_none {P : Program} (h : (P.funcs.toList.any Func.goes) = false) (c : OpenClaim) (hs : c.start = .entering) : c.goesBy P = false := by
  have h1 : P.goesFrom c.func = false := by
    unfold Program.goesFrom
    cases P.funcNamed c.func with
    | none => rfl
    | some f => exact goes_none h f
  unfold OpenClaim.goesBy Program.goesAt
  rw [h1, hs]; rfl
theorem goes_no : (Tryz.pinned.checked.prog.funcs.toList.any Func.goes) = false := by kernel_rfl
theorem goes : false = Rows.viewsEmptyRow.goesBy Tryz.pinned.checked.prog := (goesBy_none goes_no Rows.viewsEmptyRow rfl).symm
end Go.Proofs.YtoplpepiabedhaaGreatDoor.viewsEmpty
