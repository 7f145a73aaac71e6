/-
  Our step logic: results of which is not told whether they are nil. No statement of the program is proved here.
-/
import Derived.Test.YtkalgjnhaicabaaE17
namespace Go.Proofs.Ytkalgjnhaicabaa
open Go.RowKit

/-- A value, or several, of which is not told whether they are nil. -/
def PV.fg2 : PV → PV
  | .tup cs => .tup (PV.fgA cs)
  | p => p.fg
theorem RelP.fg2 {w : World} {R : Nat → Prop} {p : PV} {u : Value} (h : RelP w R p u) : RelP w R p.fg2 u := by
  cases p with
  | tup cs =>
    simp only [RelP, PV.fg2] at h ⊢
    obtain ⟨us, e, h⟩ := h
    exact ⟨us, e, h.fgA⟩
  | _ => exact h.fg
theorem FnP.fg2 {P : Program} {f : FuncId} {args : List PV} {Q : PV → Prop} (h : FnP P f args (fun v => Q v.fg2)) : FnP P f args Q :=
  fun w R us h1 h2 => (h w R us h1 h2).mono fun _ _ ⟨u, v, e, q, b, r⟩ => ⟨u, v.fg2, e, q, b, r.fg2⟩

end Go.Proofs.Ytkalgjnhaicabaa
