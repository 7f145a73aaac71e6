/-
  No cell of these rows narrows 'for every input' (looked for: loops, veiled, ifaces, maps, wideKeys, modest, calm, conditions, laid).
  DERIVED. THE GIVEN ROWS OF THIS SEAT. 3 by the template 'for every input the law returns true; each argument reads behind the call as it read before'; 0 by the template 'total and deterministic' (their statements: YtkalgjnhaicabaaTotals.lean).
  GIVEN WITH THE SEED: the statements are not yours to turn. If you find one false, say at which input.
  Laid BY PROGRAM, IN A SANDBOX (cutbox-rows.mjs): the forced cells as the released guide's own fill.sh prints them over the translation 0fb1b68d99bc6d7d… (all of the seat's roots in one cut). By AI agents, Wed Nov 11 2026. No macro, syntax, notation, axiom, sorry.
-/
import Derived.Test.YtkalgjnhaicabaaChecked
import GoSem.Claim
import GoSem.ClaimJoined
import GoSem.ClaimMapViews
import Derived.JoinedTies
import Derived.KernelRfl
namespace Go.Proofs.Ytkalgjnhaicabaa
/- THE CELL 'sum', in the pinned program and in every row, IS THE sha256 OF THE DUMP (.gsa) THAT YtkalgjnhaicabaaProg.lean LOADS. Nothing in Lean hashes anything: it is a label: what it is worth is what the hold of that sum in a sandbox is worth. -/
noncomputable def Try.pinned : Pinned := { name := "ytkalgjnhaicabaa", sum := "0fb1b68d99bc6d7d949934a50bdeb6e56af4511a08d65ef0604f3d85b57ea923", checked := Try.checked }
namespace Rows
def none {H : Type} : Left H := { results := [], args := [] }

/-- 'joinlearnlaw08.OrderRight': WHATEVER THE INPUT: true; the input reads as it did. -/
def orderRightSpec : ChangeSpec := { name := "orderRight", fn := fun _ => fun
  | [d] => { results := [.lit (.bool true)], args := [d] }
  | _ => none }
def orderRightRow : OpenClaim := { program := "ytkalgjnhaicabaa", sum := "0fb1b68d99bc6d7d949934a50bdeb6e56af4511a08d65ef0604f3d85b57ea923", func := "joinlearn/joinlearnlaw08.OrderRight", spec := "orderRight", unfollowed := true, recurses := true, apart := false }
def OrderRightSaid : Prop := orderRightRow.holds Try.pinned (OpenSpec.ofChange orderRightSpec)

/-- ITS FALSE NEIGHBOUR: 'it returns false'. Refute it at one input. -/
def orderRightWrong : ChangeSpec := { name := "orderRight", fn := fun _ => fun
  | [d] => { results := [.lit (.bool false)], args := [d] }
  | _ => none }
def OrderRightWrongFalsely : Prop := orderRightRow.holds Try.pinned (OpenSpec.ofChange orderRightWrong)

/-- 'joinlearnlaw08.OrderKeys': WHATEVER THE INPUT: true; the input reads as it did. -/
def orderKeysSpec : ChangeSpec := { name := "orderKeys", fn := fun _ => fun
  | [d] => { results := [.lit (.bool true)], args := [d] }
  | _ => none }
def orderKeysRow : OpenClaim := { program := "ytkalgjnhaicabaa", sum := "0fb1b68d99bc6d7d949934a50bdeb6e56af4511a08d65ef0604f3d85b57ea923", func := "joinlearn/joinlearnlaw08.OrderKeys", spec := "orderKeys", unfollowed := true, recurses := true, apart := false }
def OrderKeysSaid : Prop := orderKeysRow.holds Try.pinned (OpenSpec.ofChange orderKeysSpec)

/-- ITS FALSE NEIGHBOUR: 'it returns false'. Refute it at one input. -/
def orderKeysWrong : ChangeSpec := { name := "orderKeys", fn := fun _ => fun
  | [d] => { results := [.lit (.bool false)], args := [d] }
  | _ => none }
def OrderKeysWrongFalsely : Prop := orderKeysRow.holds Try.pinned (OpenSpec.ofChange orderKeysWrong)

/-- 'joinlearnlaw08.OrderOne': WHATEVER THE INPUT: true; the input reads as it did. -/
def orderOneSpec : ChangeSpec := { name := "orderOne", fn := fun _ => fun
  | [d] => { results := [.lit (.bool true)], args := [d] }
  | _ => none }
def orderOneRow : OpenClaim := { program := "ytkalgjnhaicabaa", sum := "0fb1b68d99bc6d7d949934a50bdeb6e56af4511a08d65ef0604f3d85b57ea923", func := "joinlearn/joinlearnlaw08.OrderOne", spec := "orderOne", unfollowed := true, recurses := true, apart := false }
def OrderOneSaid : Prop := orderOneRow.holds Try.pinned (OpenSpec.ofChange orderOneSpec)

/-- ITS FALSE NEIGHBOUR: 'it returns false'. Refute it at one input. -/
def orderOneWrong : ChangeSpec := { name := "orderOne", fn := fun _ => fun
  | [d] => { results := [.lit (.bool false)], args := [d] }
  | _ => none }
def OrderOneWrongFalsely : Prop := orderOneRow.holds Try.pinned (OpenSpec.ofChange orderOneWrong)

/- THE SECOND FORM. 'bulk': how many values and letters a reading holds, each counted each time it is reached (what is shared counts as often as it is met; a slice's spare places count too). A statement '..UptoSaid' is the law's where the arguments, and the package variables that the reading takes, are together of bulk at most 1048576: NARROWER than '..Said'. Prove '..Said' where nothing that the law and all that it calls make is longer than what came in: it says more and counts as full. Else prove '..UptoSaid'. A law counts once. -/
mutual
def uptoBulk {H : Type} : DataW H → Nat
  | .lit (.string bytes) => bytes.length + 1
  | .lit _ => 1
  | .nil => 1
  | .ptr d => uptoBulk d + 1
  | .slice elems spare => uptoBulkAll elems + uptoBulkAll spare + 1
  | .agg parts => uptoBulkAll parts + 1
  | .iface _ d => uptoBulk d + 1
  | .map entries => uptoBulkEntries entries + 1
  | .held _ => 1
def uptoBulkAll {H : Type} : List (DataW H) → Nat
  | [] => 0
  | d :: r => uptoBulk d + uptoBulkAll r
def uptoBulkEntries {H : Type} : List (Lit × DataW H) → Nat
  | [] => 0
  | x :: r => uptoBulkEntry x + uptoBulkEntries r
def uptoBulkEntry {H : Type} : Lit × DataW H → Nat
  | (.string bytes, d) => bytes.length + uptoBulk d + 1
  | (_, d) => uptoBulk d + 1
 end
def uptoSmall : (H : Type) → List (DataW H) → Bool := fun _ ds => decide (uptoBulkAll ds ≤ 1048576)
def OpenSpec.upto (s : _root_.Go.ChangeSpec) : _root_.Go.OpenSpec := { _root_.Go.OpenSpec.ofChange s with cond := some uptoSmall }

/-- 'joinlearnlaw08.OrderRight', WHERE WHAT IT READS IS OF BULK AT MOST 1048576: true; the input reads as it did. -/
def orderRightUptoRow : OpenClaim := { program := "ytkalgjnhaicabaa", sum := "0fb1b68d99bc6d7d949934a50bdeb6e56af4511a08d65ef0604f3d85b57ea923", func := "joinlearn/joinlearnlaw08.OrderRight", spec := "orderRight", unfollowed := true, recurses := true, apart := false, narrowed := true }
def OrderRightUptoSaid : Prop := orderRightUptoRow.holds Try.pinned (OpenSpec.upto orderRightSpec)

/-- 'joinlearnlaw08.OrderKeys', WHERE WHAT IT READS IS OF BULK AT MOST 1048576: true; the input reads as it did. -/
def orderKeysUptoRow : OpenClaim := { program := "ytkalgjnhaicabaa", sum := "0fb1b68d99bc6d7d949934a50bdeb6e56af4511a08d65ef0604f3d85b57ea923", func := "joinlearn/joinlearnlaw08.OrderKeys", spec := "orderKeys", unfollowed := true, recurses := true, apart := false, narrowed := true }
def OrderKeysUptoSaid : Prop := orderKeysUptoRow.holds Try.pinned (OpenSpec.upto orderKeysSpec)

/-- 'joinlearnlaw08.OrderOne', WHERE WHAT IT READS IS OF BULK AT MOST 1048576: true; the input reads as it did. -/
def orderOneUptoRow : OpenClaim := { program := "ytkalgjnhaicabaa", sum := "0fb1b68d99bc6d7d949934a50bdeb6e56af4511a08d65ef0604f3d85b57ea923", func := "joinlearn/joinlearnlaw08.OrderOne", spec := "orderOne", unfollowed := true, recurses := true, apart := false, narrowed := true }
def OrderOneUptoSaid : Prop := orderOneUptoRow.holds Try.pinned (OpenSpec.upto orderOneSpec)

end Rows
end Go.Proofs.Ytkalgjnhaicabaa
