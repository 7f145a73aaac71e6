/-
  Plain functions: what the functions of the package order compute. No program in sight.
-/
import Derived.Test.YtkalgjnhaicabaaSpec
namespace Go.Proofs.Ytkalgjnhaicabaa

/-- The way upward from x: at most k steps. -/
def upF (P : List Int) : Nat → Int → Option (List Int)
  | 0, x => if x < 0 then some [] else none
  | k + 1, x => if x < 0 then some [] else (upF P k (P.getD x.toNat 0)).map (x :: ·)
/-- The ancestors of a variable, the next one first; none if they do not lead to a root. -/
def abv (P : List Int) (v : Int) : Option (List Int) := upF P P.length (P.getD v.toNat 0)
def abvL (P : List Int) (v : Int) : List Int := (abv P v).getD []
/-- Is a an ancestor of b? -/
def hiB (P : List Int) (a b : Int) : Bool := decide (a ∈ abvL P b)
def rightB (P : List Int) (l : List Int) : Bool := l.all fun a => l.all fun b => a == b || hiB P a b || hiB P b a
/-- What order.Check answers. -/
def ordE (S : Sch) (P : List Int) : Int :=
  if checkE S ≠ 0 then checkE S
  else if P.length ≠ S.attrs.length then 5
  else if (P.any fun p => decide (p < -1) || decide ((P.length : Int) ≤ p)) = true then 2
  else if ((List.range P.length).all fun v => (abv P v).isSome) = false then 13
  else if (S.rels.all fun r => rightB P r.2) = false then 13 else 0
def belowL (P : List Int) (v : Int) : List Int := ((List.range P.length).map Int.ofNat).filter fun a => a == v || hiB P v a
def linkB (S : Sch) (a b : Int) : Bool := S.rels.any fun r => decide (a ∈ r.2) && decide (b ∈ r.2)
/-- The key before it is sorted. -/
def keyU (S : Sch) (P : List Int) (v : Int) : List Int := (abvL P v).filter fun a => (belowL P v).any fun b => linkB S a b

theorem upF_neg {P : List Int} {k : Nat} {x : Int} (h : x < 0) : upF P k x = some [] := by
  cases k <;> simp [upF, h]
theorem upF_nat {P : List Int} {k a : Nat} (ha : a < P.length) : upF P (k + 1) (a : Int) = (upF P k P[a]).map ((a : Int) :: ·) := by
  have h : ¬ ((a : Int) < 0) := by omega
  simp [upF, List.getD, ha, h]
theorem upF_zero {P : List Int} {x : Int} (h : 0 ≤ x) : upF P 0 x = none := by
  simp [upF]; omega
theorem upF_len {P : List Int} : ∀ {k : Nat} {x : Int} {l : List Int}, upF P k x = some l → l.length ≤ k
  | 0, x, l, h => by
    simp only [upF] at h
    split at h
    · cases h; simp
    · cases h
  | k + 1, x, l, h => by
    simp only [upF] at h
    split at h
    · cases h; simp
    · cases e : upF P k (P.getD x.toNat 0) with
      | none => rw [e] at h; cases h
      | some l' => rw [e] at h; cases h; simp; exact upF_len e
theorem abvL_len (P : List Int) (v : Int) : (abvL P v).length ≤ P.length := by
  unfold abvL
  cases h : abv P v with
  | none => simp
  | some l => exact upF_len h

end Go.Proofs.Ytkalgjnhaicabaa
