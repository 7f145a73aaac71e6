/-
  Plain functions: what the functions of the packages schema and acyclic compute. No program in sight.
-/
import Init
namespace Go.Proofs.Ytkalgjnhaicabaa

def inB (l : List Int) (x : Int) : Bool := l.contains x
def eqB (a b : List Int) : Bool := decide (a = b)
/-- The first index of a number, -1 if there is none. -/
def idxI {α : Type} [DecidableEq α] (l : List α) (x : α) : Int := match l.findIdx? (fun y => decide (y = x)) with | some k => (k : Int) | none => -1
def hasB {α : Type} [DecidableEq α] (l : List α) (x : α) : Bool := decide (x ∈ l)

/-- The first of n codes that is not 0. -/
def scanE (f : Nat → Int) : Nat → Int
  | 0 => 0
  | n + 1 => if scanE f n = 0 then f n else scanE f n

theorem scanE_succ {f : Nat → Int} {n : Nat} (h : scanE f n = 0) : scanE f (n + 1) = f n := by simp [scanE, h]
theorem scanE_stop {f : Nat → Int} {k : Nat} (h : scanE f k ≠ 0) (n : Nat) (hn : k ≤ n) : scanE f n = scanE f k := by
  induction n with
  | zero => have : k = 0 := by omega
            subst this; rfl
  | succ n ih =>
    by_cases hk : k = n + 1
    · rw [hk]
    · have e := ih (by omega)
      simp only [scanE]
      rw [if_neg (by rw [e]; exact h), e]
theorem scanE_at {f : Nat → Int} {k n : Nat} (h : scanE f k = 0) (hf : f k ≠ 0) (hn : k < n) : scanE f n = f k := by
  have e := scanE_succ h
  rw [scanE_stop (k := k + 1) (by rw [e]; exact hf) n hn, e]
theorem scanE_zero {f : Nat → Int} {n : Nat} : scanE f n = 0 ↔ ∀ k, k < n → f k = 0 := by
  induction n with
  | zero => simp [scanE]
  | succ n ih =>
    constructor
    · intro h k hk
      simp only [scanE] at h
      by_cases h0 : scanE f n = 0
      · rw [if_pos h0] at h
        by_cases hkn : k = n
        · rw [hkn]; exact h
        · exact ih.1 h0 k (by omega)
      · rw [if_neg h0] at h; exact absurd h h0
    · intro h
      rw [scanE_succ (ih.2 fun k hk => h k (by omega))]
      exact h n (by omega)

/-- A name: 1 to 12 bytes, a letter first, then letters, digits and -. -/
def letterB (c : UInt8) : Bool := 97 ≤ c && c ≤ 122
def tailB (c : UInt8) : Bool := letterB c || (48 ≤ c && c ≤ 57) || c == 45
def wordL (s : List UInt8) : Bool := match s with | [] => false | c :: r => letterB c && r.all tailB && decide (r.length ≤ 11)
def wordB (s : ByteArray) : Bool := wordL s.data.toList

/-- The data of a schema. -/
structure Sch where
  attrs : List (ByteArray × Int)
  rels : List (ByteArray × List Int)
  feats : List (Int × Int × Int)
  label : Int

def namedE (names : List ByteArray) (i : Nat) : Int :=
  if wordB (names.getD i default) = false then 14 else if hasB (names.take i) (names.getD i default) = true then 9 else 0
def attrE (S : Sch) (i : Nat) : Int :=
  if namedE (S.attrs.map (·.1)) i ≠ 0 then namedE (S.attrs.map (·.1)) i
  else if (S.attrs.getD i default).2 < 1 ∨ 3 < (S.attrs.getD i default).2 then 7 else 0
def ascB (l : List Int) : Bool := (List.range (l.length - 1)).all fun k => decide (l.getD k 0 < l.getD (k + 1) 0)
def relE (S : Sch) (i : Nat) : Int :=
  if namedE (S.rels.map (·.1)) i ≠ 0 then namedE (S.rels.map (·.1)) i
  else if (S.rels.getD i default).2 = [] then 7
  else if ((S.rels.getD i default).2.all fun a => decide (0 ≤ a) && decide (a < S.attrs.length)) = false then 2
  else if ascB (S.rels.getD i default).2 = false then 10 else 0
def usedB (S : Sch) (a : Nat) : Bool := S.rels.any fun r => inB r.2 a
def relsE (S : Sch) : Int :=
  if scanE (relE S) S.rels.length ≠ 0 then scanE (relE S) S.rels.length
  else if ((List.range S.attrs.length).all fun a => usedB S a) = false then 7 else 0
def featE (S : Sch) (i : Nat) : Int :=
  let f := S.feats.getD i default
  let kind := (S.attrs.getD f.1.toNat default).2
  if f.1 < 0 ∨ (S.attrs.length : Int) ≤ f.1 then 2
  else if ((f.2.1 == 1 && kind == 2 && (f.2.2 == 0 || f.2.2 == 1)) || (f.2.1 == 2 && kind == 3 && f.2.2 == 0)) = false then 7
  else if (f.1 == S.label || (S.feats.take i).any fun g => g.1 == f.1) = true then 9 else 0
/-- What schema.Check answers. -/
def checkE (S : Sch) : Int :=
  if S.attrs.length = 0 ∨ 12 < S.attrs.length ∨ S.rels.length = 0 ∨ 6 < S.rels.length ∨ 8 < S.feats.length then 3
  else if scanE (attrE S) S.attrs.length ≠ 0 then scanE (attrE S) S.attrs.length
  else if relsE S ≠ 0 then relsE S
  else if scanE (featE S) S.feats.length ≠ 0 then scanE (featE S) S.feats.length
  else if S.label < -1 ∨ (S.attrs.length : Int) ≤ S.label then 2
  else if 0 ≤ S.label ∧ (S.attrs.getD S.label.toNat default).2 ≠ 2 then 7 else 0

/-- A set of attributes as bits. -/
def maskN (l : List Int) : Nat := l.foldl (fun m a => m ||| 2 ^ a.toNat) 0

end Go.Proofs.Ytkalgjnhaicabaa
