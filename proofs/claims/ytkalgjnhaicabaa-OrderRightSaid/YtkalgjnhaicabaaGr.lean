/-
  Graphs of attributes as lists of sets, components. Plain; no program in sight.
-/
import Derived.Test.YtkalgjnhaicabaaOSp
namespace Go.Proofs.Ytkalgjnhaicabaa

theorem bits_ex (f : Nat → Bool) : ∀ w : Nat, ∃ x : BitVec w, ∀ i, i < w → x.getLsbD i = f i
  | 0 => ⟨0#0, fun i h => absurd h (Nat.not_lt_zero _)⟩
  | w + 1 => by
    obtain ⟨x, hx⟩ := bits_ex f w
    refine ⟨BitVec.cons (f w) x, fun i hi => ?_⟩
    rw [BitVec.getLsbD_cons]
    by_cases e : i = w
    · rw [if_pos e, e]
    · rw [if_neg e, hx i (by omega)]
/-- The set of the numbers below 64 that f has. -/
noncomputable def bitsOf (f : Nat → Bool) : BitVec 64 := Classical.choose (bits_ex f 64)
theorem bitsOf_bit (f : Nat → Bool) {i : Nat} (h : i < 64) : (bitsOf f).getLsbD i = f i := Classical.choose_spec (bits_ex f 64) i h
theorem bits_lt {x : BitVec 64} {i : Nat} (h : x.getLsbD i = true) : i < 64 := Classical.byContradiction fun e => by
  rw [BitVec.getLsbD_of_ge _ _ (by omega)] at h; cases h

/-- What is reached from a, where all that is entered lies in rest. -/
inductive Reach (G : List (BitVec 64)) (rest : BitVec 64) (a : Nat) : Nat → Prop
  | refl : Reach G rest a a
  | step {b c : Nat} : Reach G rest a b → (G.getD b 0#64).getLsbD c = true → rest.getLsbD c = true → Reach G rest a c
noncomputable def compB (G : List (BitVec 64)) (rest : BitVec 64) (a : Nat) : BitVec 64 := bitsOf fun b => @decide (Reach G rest a b) (Classical.propDecidable _)
theorem compB_bit {G : List (BitVec 64)} {rest : BitVec 64} {a b : Nat} (hb : b < 64) : (compB G rest a).getLsbD b = true ↔ Reach G rest a b := by
  unfold compB
  rw [bitsOf_bit _ hb]
  exact @decide_eq_true_iff _ (Classical.propDecidable _)
theorem compB_reach {G : List (BitVec 64)} {rest : BitVec 64} {a b : Nat} (h : (compB G rest a).getLsbD b = true) : Reach G rest a b := (compB_bit (bits_lt h)).1 h
theorem Reach.lt {G : List (BitVec 64)} {rest : BitVec 64} {a b : Nat} (h : Reach G rest a b) (ha : a < 64) : b < 64 := by
  cases h with
  | refl => exact ha
  | step _ _ h => exact bits_lt h

structure CInv (G : List (BitVec 64)) (rest : BitVec 64) (a : Nat) (out next : BitVec 64) : Prop where
  h1 : out.getLsbD a = true
  h2 : ∀ b, out.getLsbD b = true → Reach G rest a b
  h3 : ∀ b, next.getLsbD b = true → out.getLsbD b = true
  h4 : ∀ b c, out.getLsbD b = true → next.getLsbD b = false → (G.getD b 0#64).getLsbD c = true → rest.getLsbD c = true → out.getLsbD c = true
theorem CInv.first {G : List (BitVec 64)} {rest : BitVec 64} {a : Nat} (ha : a < 64) : CInv G rest a (BitVec.twoPow 64 a) (BitVec.twoPow 64 a) := by
  refine ⟨by rw [BitVec.getLsbD_twoPow]; simp [ha], fun b hb => ?_, fun _ h => h, fun b c h1 h2 => by rw [h1] at h2; cases h2⟩
  rw [BitVec.getLsbD_twoPow] at hb
  have : a = b := by simpa [ha] using hb
  subst this
  exact .refl
theorem CInv.last {G : List (BitVec 64)} {rest : BitVec 64} {a : Nat} {out : BitVec 64} (h : CInv G rest a out 0#64) : out = compB G rest a := by
  apply BitVec.eq_of_getLsbD_eq
  intro i hi
  rw [Bool.eq_iff_iff, compB_bit hi]
  refine ⟨h.h2 i, fun hr => ?_⟩
  clear hi
  induction hr with
  | refl => exact h.h1
  | step _ h1 h2 ih => exact h.h4 _ _ ih (by simp) h1 h2
theorem CInv.next {G : List (BitVec 64)} {rest : BitVec 64} {a : Nat} {out next near : BitVec 64} (h : CInv G rest a out next)
    (hn : ∀ c, near.getLsbD c = (List.range G.length).any fun b => next.getLsbD b && (G.getD b 0#64).getLsbD c) :
    CInv G rest a (out ||| (near &&& rest &&& ~~~out)) (near &&& rest &&& ~~~out) := by
  have hnear : ∀ c, near.getLsbD c = true ↔ ∃ b, next.getLsbD b = true ∧ (G.getD b 0#64).getLsbD c = true := by
    intro c
    rw [hn, List.any_eq_true]
    constructor
    · rintro ⟨b, _, h⟩
      rw [Bool.and_eq_true] at h
      exact ⟨b, h⟩
    · rintro ⟨b, h1, h2⟩
      refine ⟨b, ?_, by rw [h1, h2]; rfl⟩
      rw [List.mem_range]
      apply Classical.byContradiction
      intro e
      rw [List.getD, List.getElem?_eq_none (by omega)] at h2
      simp at h2
  have hbit : ∀ c, (near &&& rest &&& ~~~out).getLsbD c = true ↔ near.getLsbD c = true ∧ rest.getLsbD c = true ∧ out.getLsbD c = false := by
    intro c
    rw [BitVec.getLsbD_and, BitVec.getLsbD_and, BitVec.getLsbD_not]
    constructor
    · intro h; simp at h; exact ⟨h.1.1, h.1.2, h.2.2⟩
    · rintro ⟨h1, h2, h3⟩; have := bits_lt h1; rw [h1, h2, h3, decide_eq_true this]; rfl
  have hor : ∀ c, (out ||| (near &&& rest &&& ~~~out)).getLsbD c = true ↔ out.getLsbD c = true ∨ (near &&& rest &&& ~~~out).getLsbD c = true := by
    intro c; rw [BitVec.getLsbD_or, Bool.or_eq_true]
  refine ⟨(hor _).2 (.inl h.h1), fun b hb => ?_, fun b hb => (hor b).2 (.inr hb), fun b c h1 h2 h3 h4 => ?_⟩
  · rcases (hor b).1 hb with h1 | h1
    · exact h.h2 b h1
    · obtain ⟨g1, g2, _⟩ := (hbit b).1 h1
      obtain ⟨d, g3, g4⟩ := (hnear b).1 g1
      exact .step (h.h2 d (h.h3 d g3)) g4 g2
  · rw [hor]
    by_cases hc : out.getLsbD c = true
    · exact .inl hc
    · right
      have hb : out.getLsbD b = true := by
        rcases (hor b).1 h1 with h5 | h5
        · exact h5
        · rw [h5] at h2; cases h2
      rw [hbit]
      refine ⟨?_, h4, by simpa using hc⟩
      rw [hnear]
      by_cases hnb : next.getLsbD b = true
      · exact ⟨b, hnb, h3⟩
      · exact absurd (h.h4 b c hb (by simpa using hnb) h3 h4) hc
/-- How many of the 64 are not in a set. -/
def zerosB (x : BitVec 64) : Nat := (List.range 64).countP fun i => !x.getLsbD i
theorem countP_lt {α : Type} {p q : α → Bool} : ∀ {l : List α}, (∀ a ∈ l, p a = true → q a = true) → (∃ a ∈ l, p a = false ∧ q a = true) → l.countP p < l.countP q
  | [], _, ⟨a, h, _⟩ => by cases h
  | x :: l, h, ⟨a, ha, h1, h2⟩ => by
    have hm : l.countP p ≤ l.countP q := List.countP_mono_left fun y hy => h y (List.mem_cons_of_mem _ hy)
    rw [List.countP_cons, List.countP_cons]
    by_cases e : a = x
    · subst e
      rw [h1, h2]
      simp; omega
    · have hr := countP_lt (l := l) (fun y hy => h y (List.mem_cons_of_mem _ hy)) ⟨a, (List.mem_cons.1 ha).resolve_left e, h1, h2⟩
      have := h x (List.mem_cons_self ..)
      by_cases ep : p x = true
      · rw [ep, this ep]; simp; omega
      · by_cases eq : q x = true <;> simp [ep, eq] <;> omega
theorem zeros_lt {x y : BitVec 64} (h : ∀ i, x.getLsbD i = true → y.getLsbD i = true) {j : Nat} (h1 : x.getLsbD j = false) (h2 : y.getLsbD j = true) : zerosB y < zerosB x := by
  refine countP_lt (fun a _ ha => ?_) ⟨j, List.mem_range.2 (bits_lt h2), by rw [h2]; rfl, by rw [h1]; rfl⟩
  cases hx : x.getLsbD a with
  | false => rfl
  | true => rw [h a hx] at ha; cases ha
theorem ne_bit {x : BitVec 64} (h : x ≠ 0#64) : ∃ i, x.getLsbD i = true := by
  apply Classical.byContradiction
  intro hn
  apply h
  apply BitVec.eq_of_getLsbD_eq
  intro i _
  rw [BitVec.getLsbD_zero]
  cases e : x.getLsbD i with
  | false => rfl
  | true => exact absurd ⟨i, e⟩ hn
def measB (out next : BitVec 64) : Nat := 2 * zerosB out + (if next = 0#64 then 0 else 1)
theorem meas_lt {out next x rest : BitVec 64} (hn : next ≠ 0#64) : measB (out ||| (x &&& rest &&& ~~~out)) (x &&& rest &&& ~~~out) < measB out next := by
  unfold measB
  rw [if_neg hn]
  by_cases e : (x &&& rest &&& ~~~out) = 0#64
  · rw [if_pos e, e]
    have : out ||| 0#64 = out := by simp
    rw [this]; omega
  · rw [if_neg e]
    obtain ⟨i, hi⟩ := ne_bit e
    have h1 : out.getLsbD i = false := by
      rw [BitVec.getLsbD_and, BitVec.getLsbD_not] at hi
      simp at hi; exact hi.2.2
    have := zeros_lt (x := out) (y := out ||| (x &&& rest &&& ~~~out)) (fun j hj => by rw [BitVec.getLsbD_or, hj]; rfl) h1 (by rw [BitVec.getLsbD_or, hi, Bool.or_true])
    omega

/-- The components of a set, and what is left of it, when the first k numbers are done. -/
noncomputable def compsN (G : List (BitVec 64)) (rest : BitVec 64) : Nat → List (BitVec 64) × BitVec 64
  | 0 => ([], rest)
  | k + 1 => if (compsN G rest k).2.getLsbD k = true then ((compsN G rest k).1 ++ [compB G (compsN G rest k).2 k], (compsN G rest k).2 &&& ~~~compB G (compsN G rest k).2 k) else compsN G rest k
/-- The graph of a schema. -/
structure IsG (S : Sch) (G : List (BitVec 64)) : Prop where
  len : G.length = S.attrs.length
  bit : ∀ a, a < G.length → ∀ b : Nat, (G.getD a 0#64).getLsbD b = (decide (a ≠ b) && linkB S a b)

end Go.Proofs.Ytkalgjnhaicabaa
