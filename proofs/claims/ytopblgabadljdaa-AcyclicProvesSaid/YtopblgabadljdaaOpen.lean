/-
  From the reading of an argument that is a slice of integers to a row of cells.
-/
import Derived.Test.YtopblgabadljdaaWords
namespace Go.Proofs.Ytopblgabadljdaa
open Go.RowKit

/-- A slice of integers as the reading of the arguments gives it. -/
theorem row_of_ints {w : World} {a : Option Addr} {len cap : Nat} {zs : List Int}
    (h : (a = none ∧ len = 0 ∧ cap = 0 ∧ zs = []) ∨ ∃ x, a = some x ∧ len ≤ cap ∧ cap ≤ maxLen ∧ zs.length = cap ∧ (∀ i, i < zs.length → w.cell? (x.add i) = some (.int .i64 (zs.getD i 0))) ∧ ∀ n ∈ zs, (Lit.int .i64 n).wf = true) :
    Row w Any a (ints (zs.take len)) ∧ (zs.take len).length = len ∧ len ≤ cap ∧ cap ≤ maxLen := by
  rcases h with ⟨rfl, rfl, rfl, rfl⟩ | ⟨x, rfl, hl, hm, hz, hc, _⟩
  · exact ⟨Row.nil, rfl, Nat.le_refl _, by simp [maxLen]⟩
  · refine ⟨?_, by simp; omega, hl, hm⟩
    intro hne
    have hpos : 0 < zs.length := by
      rcases Nat.eq_zero_or_pos zs.length with h0 | h0
      · exfalso; apply hne; rw [List.eq_nil_of_length_eq_zero h0]; simp
      · exact h0
    obtain ⟨b, off, sp⟩ := x
    have hsp : sp = none := by
      have h0 := hc 0 hpos
      cases sp with
      | none => rfl
      | some s =>
        exfalso
        have e : (⟨b, off, some s⟩ : Addr).add 0 = ⟨b, off, some s⟩ := rfl
        rw [e] at h0
        unfold World.cell? at h0
        split at h0
        · simp at h0
        · cases h0
    subst hsp
    have h0 := hc 0 hpos
    rw [Addr.add_lit] at h0
    refine ⟨b, off, rfl, trivial, World.block_lt_of_cell? w _ h0, fun j hj => ?_⟩
    have hj2 : j < len ∧ j < zs.length := by simp at hj; omega
    have hcj := hc j hj2.2
    rw [Addr.add_lit] at hcj
    rw [hcj, List.getElem?_map, List.getElem?_take, if_pos hj2.1, List.getElem?_eq_getElem hj2.2]
    simp [List.getD, hj2.2]

end Go.Proofs.Ytopblgabadljdaa
