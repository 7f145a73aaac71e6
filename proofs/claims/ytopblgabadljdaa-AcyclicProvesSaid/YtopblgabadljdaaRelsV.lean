/-
  Schemas whose relations are a row of their own: what the cells show, and what a new row of relations makes of a schema.
-/
import Derived.Test.YtopblgabadljdaaTwiceP
import Derived.Deep.DeepCutAuto
namespace Go.Proofs.Ytopblgabadljdaa
open Go.RowKit

/-- The cells of a schema's relations, with what they show. -/
def RelsV (w : World) (R : Nat → Prop) (vs : List Value) (rs : List (ByteArray × List Int)) : Prop :=
  vs.length = rs.length * 2 ∧ ∀ k (hk : k < rs.length), vs[k * 2]? = some (.string rs[k].1) ∧ ∃ (A' : Option Addr) (c' : Nat), vs[k * 2 + 1]? = some (.slice A' rs[k].2.length c') ∧ Row w R A' (ints rs[k].2)
theorem relsV_of {w : World} {R : Nat → Prop} {A : Option Addr} {rs : List (ByteArray × List Int)} (h : RelsAt w R A rs) : ∃ vs, Row w R A vs ∧ RelsV w R vs rs := by
  obtain ⟨vs, h1, h2, h3⟩ := h
  exact ⟨vs, h2, h1, h3⟩
theorem RelsV.at {w : World} {R : Nat → Prop} {A : Option Addr} {vs : List Value} {rs : List (ByteArray × List Int)} (h : RelsV w R vs rs) (hr : Row w R A vs) : RelsAt w R A rs := ⟨vs, h.1, hr, h.2⟩
theorem RelsV.keep {w w' : World} {R : Nat → Prop} {vs : List Value} {rs : List (ByteArray × List Int)} (h : RelsV w R vs rs) (hs : w.heap.size ≤ w'.heap.size) (hk : ∀ b, R b → b < w.heap.size → w'.heap[b]? = w.heap[b]?) : RelsV w' R vs rs := by
  refine ⟨h.1, fun k hk2 => ?_⟩
  obtain ⟨h6, A', c', h4, h5⟩ := h.2 k hk2
  exact ⟨h6, A', c', h4, h5.keep hs fun b _ _ => hk b⟩
theorem RelsV.mono {w : World} {R R' : Nat → Prop} {vs : List Value} {rs : List (ByteArray × List Int)} (h : RelsV w R vs rs) (hR : ∀ b, b < w.heap.size → R b → R' b) : RelsV w R' vs rs := by
  refine ⟨h.1, fun k hk2 => ?_⟩
  obtain ⟨h6, A', c', h4, h5⟩ := h.2 k hk2
  exact ⟨h6, A', c', h4, h5.mono hR⟩
theorem RelsV.one {w : World} {R : Nat → Prop} {vs : List Value} {rs : List (ByteArray × List Int)} (h : RelsV w R vs rs) : ∀ u ∈ vs, u.oneCell' = true := by
  intro u hu
  obtain ⟨p, hp, rfl⟩ := List.getElem_of_mem hu
  have hl := h.1
  have hk : p / 2 < rs.length := by omega
  obtain ⟨h1, A', c', h2, _⟩ := h.2 (p / 2) hk
  rcases Nat.mod_two_eq_zero_or_one p with e | e
  · have : p / 2 * 2 = p := by omega
    rw [this, List.getElem?_eq_getElem hp] at h1
    injection h1 with h1
    rw [h1]; rfl
  · have : p / 2 * 2 + 1 = p := by omega
    rw [this, List.getElem?_eq_getElem hp] at h2
    injection h2 with h2
    rw [h2]; rfl
theorem RelsV.snoc {w : World} {R : Nat → Prop} {vs : List Value} {rs : List (ByteArray × List Int)} (h : RelsV w R vs rs) (x : ByteArray × List Int) {A' : Option Addr} (c' : Nat) (hr : Row w R A' (ints x.2)) : RelsV w R (vs ++ [.string x.1, .slice A' x.2.length c']) (rs ++ [x]) := by
  refine ⟨by simp [h.1]; omega, fun k hk => ?_⟩
  by_cases e : k < rs.length
  · obtain ⟨h1, A2, c2, h2, h3⟩ := h.2 k e
    refine ⟨?_, A2, c2, ?_, ?_⟩
    · rw [List.getElem?_append_left (by rw [h.1]; omega), List.getElem_append_left e]; exact h1
    · rw [List.getElem?_append_left (by rw [h.1]; omega), List.getElem_append_left e]; exact h2
    · rw [List.getElem_append_left e]; exact h3
  · obtain rfl : k = rs.length := by simp at hk; omega
    refine ⟨?_, A', c', ?_, ?_⟩
    · rw [List.getElem?_append_right (by rw [h.1]; exact Nat.le_refl _), h.1]; simp
    · rw [List.getElem?_append_right (by rw [h.1]; omega), h.1]; simp [show rs.length * 2 + 1 - rs.length * 2 = 1 by omega]
    · simpa using hr

theorem sch_more {w w' : World} {S : Sch} {A1 : Option Addr} {c1 : Nat} {A2 : Option Addr} {c2 : Nat} {A3 : Option Addr} {c3 : Nat} {vs : List Value} {B : Nat} {A9 Aq : Option Addr} {c9 cq : Nat} {l : List Int} {R9 : Nat → Prop}
    (h : SchAt w (· < B) (.agg #[.slice A1 S.attrs.length c1, .slice A2 S.rels.length c2, .slice A3 S.feats.length c3, .int .i64 S.label]) S) (hv : RelsV w (· < B) vs S.rels) (hq : Row w (· < B) Aq (ints l)) (x : ByteArray × List Int) (hx : x.2 = l) (hb : Below (B + 1) w w')
    (hr : Row w' R9 A9 (vs ++ [.string x.1, .slice Aq l.length cq])) (hc : S.rels.length + 1 ≤ c9) :
    SchAt w' Any (.agg #[.slice A1 S.attrs.length c1, .slice A9 (S.rels.length + 1) c9, .slice A3 S.feats.length c3, .int .i64 S.label]) { S with rels := S.rels ++ [x] } := by
  subst hx
  obtain ⟨B1, d1, B2, d2, B3, d3, e, l1, l2, l3, h1, h2, h3⟩ := h
  simp at e
  obtain ⟨⟨rfl, rfl⟩, ⟨rfl, rfl⟩, rfl, rfl⟩ := e
  have keep : ∀ b, b < B → b < w.heap.size → w'.heap[b]? = w.heap[b]? := fun b hb2 _ => hb.block b (by omega)
  refine ⟨A1, c1, A9, c9, A3, c3, by simp, l1, by simpa using hc, l3, (h1.keep hb.size fun b _ _ => keep b).any, ?_, (h3.keep hb.size fun b _ _ => keep b).any⟩
  exact (((hv.keep hb.size keep).snoc x cq (hq.keep hb.size fun b _ _ => keep b)).mono fun _ _ _ => trivial).at hr.any

theorem sch_rels {w : World} {R : Nat → Prop} {S : Sch} {A1 : Option Addr} {c1 : Nat} {A2 : Option Addr} {c2 : Nat} {A3 : Option Addr} {c3 : Nat}
    (h : SchAt w R (.agg #[.slice A1 S.attrs.length c1, .slice A2 S.rels.length c2, .slice A3 S.feats.length c3, .int .i64 S.label]) S) : RelsAt w R A2 S.rels := by
  obtain ⟨B1, d1, B2, d2, B3, d3, e, _, _, _, h1, h2, h3⟩ := h
  simp at e
  obtain ⟨⟨rfl, rfl⟩, ⟨rfl, rfl⟩, rfl, rfl⟩ := e
  exact h2
theorem RelsAt.ext {w w' : World} {R : Nat → Prop} {A : Option Addr} {rs : List (ByteArray × List Int)} (h : RelsAt w R A rs) (hb : Below w.heap.size w w') : RelsAt w' R A rs := h.keep hb.size fun b _ hlt => hb.block b hlt
theorem rels_getD {ls : List (List Int)} {S : Sch} (hS : schOf ls = S) : ∀ k (hk : k < S.rels.length), ls.getD k [] = S.rels[k].2 := by
  subst hS
  intro k hk
  obtain ⟨hk', e⟩ := rels_get ls k hk
  rw [e]; simp [List.getD, hk']

theorem below_nil {w w' : World} (h : w.drew.grownBy w' (Value.slice none 0 0).ownBlock) : Below w.heap.size w w' := ⟨h.os, h.tape, h.output, h.size, fun k hk => h.block k hk (by simp [Value.ownBlock])⟩
theorem below_nil_alloc {w w' : World} {o : Obj} (h : (w.drew.alloc o).grownBy w' (Value.slice none 0 0).ownBlock) : Below w.heap.size w w' :=
  (((Below.refl w.heap.size w).drew.alloc (Nat.le_refl _) o)).trans ⟨h.os, h.tape, h.output, h.size, fun k hk => h.block k (by simp; omega) (by simp [Value.ownBlock])⟩

/-- A schema with other relations. -/
theorem sch_swap {w : World} {R R' R2 : Nat → Prop} {S : Sch} {A1 : Option Addr} {c1 : Nat} {A2 : Option Addr} {c2 : Nat} {A3 : Option Addr} {c3 : Nat} {vs : List Value} {rs : List (ByteArray × List Int)} {A9 : Option Addr} {c9 : Nat}
    (h : SchAt w R (.agg #[.slice A1 S.attrs.length c1, .slice A2 S.rels.length c2, .slice A3 S.feats.length c3, .int .i64 S.label]) S) (hv : RelsV w R2 vs rs) (hr : Row w R' A9 vs) (hc : rs.length ≤ c9) :
    SchAt w Any (.agg #[.slice A1 S.attrs.length c1, .slice A9 rs.length c9, .slice A3 S.feats.length c3, .int .i64 S.label]) { S with rels := rs } := by
  obtain ⟨B1, d1, B2, d2, B3, d3, e, l1, l2, l3, h1, h2, h3⟩ := h
  simp at e
  obtain ⟨⟨rfl, rfl⟩, ⟨rfl, rfl⟩, rfl, rfl⟩ := e
  exact ⟨A1, c1, A9, c9, A3, c3, by simp, l1, hc, l3, h1.any, (hv.mono fun _ _ _ => trivial).at hr.any, h3.any⟩

end Go.Proofs.Ytopblgabadljdaa
