/-
  The reference's Check: plain laws, and the walk where a limit is passed.
-/
import Derived.Test.YtopblgabadljdaaRWord
import Derived.Test.YtopblgabadljdaaCheckS
namespace Go.Proofs.Ytopblgabadljdaa
open Go.RowKit

/-- The limits of a schema are kept. -/
def limB (S : Sch) : Prop := ¬ (S.attrs.length = 0 ∨ 12 < S.attrs.length ∨ S.rels.length = 0 ∨ 6 < S.rels.length ∨ 8 < S.feats.length)
theorem chk_lim {S : Sch} (h : ¬ limB S) : checkE S = 3 := by
  unfold limB at h
  unfold checkE
  rw [if_pos (Classical.not_not.1 h)]
theorem chk_attr {S : Sch} (h : limB S) {k : Nat} (hk : k < S.attrs.length) (h0 : scanE (attrE S) k = 0) (hne : attrE S k ≠ 0) : checkE S = attrE S k := by
  have e := scanE_at h0 hne hk
  unfold checkE
  rw [if_neg h, if_pos (by rw [e]; exact hne), e]
theorem chk_rel {S : Sch} (h : limB S) (ha : scanE (attrE S) S.attrs.length = 0) {k : Nat} (hk : k < S.rels.length) (h0 : scanE (relE S) k = 0) (hne : relE S k ≠ 0) : checkE S = relE S k := by
  have e := scanE_at h0 hne hk
  have e2 : relsE S = relE S k := by unfold relsE; rw [if_pos (by rw [e]; exact hne), e]
  unfold checkE
  rw [if_neg h, if_neg (by simp [ha]), if_pos (by rw [e2]; exact hne), e2]
theorem chk_used {S : Sch} (h : limB S) (ha : scanE (attrE S) S.attrs.length = 0) (hr : scanE (relE S) S.rels.length = 0) (hu : ((List.range S.attrs.length).all fun a => usedB S a) = false) : checkE S = 7 := by
  have e2 : relsE S = 7 := by unfold relsE; rw [if_neg (by simp [hr]), if_pos hu]
  unfold checkE
  rw [if_neg h, if_neg (by simp [ha]), if_pos (by rw [e2]; decide), e2]
theorem rels_zero {S : Sch} (hr : scanE (relE S) S.rels.length = 0) (hu : ((List.range S.attrs.length).all fun a => usedB S a) = true) : relsE S = 0 := by
  unfold relsE; rw [if_neg (by simp [hr]), if_neg (by rw [hu]; decide)]
theorem chk_feat {S : Sch} (h : limB S) (ha : scanE (attrE S) S.attrs.length = 0) (hr : relsE S = 0) {k : Nat} (hk : k < S.feats.length) (h0 : scanE (featE S) k = 0) (hne : featE S k ≠ 0) : checkE S = featE S k := by
  have e := scanE_at h0 hne hk
  unfold checkE
  rw [if_neg h, if_neg (by simp [ha]), if_neg (by simp [hr]), if_pos (by rw [e]; exact hne), e]
theorem chk_label {S : Sch} (h : limB S) (ha : scanE (attrE S) S.attrs.length = 0) (hr : relsE S = 0) (hf : scanE (featE S) S.feats.length = 0) : checkE S = if S.label < -1 ∨ (S.attrs.length : Int) ≤ S.label then 2 else if 0 ≤ S.label ∧ (S.attrs.getD S.label.toNat default).2 ≠ 2 then 7 else 0 := by
  unfold checkE
  rw [if_neg h, if_neg (by simp [ha]), if_neg (by simp [hr]), if_neg (by simp [hf])]
theorem attrE_eq (S : Sch) (k : Nat) (hk : k < S.attrs.length) : attrE S k = if wordB S.attrs[k].1 = false then 14 else if hasB ((S.attrs.map (·.1)).take k) S.attrs[k].1 = true then 9 else if S.attrs[k].2 < 1 ∨ 3 < S.attrs[k].2 then 7 else 0 := by
  have e1 : (S.attrs.map (·.1)).getD k default = S.attrs[k].1 := by simp [List.getD, hk]
  have e2 : S.attrs.getD k default = S.attrs[k] := by simp [List.getD, hk]
  unfold attrE namedE
  rw [e1, e2]
  by_cases h1 : wordB S.attrs[k].1 = false
  · simp [h1]
  · by_cases h2 : hasB ((S.attrs.map (·.1)).take k) S.attrs[k].1 = true
    · simp [h1, h2]
    · simp [h1, h2]
theorem relE_eq2 (S : Sch) (k : Nat) (hk : k < S.rels.length) : relE S k = if wordB S.rels[k].1 = false then 14 else if hasB ((S.rels.map (·.1)).take k) S.rels[k].1 = true then 9 else if S.rels[k].2 = [] then 7
    else if (S.rels[k].2.all fun a => decide (0 ≤ a) && decide (a < S.attrs.length)) = false then 2 else if ascB S.rels[k].2 = false then 10 else 0 := by
  have e1 : (S.rels.map (·.1)).getD k default = S.rels[k].1 := by simp [List.getD, hk]
  have e2 : S.rels.getD k default = S.rels[k] := by simp [List.getD, hk]
  unfold relE namedE
  rw [e1, e2]
  by_cases h1 : wordB S.rels[k].1 = false
  · simp [h1]
  · by_cases h2 : hasB ((S.rels.map (·.1)).take k) S.rels[k].1 = true
    · simp [h1, h2]
    · simp [h1, h2]
theorem featE_eq2 (S : Sch) (k : Nat) (hk : k < S.feats.length) : featE S k = if S.feats[k].1 < 0 ∨ (S.attrs.length : Int) ≤ S.feats[k].1 then 2
    else if ((S.feats[k].2.1 == 1 && (S.attrs.getD S.feats[k].1.toNat default).2 == 2 && (S.feats[k].2.2 == 0 || S.feats[k].2.2 == 1)) || (S.feats[k].2.1 == 2 && (S.attrs.getD S.feats[k].1.toNat default).2 == 3 && S.feats[k].2.2 == 0)) = false then 7
    else if (S.feats[k].1 == S.label || (S.feats.take k).any fun g => g.1 == S.feats[k].1) = true then 9 else 0 := by
  have e : S.feats.getD k default = S.feats[k] := by simp [List.getD, hk]
  unfold featE
  rw [e]
theorem any_take {l : List (Int × Int × Int)} {q k : Nat} {x : Int} (hq : q < l.length) (hqk : q < k) (h : (l[q].1 == x) = true) : ((l.take k).any fun g => g.1 == x) = true := by
  rw [List.any_eq_true]
  exact ⟨l[q], List.mem_take_iff_getElem.2 ⟨q, by omega, rfl⟩, h⟩
theorem any_snoc {l : List (Int × Int × Int)} {q : Nat} {x : Int} (hq : q < l.length) (h : ((l.take q).any fun g => g.1 == x) = false) (hne : (l[q].1 == x) = false) : ((l.take (q + 1)).any fun g => g.1 == x) = false := by
  rw [List.take_succ_eq_append_getElem hq, List.any_append, h]
  simp only [List.any_cons, List.any_nil, hne, Bool.or_false]
theorem has_take {α : Type} [DecidableEq α] {l : List α} {q k : Nat} {x : α} (hq : q < l.length) (hqk : q < k) (h : l[q] = x) : hasB (l.take k) x = true := by
  unfold hasB
  exact decide_eq_true (List.mem_take_iff_getElem.2 ⟨q, by omega, h⟩)
theorem has_snoc {l : List ByteArray} {q : Nat} {x : ByteArray} (hq : q < l.length) (h : hasB (l.take q) x = false) (hne : ¬ l[q] = x) : hasB (l.take (q + 1)) x = false := hasB_succ hq h hne
theorem beq_str {x y : ByteArray} {b : Bool} (h : decide (x = y) = b) : (x.toList == y.toList) = b := by rw [str_eq]; exact h

set_option maxRecDepth 100000 in
set_option maxHeartbeats 1000000 in
theorem check5_lim (v : Value) (S : Sch) (w : World) {R : Nat → Prop} (h : SchAt w R v S) (hb : SBd S) (hlim : ¬ limB S) :
    Calls Try.prog 49 #[v] w fun e w' => e = .returned (.int .i64 (checkE S)) ∧ Below w.heap.size w w' := by
  obtain ⟨A1, c1, A2, c2, A3, c3, rfl, l1, l2, l3, h1, h2, h3⟩ := h
  have hba := hb.a
  have hbr := hb.r
  have hbf := hb.f
  have HE := Lib.hid (chk_lim hlim)
  have q1 : ((S.attrs.length : Int) == 0) = true ∨ (((S.attrs.length : Int) == 0) = false ∧ 12 < S.attrs.length) ∨ (((S.attrs.length : Int) == 0) = false ∧ S.attrs.length ≤ 12 ∧ ((S.rels.length : Int) == 0) = true) ∨
    (((S.attrs.length : Int) == 0) = false ∧ S.attrs.length ≤ 12 ∧ ((S.rels.length : Int) == 0) = false ∧ 6 < S.rels.length) ∨ (((S.attrs.length : Int) == 0) = false ∧ S.attrs.length ≤ 12 ∧ ((S.rels.length : Int) == 0) = false ∧ S.rels.length ≤ 6 ∧ 8 < S.feats.length) := by
    unfold limB at hlim
    rw [Classical.not_not] at hlim
    simp only [beq_iff_eq, beq_eq_false_iff_ne]
    omega
  clear hlim
  go_enter Try.func49, Try.ntmps49
  rcases q1 with a1 | ⟨a1, a2⟩ | ⟨a1, a2, a3⟩ | ⟨a1, a2, a3, a4⟩ | ⟨a1, a2, a3, a4, a5⟩
  all_goals
    go_wp2
    go_ret
    exact ⟨ret_int HE.out.symm, (Below.refl _ _).alloc (Nat.le_refl _) _⟩

end Go.Proofs.Ytopblgabadljdaa
