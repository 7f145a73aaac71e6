/-
  What the walks' plain functions mean for sets of relations.
-/
import Derived.Test.YtopblgabadljdaaAcy2
import Derived.Test.YtopblgabadljdaaMath
namespace Go.Proofs.Ytopblgabadljdaa

/-- Relation i has attribute a. -/
def eR (rs : List (ByteArray × List Int)) (i a : Nat) : Prop := (a : Int) ∈ (rs.getD i default).2
/-- The relations of a set. -/
def idx (inn : List Bool) (n : Nat) : List Nat := (List.range n).filter fun i => inn.getD i false

theorem mem_idx {inn : List Bool} {n i : Nat} : i ∈ idx inn n ↔ i < n ∧ inn.getD i false = true := by simp [idx]
theorem idx_nodup (inn : List Bool) (n : Nat) : (idx inn n).Nodup := List.nodup_range.filter _

theorem mask_bit (l : List Int) (h : ∀ a ∈ l, 0 ≤ a ∧ a < 12) (a : Nat) : (maskN l).testBit a = decide ((a : Int) ∈ l) := by
  unfold maskN
  have : ∀ (l : List Int) (m : Nat), (∀ a ∈ l, 0 ≤ a ∧ a < 12) → (l.foldl (fun m a => m ||| 2 ^ a.toNat) m).testBit a = (m.testBit a || decide ((a : Int) ∈ l)) := by
    intro l
    induction l with
    | nil => intro m _; simp
    | cons x l ih =>
      intro m hl
      have hx := hl x (by simp)
      rw [List.foldl_cons, ih _ fun b hb => hl b (by simp [hb]), Nat.testBit_or, Nat.testBit_two_pow]
      by_cases e : x.toNat = a
      · have : (a : Int) = x := by omega
        simp [e, this]
      · have : ¬ ((a : Int) = x) := by omega
        simp [e, this]
  rw [this l 0 h]; simp
theorem sub_bit (x y : Nat) (hx : x < 4096) (hy : y < 4096) : subN x y = true ↔ ∀ a, x.testBit a = true → y.testBit a = true := by
  unfold subN
  rw [beq_iff_eq]
  have hb : ∀ a, (18446744073709551615 - y).testBit a = (decide (a < 64) && !(y.testBit a)) := fun a => by
    rw [show 18446744073709551615 - y = 2 ^ 64 - (y + 1) by omega, Nat.testBit_two_pow_sub_succ (by omega)]
  constructor
  · intro h a ha
    have h1 : (x &&& (18446744073709551615 - y)).testBit a = false := by rw [h]; simp
    rw [Nat.testBit_and, ha, hb] at h1
    have ha64 : a < 64 := by
      rcases Nat.lt_or_ge a 64 with h | h
      · exact h
      · have := Nat.testBit_lt_two_pow (show x < 2 ^ a from Nat.lt_of_lt_of_le hx (Nat.le_trans (by decide : 4096 ≤ 2 ^ 64) (Nat.pow_le_pow_right (by decide) h)))
        rw [this] at ha; cases ha
    simpa [ha64] using h1
  · intro h
    apply Nat.eq_of_testBit_eq
    intro a
    rw [Nat.testBit_and, hb, Nat.zero_testBit]
    cases hxa : x.testBit a
    · rfl
    · simp [h a hxa]
theorem getD_ok {rs : List (ByteArray × List Int)} (h : RelOk rs) (i : Nat) : ∀ a ∈ (rs.getD i default).2, 0 ≤ a ∧ a < 12 := by
  rcases Nat.lt_or_ge i rs.length with hi | hi
  · have e : rs.getD i default = rs[i] := by simp [List.getD, hi]
    rw [e]; exact (h.2 _ (List.getElem_mem hi)).2
  · have e : rs.getD i default = default := by simp [List.getD, hi]
    rw [e]; intro a ha; exact absurd ha (by show a ∉ []; simp)
theorem oth_bit (rs : List (ByteArray × List Int)) (inn : List Bool) (r : Nat) (h : RelOk rs) (a : Nat) : ∀ k, (othN rs inn r k).testBit a = true ↔ ∃ i, i < k ∧ inn.getD i false = true ∧ i ≠ r ∧ eR rs i a := by
  intro k
  induction k with
  | zero => simp [othN]
  | succ k ih =>
    simp only [othN]
    split
    · rename_i hc
      simp only [Bool.and_eq_true, decide_eq_true_eq] at hc
      rw [Nat.testBit_or, Bool.or_eq_true, ih, mask_bit _ (getD_ok h k), decide_eq_true_eq]
      constructor
      · rintro (⟨i, h1, h2⟩ | h1)
        · exact ⟨i, by omega, h2⟩
        · exact ⟨k, by omega, hc.1, hc.2, h1⟩
      · rintro ⟨i, h1, h2, h3, h4⟩
        by_cases e : i = k
        · subst e; exact .inr h4
        · exact .inl ⟨i, by omega, h2, h3, h4⟩
    · rename_i hc
      simp only [Bool.and_eq_true, decide_eq_true_eq] at hc
      rw [ih]
      constructor
      · rintro ⟨i, h1, h2⟩; exact ⟨i, by omega, h2⟩
      · rintro ⟨i, h1, h2, h3, h4⟩
        by_cases e : i = k
        · subst e; exact absurd ⟨h2, h3⟩ hc
        · exact ⟨i, by omega, h2, h3, h4⟩
theorem mask_getD_lt {rs : List (ByteArray × List Int)} (h : RelOk rs) (i : Nat) : maskN (rs.getD i default).2 < 4096 := maskN_lt _ (getD_ok h i)

theorem wit_iff (rs : List (ByteArray × List Int)) (inn : List Bool) (r i : Nat) (h : RelOk rs) (hi : i < rs.length) : witAt rs inn r i = true ↔ IsWit (eR rs) (idx inn rs.length) r i := by
  unfold witAt
  simp only [Bool.and_eq_true, decide_eq_true_eq]
  rw [sub_bit _ _ (Nat.and_lt_two_pow (n := 12) _ (othN_lt rs inn r h _ (Nat.le_refl _))) (mask_getD_lt h i)]
  have key : (∀ a, (maskN (rs.getD r default).2 &&& othN rs inn r rs.length).testBit a = true → (maskN (rs.getD i default).2).testBit a = true) ↔ ∀ k, k ∈ idx inn rs.length → k ≠ r → Tri (eR rs) r k i := by
    constructor
    · intro hh k hk hkr a ha hka
      have := hh a (by
        rw [Nat.testBit_and, Bool.and_eq_true, mask_bit _ (getD_ok h r), decide_eq_true_eq, oth_bit rs inn r h]
        exact ⟨ha, k, (mem_idx.1 hk).1, (mem_idx.1 hk).2, hkr, hka⟩)
      rw [mask_bit _ (getD_ok h i), decide_eq_true_eq] at this
      exact this
    · intro hh a ha
      rw [Nat.testBit_and, Bool.and_eq_true, mask_bit _ (getD_ok h r), decide_eq_true_eq, oth_bit rs inn r h] at ha
      obtain ⟨h1, k, h2, h3, h4, h5⟩ := ha
      rw [mask_bit _ (getD_ok h i), decide_eq_true_eq]
      exact hh k (mem_idx.2 ⟨h2, h3⟩) h4 a h1 h5
  rw [key]
  constructor
  · rintro ⟨⟨h1, h2⟩, h3⟩; exact ⟨mem_idx.2 ⟨hi, h1⟩, h2, h3⟩
  · rintro ⟨h1, h2, h3⟩; exact ⟨⟨(mem_idx.1 h1).2, h2⟩, h3⟩
theorem witI_some {rs : List (ByteArray × List Int)} {inn : List Bool} {r w : Nat} (h : RelOk rs) (hw : witI rs inn r = some w) : IsWit (eR rs) (idx inn rs.length) r w := by
  unfold witI at hw
  rw [List.find?_range_eq_some] at hw
  exact (wit_iff rs inn r w h (by simpa using hw.2.1)).1 hw.1
theorem witI_isSome (rs : List (ByteArray × List Int)) (inn : List Bool) (r : Nat) (h : RelOk rs) : (witI rs inn r).isSome = true ↔ ∃ w, IsWit (eR rs) (idx inn rs.length) r w := by
  constructor
  · intro hs
    obtain ⟨w, hw⟩ := Option.isSome_iff_exists.1 hs
    exact ⟨w, witI_some h hw⟩
  · rintro ⟨w, hw⟩
    have hlt := (mem_idx.1 hw.1).1
    unfold witI
    rw [List.find?_isSome]
    exact ⟨w, by simpa using hlt, (wit_iff rs inn r w h hlt).2 hw⟩
theorem ear_iff (rs : List (ByteArray × List Int)) (inn : List Bool) (i : Nat) (h : RelOk rs) (hi : i < rs.length) : earAt rs inn i = true ↔ IsEar (eR rs) (idx inn rs.length) i := by
  unfold earAt
  rw [Bool.and_eq_true, witI_isSome rs inn i h]
  constructor
  · rintro ⟨h1, h2⟩; exact ⟨mem_idx.2 ⟨hi, h1⟩, h2⟩
  · rintro ⟨h1, h2⟩; exact ⟨(mem_idx.1 h1).2, h2⟩
theorem filter_erase {p : Nat → Bool} {i : Nat} : ∀ {l : List Nat}, l.Nodup → (l.filter fun k => p k && decide (k ≠ i)) = (l.filter p).erase i := by
  intro l
  induction l with
  | nil => intro _; rfl
  | cons x t ih =>
    intro hn
    have hn' := List.nodup_cons.1 hn
    have ih' := ih hn'.2
    by_cases e : x = i
    · subst e
      have hno : x ∉ t.filter p := fun hx => hn'.1 (List.mem_filter.1 hx).1
      rw [List.filter_cons, List.filter_cons]
      simp only [ne_eq, not_true_eq_false, decide_false, Bool.and_false, Bool.false_eq_true, if_false]
      have e1 : (t.filter fun k => p k && decide (k ≠ x)) = t.filter p := by
        rw [ih', List.erase_of_not_mem hno]
      split
      · rw [List.erase_cons_head]; exact e1
      · rw [List.erase_of_not_mem hno]; exact e1
    · rw [List.filter_cons, List.filter_cons]
      simp only [ne_eq, e, not_false_eq_true, decide_true, Bool.and_true]
      split
      · rw [List.erase_cons_tail (by simpa using e)]; congr 1
      · exact ih'
theorem idx_set (inn : List Bool) (n i : Nat) (hi : i < inn.length) : idx (inn.set i false) n = (idx inn n).erase i := by
  unfold idx
  rw [← filter_erase List.nodup_range]
  apply List.filter_congr
  intro k _
  by_cases e : k = i
  · subst e; simp [List.getD, hi]
  · simp [List.getD, List.getElem?_set_ne (Ne.symm e), e]
theorem idx_all (n : Nat) : idx (List.replicate n true) n = List.range n := by
  unfold idx
  rw [List.filter_eq_self]
  intro k hk
  simp at hk
  simp [List.getD, hk]
theorem earI_none {rs : List (ByteArray × List Int)} {inn : List Bool} (h : earI rs inn = none) (hok : RelOk rs) : ∀ i, ¬ IsEar (eR rs) (idx inn rs.length) i := by
  intro i hi
  have hlt := (mem_idx.1 hi.1).1
  unfold earI at h
  rw [List.find?_eq_none] at h
  exact h i (by simpa using hlt) ((ear_iff rs inn i hok hlt).2 hi)
theorem redTo_left (rs : List (ByteArray × List Int)) (hok : RelOk rs) (j : Nat) (J : List Nat) (h : Left (eR rs) (idx (redTo rs j).inn rs.length) J) : Left (eR rs) (List.range rs.length) J := by
  induction j with
  | zero => simpa [redTo, idx_all] using h
  | succ j ih =>
    apply ih
    cases he : earI rs (redTo rs j).inn with
    | none => simp only [redTo, Red.next, he] at h; exact h
    | some i =>
      obtain ⟨h1, h2, h3⟩ := earI_some he
      rw [redTo_next he] at h
      simp only at h
      rw [idx_set _ _ _ (by rw [(redTo_len rs j).1]; exact h1)] at h
      exact .step i ((ear_iff rs _ i hok h1).1 h2) h
theorem red_stuck (rs : List (ByteArray × List Int)) : earI rs (redS rs).inn = none := by
  unfold redS
  rcases Classical.em (∃ k, k < rs.length ∧ earI rs (redTo rs k).inn = none) with ⟨k, h1, h2⟩ | hno
  · rw [redTo_stop rs k h2 rs.length (by omega)]; exact h2
  · have hall : ∀ k, k < rs.length → earI rs (redTo rs k).inn ≠ none := fun k hk h => hno ⟨k, hk, h⟩
    have h1 := redTo_ord rs rs.length hall
    have h2 := (redTo_count rs rs.length).1
    have h3 : (redTo rs rs.length).inn.count true = 0 := by omega
    have h4 : true ∉ (redTo rs rs.length).inn := List.count_eq_zero.1 h3
    apply earI_no
    intro i hi
    unfold earAt
    have : (redTo rs rs.length).inn.getD i false = false := by
      have hl : i < (redTo rs rs.length).inn.length := by rw [(redTo_len rs _).1]; exact hi
      simp only [List.getD, List.getElem?_eq_getElem hl, Option.getD_some]
      cases hv : (redTo rs rs.length).inn[i]
      · rfl
      · exact absurd (hv ▸ List.getElem_mem hl) h4
    rw [this]; rfl
/-- What is left behind reduce is left of all relations, and no ear is in it. -/
theorem red_left (rs : List (ByteArray × List Int)) (hok : RelOk rs) : Left (eR rs) (List.range rs.length) (idx (redS rs).inn rs.length) :=
  redTo_left rs hok rs.length _ (.stop (earI_none (red_stuck rs) hok))
theorem core_len (rs : List (ByteArray × List Int)) : (coreS rs).length = (idx (redS rs).inn rs.length).length := by
  simp [coreS, coreTo, idx]

end Go.Proofs.Ytopblgabadljdaa
