/-
  Texts of ours, joined: MP, M3, M4, O1, S1, S2, S3, S4, S5, R5, OSp, O2, So. No statement of the program is proved here.
-/
import Derived.Test.YtkalgjnhaicabaaGreatGe2
namespace Go.Proofs.YtkalgjnhaicabaaGreat.Mk
open Go.Proofs.YtkalgjnhaicabaaGreat
def chr (n : Int) : ByteArray := ⟨#[UInt8.ofNat n.toNat]⟩
def nm (p : UInt8) (i : Nat) : ByteArray := ⟨#[p]⟩ ++ chr (97 + i)
theorem asc_len : ∀ (l : List Int) (lo hi : Int), l.Pairwise (· < ·) → (∀ a ∈ l, lo ≤ a ∧ a ≤ hi) → (l.length : Int) ≤ max 0 (hi + 1 - lo) := by
  intro l
  induction l with
  | nil => intro lo hi _ _; simp; omega
  | cons x t ih =>
    intro lo hi hp hb
    have hp' := List.pairwise_cons.1 hp
    have hx := hb x (by simp)
    have := ih (x + 1) hi hp'.2 (fun a ha => ⟨by have := hp'.1 a ha; omega, (hb a (by simp [ha])).2⟩)
    simp only [List.length_cons]
    omega
theorem asc_no {l : List Int} {q : Nat} (h1 : 1 ≤ q) (h2 : q < l.length) (h : l[q] ≤ l[q - 1]) : ascB l = false := by
  unfold ascB
  rw [List.all_eq_false]
  refine ⟨q - 1, by simp; omega, ?_⟩
  have e : l.getD (q - 1 + 1) 0 = l[q] := by
    simp only [show q - 1 + 1 = q by omega, List.getD, List.getElem?_eq_getElem h2]; rfl
  have e2 : l.getD (q - 1) 0 = l[q - 1] := by
    simp only [List.getD, List.getElem?_eq_getElem (show q - 1 < l.length by omega)]; rfl
  rw [e, e2]; simp; omega
theorem asc_yes {l : List Int} (h : ∀ p, p + 1 < l.length → l.getD p 0 < l.getD (p + 1) 0) : ascB l = true := by
  unfold ascB
  rw [List.all_eq_true]
  intro p hp
  simp only [List.mem_range] at hp
  simpa using h p (by omega)
theorem rng_no {l : List Int} {n q : Nat} (hq : q < l.length) (h : ¬ (0 ≤ l[q] ∧ l[q] < n)) : (l.all fun a => decide (0 ≤ a) && decide (a < n)) = false := by
  rw [List.all_eq_false]
  exact ⟨l[q], List.getElem_mem hq, by simp; omega⟩
theorem rng_yes {l : List Int} {n : Nat} (h : ∀ a ∈ l, 0 ≤ a ∧ a < n) : (l.all fun a => decide (0 ≤ a) && decide (a < n)) = true := by
  rw [List.all_eq_true]
  intro a ha
  have := h a ha
  simp; omega
theorem asc_of {l : List Int} (h : l.Pairwise (· < ·)) : ascB l = true := by
  apply asc_yes
  intro p hp
  have := List.pairwise_iff_getElem.1 h p (p + 1) (by omega) hp (by omega)
  simpa [List.getD, hp, show p < l.length by omega] using this
theorem relE_eq2 (S : Sch) (k : Nat) (hk : k < S.rels.length) : relE S k = if wordB S.rels[k].1 = false then 14 else if hasB ((S.rels.map (·.1)).take k) S.rels[k].1 = true then 9 else if S.rels[k].2 = [] then 7
    else if (S.rels[k].2.all fun a => decide (0 ≤ a) && decide (a < S.attrs.length)) = false then 2 else if ascB S.rels[k].2 = false then 10 else 0 := by
  have e1 : (S.rels.map (·.1)).getD k default = S.rels[k].1 := by simp [List.getD, hk]
  have e2 : S.rels.getD k default = S.rels[k] := by simp [List.getD, hk]
  unfold relE namedE
  rw [e1, e2]
  by_cases h1 : wordB S.rels[k].1 = false
  · simp [h1]
  · by_cases h2 : hasB ((S.rels.map (·.1)).take k) S.rels[k].1 = true
    · simp [h1, h2]
    · simp [h1, h2]
theorem attrE_eq (S : Sch) (k : Nat) (hk : k < S.attrs.length) : attrE S k = if wordB S.attrs[k].1 = false then 14 else if hasB ((S.attrs.map (·.1)).take k) S.attrs[k].1 = true then 9 else if S.attrs[k].2 < 1 ∨ 3 < S.attrs[k].2 then 7 else 0 := by
  have e1 : (S.attrs.map (·.1)).getD k default = S.attrs[k].1 := by simp [List.getD, hk]
  have e2 : S.attrs.getD k default = S.attrs[k] := by simp [List.getD, hk]
  unfold attrE namedE
  rw [e1, e2]
  by_cases h1 : wordB S.attrs[k].1 = false
  · simp [h1]
  · by_cases h2 : hasB ((S.attrs.map (·.1)).take k) S.attrs[k].1 = true
    · simp [h1, h2]
    · simp [h1, h2]
theorem featE_eq2 (S : Sch) (k : Nat) (hk : k < S.feats.length) : featE S k = if S.feats[k].1 < 0 ∨ (S.attrs.length : Int) ≤ S.feats[k].1 then 2
    else if ((S.feats[k].2.1 == 1 && (S.attrs.getD S.feats[k].1.toNat default).2 == 2 && (S.feats[k].2.2 == 0 || S.feats[k].2.2 == 1)) || (S.feats[k].2.1 == 2 && (S.attrs.getD S.feats[k].1.toNat default).2 == 3 && S.feats[k].2.2 == 0)) = false then 7
    else if (S.feats[k].1 == S.label || (S.feats.take k).any fun g => g.1 == S.feats[k].1) = true then 9 else 0 := by
  have e : S.feats.getD k default = S.feats[k] := by simp [List.getD, hk]
  unfold featE
  rw [e]
theorem rels_zero {S : Sch} (hr : scanE (relE S) S.rels.length = 0) (hu : ((List.range S.attrs.length).all fun a => usedB S a) = true) : relsE S = 0 := by
  unfold relsE; rw [if_neg (by simp [hr]), if_neg (by rw [hu]; decide)]
def limB (S : Sch) : Prop := ¬ (S.attrs.length = 0 ∨ 12 < S.attrs.length ∨ S.rels.length = 0 ∨ 6 < S.rels.length ∨ 8 < S.feats.length)
theorem chk_label {S : Sch} (h : limB S) (ha : scanE (attrE S) S.attrs.length = 0) (hr : relsE S = 0) (hf : scanE (featE S) S.feats.length = 0) : checkE S = if S.label < -1 ∨ (S.attrs.length : Int) ≤ S.label then 2 else if 0 ≤ S.label ∧ (S.attrs.getD S.label.toNat default).2 ≠ 2 then 7 else 0 := by
  unfold checkE
  rw [if_neg h, if_neg (by simp [ha]), if_neg (by simp [hr]), if_neg (by simp [hf])]
def okAt (i n : Nat) : Bool := decide (97 ≤ n ∧ n ≤ 122) || (decide (i ≠ 0) && (n == 45 || decide (48 ≤ n ∧ n ≤ 57)))
theorem okAt_zero (c : UInt8) : okAt 0 c.toNat = letterB c := by
  rw [Bool.eq_iff_iff]; simp [okAt, letterB, UInt8.le_iff_toNat_le]
theorem okAt_succ (k : Nat) (c : UInt8) : okAt (k + 1) c.toNat = tailB c := by
  rw [Bool.eq_iff_iff]
  have e : c = 45 ↔ c.toNat = 45 := by
    constructor
    · rintro rfl; rfl
    · intro h; exact UInt8.toNat_inj.1 h
  simp [okAt, tailB, letterB, UInt8.le_iff_toNat_le, e]
  omega
theorem word_all (l : List UInt8) : wordL l = (((List.range l.length).all fun k => okAt k (l.getD k 0).toNat) && decide (1 ≤ l.length) && decide (l.length ≤ 12)) := by
  cases l with
  | nil => simp [wordL]
  | cons c r =>
    rw [Bool.eq_iff_iff]
    simp only [wordL, Bool.and_eq_true, List.all_eq_true, decide_eq_true_eq, List.mem_range, List.length_cons]
    constructor
    · rintro ⟨⟨h1, h2⟩, h3⟩
      refine ⟨⟨fun k hk => ?_, by omega⟩, by omega⟩
      cases k with
      | zero => rw [List.getD_cons_zero, okAt_zero]; exact h1
      | succ k =>
        rw [List.getD_cons_succ, okAt_succ]
        have hk' : k < r.length := by omega
        rw [List.getD, List.getElem?_eq_getElem hk']
        exact h2 _ (List.getElem_mem hk')
    · rintro ⟨⟨h1, _⟩, h3⟩
      refine ⟨⟨?_, fun x hx => ?_⟩, by omega⟩
      · have := h1 0 (by omega); rwa [List.getD_cons_zero, okAt_zero] at this
      · obtain ⟨k, hk, rfl⟩ := List.getElem_of_mem hx
        have := h1 (k + 1) (by omega)
        rwa [List.getD_cons_succ, okAt_succ, List.getD, List.getElem?_eq_getElem hk] at this
theorem word_no (s : ByteArray) (k : Nat) (hk : k < s.size) (h : okAt k (s.data.toList.getD k 0).toNat = false) : wordB s = false := by
  unfold wordB
  rw [word_all]
  have : ((List.range s.data.toList.length).all fun k => okAt k (s.data.toList.getD k 0).toNat) = false := by
    rw [List.all_eq_false]
    exact ⟨k, by simp; exact hk, by rw [h]; simp⟩
  rw [this]; rfl
theorem word_yes (s : ByteArray) (h : ∀ k, k < s.size → okAt k (s.data.toList.getD k 0).toNat = true) : wordB s = (decide (1 ≤ s.size) && decide (s.size ≤ 12)) := by
  unfold wordB
  rw [word_all]
  have : ((List.range s.data.toList.length).all fun k => okAt k (s.data.toList.getD k 0).toNat) = true := by
    rw [List.all_eq_true]
    intro k hk
    exact h k (by simpa using hk)
  rw [this]
  simp
theorem nm_inj : ∀ i, i < 26 → ∀ j, j < 26 → nm 97 i = nm 97 j → i = j := by decide
theorem nm_inj_r : ∀ i, i < 6 → ∀ j, j < 6 → nm 114 i = nm 114 j → i = j := by decide
theorem nm_word : ∀ i, i < 26 → wordB (nm 97 i) = true := by decide
theorem nm_word_r : ∀ i, i < 6 → wordB (nm 114 i) = true := by decide
def AttrsOk (at' : List (ByteArray × Int)) : Prop := ∀ j (hj : j < at'.length), at'[j].1 = nm 97 j ∧ 1 ≤ at'[j].2 ∧ at'[j].2 ≤ 3
def RelsOk (rs : List (ByteArray × List Int)) (n : Nat) : Prop := ∀ j (hj : j < rs.length), rs[j].1 = nm 114 j ∧ rs[j].2 ≠ [] ∧ rs[j].2.Pairwise (· < ·) ∧ ∀ a ∈ rs[j].2, 0 ≤ a ∧ a < n
def CoverOk (rs : List (ByteArray × List Int)) (n : Nat) : Prop := ∀ a, a < n → ∃ x ∈ rs, (a : Int) ∈ x.2
def FeatOk (at' : List (ByteArray × Int)) (lb : Int) (k : Nat) (f : Int × Int × Int) : Prop :=
  ∃ a : Nat, f.1 = (a : Int) ∧ a < k ∧ (a : Int) ≠ lb ∧ ((f.2.1 = 1 ∧ (at'.getD a default).2 = 2 ∧ (f.2.2 = 0 ∨ f.2.2 = 1)) ∨ (f.2.1 = 2 ∧ (at'.getD a default).2 = 3 ∧ f.2.2 = 0))
def FeatsOk (at' : List (ByteArray × Int)) (fs : List (Int × Int × Int)) (lb : Int) (k : Nat) : Prop :=
  (fs.map (·.1)).Pairwise (· < ·) ∧ (∀ f ∈ fs, FeatOk at' lb k f) ∧ (lb = -1 ∨ ∃ a : Nat, lb = (a : Int) ∧ a < k ∧ (at'.getD a default).2 = 2)
theorem attrsOk_snoc {at' : List (ByteArray × Int)} (h : AttrsOk at') {x : Int} (h1 : 1 ≤ x) (h2 : x ≤ 3) : AttrsOk (at' ++ [(nm 97 at'.length, x)]) := by
  intro j hj
  by_cases e : j < at'.length
  · rw [List.getElem_append_left e]; exact h j e
  · obtain rfl : j = at'.length := by simp at hj; omega
    simpa using ⟨h1, h2⟩
theorem relsOk_mono {rs : List (ByteArray × List Int)} {n m : Nat} (h : RelsOk rs n) (hm : n ≤ m) : RelsOk rs m := by
  intro j hj
  obtain ⟨h1, h2, h3, h4⟩ := h j hj
  exact ⟨h1, h2, h3, fun a ha => by have := h4 a ha; omega⟩
theorem relsOk_snoc {rs : List (ByteArray × List Int)} {n : Nat} (h : RelsOk rs n) {l : List Int} (h1 : l ≠ []) (h2 : l.Pairwise (· < ·)) (h3 : ∀ a ∈ l, 0 ≤ a ∧ a < n) : RelsOk (rs ++ [(nm 114 rs.length, l)]) n := by
  intro j hj
  by_cases e : j < rs.length
  · rw [List.getElem_append_left e]; exact h j e
  · obtain rfl : j = rs.length := by simp at hj; omega
    simpa using ⟨h1, h2, h3⟩
theorem asc_snoc {l : List Int} {x : Int} (h : l.Pairwise (· < ·)) (hx : ∀ a ∈ l, a < x) : (l ++ [x]).Pairwise (· < ·) := by
  rw [List.pairwise_append]
  exact ⟨h, by simp, fun a ha b hb => by simp at hb; rw [hb]; exact hx a ha⟩
theorem featsOk_next {at' : List (ByteArray × Int)} {fs : List (Int × Int × Int)} {lb : Int} {k : Nat} (h : FeatsOk at' fs lb k) : FeatsOk at' fs lb (k + 1) := by
  refine ⟨h.1, fun f hf => ?_, ?_⟩
  · obtain ⟨a, h1, h2, h3⟩ := h.2.1 f hf
    exact ⟨a, h1, by omega, h3⟩
  · rcases h.2.2 with h1 | ⟨a, h1, h2, h3⟩
    · exact .inl h1
    · exact .inr ⟨a, h1, by omega, h3⟩
theorem featsOk_label {at' : List (ByteArray × Int)} {fs : List (Int × Int × Int)} {k : Nat} {lb : Int} (h : FeatsOk at' fs lb k) (hk : (at'.getD k default).2 = 2) : FeatsOk at' fs (k : Int) (k + 1) := by
  refine ⟨h.1, fun f hf => ?_, .inr ⟨k, rfl, by omega, hk⟩⟩
  obtain ⟨a, h1, h2, _, h3⟩ := h.2.1 f hf
  exact ⟨a, h1, by omega, by omega, h3⟩
theorem featsOk_snoc {at' : List (ByteArray × Int)} {fs : List (Int × Int × Int)} {k : Nat} {lb : Int} (h : FeatsOk at' fs lb k) {x y : Int} (hlb : lb = -1 ∨ lb < k)
    (hk : (x = 1 ∧ (at'.getD k default).2 = 2 ∧ (y = 0 ∨ y = 1)) ∨ (x = 2 ∧ (at'.getD k default).2 = 3 ∧ y = 0)) : FeatsOk at' (fs ++ [((k : Int), x, y)]) lb (k + 1) := by
  refine ⟨?_, fun f hf => ?_, (featsOk_next h).2.2⟩
  · rw [List.map_append]
    refine asc_snoc h.1 fun a ha => ?_
    obtain ⟨f, hf, rfl⟩ := List.mem_map.1 ha
    obtain ⟨a, h1, h2, _⟩ := h.2.1 f hf
    show f.1 < (k : Int)
    omega
  · rcases List.mem_append.1 hf with hf | hf
    · exact (featsOk_next h).2.1 f hf
    · simp at hf
      subst hf
      exact ⟨k, rfl, by omega, by omega, hk⟩
theorem featsOk_lb {at' : List (ByteArray × Int)} {fs : List (Int × Int × Int)} {k : Nat} {lb : Int} (h : FeatsOk at' fs lb k) : -1 ≤ lb ∧ lb < k := by
  rcases h.2.2 with h1 | ⟨a, h1, h2, _⟩ <;> omega
theorem featsOk_len {at' : List (ByteArray × Int)} {fs : List (Int × Int × Int)} {k : Nat} {lb : Int} (h : FeatsOk at' fs lb k) : fs.length ≤ k := by
  have := asc_len (fs.map (·.1)) 0 (k - 1) h.1 (fun a ha => by
    obtain ⟨f, hf, rfl⟩ := List.mem_map.1 ha
    obtain ⟨a, h1, h2, _⟩ := h.2.1 f hf
    omega)
  simp at this
  omega
structure Made (S : Sch) (most : Nat) : Prop where
  a1 : 1 ≤ S.attrs.length
  a2 : S.attrs.length ≤ most
  r1 : 1 ≤ S.rels.length
  r2 : S.rels.length ≤ 3
  at' : AttrsOk S.attrs
  rs : RelsOk S.rels S.attrs.length
  cv : CoverOk S.rels S.attrs.length
  fs : FeatsOk S.attrs S.feats S.label S.attrs.length
theorem made_check {S : Sch} {most : Nat} (h : Made S most) (hm : most ≤ 8) : checkE S = 0 := by
  have hal := h.a2
  have hrl := h.r2
  have hA : scanE (attrE S) S.attrs.length = 0 := by
    rw [scanE_zero]
    intro k hk
    rw [attrE_eq S k hk]
    obtain ⟨h1, h2, h3⟩ := h.at' k hk
    rw [if_neg (by rw [h1, nm_word k (by omega)]; decide), if_neg, if_neg (by omega)]
    unfold hasB
    simp only [decide_eq_true_eq]
    intro hmem
    obtain ⟨j, hj, hjk⟩ := List.mem_take_iff_getElem.1 hmem
    have hj2 : j < S.attrs.length := by simp at hj; omega
    rw [List.getElem_map, (h.at' j hj2).1, h1] at hjk
    have := nm_inj j (by omega) k (by omega) hjk
    simp at hj; omega
  have hR : scanE (relE S) S.rels.length = 0 := by
    rw [scanE_zero]
    intro k hk
    rw [relE_eq2 S k hk]
    obtain ⟨h1, h2, h3, h4⟩ := h.rs k hk
    rw [if_neg (by rw [h1, nm_word_r k (by omega)]; decide), if_neg, if_neg h2, if_neg (by rw [rng_yes h4]; decide), if_neg (by rw [asc_of h3]; decide)]
    unfold hasB
    simp only [decide_eq_true_eq]
    intro hmem
    obtain ⟨j, hj, hjk⟩ := List.mem_take_iff_getElem.1 hmem
    have hj2 : j < S.rels.length := by simp at hj; omega
    rw [List.getElem_map, (h.rs j hj2).1, h1] at hjk
    have := nm_inj_r j (by omega) k (by omega) hjk
    simp at hj; omega
  have hRS : relsE S = 0 := by
    refine rels_zero hR ?_
    rw [List.all_eq_true]
    intro a ha
    obtain ⟨x, hx, hax⟩ := h.cv a (by simpa using ha)
    unfold usedB
    rw [List.any_eq_true]
    exact ⟨x, hx, by simpa [inB] using hax⟩
  have hfl := featsOk_len h.fs
  have hF : scanE (featE S) S.feats.length = 0 := by
    rw [scanE_zero]
    intro k hk
    rw [featE_eq2 S k hk]
    obtain ⟨a, h1, h2, h3, h4⟩ := h.fs.2.1 _ (List.getElem_mem hk)
    rw [h1, Int.toNat_natCast, if_neg (by omega), if_neg, if_neg]
    · rw [Bool.or_eq_true, not_or]
      refine ⟨by simpa using h3, ?_⟩
      rw [List.any_eq_true]
      rintro ⟨f, hf, hfa⟩
      obtain ⟨j, hj, rfl⟩ := List.mem_take_iff_getElem.1 hf
      have := List.pairwise_iff_getElem.1 h.fs.1 j k (by simp; omega) (by simpa using hk) (by omega)
      simp at this hfa
      omega
    · rcases h4 with ⟨g1, g2, g3⟩ | ⟨g1, g2, g3⟩
      · rw [g1, g2]
        rcases g3 with g3 | g3 <;> rw [g3] <;> decide
      · rw [g1, g2, g3]; decide
  have hlim : limB S := by unfold limB; have := h.a1; have := h.r1; omega
  rw [chk_label hlim hA hRS hF]
  have hlb := featsOk_lb h.fs
  rw [if_neg (by omega), if_neg]
  rintro ⟨g1, g2⟩
  rcases h.fs.2.2 with g3 | ⟨a, g3, g4, g5⟩
  · omega
  · rw [g3, Int.toNat_natCast] at g2
    exact g2 g5
def ListOk (l : List Int) (n : Nat) : Prop := l.Pairwise (· < ·) ∧ (∀ a ∈ l, 0 ≤ a ∧ a < n)
theorem ListOk.len {l : List Int} {n : Nat} (h : ListOk l n) : l.length ≤ n := by
  have := asc_len l 0 (n - 1) h.1 (fun a ha => by have := h.2 a ha; omega)
  omega
theorem ListOk.snoc {l : List Int} {n : Nat} (h : ListOk l n) : ListOk (l ++ [(n : Int)]) (n + 1) := by
  refine ⟨asc_snoc h.1 fun a ha => (h.2 a ha).2, fun a ha => ?_⟩
  rcases List.mem_append.1 ha with h1 | h1
  · have := h.2 a h1; omega
  · simp at h1; omega
theorem ListOk.mono {l : List Int} {n m : Nat} (h : ListOk l n) (hm : n ≤ m) : ListOk l m := ⟨h.1, fun a ha => by have := h.2 a ha; omega⟩
def HeadOk (at' : List (ByteArray × Int)) (rs : List (ByteArray × List Int)) (most k : Nat) : Prop :=
  AttrsOk at' ∧ RelsOk rs at'.length ∧ CoverOk rs at'.length ∧ at'.length ≤ most ∧ rs.length = k ∧ (1 ≤ k → 1 ≤ at'.length)
def MidOk (at' at2 : List (ByteArray × Int)) (l : List Int) (most : Nat) : Prop :=
  AttrsOk at2 ∧ at2.length ≤ most ∧ at'.length ≤ at2.length ∧ ListOk l at2.length ∧ ∀ a : Nat, at'.length ≤ a → a < at2.length → (a : Int) ∈ l
theorem mid_snoc {at' at2 : List (ByteArray × Int)} {l : List Int} {most : Nat} (h : MidOk at' at2 l most) (hm : at2.length < most) {x : Int} (hx : x ∈ [1, 2, 2, 3]) : MidOk at' (at2 ++ [(nm 97 at2.length, x)]) (l ++ [(at2.length : Int)]) most := by
  obtain ⟨h1, h2, h3, h4, h5⟩ := h
  refine ⟨attrsOk_snoc h1 (by simp at hx; omega) (by simp at hx; omega), by simp; omega, by simp; omega, by simpa using h4.snoc, fun a ha1 ha2 => ?_⟩
  by_cases e : a < at2.length
  · exact List.mem_append_left _ (h5 a ha1 e)
  · have : a = at2.length := by simp at ha2; omega
    subst this; simp
def EndOk (at' at2 : List (ByteArray × Int)) (l : List Int) (most : Nat) : Prop := MidOk at' at2 l most ∧ l ≠ [] ∧ 1 ≤ at2.length
theorem head_next {at' at2 : List (ByteArray × Int)} {rs : List (ByteArray × List Int)} {l : List Int} {most k : Nat} (h : HeadOk at' rs most k) (he : EndOk at' at2 l most) : HeadOk at2 (rs ++ [(nm 114 k, l)]) most (k + 1) := by
  obtain ⟨h1, h2, h3, h4, h5, h6⟩ := h
  obtain ⟨⟨g1, g2, g3, g4, g5⟩, g6, g7⟩ := he
  subst h5
  refine ⟨g1, relsOk_snoc (relsOk_mono h2 g3) g6 g4.1 g4.2, fun a ha => ?_, g2, by simp, fun _ => g7⟩
  by_cases e : a < at'.length
  · obtain ⟨x, hx, hax⟩ := h3 a e
    exact ⟨x, List.mem_append_left _ hx, hax⟩
  · exact ⟨(nm 114 rs.length, l), List.mem_append_right _ (by simp), g5 a (by omega) ha⟩
end Go.Proofs.YtkalgjnhaicabaaGreat.Mk
namespace Go.Proofs.YtkalgjnhaicabaaGreat
open Go.RowKit Mk
set_option maxRecDepth 100000
theorem letter_spec (p : ByteArray) (i : Nat) (hp : p.size ≤ 1000) (hi : i < 26) : FnP Tryz.prog 38 [.str p, .int .i64 i] (· = .str (p ++ chr (97 + i))) := by
  refine FnP.of Tryz.func38 rfl Tryz.ntmps38 (by simp) fun m0 w0 F R0 => ?_
  have hr : (i : Int).tmod 26 = i := Int.tmod_eq_of_lt (by omega) (by omega)
  have hb : (97 + i : Int) = ((UInt8.ofNat (97 + i)).toNat : Int) := by
    simp [Nat.mod_eq_of_lt (show 97 + i < 256 by omega)]
  repeat refine AW.seq ?_
  refine AW.region ?_
  refine A1 rfl ?_
  repeat refine AW.seq ?_
  refine AW.region ?_
  iterate 2 refine A1 rfl ?_
  refine RL.step (d := some 7) rfl rfl (XJ.cast (v' := .pv (.int .i64 i)) (xj_rem rfl rfl (by omega)) (by rw [hr])) ?_
  refine A1 rfl ?_
  refine RL.step (d := some 9) rfl rfl (XJ.cast (v' := .pv (.int .u8 (((UInt8.ofNat (97 + i)).toNat : Nat) : Int))) (xj_conv Tryz.underlying3 Tryz.underlying5 rfl) (by rw [← hb, IntWalk.u8_in _ (by omega)])) ?_
  refine A1 rfl ?_
  refine RL.step (d := some 11) rfl rfl (xj_toS [UInt8.ofNat (97 + i)] Tryz.underlying93 Tryz.underlying5 Tryz.underlying9 (.inr ⟨_, _, _, _, rfl, rfl, rfl⟩)) ?_
  refine RL.step (d := some 12) rfl rfl (xj_cat rfl rfl (show p.size + 1 ≤ _ by omega)) ?_
  refine A1 rfl ?_
  refine AW.ret ?_
  refine ⟨_, _, rfl, rfl, congrArg PV.str ?_⟩
  congr 1
end Go.Proofs.YtkalgjnhaicabaaGreat
namespace Go.Proofs.YtkalgjnhaicabaaGreat
open Go.RowKit Mk
set_option maxRecDepth 100000
theorem pick_specF (L : List Int) (k : Nat) (l : List Int) (hL : L.length ≤ 600) (hk : k ≤ L.length) (hl : l ≠ []) (hl2 : l.length ≤ 1000) : ∃ x ∈ l, FnM Tryz.prog 39 66 (srcC L k) [pints l] (fun v c => v = .int .i64 x ∧ c = srcC L (sNk L k)) := by
  have hpos : 0 < l.length := List.length_pos_iff.2 hl
  have hb := sNv_bd L k l.length (by omega)
  obtain ⟨j, hj⟩ := Int.eq_ofNat_of_zero_le hb.1
  have hjl : j < l.length := by omega
  refine ⟨l[j], List.getElem_mem hjl, ?_⟩
  refine FnM.of Tryz.func39 rfl Tryz.ntmps39 (by simp) rfl (by simp) fun m0 w0 F R0 => ?_
  have hv := pints_at hjl
  have hne := pints_ne hjl
  repeat refine AW.seq ?_
  refine AW.region ?_
  refine A1 rfl ?_
  repeat refine AW.seq ?_
  refine AW.region ?_
  iterate 4 refine A1 rfl ?_
  refine RL.step (d := some 9) rfl rfl (xj_callM Tryz.call26 (n_spec L k l.length hL hk (by omega) (by omega)) rfl rfl) ?_
  refine RL.step (d := some 10) rfl rfl (xj_indexAddr j Tryz.underlying22 sz3 rfl rfl hj hjl hne) ?_
  first | refine A2 rfl (by assumption) ?_ | refine A1 rfl ?_
  refine A1 rfl ?_
  refine AW.ret ?_
  exact ⟨_, srcC L (sNk L k), rfl, rfl, rfl, rfl⟩
theorem sNk_le {L : List Int} {k : Nat} (h : k ≤ L.length) : sNk L k ≤ L.length := by unfold sNk; split <;> omega
/-- The cells of lists of attributes, relations, features. -/
def attrsC (l : List (ByteArray × Int)) : List PV := l.flatMap fun a => [.str a.1, .int .i64 a.2]
def relsC (l : List (ByteArray × List Int)) : List PV := l.flatMap fun r => [.str r.1, pints r.2]
def featsC (l : List (Int × Int × Int)) : List PV := l.flatMap fun f => [.int .i64 f.1, .int .i64 f.2.1, .int .i64 f.2.2]
/-- A schema as a value. -/
abbrev schC (S : Sch) : List PV := [.sl none S.attrs.length (attrsC S.attrs), .sl none S.rels.length (relsC S.rels), .sl none S.feats.length (featsC S.feats), .int .i64 S.label]
abbrev schP (S : Sch) : PV := .agg (schC S)
theorem flat_len {α β : Type} (f : α → List β) (n : Nat) (h : ∀ a, (f a).length = n) : ∀ l : List α, (l.flatMap f).length = l.length * n
  | [] => by simp
  | a :: l => by rw [List.flatMap_cons, List.length_append, h, flat_len f n h l, List.length_cons, Nat.succ_mul, Nat.add_comm]
theorem flat_at {α β : Type} (f : α → List β) (n : Nat) (h : ∀ a, (f a).length = n) : ∀ (l : List α) (k j : Nat) (hk : k < l.length), j < n → (l.flatMap f)[k * n + j]? = (f l[k])[j]?
  | [], _, _, hk, _ => by simp at hk
  | a :: l, 0, j, _, hj => by
    rw [List.flatMap_cons, Nat.zero_mul, Nat.zero_add, List.getElem?_append_left (by rw [h]; exact hj)]
    rfl
  | a :: l, k + 1, j, hk, hj => by
    rw [List.flatMap_cons, List.getElem?_append_right (by rw [h, Nat.succ_mul]; omega), h, show (k + 1) * n + j - n = k * n + j by rw [Nat.succ_mul]; omega]
    rw [flat_at f n h l k j (by simpa using hk) hj]
    simp
theorem attrsC_len (l : List (ByteArray × Int)) : (attrsC l).length = l.length * 2 := flat_len _ 2 (fun _ => rfl) l
theorem relsC_len (l : List (ByteArray × List Int)) : (relsC l).length = l.length * 2 := flat_len _ 2 (fun _ => rfl) l
theorem featsC_len (l : List (Int × Int × Int)) : (featsC l).length = l.length * 3 := flat_len _ 3 (fun _ => rfl) l
theorem attrsC_snoc (l : List (ByteArray × Int)) (x : ByteArray × Int) : attrsC (l ++ [x]) = attrsC l ++ [.str x.1, .int .i64 x.2] := by simp [attrsC]
theorem relsC_snoc (l : List (ByteArray × List Int)) (x : ByteArray × List Int) : relsC (l ++ [x]) = relsC l ++ [.str x.1, pints x.2] := by simp [relsC]
theorem featsC_snoc (l : List (Int × Int × Int)) (x : Int × Int × Int) : featsC (l ++ [x]) = featsC l ++ [.int .i64 x.1, .int .i64 x.2.1, .int .i64 x.2.2] := by simp [featsC]
theorem ints_snoc (l : List Int) (x : Int) : intsP (l ++ [x]) = intsP l ++ [.int .i64 x] := by simp
abbrev zSch : Ob := .mix 27 [.pv (.sl (some true) 0 []), .pv (.sl (some true) 0 []), .pv (.sl (some true) 0 []), .pv (.int .i64 0)]
abbrev schO (a r f : Nat) (lb : Int) : Ob := .mix 27 [.gsl 2 2 a, .gsl 3 2 r, .gsl 4 3 f, .pv (.int .i64 lb)]
theorem flat_row {α β : Type} (f : α → List β) (n : Nat) (h : ∀ a, (f a).length = n) : ∀ (l : List α) (k : Nat) (hk : k < l.length), ((l.flatMap f).drop (k * n)).take n = f l[k]
  | [], _, hk => by simp at hk
  | a :: l, 0, _ => by
    rw [List.flatMap_cons, Nat.zero_mul, List.drop_zero, List.take_append_of_le_length (by rw [h]; exact Nat.le_refl _), List.take_of_length_le (by rw [h]; exact Nat.le_refl _)]
    rfl
  | a :: l, k + 1, hk => by
    rw [List.flatMap_cons, List.drop_append, List.drop_of_length_le (by rw [h, Nat.succ_mul]; omega), List.nil_append, h, show (k + 1) * n - n = k * n by rw [Nat.succ_mul]; omega]
    rw [flat_row f n h l k (by simpa using hk)]
    simp
set_option maxHeartbeats 4000000 in
theorem schema_spec (L : List Int) (k0 most : Nat) (hL : L.length ≤ 600) (hk0 : k0 ≤ L.length) (hm1 : 1 ≤ most) (hm2 : most ≤ 8) : FnM Tryz.prog 8 66 (srcC L k0) [.int .i64 most] (fun v c => (∃ S, Made S most ∧ v = schP S) ∧ ∃ k', k' ≤ L.length ∧ c = srcC L k') := by
  refine FnM.ofC (rt := 27) (k := 4) Tryz.func8 rfl Tryz.ntmps8 (by simp) rfl (by simp) ⟨_, Tryz.underlying27, rfl⟩ sz27 fun m0 w0 F R0 => ?_
  have hb := sNv_bd L k0 3 (by omega)
  obtain ⟨nn, hnn⟩ := Int.eq_ofNat_of_zero_le (show 0 ≤ 1 + sNv L k0 3 by omega)
  have hk1 := sNk_le hk0
  generalize hke : sNk L k0 = k1 at hk1
  repeat refine AW.seq ?_
  refine AW.region ?_
  refine A1 rfl ?_
  repeat refine AW.seq ?_
  refine AW.region ?_
  iterate 3 refine A1 rfl ?_
  repeat refine AW.seq ?_
  refine AW.region ?_
  refine A1 rfl ?_
  refine RL.step (d := some 15) rfl rfl (XJ.cast (v' := .pv (.int .i64 nn)) (xj_callM Tryz.call37 (range_spec L k0 1 3 hL hk0 (by omega) (by omega) (by omega)) rfl rfl) (by rw [← hnn]; rfl)) ?_
  refine A1 rfl ?_
  rw [hke]
  refine AW.weaken (St.le_groC 1 0 2 2 71 rfl rfl rfl) ?_
  refine AW.weaken (St.le_groC 1 1 3 2 62 rfl rfl rfl) ?_
  refine AW.weaken (St.le_groC 1 2 4 3 73 rfl rfl rfl) ?_
  repeat refine AW.seq ?_
  refine AW.region ?_
  refine A1 rfl ?_
  refine AW.block ?_
  refine AW.loop (st := fun x : Nat × List (ByteArray × Int) × List (ByteArray × List Int) × Nat => mkS [(0, .ptr big 0), (1, .pv (.int .i64 most)), (4, .ptr 0 0), (5, .ptr 1 0), (6, .pv (.int .i64 nn)), (7, .pv (.int .i64 x.1))] [(big, srcO L x.2.2.2), (0, zSch), (1, schO x.2.1.length x.2.2.1.length 0 (-1)), (2, .gro 71 (attrsC x.2.1)), (3, .gro 62 (relsC x.2.2.1)), (4, .gro 73 [])] 5)
    (I := fun x => x.1 ≤ nn ∧ HeadOk x.2.1 x.2.2.1 most x.1 ∧ x.2.2.2 ≤ L.length) (μ := fun x => nn - x.1) (x0 := (0, [], [], k1)) (St.le_mk ⟨rfl, rfl, rfl, rfl, rfl, rfl, trivial⟩ ⟨rfl, rfl, rfl, rfl, rfl, rfl, trivial⟩ rfl rfl) ⟨Nat.zero_le _, ⟨fun j hj => by simp at hj, fun j hj => by simp at hj, fun a ha => by simp at ha, by simp, rfl, fun h => by omega⟩, hk1⟩ ?_
  rintro ⟨k, at', rs, k2⟩ ⟨hk, hhead, hk2⟩
  simp only at hk hhead hk2 ⊢
  have hal : at'.length ≤ most := hhead.2.2.2.1
  have hrl : rs.length = k := hhead.2.2.2.2.1
  have hAl := attrsC_len at'
  have hRl := relsC_len rs
  repeat refine AW.seq ?_
  refine AW.region ?_
  iterate 3 refine A1 rfl ?_
  refine AW.condP rfl (fun hc => ?_) (fun hc => ?_)
  · refine AW.skip ?_
    repeat refine AW.seq ?_
    refine AW.block ?_
    repeat refine AW.seq ?_
    refine AW.region ?_
    refine A1 rfl ?_
    refine AW.weaken (St.le_gro 8 5 1 3 rfl rfl) ?_
    repeat refine AW.seq ?_
    refine AW.region ?_
    iterate 4 refine A1 rfl ?_
    refine AW.block ?_
    refine AW.loop (st := fun x : Nat × List Int × Nat => mkS [(0, .ptr big 0), (1, .pv (.int .i64 most)), (4, .ptr 0 0), (5, .ptr 1 0), (6, .pv (.int .i64 nn)), (7, .pv (.int .i64 k)), (8, .gsl 5 1 x.2.1.length), (23, .pv (.int .i64 at'.length)), (24, .pv (.int .i64 x.1))] [(big, srcO L x.2.2), (0, zSch), (1, schO at'.length rs.length 0 (-1)), (2, .gro 71 (attrsC at')), (3, .gro 62 (relsC rs)), (4, .gro 73 []), (5, .gro 3 (intsP x.2.1))] 6)
      (I := fun x => x.1 ≤ at'.length ∧ ListOk x.2.1 x.1 ∧ x.2.2 ≤ L.length) (μ := fun x => at'.length - x.1) (x0 := (0, [], k2)) (St.le_mk ⟨rfl, rfl, rfl, rfl, rfl, rfl, rfl, rfl, rfl, trivial⟩ ⟨rfl, rfl, rfl, rfl, rfl, rfl, rfl, trivial⟩ rfl rfl) ⟨Nat.zero_le _, ⟨by simp, by simp⟩, hk2⟩ ?_
    rintro ⟨j, l, k3⟩ ⟨hj, hlok, hk3⟩
    simp only at hj hlok hk3 ⊢
    have hll := hlok.len
    repeat refine AW.seq ?_
    refine AW.region ?_
    refine A1 rfl ?_
    repeat refine AW.seq ?_
    refine AW.condP rfl (fun hc => ?_) (fun hc => ?_)
    · refine AW.skip ?_
      repeat refine AW.seq ?_
      refine AW.block ?_
      repeat refine AW.seq ?_
      refine AW.region ?_
      iterate 2 refine A1 rfl ?_
      repeat refine AW.seq ?_
      refine AW.region ?_
      refine A1 rfl ?_
      refine RL.step (d := some 28) rfl rfl (xj_callM Tryz.call26 (n_spec L k3 3 hL hk3 (by omega) (by omega)) rfl rfl) ?_
      refine A1 rfl ?_
      refine AW.cond rfl (fun hc => ?_) (fun hc => ?_)
      · repeat refine AW.seq ?_
        refine AW.region ?_
        iterate 5 refine A1 rfl ?_
        repeat refine AW.seq ?_
        refine AW.region ?_
        iterate 2 refine A1 rfl ?_
        exact ⟨(j + 1, l ++ [(j : Int)], sNk L k3), St.le_mkR [0, 1, 2, 3, 4, 7] ⟨rfl, rfl, rfl, rfl, rfl, rfl, by simp; rfl, rfl, rfl, trivial⟩ ⟨rfl, rfl, rfl, rfl, rfl, rfl, by rw [ints_snoc]; rfl, trivial⟩ rfl rfl (by simp) rfl, ⟨by omega, hlok.snoc, sNk_le hk3⟩, by omega⟩
      · refine AW.skip ?_
        repeat refine AW.seq ?_
        refine AW.region ?_
        iterate 2 refine A1 rfl ?_
        exact ⟨(j + 1, l, sNk L k3), St.le_mk ⟨rfl, rfl, rfl, rfl, rfl, rfl, rfl, rfl, rfl, trivial⟩ ⟨rfl, rfl, rfl, rfl, rfl, rfl, rfl, trivial⟩ rfl rfl, ⟨by omega, hlok.mono (by omega), sNk_le hk3⟩, by omega⟩
    · obtain rfl : j = at'.length := by omega
      refine AW.exit ?_
      have hb2 := sNv_bd L k3 3 (by omega)
      repeat refine AW.seq ?_
      refine AW.region ?_
      refine A1 rfl ?_
      refine RL.step (d := some 36) rfl rfl (xj_callM Tryz.call26 (n_spec L k3 3 hL hk3 (by omega) (by omega)) rfl rfl) ?_
      refine A1 rfl ?_
      refine AW.block ?_
      refine AW.loop (st := fun x : List (ByteArray × Int) × List Int × Int × Nat => mkS [(0, .ptr big 0), (1, .pv (.int .i64 most)), (4, .ptr 0 0), (5, .ptr 1 0), (6, .pv (.int .i64 nn)), (7, .pv (.int .i64 k)), (8, .gsl 5 1 x.2.1.length), (10, .pv (.int .i64 x.2.2.1))] [(big, srcO L x.2.2.2), (0, zSch), (1, schO x.1.length rs.length 0 (-1)), (2, .gro 71 (attrsC x.1)), (3, .gro 62 (relsC rs)), (4, .gro 73 []), (5, .gro 3 (intsP x.2.1))] 6)
        (I := fun x => MidOk at' x.1 x.2.1 most ∧ -1000 + x.1.length * (-1) ≤ x.2.2.1 ∧ x.2.2.1 ≤ 1000 ∧ x.2.2.2 ≤ L.length) (μ := fun x => most - x.1.length) (x0 := (at', l, sNv L k3 3, sNk L k3)) (St.le_mk ⟨rfl, rfl, rfl, rfl, rfl, rfl, rfl, rfl, trivial⟩ ⟨rfl, rfl, rfl, rfl, rfl, rfl, rfl, trivial⟩ rfl rfl) ⟨⟨hhead.1, hal, Nat.le_refl _, hlok, fun a h1 h2 => absurd h2 (Nat.not_lt.2 h1)⟩, by simp only; omega, by simp only; omega, sNk_le hk3⟩ ?_
      clear hlok hll hb2 hk3
      rintro ⟨at2, l, c, k3⟩ ⟨hmid, hc1, hc2, hk3⟩
      simp only at hmid hc1 hc2 hk3 ⊢
      have hal2 : at2.length ≤ most := hmid.2.1
      have hll := hmid.2.2.2.1.len
      have hAl2 := attrsC_len at2
      obtain ⟨px, hpx, hpick⟩ := pick_specF L k3 [1, 2, 2, 3] hL hk3 (by simp) (by simp)
      by_cases hcp : 0 < c
      · repeat refine AW.seq ?_
        refine AW.region ?_
        refine A1 rfl ?_
        refine RL.step (d := some 38) rfl rfl (XJ.cast (v' := .pv (.bool true)) (xj_bin rfl rfl rfl) (by simp; omega)) ?_
        iterate 12 refine A1 rfl ?_
        refine AW.condP rfl (fun hc => ?_) (fun hc => ?_)
        · refine AW.skip ?_
          repeat refine AW.seq ?_
          refine AW.block ?_
          repeat refine AW.seq ?_
          refine AW.region ?_
          iterate 7 refine A1 rfl ?_
          repeat refine AW.seq ?_
          refine AW.draw follows [[], [0], [], [2], [3, 2], [4, 3, 2], [], [], [5, 7, 6, 4, 3, 2], [8, 5, 4, 3, 2, 7, 6], [9, 8, 5, 4, 3, 2, 7, 6], [10, 1, 0, 9, 8, 5, 4, 3, 2, 7, 6], [11, 10, 9, 8, 7, 6, 5, 4, 3, 2, 1, 0], [12, 11, 10, 9, 8, 7, 6, 5, 4, 3, 2, 1, 0]] [0, 1, 2, 3, 4, 5, 6, 7, 8, 9, 10, 11, 12, 13] (by kernel_rfl) (by kernel_rfl) ?_
          iterate 5 refine D1 rfl rfl ?_
          refine DL.step (d := some 64) [] rfl rfl rfl (fun τ h => xj_call Tryz.call38 (letter_spec ⟨#[97]⟩ at2.length (by decide) (by omega)) (h.argsP rfl)) rfl (by kernel_rfl) ?_
          refine D1 rfl rfl ?_
          refine DL.step (d := some 66) [] rfl rfl rfl (fun τ h => xj_buildSliceP none (by simp) el22 rfl (by decide) (by decide) (h.fillS rfl rfl) rfl) rfl (by kernel_rfl) ?_
          refine DL.step (d := some 67) [_] rfl rfl rfl (fun τ h => xj_callM Tryz.call39 hpick (h.args.trans rfl) ((h.o 0 _ rfl).trans rfl)) rfl (by kernel_rfl) ?_
          iterate 5 refine D1 rfl rfl ?_
          refine ⟨by kernel_rfl, ?_⟩
          repeat refine AW.seq ?_
          refine AW.region ?_
          iterate 3 refine A1 rfl ?_
          refine ⟨(at2 ++ [(nm 97 at2.length, px)], l ++ [(at2.length : Int)], c - 1, sNk L k3), St.le_mkR [0, 1, 9, 3, 4, 7] ⟨rfl, rfl, rfl, rfl, rfl, rfl, by simp; rfl, rfl, trivial⟩ ⟨rfl, rfl, by simp; rfl, by rw [attrsC_snoc]; rfl, rfl, rfl, by rw [ints_snoc]; rfl, trivial⟩ rfl rfl (by simp) rfl, ⟨mid_snoc hmid (by omega) hpx, by simp only [List.length_append, List.length_singleton]; omega, by simp only; omega, sNk_le hk3⟩, ?_⟩
          simp only [List.length_append, List.length_singleton]
          omega
        · refine AW.exit ?_
          refine AW.cut (st := fun l : List Int => mkS [(0, .ptr big 0), (1, .pv (.int .i64 most)), (4, .ptr 0 0), (5, .ptr 1 0), (6, .pv (.int .i64 nn)), (7, .pv (.int .i64 k)), (8, .pv (pints l))] [(big, srcO L k3), (0, zSch), (1, schO at2.length rs.length 0 (-1)), (2, .gro 71 (attrsC at2)), (3, .gro 62 (relsC rs)), (4, .gro 73 [])] 5) (I := fun l => EndOk at' at2 l most) ?_ ?_
          · repeat refine AW.seq ?_
            refine AW.region ?_
            iterate 3 refine A1 rfl ?_
            have hfin : l.length = 0 → most ≤ at2.length := by omega
            refine AW.cond rfl (fun hc => ?_) (fun hc => ?_)
            · have hl0' : l = [] := List.eq_nil_of_length_eq_zero (by simpa using hc)
              subst hl0'
              have hf := hfin rfl
              repeat refine AW.seq ?_
              refine AW.region ?_
              refine RL.step (d := some 75) rfl rfl (xj_buildSliceP none (by simp) el22 rfl (by decide) (by decide) rfl rfl) ?_
              refine A1 rfl ?_
              exact ⟨[0], St.le_mk ⟨rfl, rfl, rfl, rfl, rfl, rfl, rfl, trivial⟩ ⟨rfl, rfl, rfl, rfl, rfl, rfl, trivial⟩ rfl rfl, ⟨hmid.1, hmid.2.1, hmid.2.2.1, ⟨by simp, by simp; omega⟩, fun a h1 h2 => absurd (hmid.2.2.2.2 a h1 h2) (by simp)⟩, by simp, by omega⟩
            · have hne : l ≠ [] := fun e => by subst e; simp at hc
              have hpos : 0 < l.length := List.length_pos_iff.2 hne
              refine AW.skip ?_
              exact ⟨l, St.le.trans (St.le_pubA 5 rfl rfl) (St.le_mk ⟨rfl, rfl, rfl, rfl, rfl, rfl, by simp [pints]; rfl, trivial⟩ ⟨rfl, rfl, rfl, rfl, rfl, rfl, trivial⟩ rfl rfl), hmid, hne, by omega⟩
          · intro l2 hend
            repeat refine AW.seq ?_
            refine AW.draw follows [[], [0], [], [2], [], [4, 3, 2], [5, 4, 3, 2], [6, 1, 0, 5, 4, 3, 2], [7, 6, 5, 4, 3, 2, 1, 0], [8, 7, 6, 5, 4, 3, 2, 1, 0]] [0, 1, 2, 3, 4, 5, 6, 7, 8, 9] (by kernel_rfl) (by kernel_rfl) ?_
            iterate 3 refine D1 rfl rfl ?_
            refine DL.step (d := some 79) [] rfl rfl rfl (fun τ h => xj_call Tryz.call38 (letter_spec ⟨#[114]⟩ k (by decide) (by omega)) (h.argsP rfl)) rfl (by kernel_rfl) ?_
            iterate 6 refine D1 rfl rfl ?_
            refine ⟨by kernel_rfl, ?_⟩
            repeat refine AW.seq ?_
            refine AW.region ?_
            iterate 3 refine A1 rfl ?_
            refine ⟨(k + 1, at2, rs ++ [(nm 114 k, l2)], k3), St.le_mkR [0, 1, 2, 6, 4] ⟨rfl, rfl, rfl, rfl, rfl, rfl, trivial⟩ ⟨rfl, rfl, by simp; rfl, rfl, by rw [relsC_snoc]; rfl, rfl, trivial⟩ rfl rfl (by simp) rfl, ⟨by simp only; omega, head_next hhead hend, hk3⟩, by simp only; omega⟩
      · by_cases hl0 : l.length = 0
        · repeat refine AW.seq ?_
          refine AW.region ?_
          refine A1 rfl ?_
          refine RL.step (d := some 38) rfl rfl (XJ.cast (v' := .pv (.bool false)) (xj_bin rfl rfl rfl) (by simp; omega)) ?_
          iterate 3 refine A1 rfl ?_
          refine RL.stepG (d := some 42) rfl rfl rfl (XJ.cast (v' := .pv (.bool true)) (xj_bin rfl rfl rfl) (by simp [hl0])) ?_
          iterate 8 refine A1 rfl ?_
          refine AW.condP rfl (fun hc => ?_) (fun hc => ?_)
          · refine AW.skip ?_
            repeat refine AW.seq ?_
            refine AW.block ?_
            repeat refine AW.seq ?_
            refine AW.region ?_
            iterate 7 refine A1 rfl ?_
            repeat refine AW.seq ?_
            refine AW.draw follows [[], [0], [], [2], [3, 2], [4, 3, 2], [], [], [5, 7, 6, 4, 3, 2], [8, 5, 4, 3, 2, 7, 6], [9, 8, 5, 4, 3, 2, 7, 6], [10, 1, 0, 9, 8, 5, 4, 3, 2, 7, 6], [11, 10, 9, 8, 7, 6, 5, 4, 3, 2, 1, 0], [12, 11, 10, 9, 8, 7, 6, 5, 4, 3, 2, 1, 0]] [0, 1, 2, 3, 4, 5, 6, 7, 8, 9, 10, 11, 12, 13] (by kernel_rfl) (by kernel_rfl) ?_
            iterate 5 refine D1 rfl rfl ?_
            refine DL.step (d := some 64) [] rfl rfl rfl (fun τ h => xj_call Tryz.call38 (letter_spec ⟨#[97]⟩ at2.length (by decide) (by omega)) (h.argsP rfl)) rfl (by kernel_rfl) ?_
            refine D1 rfl rfl ?_
            refine DL.step (d := some 66) [] rfl rfl rfl (fun τ h => xj_buildSliceP none (by simp) el22 rfl (by decide) (by decide) (h.fillS rfl rfl) rfl) rfl (by kernel_rfl) ?_
            refine DL.step (d := some 67) [_] rfl rfl rfl (fun τ h => xj_callM Tryz.call39 hpick (h.args.trans rfl) ((h.o 0 _ rfl).trans rfl)) rfl (by kernel_rfl) ?_
            iterate 5 refine D1 rfl rfl ?_
            refine ⟨by kernel_rfl, ?_⟩
            repeat refine AW.seq ?_
            refine AW.region ?_
            iterate 3 refine A1 rfl ?_
            refine ⟨(at2 ++ [(nm 97 at2.length, px)], l ++ [(at2.length : Int)], c - 1, sNk L k3), St.le_mkR [0, 1, 9, 3, 4, 7] ⟨rfl, rfl, rfl, rfl, rfl, rfl, by simp; rfl, rfl, trivial⟩ ⟨rfl, rfl, by simp; rfl, by rw [attrsC_snoc]; rfl, rfl, rfl, by rw [ints_snoc]; rfl, trivial⟩ rfl rfl (by simp) rfl, ⟨mid_snoc hmid (by omega) hpx, by simp only [List.length_append, List.length_singleton]; omega, by simp only; omega, sNk_le hk3⟩, ?_⟩
            simp only [List.length_append, List.length_singleton]
            omega
          · refine AW.exit ?_
            refine AW.cut (st := fun l : List Int => mkS [(0, .ptr big 0), (1, .pv (.int .i64 most)), (4, .ptr 0 0), (5, .ptr 1 0), (6, .pv (.int .i64 nn)), (7, .pv (.int .i64 k)), (8, .pv (pints l))] [(big, srcO L k3), (0, zSch), (1, schO at2.length rs.length 0 (-1)), (2, .gro 71 (attrsC at2)), (3, .gro 62 (relsC rs)), (4, .gro 73 [])] 5) (I := fun l => EndOk at' at2 l most) ?_ ?_
            · repeat refine AW.seq ?_
              refine AW.region ?_
              iterate 3 refine A1 rfl ?_
              have hfin : l.length = 0 → most ≤ at2.length := by omega
              refine AW.cond rfl (fun hc => ?_) (fun hc => ?_)
              · have hl0' : l = [] := List.eq_nil_of_length_eq_zero (by simpa using hc)
                subst hl0'
                have hf := hfin rfl
                repeat refine AW.seq ?_
                refine AW.region ?_
                refine RL.step (d := some 75) rfl rfl (xj_buildSliceP none (by simp) el22 rfl (by decide) (by decide) rfl rfl) ?_
                refine A1 rfl ?_
                exact ⟨[0], St.le_mk ⟨rfl, rfl, rfl, rfl, rfl, rfl, rfl, trivial⟩ ⟨rfl, rfl, rfl, rfl, rfl, rfl, trivial⟩ rfl rfl, ⟨hmid.1, hmid.2.1, hmid.2.2.1, ⟨by simp, by simp; omega⟩, fun a h1 h2 => absurd (hmid.2.2.2.2 a h1 h2) (by simp)⟩, by simp, by omega⟩
              · have hne : l ≠ [] := fun e => by subst e; simp at hc
                have hpos : 0 < l.length := List.length_pos_iff.2 hne
                refine AW.skip ?_
                exact ⟨l, St.le.trans (St.le_pubA 5 rfl rfl) (St.le_mk ⟨rfl, rfl, rfl, rfl, rfl, rfl, by simp [pints]; rfl, trivial⟩ ⟨rfl, rfl, rfl, rfl, rfl, rfl, trivial⟩ rfl rfl), hmid, hne, by omega⟩
            · intro l2 hend
              repeat refine AW.seq ?_
              refine AW.draw follows [[], [0], [], [2], [], [4, 3, 2], [5, 4, 3, 2], [6, 1, 0, 5, 4, 3, 2], [7, 6, 5, 4, 3, 2, 1, 0], [8, 7, 6, 5, 4, 3, 2, 1, 0]] [0, 1, 2, 3, 4, 5, 6, 7, 8, 9] (by kernel_rfl) (by kernel_rfl) ?_
              iterate 3 refine D1 rfl rfl ?_
              refine DL.step (d := some 79) [] rfl rfl rfl (fun τ h => xj_call Tryz.call38 (letter_spec ⟨#[114]⟩ k (by decide) (by omega)) (h.argsP rfl)) rfl (by kernel_rfl) ?_
              iterate 6 refine D1 rfl rfl ?_
              refine ⟨by kernel_rfl, ?_⟩
              repeat refine AW.seq ?_
              refine AW.region ?_
              iterate 3 refine A1 rfl ?_
              refine ⟨(k + 1, at2, rs ++ [(nm 114 k, l2)], k3), St.le_mkR [0, 1, 2, 6, 4] ⟨rfl, rfl, rfl, rfl, rfl, rfl, trivial⟩ ⟨rfl, rfl, by simp; rfl, rfl, by rw [relsC_snoc]; rfl, rfl, trivial⟩ rfl rfl (by simp) rfl, ⟨by simp only; omega, head_next hhead hend, hk3⟩, by simp only; omega⟩
        · have hlb : ((l.length : Int) == 0) = false := by rw [beq_eq_false_iff_ne]; omega
          repeat refine AW.seq ?_
          refine AW.region ?_
          refine A1 rfl ?_
          refine RL.step (d := some 38) rfl rfl (XJ.cast (v' := .pv (.bool false)) (xj_bin rfl rfl rfl) (by simp; omega)) ?_
          iterate 3 refine A1 rfl ?_
          refine RL.stepG (d := some 42) rfl rfl rfl (XJ.cast (v' := .pv (.bool false)) (xj_bin rfl rfl rfl) (by rw [hlb])) ?_
          iterate 8 refine A1 rfl ?_
          refine AW.cond rfl (fun hc => absurd hc (by simp)) (fun hc => ?_)
          refine AW.exit ?_
          refine AW.cut (st := fun l : List Int => mkS [(0, .ptr big 0), (1, .pv (.int .i64 most)), (4, .ptr 0 0), (5, .ptr 1 0), (6, .pv (.int .i64 nn)), (7, .pv (.int .i64 k)), (8, .pv (pints l))] [(big, srcO L k3), (0, zSch), (1, schO at2.length rs.length 0 (-1)), (2, .gro 71 (attrsC at2)), (3, .gro 62 (relsC rs)), (4, .gro 73 [])] 5) (I := fun l => EndOk at' at2 l most) ?_ ?_
          · repeat refine AW.seq ?_
            refine AW.region ?_
            iterate 3 refine A1 rfl ?_
            have hfin : l.length = 0 → most ≤ at2.length := by omega
            refine AW.cond rfl (fun hc => ?_) (fun hc => ?_)
            · have hl0' : l = [] := List.eq_nil_of_length_eq_zero (by simpa using hc)
              subst hl0'
              have hf := hfin rfl
              repeat refine AW.seq ?_
              refine AW.region ?_
              refine RL.step (d := some 75) rfl rfl (xj_buildSliceP none (by simp) el22 rfl (by decide) (by decide) rfl rfl) ?_
              refine A1 rfl ?_
              exact ⟨[0], St.le_mk ⟨rfl, rfl, rfl, rfl, rfl, rfl, rfl, trivial⟩ ⟨rfl, rfl, rfl, rfl, rfl, rfl, trivial⟩ rfl rfl, ⟨hmid.1, hmid.2.1, hmid.2.2.1, ⟨by simp, by simp; omega⟩, fun a h1 h2 => absurd (hmid.2.2.2.2 a h1 h2) (by simp)⟩, by simp, by omega⟩
            · have hne : l ≠ [] := fun e => by subst e; simp at hc
              have hpos : 0 < l.length := List.length_pos_iff.2 hne
              refine AW.skip ?_
              exact ⟨l, St.le.trans (St.le_pubA 5 rfl rfl) (St.le_mk ⟨rfl, rfl, rfl, rfl, rfl, rfl, by simp [pints]; rfl, trivial⟩ ⟨rfl, rfl, rfl, rfl, rfl, rfl, trivial⟩ rfl rfl), hmid, hne, by omega⟩
          · intro l2 hend
            repeat refine AW.seq ?_
            refine AW.draw follows [[], [0], [], [2], [], [4, 3, 2], [5, 4, 3, 2], [6, 1, 0, 5, 4, 3, 2], [7, 6, 5, 4, 3, 2, 1, 0], [8, 7, 6, 5, 4, 3, 2, 1, 0]] [0, 1, 2, 3, 4, 5, 6, 7, 8, 9] (by kernel_rfl) (by kernel_rfl) ?_
            iterate 3 refine D1 rfl rfl ?_
            refine DL.step (d := some 79) [] rfl rfl rfl (fun τ h => xj_call Tryz.call38 (letter_spec ⟨#[114]⟩ k (by decide) (by omega)) (h.argsP rfl)) rfl (by kernel_rfl) ?_
            iterate 6 refine D1 rfl rfl ?_
            refine ⟨by kernel_rfl, ?_⟩
            repeat refine AW.seq ?_
            refine AW.region ?_
            iterate 3 refine A1 rfl ?_
            refine ⟨(k + 1, at2, rs ++ [(nm 114 k, l2)], k3), St.le_mkR [0, 1, 2, 6, 4] ⟨rfl, rfl, rfl, rfl, rfl, rfl, trivial⟩ ⟨rfl, rfl, by simp; rfl, rfl, by rw [relsC_snoc]; rfl, rfl, trivial⟩ rfl rfl (by simp) rfl, ⟨by simp only; omega, head_next hhead hend, hk3⟩, by simp only; omega⟩
  · obtain rfl : k = nn := by omega
    have ha1 : 1 ≤ at'.length := hhead.2.2.2.2.2 (by omega)
    refine AW.exit ?_
    refine AW.weaken (St.le_pubA 2 rfl rfl) ?_
    refine AW.weaken (St.le_pubA 3 rfl rfl) ?_
    repeat refine AW.seq ?_
    refine AW.region ?_
    iterate 4 refine A1 rfl ?_
    refine AW.block ?_
    refine AW.loop (st := fun x : Nat × List (Int × Int × Int) × Int × Nat => mkS [(0, .ptr big 0), (4, .ptr 0 0), (5, .ptr 1 0), (86, .pv (.sl none at'.length (attrsC at'))), (87, .pv (.int .i64 at'.length)), (88, .pv (.int .i64 x.1))] [(big, srcO L x.2.2.2), (0, zSch), (1, .mix 27 [.pv (.sl none at'.length (attrsC at')), .pv (.sl none rs.length (relsC rs)), .gsl 2 3 x.2.1.length, .pv (.int .i64 x.2.2.1)]), (2, .gro 73 (featsC x.2.1))] 3)
      (I := fun x => x.1 ≤ at'.length ∧ FeatsOk at' x.2.1 x.2.2.1 x.1 ∧ x.2.2.2 ≤ L.length) (μ := fun x => at'.length - x.1) (x0 := (0, [], -1, k2)) (St.le_mkR [0, 1, 4] ⟨rfl, rfl, rfl, rfl, rfl, rfl, trivial⟩ ⟨rfl, rfl, rfl, rfl, trivial⟩ rfl rfl (by simp) rfl) ⟨Nat.zero_le _, ⟨by simp, by simp, .inl rfl⟩, hk2⟩ ?_
    rintro ⟨j, fs, lb, k3⟩ ⟨hj, hfs, hk3⟩
    simp only at hj hfs hk3 ⊢
    have hFl := featsC_len fs
    have hfl := featsOk_len hfs
    have hlb := featsOk_lb hfs
    repeat refine AW.seq ?_
    refine AW.region ?_
    refine A1 rfl ?_
    repeat refine AW.seq ?_
    refine AW.condP rfl (fun hc => ?_) (fun hc => ?_)
    · have hjl : j < at'.length := by omega
      have hne : attrsC at' ≠ [] := fun e => by rw [e] at hAl; simp at hAl; omega
      have hrow : ((attrsC at').drop (j * 2)).take 2 = [.str at'[j].1, .int .i64 at'[j].2] := flat_row _ 2 (fun _ => rfl) at' j hjl
      have hgd : (at'.getD j default).2 = at'[j].2 := by simp [List.getD, hjl]
      refine AW.skip ?_
      repeat refine AW.seq ?_
      refine AW.block ?_
      repeat refine AW.seq ?_
      refine AW.region ?_
      iterate 2 refine A1 rfl ?_
      refine RL.step (d := some 92) rfl rfl (xj_loadAR ⟨_, Tryz.underlying71, rfl⟩ sz71 rfl hrow rfl) ?_
      iterate 3 refine A1 rfl ?_
      refine AW.block ?_
      generalize at'[j].2 = K at hgd ⊢
      generalize at'[j].1 = nme
      by_cases hK : K = 2
      · subst hK
        by_cases hl0 : lb < 0
        · repeat refine AW.seq ?_
          refine AW.region ?_
          iterate 2 refine A1 rfl ?_
          refine RL.step (d := some 96) rfl rfl (XJ.cast (v' := .pv (.bool true)) (xj_bin rfl rfl rfl) (by simp)) ?_
          iterate 3 refine A1 rfl ?_
          refine RL.stepG (d := some 100) rfl rfl rfl (XJ.cast (v' := .pv (.bool true)) (xj_bin rfl rfl rfl) (by simp; omega)) ?_
          iterate 3 refine A1 rfl ?_
          refine RL.stepG (d := some 104) rfl rfl rfl (xj_callM Tryz.call26 (n_spec L k3 2 hL hk3 (by omega) (by omega)) rfl rfl) ?_
          iterate 3 refine A1 rfl ?_
          have hk4 := sNk_le hk3
          generalize sNk L k3 = k4 at hk4 ⊢
          refine AW.cond rfl (fun hc => ?_) (fun hc => ?_)
          · repeat refine AW.seq ?_
            refine AW.region ?_
            iterate 3 refine A1 rfl ?_
            repeat refine AW.seq ?_
            refine AW.region ?_
            iterate 2 refine A1 rfl ?_
            exact ⟨(j + 1, fs, (j : Int), k4), St.le_mk ⟨rfl, rfl, rfl, rfl, rfl, rfl, trivial⟩ ⟨rfl, rfl, rfl, rfl, trivial⟩ rfl rfl, ⟨by simp only; omega, featsOk_label hfs hgd, hk4⟩, by simp only; omega⟩
          · repeat refine AW.seq ?_
            refine AW.region ?_
            iterate 2 refine A1 rfl ?_
            refine RL.step (d := some 112) rfl rfl (XJ.cast (v' := .pv (.bool true)) (xj_bin rfl rfl rfl) (by simp)) ?_
            iterate 2 refine A1 rfl ?_
            refine RL.stepG (d := some 115) rfl rfl rfl (xj_callM Tryz.call26 (n_spec L k4 4 hL hk4 (by omega) (by omega)) rfl rfl) ?_
            iterate 3 refine A1 rfl ?_
            have hk5 := sNk_le hk4
            generalize sNk L k4 = k5 at hk5 ⊢
            refine AW.condP rfl (fun hc => ?_) (fun hc => ?_)
            · have hnb := sNv_bd L k5 2 (by omega)
              repeat refine AW.seq ?_
              refine AW.draw follows [[], [0], [], [], [3], [4, 2, 3], [5, 4, 2, 3], [6, 1, 0, 5, 4, 2, 3], [7, 6, 5, 4, 3, 2, 1, 0], [8, 7, 6, 5, 4, 3, 2, 1, 0]] [0, 1, 2, 3, 4, 5, 6, 7, 8, 9] (by kernel_rfl) (by kernel_rfl) ?_
              iterate 4 refine D1 rfl rfl ?_
              refine DL.step (d := some 122) [_] rfl rfl rfl (fun τ h => xj_callM Tryz.call26 (n_spec L k5 2 hL hk5 (by omega) (by omega)) (h.args.trans rfl) ((h.o 0 _ rfl).trans rfl)) rfl (by kernel_rfl) ?_
              iterate 5 refine D1 rfl rfl ?_
              refine ⟨by kernel_rfl, ?_⟩
              repeat refine AW.seq ?_
              refine AW.region ?_
              iterate 2 refine A1 rfl ?_
              exact ⟨(j + 1, fs ++ [((j : Int), 1, sNv L k5 2)], lb, sNk L k5), St.le_mkR [0, 1, 5] ⟨rfl, rfl, rfl, rfl, rfl, rfl, trivial⟩ ⟨rfl, rfl, by simp only [List.length_append, List.length_singleton]; rfl, congrArg (fun c => some (Ob.gro 73 c)) (featsC_snoc fs ((j : Int), 1, sNv L k5 2)).symm, trivial⟩ rfl rfl (by simp) rfl, ⟨by simp only; omega, featsOk_snoc hfs (by omega) (.inl ⟨rfl, hgd, by omega⟩), sNk_le hk5⟩, by simp only; omega⟩
            · repeat refine AW.seq ?_
              refine AW.region ?_
              iterate 2 refine A1 rfl ?_
              refine RL.step (d := some 130) rfl rfl (XJ.cast (v' := .pv (.bool false)) (xj_bin rfl rfl rfl) (by simp)) ?_
              iterate 6 refine A1 rfl ?_
              refine AW.cond rfl (fun hc => absurd hc (by simp)) (fun hc => ?_)
              refine AW.skip ?_
              repeat refine AW.seq ?_
              refine AW.region ?_
              iterate 2 refine A1 rfl ?_
              exact ⟨(j + 1, fs, lb, k5), St.le_mk ⟨rfl, rfl, rfl, rfl, rfl, rfl, trivial⟩ ⟨rfl, rfl, rfl, rfl, trivial⟩ rfl rfl, ⟨by simp only; omega, featsOk_next hfs, hk5⟩, by simp only; omega⟩
        · repeat refine AW.seq ?_
          refine AW.region ?_
          iterate 2 refine A1 rfl ?_
          refine RL.step (d := some 96) rfl rfl (XJ.cast (v' := .pv (.bool true)) (xj_bin rfl rfl rfl) (by simp)) ?_
          iterate 3 refine A1 rfl ?_
          refine RL.stepG (d := some 100) rfl rfl rfl (XJ.cast (v' := .pv (.bool false)) (xj_bin rfl rfl rfl) (by simp; omega)) ?_
          iterate 7 refine A1 rfl ?_
          refine AW.cond rfl (fun hc => absurd hc (by simp)) (fun hc => ?_)
          repeat refine AW.seq ?_
          refine AW.region ?_
          iterate 2 refine A1 rfl ?_
          refine RL.step (d := some 112) rfl rfl (XJ.cast (v' := .pv (.bool true)) (xj_bin rfl rfl rfl) (by simp)) ?_
          iterate 2 refine A1 rfl ?_
          refine RL.stepG (d := some 115) rfl rfl rfl (xj_callM Tryz.call26 (n_spec L k3 4 hL hk3 (by omega) (by omega)) rfl rfl) ?_
          iterate 3 refine A1 rfl ?_
          have hk5 := sNk_le hk3
          generalize sNk L k3 = k5 at hk5 ⊢
          refine AW.condP rfl (fun hc => ?_) (fun hc => ?_)
          · have hnb := sNv_bd L k5 2 (by omega)
            repeat refine AW.seq ?_
            refine AW.draw follows [[], [0], [], [], [3], [4, 2, 3], [5, 4, 2, 3], [6, 1, 0, 5, 4, 2, 3], [7, 6, 5, 4, 3, 2, 1, 0], [8, 7, 6, 5, 4, 3, 2, 1, 0]] [0, 1, 2, 3, 4, 5, 6, 7, 8, 9] (by kernel_rfl) (by kernel_rfl) ?_
            iterate 4 refine D1 rfl rfl ?_
            refine DL.step (d := some 122) [_] rfl rfl rfl (fun τ h => xj_callM Tryz.call26 (n_spec L k5 2 hL hk5 (by omega) (by omega)) (h.args.trans rfl) ((h.o 0 _ rfl).trans rfl)) rfl (by kernel_rfl) ?_
            iterate 5 refine D1 rfl rfl ?_
            refine ⟨by kernel_rfl, ?_⟩
            repeat refine AW.seq ?_
            refine AW.region ?_
            iterate 2 refine A1 rfl ?_
            exact ⟨(j + 1, fs ++ [((j : Int), 1, sNv L k5 2)], lb, sNk L k5), St.le_mkR [0, 1, 5] ⟨rfl, rfl, rfl, rfl, rfl, rfl, trivial⟩ ⟨rfl, rfl, by simp only [List.length_append, List.length_singleton]; rfl, congrArg (fun c => some (Ob.gro 73 c)) (featsC_snoc fs ((j : Int), 1, sNv L k5 2)).symm, trivial⟩ rfl rfl (by simp) rfl, ⟨by simp only; omega, featsOk_snoc hfs (by omega) (.inl ⟨rfl, hgd, by omega⟩), sNk_le hk5⟩, by simp only; omega⟩
          · repeat refine AW.seq ?_
            refine AW.region ?_
            iterate 2 refine A1 rfl ?_
            refine RL.step (d := some 130) rfl rfl (XJ.cast (v' := .pv (.bool false)) (xj_bin rfl rfl rfl) (by simp)) ?_
            iterate 6 refine A1 rfl ?_
            refine AW.cond rfl (fun hc => absurd hc (by simp)) (fun hc => ?_)
            refine AW.skip ?_
            repeat refine AW.seq ?_
            refine AW.region ?_
            iterate 2 refine A1 rfl ?_
            exact ⟨(j + 1, fs, lb, k5), St.le_mk ⟨rfl, rfl, rfl, rfl, rfl, rfl, trivial⟩ ⟨rfl, rfl, rfl, rfl, trivial⟩ rfl rfl, ⟨by simp only; omega, featsOk_next hfs, hk5⟩, by simp only; omega⟩
      · have hKb : (K == 2) = false := by simpa using hK
        repeat refine AW.seq ?_
        refine AW.region ?_
        iterate 2 refine A1 rfl ?_
        refine RL.step (d := some 96) rfl rfl (XJ.cast (v' := .pv (.bool false)) (xj_bin rfl rfl rfl) (by rw [hKb])) ?_
        iterate 11 refine A1 rfl ?_
        refine AW.cond rfl (fun hc => absurd hc (by simp)) (fun hc => ?_)
        repeat refine AW.seq ?_
        refine AW.region ?_
        iterate 2 refine A1 rfl ?_
        refine RL.step (d := some 112) rfl rfl (XJ.cast (v' := .pv (.bool false)) (xj_bin rfl rfl rfl) (by rw [hKb])) ?_
        iterate 6 refine A1 rfl ?_
        refine AW.cond rfl (fun hc => absurd hc (by simp)) (fun hc => ?_)
        by_cases hK3 : K = 3
        · subst hK3
          repeat refine AW.seq ?_
          refine AW.region ?_
          iterate 2 refine A1 rfl ?_
          refine RL.step (d := some 130) rfl rfl (XJ.cast (v' := .pv (.bool true)) (xj_bin rfl rfl rfl) (by simp)) ?_
          iterate 2 refine A1 rfl ?_
          refine RL.stepG (d := some 133) rfl rfl rfl (xj_callM Tryz.call26 (n_spec L k3 4 hL hk3 (by omega) (by omega)) rfl rfl) ?_
          iterate 3 refine A1 rfl ?_
          refine AW.condP rfl (fun hc => ?_) (fun hc => ?_)
          · repeat refine AW.seq ?_
            refine AW.region ?_
            iterate 8 refine A1 rfl ?_
            repeat refine AW.seq ?_
            refine AW.region ?_
            iterate 2 refine A1 rfl ?_
            exact ⟨(j + 1, fs ++ [((j : Int), 2, 0)], lb, sNk L k3), St.le_mkR [0, 1, 5] ⟨rfl, rfl, rfl, rfl, rfl, rfl, trivial⟩ ⟨rfl, rfl, by simp only [List.length_append, List.length_singleton]; rfl, congrArg (fun c => some (Ob.gro 73 c)) (featsC_snoc fs ((j : Int), 2, 0)).symm, trivial⟩ rfl rfl (by simp) rfl, ⟨by simp only; omega, featsOk_snoc hfs (by omega) (.inr ⟨rfl, hgd, rfl⟩), sNk_le hk3⟩, by simp only; omega⟩
          · refine AW.skip ?_
            repeat refine AW.seq ?_
            refine AW.region ?_
            iterate 2 refine A1 rfl ?_
            exact ⟨(j + 1, fs, lb, sNk L k3), St.le_mk ⟨rfl, rfl, rfl, rfl, rfl, rfl, trivial⟩ ⟨rfl, rfl, rfl, rfl, trivial⟩ rfl rfl, ⟨by simp only; omega, featsOk_next hfs, sNk_le hk3⟩, by simp only; omega⟩
        · have hKb3 : (K == 3) = false := by simpa using hK3
          repeat refine AW.seq ?_
          refine AW.region ?_
          iterate 2 refine A1 rfl ?_
          refine RL.step (d := some 130) rfl rfl (XJ.cast (v' := .pv (.bool false)) (xj_bin rfl rfl rfl) (by rw [hKb3])) ?_
          iterate 6 refine A1 rfl ?_
          refine AW.cond rfl (fun hc => absurd hc (by simp)) (fun hc => ?_)
          refine AW.skip ?_
          repeat refine AW.seq ?_
          refine AW.region ?_
          iterate 2 refine A1 rfl ?_
          exact ⟨(j + 1, fs, lb, k3), St.le_mk ⟨rfl, rfl, rfl, rfl, rfl, rfl, trivial⟩ ⟨rfl, rfl, rfl, rfl, trivial⟩ rfl rfl, ⟨by simp only; omega, featsOk_next hfs, hk3⟩, by simp only; omega⟩
    · obtain rfl : j = at'.length := by omega
      refine AW.exit ?_
      repeat refine AW.seq ?_
      refine AW.region ?_
      iterate 4 refine A1 rfl ?_
      refine AW.condP rfl (fun hc => absurd hc (by omega)) (fun hc => ?_)
      refine AW.skip ?_
      refine AW.weaken (St.le_pubA 2 rfl rfl) ?_
      repeat refine AW.seq ?_
      refine AW.region ?_
      iterate 2 refine A1 rfl ?_
      refine AW.ret ?_
      exact ⟨0, _, schC ⟨at', rs, fs, lb⟩, srcC L k3, rfl, rfl, rfl, rfl, rfl, ⟨⟨at', rs, fs, lb⟩, ⟨ha1, hal, by simp only; omega, by simp only; omega, hhead.1, hhead.2.1, hhead.2.2.1, hfs⟩, rfl⟩, k3, hk3, rfl⟩
end Go.Proofs.YtkalgjnhaicabaaGreat
namespace Go.Proofs.YtkalgjnhaicabaaGreat
open Go.RowKit
set_option maxRecDepth 100000
theorem ibT {a b : Int} (h : (a == b) = true) : a = b := beq_iff_eq.1 h
theorem ibF {a b : Int} (h : (a == b) = false) : ¬ a = b := fun e => by rw [beq_iff_eq.2 e] at h; cases h
theorem inT {a b : Int} (h : (a != b) = true) : ¬ a = b := bne_iff_ne.1 h
theorem inF {a b : Int} (h : (a != b) = false) : a = b := by
  by_cases e : a = b
  · exact e
  · rw [bne_iff_ne.2 e] at h; cases h
theorem idx_spec (l : List Int) (x : Int) (hl : l.length ≤ 1000000000) : FnP Tryz.prog 76 [pints l, .int .i64 x] (fun v => ∃ i : Int, v = .int .i64 i ∧ (0 ≤ i ↔ x ∈ l) ∧ -1 ≤ i ∧ i < 1000000001) := by
  refine FnP.of Tryz.func76 rfl Tryz.ntmps76 (by simp) fun m0 w0 F R0 => ?_
  repeat refine AW.seq ?_
  refine AW.region ?_
  refine A1 rfl ?_
  repeat refine AW.seq ?_
  refine AW.region ?_
  iterate 3 refine A1 rfl ?_
  repeat refine AW.seq ?_
  refine AW.block ?_
  repeat refine AW.seq ?_
  refine AW.loop (st := fun x_0 : Nat => mkS [(0, .pv (pints l)), (1, .pv (.int .i64 x)), (7, .pv (.int .i64 l.length)), (8, .pv (.int .i64 x_0))] [] 0)
    (I := fun x_0 => x_0 ≤ l.length ∧ ¬ x ∈ l.take x_0) (μ := fun x_0 => l.length - x_0) (x0 := (0)) (St.le_mk ⟨rfl, rfl, rfl, rfl, trivial⟩ trivial rfl rfl) (by simp) ?_
  rintro k ⟨hk, hno⟩
  repeat refine AW.seq ?_
  refine AW.region ?_
  refine A1 rfl ?_
  repeat refine AW.seq ?_
  refine AW.condP rfl (fun hc9 => ?_) (fun hc9 => ?_)
  · have hlt : k < l.length := by omega
    have hv := pints_at hlt
    have hne := pints_ne hlt
    refine AW.skip ?_
    repeat refine AW.seq ?_
    refine AW.block ?_
    repeat refine AW.seq ?_
    refine AW.region ?_
    iterate 2 refine A1 rfl ?_
    repeat refine AW.seq ?_
    refine AW.region ?_
    iterate 4 refine A1 rfl ?_
    first | refine A2 rfl (by assumption) ?_ | refine A1 rfl ?_
    refine A1 rfl ?_
    repeat refine AW.seq ?_
    refine AW.cond rfl (fun hc16 => ?_) (fun hc16 => ?_)
    · have hx : l[k] = x := (ibT hc16).symm
      repeat refine AW.seq ?_
      refine AW.region ?_
      iterate 2 refine A1 rfl ?_
      repeat refine AW.seq ?_
      refine AW.ret ?_
      exact ⟨_, _, rfl, rfl, _, rfl, ⟨fun _ => hx ▸ List.getElem_mem hlt, fun _ => by omega⟩, by omega, by omega⟩
    · refine AW.skip ?_
      repeat refine AW.seq ?_
      refine AW.region ?_
      iterate 2 refine A1 rfl ?_
      exact ⟨(k + 1), St.le_mk ⟨rfl, rfl, rfl, rfl, trivial⟩ trivial rfl rfl, ⟨by omega, take_succ_contains hlt hno (fun e => ibF hc16 e.symm)⟩, by omega⟩
  · repeat refine AW.seq ?_
    refine AW.exit ?_
    repeat refine AW.seq ?_
    refine AW.region ?_
    refine A1 rfl ?_
    repeat refine AW.seq ?_
    refine AW.ret ?_
    exact ⟨_, _, rfl, rfl, _, rfl, ⟨fun h => absurd h (by decide), fun h => absurd (by rwa [List.take_of_length_le (by omega)]) hno⟩, by omega, by omega⟩
theorem contains_spec (l : List Int) (x : Int) (hl : l.length ≤ 1000000000) : FnP Tryz.prog 49 [pints l, .int .i64 x] (· = .bool (decide (x ∈ l))) := by
  refine FnP.of Tryz.func49 rfl Tryz.ntmps49 (by simp) fun m0 w0 F R0 => ?_
  repeat refine AW.seq ?_
  refine AW.region ?_
  refine A1 rfl ?_
  repeat refine AW.seq ?_
  refine AW.region ?_
  iterate 2 refine A1 rfl ?_
  refine RL.call rfl (oj_call Tryz.call76 (idx_spec l x hl) rfl ?_)
  rintro _ ⟨i, rfl, hi, _, _⟩
  iterate 2 refine A1 rfl ?_
  repeat refine AW.seq ?_
  refine AW.ret ?_
  exact ⟨_, _, rfl, rfl, congrArg PV.bool (decide_eq_decide.2 hi)⟩
end Go.Proofs.YtkalgjnhaicabaaGreat
namespace Go.Proofs.YtkalgjnhaicabaaGreat
open Go.RowKit Mk
set_option maxRecDepth 100000
set_option maxHeartbeats 1000000
abbrev strsP (l : List ByteArray) : List PV := l.map .str
abbrev pstrs (l : List ByteArray) : PV := .sl none l.length (strsP l)
theorem pstrs_at {l : List ByteArray} {k : Nat} (h : k < l.length) : (strsP l)[k * 1]? = some (.str l[k]) := by simp [h]
theorem pstrs_ne {l : List ByteArray} {k : Nat} (h : k < l.length) : strsP l ≠ [] := by intro e; simp at e; subst e; simp at h
theorem take_succ_no {α : Type} {l : List α} {k : Nat} {x : α} (hk : k < l.length) (h : ¬ x ∈ l.take k) (hne : ¬ l[k] = x) : ¬ x ∈ l.take (k + 1) := by
  rw [List.take_succ_eq_append_getElem hk]
  simp only [List.mem_append, List.mem_singleton]
  rintro (h' | h')
  · exact h h'
  · exact hne h'.symm
theorem bytes_inj {a b : ByteArray} (h : a.toList = b.toList) : a = b := by
  rw [ByteArray.toList_eq, ByteArray.toList_eq] at h
  exact ByteArray.ext (Array.toList_inj.1 h)
theorem baT {a b : ByteArray} (h : (a.toList == b.toList) = true) : a = b := bytes_inj (beq_iff_eq.1 h)
theorem baF {a b : ByteArray} (h : (a.toList == b.toList) = false) : ¬ a = b := by
  rintro rfl
  simp at h
theorem idxS_spec (l : List ByteArray) (x : ByteArray) (hl : l.length ≤ 1000000000) : FnP Tryz.prog 108 [pstrs l, .str x] (fun v => ∃ i : Int, v = .int .i64 i ∧ (0 ≤ i ↔ x ∈ l) ∧ -1 ≤ i ∧ i < 1000000001) := by
  refine FnP.of Tryz.func108 rfl Tryz.ntmps108 (by simp) fun m0 w0 F R0 => ?_
  repeat refine AW.seq ?_
  refine AW.region ?_
  refine A1 rfl ?_
  repeat refine AW.seq ?_
  refine AW.region ?_
  iterate 3 refine A1 rfl ?_
  repeat refine AW.seq ?_
  refine AW.block ?_
  repeat refine AW.seq ?_
  refine AW.loop (st := fun x_0 : Nat => mkS [(0, .pv (pstrs l)), (1, .pv (.str x)), (7, .pv (.int .i64 l.length)), (8, .pv (.int .i64 x_0))] [] 0)
    (I := fun x_0 => x_0 ≤ l.length ∧ ¬ x ∈ l.take x_0) (μ := fun x_0 => l.length - x_0) (x0 := (0)) (St.le_mk ⟨rfl, rfl, rfl, rfl, trivial⟩ trivial rfl rfl) (by simp) ?_
  rintro k ⟨hk, hno⟩
  repeat refine AW.seq ?_
  refine AW.region ?_
  refine A1 rfl ?_
  repeat refine AW.seq ?_
  refine AW.condP rfl (fun hc9 => ?_) (fun hc9 => ?_)
  · have hlt : k < l.length := by omega
    have hv := pstrs_at hlt
    have hne := pstrs_ne hlt
    refine AW.skip ?_
    repeat refine AW.seq ?_
    refine AW.block ?_
    repeat refine AW.seq ?_
    refine AW.region ?_
    iterate 2 refine A1 rfl ?_
    repeat refine AW.seq ?_
    refine AW.region ?_
    iterate 4 refine A1 rfl ?_
    first | refine A2 rfl (by assumption) ?_ | refine A1 rfl ?_
    refine A1 rfl ?_
    repeat refine AW.seq ?_
    refine AW.cond rfl (fun hc16 => ?_) (fun hc16 => ?_)
    · have hx : l[k] = x := (baT hc16).symm
      repeat refine AW.seq ?_
      refine AW.region ?_
      iterate 2 refine A1 rfl ?_
      repeat refine AW.seq ?_
      refine AW.ret ?_
      exact ⟨_, _, rfl, rfl, _, rfl, ⟨fun _ => hx ▸ List.getElem_mem hlt, fun _ => by omega⟩, by omega, by omega⟩
    · refine AW.skip ?_
      repeat refine AW.seq ?_
      refine AW.region ?_
      iterate 2 refine A1 rfl ?_
      exact ⟨(k + 1), St.le_mk ⟨rfl, rfl, rfl, rfl, trivial⟩ trivial rfl rfl, ⟨by omega, take_succ_no hlt hno (fun e => baF hc16 e.symm)⟩, by omega⟩
  · repeat refine AW.seq ?_
    refine AW.exit ?_
    repeat refine AW.seq ?_
    refine AW.region ?_
    refine A1 rfl ?_
    repeat refine AW.seq ?_
    refine AW.ret ?_
    exact ⟨_, _, rfl, rfl, _, rfl, ⟨fun h => absurd h (by decide), fun h => absurd (by rwa [List.take_of_length_le (by omega)]) hno⟩, by omega, by omega⟩
theorem containsS_spec (l : List ByteArray) (x : ByteArray) (hl : l.length ≤ 1000000000) : FnP Tryz.prog 93 [pstrs l, .str x] (· = .bool (hasB l x)) := by
  refine FnP.of Tryz.func93 rfl Tryz.ntmps93 (by simp) fun m0 w0 F R0 => ?_
  repeat refine AW.seq ?_
  refine AW.region ?_
  refine A1 rfl ?_
  repeat refine AW.seq ?_
  refine AW.region ?_
  iterate 2 refine A1 rfl ?_
  refine RL.call rfl (oj_call Tryz.call108 (idxS_spec l x hl) rfl ?_)
  rintro _ ⟨i, rfl, hi, _, _⟩
  iterate 2 refine A1 rfl ?_
  repeat refine AW.seq ?_
  refine AW.ret ?_
  exact ⟨_, _, rfl, rfl, congrArg PV.bool (decide_eq_decide.2 hi)⟩
abbrev boolsP (l : List Bool) : List PV := l.map .bool
abbrev pbools (l : List Bool) : PV := .sl none l.length (boolsP l)
theorem pbools_at {l : List Bool} {k : Nat} (h : k < l.length) : (boolsP l)[k * 1]? = some (.bool l[k]) := by simp [h]
theorem pbools_ne {l : List Bool} {k : Nat} (h : k < l.length) : boolsP l ≠ [] := by intro e; simp at e; subst e; simp at h
theorem idxB_spec (l : List Bool) (x : Bool) (hl : l.length ≤ 1000000000) : FnP Tryz.prog 94 [pbools l, .bool x] (fun v => ∃ i : Int, v = .int .i64 i ∧ (0 ≤ i ↔ x ∈ l) ∧ -1 ≤ i ∧ i < 1000000001) := by
  refine FnP.of Tryz.func94 rfl Tryz.ntmps94 (by simp) fun m0 w0 F R0 => ?_
  repeat refine AW.seq ?_
  refine AW.region ?_
  refine A1 rfl ?_
  repeat refine AW.seq ?_
  refine AW.region ?_
  iterate 3 refine A1 rfl ?_
  repeat refine AW.seq ?_
  refine AW.block ?_
  repeat refine AW.seq ?_
  refine AW.loop (st := fun x_0 : Nat => mkS [(0, .pv (pbools l)), (1, .pv (.bool x)), (7, .pv (.int .i64 l.length)), (8, .pv (.int .i64 x_0))] [] 0)
    (I := fun x_0 => x_0 ≤ l.length ∧ ¬ x ∈ l.take x_0) (μ := fun x_0 => l.length - x_0) (x0 := (0)) (St.le_mk ⟨rfl, rfl, rfl, rfl, trivial⟩ trivial rfl rfl) (by simp) ?_
  rintro k ⟨hk, hno⟩
  repeat refine AW.seq ?_
  refine AW.region ?_
  refine A1 rfl ?_
  repeat refine AW.seq ?_
  refine AW.condP rfl (fun hc9 => ?_) (fun hc9 => ?_)
  · have hlt : k < l.length := by omega
    have hv := pbools_at hlt
    have hne := pbools_ne hlt
    refine AW.skip ?_
    repeat refine AW.seq ?_
    refine AW.block ?_
    repeat refine AW.seq ?_
    refine AW.region ?_
    iterate 2 refine A1 rfl ?_
    repeat refine AW.seq ?_
    refine AW.region ?_
    iterate 4 refine A1 rfl ?_
    first | refine A2 rfl (by assumption) ?_ | refine A1 rfl ?_
    refine A1 rfl ?_
    repeat refine AW.seq ?_
    refine AW.cond rfl (fun hc16 => ?_) (fun hc16 => ?_)
    · have hx : l[k] = x := (beq_iff_eq.1 hc16).symm
      repeat refine AW.seq ?_
      refine AW.region ?_
      iterate 2 refine A1 rfl ?_
      repeat refine AW.seq ?_
      refine AW.ret ?_
      exact ⟨_, _, rfl, rfl, _, rfl, ⟨fun _ => hx ▸ List.getElem_mem hlt, fun _ => by omega⟩, by omega, by omega⟩
    · refine AW.skip ?_
      repeat refine AW.seq ?_
      refine AW.region ?_
      iterate 2 refine A1 rfl ?_
      exact ⟨(k + 1), St.le_mk ⟨rfl, rfl, rfl, rfl, trivial⟩ trivial rfl rfl, ⟨by omega, take_succ_no hlt hno (fun e => beq_eq_false_iff_ne.1 hc16 e.symm)⟩, by omega⟩
  · repeat refine AW.seq ?_
    refine AW.exit ?_
    repeat refine AW.seq ?_
    refine AW.region ?_
    refine A1 rfl ?_
    repeat refine AW.seq ?_
    refine AW.ret ?_
    exact ⟨_, _, rfl, rfl, _, rfl, ⟨fun h => absurd h (by decide), fun h => absurd (by rwa [List.take_of_length_le (by omega)]) hno⟩, by omega, by omega⟩
theorem containsB_spec (l : List Bool) (x : Bool) (hl : l.length ≤ 1000000000) : FnP Tryz.prog 83 [pbools l, .bool x] (· = .bool (decide (x ∈ l))) := by
  refine FnP.of Tryz.func83 rfl Tryz.ntmps83 (by simp) fun m0 w0 F R0 => ?_
  repeat refine AW.seq ?_
  refine AW.region ?_
  refine A1 rfl ?_
  repeat refine AW.seq ?_
  refine AW.region ?_
  iterate 2 refine A1 rfl ?_
  refine RL.call rfl (oj_call Tryz.call94 (idxB_spec l x hl) rfl ?_)
  rintro _ ⟨i, rfl, hi, _, _⟩
  iterate 2 refine A1 rfl ?_
  repeat refine AW.seq ?_
  refine AW.ret ?_
  exact ⟨_, _, rfl, rfl, congrArg PV.bool (decide_eq_decide.2 hi)⟩
theorem bytesP_at {l : List UInt8} {k : Nat} (h : k < l.length) : (bytesP l)[k * 1]? = some (.int .u8 (l[k].toNat : Int)) := by simp [bytesP, h]
theorem bytesP_ne {l : List UInt8} {k : Nat} (h : k < l.length) : bytesP l ≠ [] := by intro e; simp [bytesP] at e; subst e; simp at h
/-- What the loop of Word tests. -/
def wtest (k : Nat) (c : UInt8) : Bool := !(decide ((97 : Int) ≤ c.toNat) && decide ((c.toNat : Int) ≤ 122)) && (((k : Int) == 0) || (((c.toNat : Int) != 45) && (decide ((c.toNat : Int) < 48) || decide ((57 : Int) < c.toNat))))
theorem wtest_eq (k : Nat) (c : UInt8) : wtest k c = !okAt k c.toNat := by
  unfold wtest okAt
  generalize c.toNat = n
  have h1 : ((k : Int) == 0) = !decide (k ≠ 0) := by
    by_cases h : k = 0
    · subst h; rfl
    · have : ((k : Int) == 0) = false := by rw [beq_eq_false_iff_ne]; omega
      rw [this]; simp [h]
  have h2 : ((n : Int) != 45) = !(n == 45) := by
    by_cases h : n = 45
    · subst h; rfl
    · have h3 : (n : Int) ≠ 45 := by omega
      rw [bne_iff_ne.2 h3, beq_eq_false_iff_ne.2 h]; rfl
  have h3 : (decide ((97 : Int) ≤ n) && decide ((n : Int) ≤ 122)) = decide (97 ≤ n ∧ n ≤ 122) := by
    rw [Bool.eq_iff_iff]; simp; omega
  have h4 : (decide ((n : Int) < 48) || decide ((57 : Int) < n)) = !decide (48 ≤ n ∧ n ≤ 57) := by
    rw [Bool.eq_iff_iff]; simp; omega
  rw [h1, h2, h3, h4]
  cases decide (97 ≤ n ∧ n ≤ 122) <;> cases decide (k ≠ 0) <;> cases (n == 45) <;> cases decide (48 ≤ n ∧ n ≤ 57) <;> rfl
theorem word_spec (s : ByteArray) (hs : s.size ≤ 9223372036854775807) : FnP Tryz.prog 92 [.str s] (· = .bool (wordB s)) := by
  refine FnP.of Tryz.func92 rfl Tryz.ntmps92 (by simp) fun m0 w0 F R0 => ?_
  have hsz : s.data.toList.length = s.size := Array.length_toList
  repeat refine AW.seq ?_
  refine AW.region ?_
  refine A1 rfl ?_
  repeat refine AW.seq ?_
  refine AW.region ?_
  iterate 4 refine A1 rfl ?_
  repeat refine AW.seq ?_
  refine AW.block ?_
  repeat refine AW.seq ?_
  refine AW.loop (st := fun x_0 : Nat => mkS [(0, .pv (.str s)), (7, .pv (.sl (some false) s.data.toList.length (bytesP s.data.toList))), (8, .pv (.int .i64 s.data.toList.length)), (9, .pv (.int .i64 x_0))] [] 0)
    (I := fun x_0 => x_0 ≤ s.data.toList.length ∧ ∀ j, j < x_0 → okAt j (s.data.toList.getD j 0).toNat = true) (μ := fun x_0 => s.data.toList.length - x_0) (x0 := (0)) (St.le_mk ⟨rfl, rfl, rfl, rfl, trivial⟩ trivial rfl rfl) (⟨Nat.zero_le _, fun j hj => absurd hj (Nat.not_lt_zero _)⟩) ?_
  rintro k ⟨hk, hall⟩
  repeat refine AW.seq ?_
  refine AW.region ?_
  refine A1 rfl ?_
  repeat refine AW.seq ?_
  refine AW.condP rfl (fun hc10 => ?_) (fun hc10 => ?_)
  · have hlt : k < s.data.toList.length := by omega
    have hv := bytesP_at hlt
    have hne := bytesP_ne hlt
    have hgd : s.data.toList.getD k 0 = s.data.toList[k] := by rw [List.getD_eq_getElem?_getD, List.getElem?_eq_getElem hlt]; rfl
    refine AW.skip ?_
    repeat refine AW.seq ?_
    refine AW.block ?_
    repeat refine AW.seq ?_
    refine AW.region ?_
    iterate 2 refine A1 rfl ?_
    first | refine A2 rfl (by assumption) ?_ | refine A1 rfl ?_
    iterate 2 refine A1 rfl ?_
    generalize s.data.toList[k] = c at hgd ⊢
    repeat refine AW.seq ?_
    refine AW.region ?_
    iterate 3 refine A1 rfl ?_
    apply RL.andB 3 16 19 [17, 18] rfl (by first | exact MonoK.le | exact MonoK.aw | exact MonoK.back)
    · intro hb2
      iterate 3 refine A1 rfl ?_
      exact St.le_fg (fEq.upd (fEq.upd (fEq.upd (fEq.upd (fEq.refl) rfl) rfl) rfl) rfl) rfl rfl rfl
    · intro hb2
      iterate 3 refine A1 rfl ?_
      exact St.le_fg (fEq.upd (fEq.upd (fEq.upd (fEq.upd (fEq.refl) rfl) rfl) rfl) rfl) rfl rfl rfl
    refine A1 rfl ?_
    repeat refine AW.seq ?_
    refine AW.region ?_
    iterate 3 refine A1 rfl ?_
    apply RL.andB 15 22 37 [23, 24, 25, 26, 27, 28, 29, 30, 31, 32, 33, 34, 35, 36] rfl (by first | exact MonoK.le | exact MonoK.aw | exact MonoK.back)
    · intro hb2
      iterate 3 refine A1 rfl ?_
      apply RL.orB 11 25 36 [26, 27, 28, 29, 30, 31, 32, 33, 34, 35] rfl (by first | exact MonoK.le | exact MonoK.aw | exact MonoK.back)
      · intro hb5
        iterate 11 refine A1 rfl ?_
        exact St.le_fg (fEq.upd (fEq.upd (fEq.upd (fEq.upd (fEq.upd (fEq.upd (fEq.upd (fEq.upd (fEq.upd (fEq.upd (fEq.upd (fEq.upd (fEq.refl) rfl) rfl) rfl) rfl) rfl) rfl) rfl) rfl) rfl) rfl) rfl) rfl) rfl rfl rfl
      · intro hb5
        iterate 3 refine A1 rfl ?_
        apply RL.andB 7 28 35 [29, 30, 31, 32, 33, 34] rfl (by first | exact MonoK.le | exact MonoK.aw | exact MonoK.back)
        · intro hb8
          iterate 3 refine A1 rfl ?_
          apply RL.orB 3 31 34 [32, 33] rfl (by first | exact MonoK.le | exact MonoK.aw | exact MonoK.back)
          · intro hb11
            iterate 3 refine A1 rfl ?_
            exact St.le_fg (fEq.upd (fEq.upd (fEq.upd (fEq.upd (fEq.refl) rfl) rfl) rfl) rfl) rfl rfl rfl
          · intro hb11
            iterate 3 refine A1 rfl ?_
            exact St.le_fg (fEq.upd (fEq.upd (fEq.upd (fEq.upd (fEq.refl) rfl) rfl) rfl) rfl) rfl rfl rfl
          refine A1 rfl ?_
          exact St.le_fg (fEq.upd (fEq.upd (fEq.upd (fEq.upd (fEq.upd (fEq.upd (fEq.upd (fEq.upd (fEq.upd (fEq.refl) rfl) rfl) rfl) rfl) rfl) rfl) rfl) rfl) rfl) rfl rfl rfl
        · intro hb8
          iterate 7 refine A1 rfl ?_
          exact St.le_fg (fEq.upd (fEq.upd (fEq.upd (fEq.upd (fEq.upd (fEq.upd (fEq.upd (fEq.upd (fEq.refl) rfl) rfl) rfl) rfl) rfl) rfl) rfl) rfl) rfl rfl rfl
        refine A1 rfl ?_
        exact St.le_fg (fEq.upd (fEq.upd (fEq.upd (fEq.upd (fEq.upd (fEq.upd (fEq.upd (fEq.upd (fEq.upd (fEq.upd (fEq.upd (fEq.upd (fEq.upd (fEq.refl) rfl) rfl) rfl) rfl) rfl) rfl) rfl) rfl) rfl) rfl) rfl) rfl) rfl) rfl rfl rfl
      refine A1 rfl ?_
      exact St.le_fg (fEq.upd (fEq.upd (fEq.upd (fEq.upd (fEq.upd (fEq.upd (fEq.upd (fEq.upd (fEq.upd (fEq.upd (fEq.upd (fEq.upd (fEq.upd (fEq.upd (fEq.upd (fEq.upd (fEq.upd (fEq.refl) rfl) rfl) rfl) rfl) rfl) rfl) rfl) rfl) rfl) rfl) rfl) rfl) rfl) rfl) rfl) rfl) rfl) rfl rfl rfl
    · intro hb2
      iterate 15 refine A1 rfl ?_
      exact St.le_fg (fEq.upd (fEq.upd (fEq.upd (fEq.upd (fEq.upd (fEq.upd (fEq.upd (fEq.upd (fEq.upd (fEq.upd (fEq.upd (fEq.upd (fEq.upd (fEq.upd (fEq.upd (fEq.upd (fEq.refl) rfl) rfl) rfl) rfl) rfl) rfl) rfl) rfl) rfl) rfl) rfl) rfl) rfl) rfl) rfl) rfl) rfl rfl rfl
    have hw : _ = true ∨ _ = false := Bool.eq_false_or_eq_true (wtest k c)
    repeat refine AW.seq ?_
    refine AW.cond rfl (fun hc37 => ?_) (fun hc37 => ?_)
    · have hc : wtest k c = true := hc37
      repeat refine AW.seq ?_
      refine AW.region ?_
      refine A1 rfl ?_
      repeat refine AW.seq ?_
      refine AW.ret ?_
      exact ⟨_, _, rfl, rfl, congrArg PV.bool (word_no s k (by omega) (by rw [hgd]; rw [wtest_eq] at hc; simpa using hc)).symm⟩
    · have hc : wtest k c = false := hc37
      refine AW.skip ?_
      repeat refine AW.seq ?_
      refine AW.region ?_
      iterate 2 refine A1 rfl ?_
      exact ⟨(k + 1), St.le_mk ⟨rfl, rfl, rfl, rfl, trivial⟩ trivial rfl rfl, ⟨by omega, fun j hj => by rcases Nat.lt_succ_iff_lt_or_eq.1 hj with h | rfl; exact hall j h; rw [hgd]; rw [wtest_eq] at hc; simpa using hc⟩, by omega⟩
  · repeat refine AW.seq ?_
    refine AW.exit ?_
    repeat refine AW.seq ?_
    refine AW.region ?_
    iterate 4 refine A1 rfl ?_
    apply RL.andB 4 42 46 [43, 44, 45] rfl (by first | exact MonoK.le | exact MonoK.aw | exact MonoK.back)
    · intro hb3
      iterate 4 refine A1 rfl ?_
      exact St.le_fg (fEq.upd (fEq.upd (fEq.upd (fEq.upd (fEq.upd (fEq.refl) rfl) rfl) rfl) rfl) rfl) rfl rfl rfl
    · intro hb3
      iterate 4 refine A1 rfl ?_
      exact St.le_fg (fEq.upd (fEq.upd (fEq.upd (fEq.upd (fEq.upd (fEq.refl) rfl) rfl) rfl) rfl) rfl) rfl rfl rfl
    refine A1 rfl ?_
    repeat refine AW.seq ?_
    refine AW.ret ?_
    exact ⟨_, _, rfl, rfl, congrArg PV.bool (by rw [word_yes s (fun j hj => hall j (by omega))]; rw [Bool.eq_iff_iff]; simp; omega)⟩
end Go.Proofs.YtkalgjnhaicabaaGreat
namespace Go.Proofs.YtkalgjnhaicabaaGreat
open Go.RowKit Mk
set_option maxRecDepth 100000
set_option maxHeartbeats 1000000
theorem named_spec (l : List ByteArray) (k : Nat) (hk : k < l.length) (hl : l.length ≤ 1000000) (hw : l[k].size ≤ 9223372036854775807) : FnP Tryz.prog 82 [pstrs l, .int .i64 k] (· = .int .i64 (namedE l k)) := by
  refine FnP.of Tryz.func82 rfl Tryz.ntmps82 (by simp) fun m0 w0 F R0 => ?_
  have hv := pstrs_at hk
  have hne := pstrs_ne hk
  have hgd : l.getD k default = l[k] := by simp [List.getD, hk]
  have htk : (strsP l).take (k * 1) = strsP (l.take k) := by simp
  have hsl : PV.sl none k (strsP (l.take k)) = pstrs (l.take k) := by simp [pstrs]; omega
  repeat refine AW.seq ?_
  refine AW.region ?_
  refine A1 rfl ?_
  repeat refine AW.seq ?_
  refine AW.block ?_
  repeat refine AW.seq ?_
  refine AW.region ?_
  iterate 3 refine A1 rfl ?_
  first | refine A2 rfl (by assumption) ?_ | refine A1 rfl ?_
  refine RL.step (d := some 10) rfl rfl (xj_call Tryz.call92 (word_spec l[k] hw) rfl) ?_
  iterate 2 refine A1 rfl ?_
  repeat refine AW.seq ?_
  refine AW.cond rfl (fun hc5 => ?_) (fun hc5 => ?_)
  · repeat refine AW.seq ?_
    refine AW.region ?_
    refine A1 rfl ?_
    repeat refine AW.seq ?_
    refine AW.ret ?_
    exact ⟨_, _, rfl, rfl, congrArg (PV.int .i64) (by unfold namedE; rw [hgd, if_pos (by simpa using hc5)])⟩
  · repeat refine AW.seq ?_
    refine AW.draw follows [[], [], [1, 0], [], [], [4, 3], [5, 4, 3], [6, 2, 1, 0, 5, 4, 3], [7, 6, 2, 1, 0, 5, 4, 3]] [0, 1, 2, 3, 4, 5, 6, 7, 8] (by kernel_rfl) (by kernel_rfl) ?_
    iterate 2 refine D1 rfl rfl ?_
    refine DL.step (d := some 15) [] rfl rfl rfl (fun τ h => XJ.cast (v' := .pv (pstrs (l.take k))) (xj_sliceTo k Tryz.underlying75 sz9 ((h.e 0 _ rfl).trans rfl) ((h.e 1 _ rfl).trans rfl) rfl (by omega) (by simp)) (by rw [htk, hsl])) rfl (by kernel_rfl) ?_
    iterate 3 refine D1 rfl rfl ?_
    first | refine D2 rfl rfl (by assumption) ?_ | refine D1 rfl rfl ?_
    refine DL.step (d := some 20) [] rfl rfl rfl (fun τ h => xj_call Tryz.call93 (containsS_spec (l.take k) l[k] (by simp; omega)) (h.argsP rfl)) rfl (by kernel_rfl) ?_
    refine D1 rfl rfl ?_
    refine ⟨by kernel_rfl, ?_⟩
    repeat refine AW.seq ?_
    refine AW.cond rfl (fun hc12 => ?_) (fun hc12 => ?_)
    · repeat refine AW.seq ?_
      refine AW.region ?_
      refine A1 rfl ?_
      repeat refine AW.seq ?_
      refine AW.ret ?_
      exact ⟨_, _, rfl, rfl, congrArg (PV.int .i64) (by unfold namedE; rw [hgd, if_neg (by simpa using hc5), if_pos hc12])⟩
    · refine AW.skip ?_
      repeat refine AW.seq ?_
      refine AW.region ?_
      refine A1 rfl ?_
      repeat refine AW.seq ?_
      refine AW.ret ?_
      exact ⟨_, _, rfl, rfl, congrArg (PV.int .i64) (by unfold namedE; rw [hgd, if_neg (by simpa using hc5), if_neg (by simp [hc12])])⟩
/-- Bounds on the lengths in a schema. -/
structure SB (S : Sch) : Prop where
  a : S.attrs.length ≤ 1000000
  r : S.rels.length ≤ 1000000
  f : S.feats.length ≤ 1000000
  an : ∀ x ∈ S.attrs, x.1.size ≤ 9223372036854775807
  rn : ∀ x ∈ S.rels, x.1.size ≤ 9223372036854775807
  rl : ∀ x ∈ S.rels, x.2.length ≤ 1000000
theorem attr_row {l : List (ByteArray × Int)} {k : Nat} (h : k < l.length) : ((attrsC l).drop (k * 2)).take 2 = [.str l[k].1, .int .i64 l[k].2] := flat_row _ 2 (fun _ => rfl) l k h
theorem attr_ne {l : List (ByteArray × Int)} {k : Nat} (h : k < l.length) : attrsC l ≠ [] := fun e => by have := attrsC_len l; rw [e] at this; simp at this; omega
theorem strs_snoc (L : List ByteArray) (x : ByteArray) : strsP (L ++ [x]) = strsP L ++ [.str x] := by simp
theorem pstrs_snoc (L : List ByteArray) (x : ByteArray) : pstrs (L ++ [x]) = .sl none (L.length + 1) (strsP L ++ [.str x]) := by simp
theorem named_take {l : List ByteArray} {k n : Nat} (h : k < n) : namedE (l.take n) k = namedE l k := by
  unfold namedE
  have e1 : (l.take n).getD k default = l.getD k default := by simp [List.getD, List.getElem?_take, h]
  have e2 : (l.take n).take k = l.take k := by rw [List.take_take, Nat.min_eq_left (by omega)]
  rw [e1, e2]
theorem take_snoc {α : Type} {l : List α} {k : Nat} (h : k < l.length) : l.take (k + 1) = l.take k ++ [l[k]] := List.take_succ_eq_append_getElem h
theorem attributes_spec (S : Sch) (hS : SB S) : FnP Tryz.prog 63 [schP S] (· = .int .i64 (scanE (attrE S) S.attrs.length)) := by
  refine FnP.of Tryz.func63 rfl Tryz.ntmps63 (by simp) fun m0 w0 F R0 => ?_
  have hb := hS.a
  have hAl := attrsC_len S.attrs
  repeat refine AW.seq ?_
  refine AW.region ?_
  iterate 2 refine A1 rfl ?_
  repeat refine AW.seq ?_
  refine AW.region ?_
  refine A1 rfl ?_
  refine AW.weaken (St.le_gro 3 1 1 9 rfl rfl) ?_
  repeat refine AW.seq ?_
  refine AW.region ?_
  iterate 4 refine A1 rfl ?_
  repeat refine AW.seq ?_
  refine AW.block ?_
  repeat refine AW.seq ?_
  refine AW.loop (st := fun x_0 : Nat × List ByteArray => mkS [(3, .gsl 1 1 x_0.2.length), (8, .pv (.sl none S.attrs.length (attrsC S.attrs))), (9, .pv (.int .i64 S.attrs.length)), (10, .pv (.int .i64 x_0.1))] [(1, .gro 9 (strsP x_0.2))] 2)
    (I := fun x_0 => x_0.1 ≤ S.attrs.length ∧ x_0.2 = (S.attrs.map (·.1)).take x_0.1 ∧ scanE (attrE S) x_0.1 = 0) (μ := fun x_0 => S.attrs.length - x_0.1) (x0 := (0, [])) (St.le_mk ⟨rfl, rfl, rfl, rfl, trivial⟩ ⟨rfl, trivial⟩ rfl rfl) (⟨Nat.zero_le _, rfl, rfl⟩) ?_
  rintro ⟨k, L⟩ ⟨hk, hL, hs⟩
  try simp only at hk hL hs ⊢
  repeat refine AW.seq ?_
  refine AW.region ?_
  refine A1 rfl ?_
  repeat refine AW.seq ?_
  refine AW.condP rfl (fun hc11 => ?_) (fun hc11 => ?_)
  · have hlt : k < S.attrs.length := by omega
    have hrow := attr_row hlt
    have hne := attr_ne hlt
    have hnl : L.length = k := by rw [hL]; simp; omega
    have htk : L ++ [S.attrs[k].1] = (S.attrs.map (·.1)).take (k + 1) := by rw [take_snoc (by simpa using hlt), hL]; simp
    have hns := named_spec (L ++ [S.attrs[k].1]) k (by simp; omega) (by simp; omega) (by simp only [← hnl]; simp; exact hS.an _ (List.getElem_mem _))
    rw [pstrs_snoc, htk, named_take (by omega)] at hns
    have hgd : S.attrs.getD k default = S.attrs[k] := by simp [List.getD, hlt]
    have hsl : (strsP L).length = L.length * 1 := by simp
    refine AW.skip ?_
    repeat refine AW.seq ?_
    refine AW.block ?_
    repeat refine AW.seq ?_
    refine AW.region ?_
    iterate 2 refine A1 rfl ?_
    refine RL.step (d := some 14) rfl rfl (xj_loadAR ⟨_, Tryz.underlying71, rfl⟩ sz71 rfl hrow rfl) ?_
    iterate 3 refine A1 rfl ?_
    repeat refine AW.seq ?_
    refine AW.region ?_
    iterate 6 refine A1 rfl ?_
    repeat refine AW.seq ?_
    refine AW.region ?_
    iterate 2 refine A1 rfl ?_
    refine RL.step (d := some 22) rfl rfl (xj_callF Tryz.call82 hns rfl rfl) ?_
    refine A1 rfl ?_
    repeat refine AW.seq ?_
    refine AW.region ?_
    iterate 2 refine A1 rfl ?_
    repeat refine AW.seq ?_
    refine AW.cond rfl (fun hc24 => ?_) (fun hc24 => ?_)
    · repeat refine AW.seq ?_
      refine AW.region ?_
      iterate 2 refine A1 rfl ?_
      repeat refine AW.seq ?_
      refine AW.ret ?_
      exact ⟨_, _, rfl, rfl, congrArg (PV.int .i64) (by rw [scanE_at hs (by unfold attrE; rw [if_pos (inT hc24)]; exact inT hc24) hlt]; unfold attrE; rw [if_pos (inT hc24)])⟩
    · refine AW.skip ?_
      repeat refine AW.seq ?_
      refine AW.region ?_
      iterate 4 refine A1 rfl ?_
      apply RL.orB 4 29 33 [30, 31, 32] rfl (by first | exact MonoK.le | exact MonoK.aw | exact MonoK.back)
      · intro hb3
        iterate 4 refine A1 rfl ?_
        exact St.le_fg (fEq.upd (fEq.upd (fEq.upd (fEq.upd (fEq.upd (fEq.refl) rfl) rfl) rfl) rfl) rfl) rfl rfl rfl
      · intro hb3
        iterate 4 refine A1 rfl ?_
        exact St.le_fg (fEq.upd (fEq.upd (fEq.upd (fEq.upd (fEq.upd (fEq.refl) rfl) rfl) rfl) rfl) rfl) rfl rfl rfl
      repeat refine AW.seq ?_
      refine AW.cond rfl (fun hc33 => ?_) (fun hc33 => ?_)
      · repeat refine AW.seq ?_
        refine AW.region ?_
        refine A1 rfl ?_
        repeat refine AW.seq ?_
        refine AW.ret ?_
        exact ⟨_, _, rfl, rfl, congrArg (PV.int .i64) (by have e : attrE S k = 7 := (by unfold attrE; rw [if_neg (by simp [inF hc24]), hgd, if_pos (by simpa using hc33)]); rw [scanE_at hs (by rw [e]; decide) hlt, e])⟩
      · refine AW.skip ?_
        repeat refine AW.seq ?_
        refine AW.region ?_
        iterate 2 refine A1 rfl ?_
        exact ⟨(k + 1, L ++ [S.attrs[k].1]), St.le_mkR [0, 4] ⟨by simp; rfl, rfl, rfl, rfl, trivial⟩ ⟨congrArg (fun c => some (Ob.gro 9 c)) (strs_snoc L S.attrs[k].1).symm, trivial⟩ rfl rfl (by decide) rfl, ⟨by simp only; omega, htk, by simp only; rw [scanE_succ hs]; unfold attrE; rw [if_neg (by simp [inF hc24]), hgd, if_neg (by simpa using hc33)]⟩, by simp only; omega⟩
  · repeat refine AW.seq ?_
    refine AW.exit ?_
    repeat refine AW.seq ?_
    refine AW.region ?_
    refine A1 rfl ?_
    repeat refine AW.seq ?_
    refine AW.ret ?_
    exact ⟨_, _, rfl, rfl, congrArg (PV.int .i64) (by rw [show S.attrs.length = k by omega, hs])⟩
end Go.Proofs.YtkalgjnhaicabaaGreat
namespace Go.Proofs.YtkalgjnhaicabaaGreat
open Go.RowKit Mk
set_option maxRecDepth 100000
set_option maxHeartbeats 1000000
theorem rel_row {l : List (ByteArray × List Int)} {k : Nat} (h : k < l.length) : ((relsC l).drop (k * 2)).take 2 = [.str l[k].1, pints l[k].2] := flat_row _ 2 (fun _ => rfl) l k h
theorem rel_ne {l : List (ByteArray × List Int)} {k : Nat} (h : k < l.length) : relsC l ≠ [] := fun e => by have := relsC_len l; rw [e] at this; simp at this; omega
/-- Which attributes are used, as a list. -/
def UsedIs (n : Nat) (U : List Bool) (p : Nat → Bool) : Prop := U.length = n ∧ ∀ a, a < n → U[a]? = some (p a)
theorem UsedIs.zero (n : Nat) : UsedIs n (List.replicate n false) (fun _ => false) := ⟨by simp, fun a ha => by simp [ha]⟩
theorem UsedIs.set {n : Nat} {U : List Bool} {p : Nat → Bool} (h : UsedIs n U p) {a : Nat} (ha : a < n) : UsedIs n (U.set a true) (fun b => p b || (b == a)) := by
  refine ⟨by simp [h.1], fun b hb => ?_⟩
  by_cases e : b = a
  · subst e; simp [h.1, hb]
  · rw [List.getElem?_set_ne (fun e' => e e'.symm), h.2 b hb]; simp [e]
theorem UsedIs.congr {n : Nat} {U : List Bool} {p q : Nat → Bool} (h : UsedIs n U p) (e : ∀ a, a < n → p a = q a) : UsedIs n U q := ⟨h.1, fun a ha => by rw [h.2 a ha, e a ha]⟩
theorem UsedIs.mem {n : Nat} {U : List Bool} {p : Nat → Bool} (h : UsedIs n U p) : decide (false ∈ U) = !((List.range n).all p) := by
  rw [Bool.eq_iff_iff]
  simp only [decide_eq_true_eq, Bool.not_eq_true', List.all_eq_false, List.mem_range]
  constructor
  · intro hm
    obtain ⟨a, ha, e⟩ := List.getElem_of_mem hm
    refine ⟨a, by rw [← h.1]; exact ha, ?_⟩
    have := h.2 a (by rw [← h.1]; exact ha)
    rw [List.getElem?_eq_getElem ha, e] at this
    simpa using this.symm
  · rintro ⟨a, ha, e⟩
    have := h.2 a ha
    have e' : p a = false := by simpa using e
    rw [e'] at this
    exact List.mem_of_getElem? this
theorem bools_set (U : List Bool) (a : Nat) : (boolsP U).set a (.bool true) = boolsP (U.set a true) := by simp [List.map_set]
theorem used_next {b : Bool} {l : List Int} {q j a : Nat} (hq : q < l.length) (hj : l[q] = (j : Int)) : ((b || inB (l.take q) a) || (a == j)) = (b || inB (l.take (q + 1)) a) := by
  rw [take_snoc hq, Bool.or_assoc]
  congr 1
  rw [Bool.eq_iff_iff]
  simp [inB, hj]
  exact or_congr Iff.rfl ⟨fun h => by rw [h], fun h => by omega⟩
theorem rng_next {l : List Int} {q n : Nat} (hq : q < l.length) (h : ∀ a ∈ l.take q, 0 ≤ a ∧ a < (n : Int)) (hx : 0 ≤ l[q] ∧ l[q] < n) : ∀ a ∈ l.take (q + 1), 0 ≤ a ∧ a < (n : Int) := by
  rw [take_snoc hq]
  intro a ha
  rcases List.mem_append.1 ha with h1 | h1
  · exact h a h1
  · rw [List.mem_singleton.1 h1]; exact hx
theorem asc_next {l : List Int} {p : Nat} (hp : p < l.length) (hp1 : 1 ≤ p) (h : ∀ i, i + 1 < p → i + 1 < l.length → l.getD i 0 < l.getD (i + 1) 0) (hx : l[p - 1]'(by omega) < l[p]) : ∀ i, i + 1 < p + 1 → i + 1 < l.length → l.getD i 0 < l.getD (i + 1) 0 := by
  intro i h1 h2
  by_cases e : i + 1 = p
  · have e2 : i = p - 1 := by omega
    subst e2
    have e3 : p - 1 + 1 = p := by omega
    simp only [e3, List.getD, List.getElem?_eq_getElem hp, List.getElem?_eq_getElem (show p - 1 < l.length by omega)]
    exact hx
  · exact h i (by omega) h2
theorem used_rel {rs : List (ByteArray × List Int)} {k q a : Nat} (hk : k < rs.length) (hq : rs[k].2.length ≤ q) : (((rs.take k).any fun r => inB r.2 a) || inB (rs[k].2.take q) a) = ((rs.take (k + 1)).any fun r => inB r.2 a) := by
  rw [take_snoc hk, List.take_of_length_le hq]
  simp only [List.any_append, List.any_cons, List.any_nil, Bool.or_false]
theorem relations_spec (S : Sch) (hS : SB S) : FnP Tryz.prog 64 [schP S] (· = .int .i64 (relsE S)) := by
  refine FnP.of Tryz.func64 rfl Tryz.ntmps64 (by simp) fun m0 w0 F R0 => ?_
  have hb := hS.a
  have hb2 := hS.r
  repeat refine AW.seq ?_
  refine AW.region ?_
  iterate 2 refine A1 rfl ?_
  repeat refine AW.seq ?_
  refine AW.region ?_
  refine A1 rfl ?_
  refine AW.weaken (St.le_gro 3 1 1 9 rfl rfl) ?_
  repeat refine AW.seq ?_
  refine AW.region ?_
  iterate 5 refine A1 rfl ?_
  repeat refine AW.seq ?_
  refine AW.region ?_
  iterate 4 refine A1 rfl ?_
  repeat refine AW.seq ?_
  refine AW.block ?_
  repeat refine AW.seq ?_
  refine AW.loop (st := fun x_0 : Nat × List ByteArray × List Bool => mkS [(3, .gsl 1 1 x_0.2.1.length), (4, .osl 2 1 S.attrs.length), (16, .pv (.sl none S.rels.length (relsC S.rels))), (17, .pv (.int .i64 S.rels.length)), (18, .pv (.int .i64 x_0.1))] [(1, .gro 9 (strsP x_0.2.1)), (2, .cells 4 (boolsP x_0.2.2))] 3)
    (I := fun x_0 => x_0.1 ≤ S.rels.length ∧ x_0.2.1 = (S.rels.map (·.1)).take x_0.1 ∧ UsedIs S.attrs.length x_0.2.2 (fun a => (S.rels.take x_0.1).any fun r => inB r.2 a) ∧ scanE (relE S) x_0.1 = 0) (μ := fun x_0 => S.rels.length - x_0.1) (x0 := (0, [], List.replicate S.attrs.length false)) (St.le_mk ⟨rfl, rfl, rfl, rfl, rfl, trivial⟩ ⟨rfl, congrArg (fun c => some (Ob.cells 4 c)) ((mkZ_one (.bool false) (S.attrs.length * 1)).trans (by simp)), trivial⟩ rfl rfl) (⟨Nat.zero_le _, rfl, UsedIs.zero _, rfl⟩) ?_
  rintro ⟨k, L, U⟩ ⟨hk, hL, hU, hs⟩
  try simp only at hk hL hU hs ⊢
  repeat refine AW.seq ?_
  refine AW.region ?_
  refine A1 rfl ?_
  repeat refine AW.seq ?_
  refine AW.condP rfl (fun hc19 => ?_) (fun hc19 => ?_)
  · have hlt : k < S.rels.length := by omega
    have hrow := rel_row hlt
    have hne := rel_ne hlt
    have hnl : L.length = k := by rw [hL]; simp; omega
    have htk : L ++ [S.rels[k].1] = (S.rels.map (·.1)).take (k + 1) := by rw [take_snoc (by simpa using hlt), hL]; simp
    have hns := named_spec (L ++ [S.rels[k].1]) k (by simp; omega) (by simp; omega) (by simp only [← hnl]; simp; exact hS.rn _ (List.getElem_mem _))
    rw [pstrs_snoc, htk, named_take (by omega)] at hns
    have hre := relE_eq2 S k hlt
    have hgd : S.rels.getD k default = S.rels[k] := by simp [List.getD, hlt]
    have hsl : (strsP L).length = L.length * 1 := by simp
    have hll := hS.rl _ (List.getElem_mem hlt)
    have hul := hU.1
    refine AW.skip ?_
    repeat refine AW.seq ?_
    refine AW.block ?_
    repeat refine AW.seq ?_
    refine AW.region ?_
    iterate 2 refine A1 rfl ?_
    refine RL.step (d := some 22) rfl rfl (xj_loadAR ⟨_, Tryz.underlying62, rfl⟩ sz62 rfl hrow rfl) ?_
    iterate 3 refine A1 rfl ?_
    repeat refine AW.seq ?_
    refine AW.region ?_
    iterate 6 refine A1 rfl ?_
    repeat refine AW.seq ?_
    refine AW.region ?_
    iterate 2 refine A1 rfl ?_
    refine RL.step (d := some 30) rfl rfl (xj_callF Tryz.call82 hns rfl rfl) ?_
    refine A1 rfl ?_
    repeat refine AW.seq ?_
    refine AW.region ?_
    iterate 2 refine A1 rfl ?_
    repeat refine AW.seq ?_
    refine AW.cond rfl (fun hc32 => ?_) (fun hc32 => ?_)
    · repeat refine AW.seq ?_
      refine AW.region ?_
      iterate 2 refine A1 rfl ?_
      repeat refine AW.seq ?_
      refine AW.ret ?_
      exact ⟨_, _, rfl, rfl, congrArg (PV.int .i64) (by have e : relE S k = namedE (S.rels.map (·.1)) k := (by unfold relE; rw [if_pos (inT hc32)]); unfold relsE; rw [scanE_at hs (by rw [e]; exact inT hc32) hlt, if_pos (by rw [e]; exact inT hc32), e])⟩
    · have hn0 : namedE (S.rels.map (·.1)) k = 0 := inF hc32
      have hre : relE S k = if S.rels[k].2 = [] then 7 else if (S.rels[k].2.all fun a => decide (0 ≤ a) && decide (a < S.attrs.length)) = false then 2 else if ascB S.rels[k].2 = false then 10 else 0 := by unfold relE; rw [if_neg (by simp [hn0]), hgd]
      have hfin : ∀ e : Int, e ≠ 0 → relE S k = e → PV.int .i64 e = .int .i64 (relsE S) := fun e h0 h1 => congrArg (PV.int .i64) (by unfold relsE; rw [scanE_at hs (by rw [h1]; exact h0) hlt, if_pos (by rw [h1]; exact h0), h1])
      refine AW.skip ?_
      repeat refine AW.seq ?_
      refine AW.region ?_
      iterate 4 refine A1 rfl ?_
      repeat refine AW.seq ?_
      refine AW.cond rfl (fun hc37 => ?_) (fun hc37 => ?_)
      · repeat refine AW.seq ?_
        refine AW.region ?_
        refine A1 rfl ?_
        repeat refine AW.seq ?_
        refine AW.ret ?_
        exact ⟨_, _, rfl, rfl, hfin 7 (by decide) (by rw [hre, if_pos (by have := ibT hc37; apply List.eq_nil_of_length_eq_zero; omega)])⟩
      · have hl0 : ¬ S.rels[k].2 = [] := fun e => by rw [e] at hc37; simp at hc37
        refine AW.skip ?_
        repeat refine AW.seq ?_
        refine AW.region ?_
        iterate 4 refine A1 rfl ?_
        repeat refine AW.seq ?_
        refine AW.block ?_
        repeat refine AW.seq ?_
        refine AW.loop (st := fun x_1 : Nat × List Bool => mkS [(3, .gsl 5 1 (L.length + 1)), (4, .osl 2 1 S.attrs.length), (6, .ptr 3 0), (16, .pv (.sl none S.rels.length (relsC S.rels))), (17, .pv (.int .i64 S.rels.length)), (18, .pv (.int .i64 k)), (39, .pv (pints S.rels[k].2)), (40, .pv (.int .i64 S.rels[k].2.length)), (41, .pv (.int .i64 x_1.1))] [(2, .cells 4 (boolsP x_1.2)), (3, .mix 62 [.pv (.str S.rels[k].1), .pv (pints S.rels[k].2)]), (5, .gro 9 (strsP L ++ [.str S.rels[k].1]))] 6)
          (I := fun x_1 => x_1.1 ≤ S.rels[k].2.length ∧ UsedIs S.attrs.length x_1.2 (fun a => ((S.rels.take k).any fun r => inB r.2 a) || inB (S.rels[k].2.take x_1.1) a) ∧ ∀ a ∈ S.rels[k].2.take x_1.1, 0 ≤ a ∧ a < S.attrs.length) (μ := fun x_1 => S.rels[k].2.length - x_1.1) (x0 := (0, U)) (St.le_mk ⟨rfl, rfl, rfl, rfl, rfl, rfl, rfl, rfl, rfl, trivial⟩ ⟨rfl, rfl, rfl, trivial⟩ rfl rfl) (⟨Nat.zero_le _, hU.congr (fun a _ => by simp [inB]), by simp⟩) ?_
        rintro ⟨q, U2⟩ ⟨hq, hU2, hr⟩
        try simp only at hq hU2 hr ⊢
        repeat refine AW.seq ?_
        refine AW.region ?_
        refine A1 rfl ?_
        repeat refine AW.seq ?_
        refine AW.condP rfl (fun hc42 => ?_) (fun hc42 => ?_)
        · have hql : q < S.rels[k].2.length := by omega
          have hv := pints_at hql
          have hne2 := pints_ne hql
          have hul2 := hU2.1
          refine AW.skip ?_
          repeat refine AW.seq ?_
          refine AW.block ?_
          repeat refine AW.seq ?_
          refine AW.region ?_
          refine A1 rfl ?_
          first | refine A2 rfl (by assumption) ?_ | refine A1 rfl ?_
          refine A1 rfl ?_
          repeat refine AW.seq ?_
          refine AW.region ?_
          iterate 3 refine A1 rfl ?_
          apply RL.orB 5 47 52 [48, 49, 50, 51] rfl (by first | exact MonoK.le | exact MonoK.aw | exact MonoK.back)
          · intro hb2
            iterate 5 refine A1 rfl ?_
            exact St.le_fg (fEq.upd (fEq.upd (fEq.upd (fEq.upd (fEq.upd (fEq.upd (fEq.refl) rfl) rfl) rfl) rfl) rfl) rfl) rfl rfl rfl
          · intro hb2
            iterate 5 refine A1 rfl ?_
            exact St.le_fg (fEq.upd (fEq.upd (fEq.upd (fEq.upd (fEq.upd (fEq.upd (fEq.refl) rfl) rfl) rfl) rfl) rfl) rfl) rfl rfl rfl
          repeat refine AW.seq ?_
          refine AW.cond rfl (fun hc52 => ?_) (fun hc52 => ?_)
          · repeat refine AW.seq ?_
            refine AW.region ?_
            refine A1 rfl ?_
            repeat refine AW.seq ?_
            refine AW.ret ?_
            exact ⟨_, _, rfl, rfl, hfin 2 (by decide) (by rw [hre, if_neg hl0, if_pos (rng_no hql (by simp at hc52; omega))])⟩
          · have hx : 0 ≤ S.rels[k].2[q] ∧ S.rels[k].2[q] < S.attrs.length := by simp only [Bool.or_eq_false_iff, decide_eq_false_iff_not] at hc52; omega
            obtain ⟨j, hj⟩ := Int.eq_ofNat_of_zero_le hx.1
            refine AW.skip ?_
            repeat refine AW.seq ?_
            refine AW.region ?_
            iterate 2 refine A1 rfl ?_
            refine RL.step (d := some 55) rfl rfl (xj_indexAddrO j Tryz.underlying110 sz4 rfl rfl rfl hj (by omega)) ?_
            refine A1 rfl ?_
            repeat refine AW.seq ?_
            refine AW.region ?_
            iterate 2 refine A1 rfl ?_
            exact ⟨(q + 1, U2.set j true), St.le_mk ⟨rfl, rfl, rfl, rfl, rfl, rfl, rfl, rfl, rfl, trivial⟩ ⟨by show some (Ob.cells _ _) = _; rw [← bools_set]; simp, rfl, rfl, trivial⟩ rfl rfl, ⟨by simp only; omega, (hU2.set (a := j) (by omega)).congr (fun a _ => used_next hql hj), rng_next hql hr hx⟩, by simp only; omega⟩
        · have hrng : (S.rels[k].2.all fun a => decide (0 ≤ a) && decide (a < S.attrs.length)) = true := rng_yes (fun a ha => hr a (by rw [List.take_of_length_le (by omega)]; exact ha))
          repeat refine AW.seq ?_
          refine AW.exit ?_
          repeat refine AW.seq ?_
          refine AW.region ?_
          refine A1 rfl ?_
          repeat refine AW.seq ?_
          refine AW.block ?_
          repeat refine AW.seq ?_
          refine AW.loop (st := fun x_2 : Nat => mkS [(3, .gsl 5 1 (L.length + 1)), (4, .osl 2 1 S.attrs.length), (6, .ptr 3 0), (10, .pv (.int .i64 x_2)), (16, .pv (.sl none S.rels.length (relsC S.rels))), (17, .pv (.int .i64 S.rels.length)), (18, .pv (.int .i64 k))] [(2, .cells 4 (boolsP U2)), (3, .mix 62 [.pv (.str S.rels[k].1), .pv (pints S.rels[k].2)]), (5, .gro 9 (strsP L ++ [.str S.rels[k].1]))] 6)
            (I := fun x_2 => 1 ≤ x_2 ∧ ∀ i, i + 1 < x_2 → i + 1 < S.rels[k].2.length → S.rels[k].2.getD i 0 < S.rels[k].2.getD (i + 1) 0) (μ := fun x_2 => S.rels[k].2.length - x_2) (x0 := (1)) (St.le_mk ⟨rfl, rfl, rfl, rfl, rfl, rfl, rfl, trivial⟩ ⟨rfl, rfl, rfl, trivial⟩ rfl rfl) (⟨Nat.le_refl _, fun i hi => by omega⟩) ?_
          rintro p ⟨hp1, hasc⟩
          repeat refine AW.seq ?_
          refine AW.region ?_
          iterate 5 refine A1 rfl ?_
          repeat refine AW.seq ?_
          refine AW.condP rfl (fun hc61 => ?_) (fun hc61 => ?_)
          · have hpl : p < S.rels[k].2.length := by omega
            have hpl1 : p - 1 < S.rels[k].2.length := by omega
            have hv := pints_at hpl
            have hv1 := pints_at hpl1
            have hne2 := pints_ne hpl
            refine AW.skip ?_
            repeat refine AW.seq ?_
            refine AW.block ?_
            repeat refine AW.seq ?_
            refine AW.draw follows [[], [0], [], [2, 1, 0], [3, 2, 1, 0], [], [5], [], [7], [8, 6, 5, 7], [9, 8, 6, 5, 7], [10, 4, 3, 2, 1, 0, 9, 8, 6, 5, 7]] [0, 1, 2, 3, 4, 5, 6, 7, 8, 9, 10, 11] (by kernel_rfl) (by kernel_rfl) ?_
            iterate 4 refine D1 rfl rfl ?_
            first | refine D2 rfl rfl (by assumption) ?_ | refine D1 rfl rfl ?_
            iterate 4 refine D1 rfl rfl ?_
            refine DL.step (d := some 73) [] rfl rfl rfl (fun τ h => xj_indexAddr (p - 1) Tryz.underlying22 sz3 ((h.e 0 _ rfl).trans rfl) ((h.e 1 _ rfl).trans rfl) (by omega) (by omega) hne2) rfl (by kernel_rfl) ?_
            first | refine D2 rfl rfl (by assumption) ?_ | refine D1 rfl rfl ?_
            refine D1 rfl rfl ?_
            refine ⟨by kernel_rfl, ?_⟩
            repeat refine AW.seq ?_
            refine AW.condP rfl (fun hc75 => ?_) (fun hc75 => ?_)
            · repeat refine AW.seq ?_
              refine AW.region ?_
              refine A1 rfl ?_
              repeat refine AW.seq ?_
              refine AW.ret ?_
              exact ⟨_, _, rfl, rfl, hfin 10 (by decide) (by rw [hre, if_neg hl0, if_neg (by rw [hrng]; decide), if_pos (asc_no hp1 hpl hc75)])⟩
            · refine AW.skip ?_
              repeat refine AW.seq ?_
              refine AW.region ?_
              iterate 3 refine A1 rfl ?_
              exact ⟨(p + 1), St.le_mk ⟨rfl, rfl, rfl, rfl, rfl, rfl, rfl, trivial⟩ ⟨rfl, rfl, rfl, trivial⟩ rfl rfl, ⟨by omega, asc_next hpl hp1 hasc (by omega)⟩, by omega⟩
          · repeat refine AW.seq ?_
            refine AW.exit ?_
            repeat refine AW.seq ?_
            refine AW.region ?_
            iterate 2 refine A1 rfl ?_
            exact ⟨(k + 1, L ++ [S.rels[k].1], U2), St.le_mkR [0, 5, 2] ⟨by simp; rfl, rfl, rfl, rfl, rfl, trivial⟩ ⟨congrArg (fun c => some (Ob.gro 9 c)) (strs_snoc L S.rels[k].1).symm, rfl, trivial⟩ rfl rfl (by decide) rfl, ⟨by simp only; omega, htk, hU2.congr (fun a _ => used_rel hlt (by omega)), by simp only; rw [scanE_succ hs, hre, if_neg hl0, if_neg (by rw [hrng]; decide), if_neg (by rw [asc_yes (fun i hi => hasc i (by omega) hi)]; decide)]⟩, by simp only; omega⟩
  · have hfull : ((List.range S.attrs.length).all fun a => (S.rels.take k).any fun r => inB r.2 a) = ((List.range S.attrs.length).all fun a => usedB S a) := by rw [List.take_of_length_le (by omega)]; rfl
    repeat refine AW.seq ?_
    refine AW.exit ?_
    repeat refine AW.seq ?_
    refine AW.region ?_
    refine A1 rfl ?_
    refine RL.step (d := some 78) rfl rfl (xj_callF Tryz.call83 (containsB_spec U false (by have := hU.1; omega)) (by rw [pbools, hU.1]; rfl) rfl) ?_
    repeat refine AW.seq ?_
    refine AW.cond rfl (fun hc78 => ?_) (fun hc78 => ?_)
    · repeat refine AW.seq ?_
      refine AW.region ?_
      refine A1 rfl ?_
      repeat refine AW.seq ?_
      refine AW.ret ?_
      exact ⟨_, _, rfl, rfl, congrArg (PV.int .i64) (by unfold relsE; rw [show S.rels.length = k by omega, if_neg (by simp [hs]), if_pos (by rw [← hfull]; rw [hU.mem] at hc78; simpa using hc78)])⟩
    · refine AW.skip ?_
      repeat refine AW.seq ?_
      refine AW.region ?_
      refine A1 rfl ?_
      repeat refine AW.seq ?_
      refine AW.ret ?_
      exact ⟨_, _, rfl, rfl, congrArg (PV.int .i64) (by unfold relsE; rw [show S.rels.length = k by omega, if_neg (by simp [hs]), if_neg (by rw [← hfull]; rw [hU.mem] at hc78; simpa using hc78)])⟩
end Go.Proofs.YtkalgjnhaicabaaGreat
namespace Go.Proofs.YtkalgjnhaicabaaGreat
open Go.RowKit Mk
set_option maxRecDepth 100000
set_option maxHeartbeats 1000000
abbrev featR (f : Int × Int × Int) : List PV := [.int .i64 f.1, .int .i64 f.2.1, .int .i64 f.2.2]
theorem feat_row {l : List (Int × Int × Int)} {k : Nat} (h : k < l.length) : ((featsC l).drop (k * 3)).take 3 = featR l[k] := flat_row _ 3 (fun _ => rfl) l k h
theorem feat_ne {l : List (Int × Int × Int)} {k : Nat} (h : k < l.length) : featsC l ≠ [] := fun e => by have := featsC_len l; rw [e] at this; simp at this; omega
theorem any_take {α : Type} {l : List α} {p : α → Bool} {k : Nat} (hk : k < l.length) (h : (l.take k).any p = false) (hn : p l[k] = false) : (l.take (k + 1)).any p = false := by
  rw [take_snoc hk]; simp only [List.any_append, h, List.any_cons, hn, List.any_nil, Bool.or_false]
theorem any_at {α : Type} {l : List α} {p : α → Bool} {k : Nat} (hk : k < l.length) (h : p l[k] = true) : l.any p = true := List.any_eq_true.2 ⟨_, List.getElem_mem hk, h⟩
theorem idxF_spec (l : List (Int × Int × Int)) (g : FuncId) (caps : List PV) (p : Int × Int × Int → Bool) (hl : l.length ≤ 1000000) (hc : CallOk Tryz.prog g) (hg : ∀ f ∈ l, FnP Tryz.prog g ([] ++ [.agg (featR f)] ++ caps) (· = .bool (p f))) :
    FnP Tryz.prog 95 [.sl none l.length (featsC l), .fn (.func g) [] caps] (fun v => ∃ i : Int, v = .int .i64 i ∧ decide (0 ≤ i) = l.any p) := by
  refine FnP.of Tryz.func95 rfl Tryz.ntmps95 (by simp) fun m0 w0 F R0 => ?_
  repeat refine AW.seq ?_
  refine AW.region ?_
  refine A1 rfl ?_
  repeat refine AW.seq ?_
  refine AW.region ?_
  iterate 3 refine A1 rfl ?_
  repeat refine AW.seq ?_
  refine AW.block ?_
  repeat refine AW.seq ?_
  refine AW.loop (st := fun x_0 : Nat => mkS [(0, .pv (.sl none l.length (featsC l))), (1, .pv (.fn (.func g) [] caps)), (7, .pv (.int .i64 l.length)), (8, .pv (.int .i64 x_0))] [] 0)
    (I := fun x_0 => x_0 ≤ l.length ∧ (l.take x_0).any p = false) (μ := fun x_0 => l.length - x_0) (x0 := (0)) (St.le_mk ⟨rfl, rfl, rfl, rfl, trivial⟩ trivial rfl rfl) (⟨Nat.zero_le _, rfl⟩) ?_
  rintro k ⟨hk, hno⟩
  repeat refine AW.seq ?_
  refine AW.region ?_
  refine A1 rfl ?_
  repeat refine AW.seq ?_
  refine AW.condP rfl (fun hc9 => ?_) (fun hc9 => ?_)
  · have hlt : k < l.length := by omega
    have hrow := feat_row hlt
    have hne := feat_ne hlt
    have hgk := hg _ (List.getElem_mem hlt)
    refine AW.skip ?_
    repeat refine AW.seq ?_
    refine AW.block ?_
    repeat refine AW.seq ?_
    refine AW.region ?_
    iterate 2 refine A1 rfl ?_
    repeat refine AW.seq ?_
    refine AW.region ?_
    iterate 4 refine A1 rfl ?_
    refine RL.step (d := some 15) rfl rfl (xj_loadAR ⟨_, Tryz.underlying73, rfl⟩ sz73 rfl hrow rfl) ?_
    refine RL.step (d := some 16) rfl rfl (xj_callV hc rfl hgk rfl) ?_
    repeat refine AW.seq ?_
    refine AW.cond rfl (fun hc16 => ?_) (fun hc16 => ?_)
    · repeat refine AW.seq ?_
      refine AW.region ?_
      iterate 2 refine A1 rfl ?_
      repeat refine AW.seq ?_
      refine AW.ret ?_
      exact ⟨_, _, rfl, rfl, _, rfl, by rw [any_at hlt hc16]; exact decide_eq_true (by omega)⟩
    · refine AW.skip ?_
      repeat refine AW.seq ?_
      refine AW.region ?_
      iterate 2 refine A1 rfl ?_
      exact ⟨(k + 1), St.le_mk ⟨rfl, rfl, rfl, rfl, trivial⟩ trivial rfl rfl, ⟨by omega, any_take hlt hno hc16⟩, by omega⟩
  · repeat refine AW.seq ?_
    refine AW.exit ?_
    repeat refine AW.seq ?_
    refine AW.region ?_
    refine A1 rfl ?_
    repeat refine AW.seq ?_
    refine AW.ret ?_
    exact ⟨_, _, rfl, rfl, _, rfl, by rw [List.take_of_length_le (by omega)] at hno; rw [hno]; rfl⟩
theorem containsF_spec (l : List (Int × Int × Int)) (g : FuncId) (caps : List PV) (p : Int × Int × Int → Bool) (hl : l.length ≤ 1000000) (hc : CallOk Tryz.prog g) (hg : ∀ f ∈ l, FnP Tryz.prog g ([] ++ [.agg (featR f)] ++ caps) (· = .bool (p f))) :
    FnP Tryz.prog 84 [.sl none l.length (featsC l), .fn (.func g) [] caps] (· = .bool (l.any p)) := by
  refine FnP.of Tryz.func84 rfl Tryz.ntmps84 (by simp) fun m0 w0 F R0 => ?_
  repeat refine AW.seq ?_
  refine AW.region ?_
  refine A1 rfl ?_
  repeat refine AW.seq ?_
  refine AW.region ?_
  iterate 2 refine A1 rfl ?_
  refine RL.call rfl (oj_call Tryz.call95 (idxF_spec l g caps p hl hc hg) rfl ?_)
  rintro _ ⟨i, rfl, hi⟩
  iterate 2 refine A1 rfl ?_
  repeat refine AW.seq ?_
  refine AW.ret ?_
  exact ⟨_, _, rfl, rfl, congrArg PV.bool hi⟩
theorem feat1_spec (f : Int × Int × Int) (c : List PV) (a : Int) (hc : c[0]? = some (.int .i64 a)) : FnP Tryz.prog 85 [.agg (featR f), .rp c 0] (· = .bool (f.1 == a)) := by
  refine FnP.of Tryz.func85 rfl Tryz.ntmps85 (by simp) fun m0 w0 F R0 => ?_
  repeat refine AW.seq ?_
  refine AW.region ?_
  iterate 2 refine A1 rfl ?_
  repeat refine AW.seq ?_
  refine AW.region ?_
  iterate 3 refine A1 rfl ?_
  first | refine A1 rfl ?_ | refine A2 rfl (by assumption) ?_
  iterate 2 refine A1 rfl ?_
  repeat refine AW.seq ?_
  refine AW.ret ?_
  exact ⟨_, _, rfl, rfl, rfl⟩
theorem feats_take (l : List (Int × Int × Int)) (k : Nat) (hk : k ≤ l.length) : PV.sl none k ((featsC l).take (k * 3)) = .sl none (l.take k).length (featsC (l.take k)) := by
  have e : (featsC l).take (k * 3) = featsC (l.take k) := by
    conv => lhs; rw [← List.take_append_drop k l]
    have : featsC (l.take k ++ l.drop k) = featsC (l.take k) ++ featsC (l.drop k) := by unfold featsC; rw [List.flatMap_append]
    rw [this, List.take_append_of_le_length (by rw [featsC_len]; simp; omega), List.take_of_length_le (by rw [featsC_len]; simp; omega)]
  rw [e]; simp; omega
theorem features_spec (S : Sch) (hS : SB S) : FnP Tryz.prog 65 [schP S] (· = .int .i64 (scanE (featE S) S.feats.length)) := by
  refine FnP.of Tryz.func65 rfl Tryz.ntmps65 (by simp) fun m0 w0 F R0 => ?_
  have hb := hS.a
  have hb2 := hS.f
  have hFl := featsC_len S.feats
  repeat refine AW.seq ?_
  refine AW.region ?_
  iterate 2 refine A1 rfl ?_
  repeat refine AW.seq ?_
  refine AW.region ?_
  iterate 4 refine A1 rfl ?_
  repeat refine AW.seq ?_
  refine AW.block ?_
  repeat refine AW.seq ?_
  refine AW.loop (st := fun x_0 : Nat => mkS [(1, .ptr 0 0), (9, .pv (.sl none S.feats.length (featsC S.feats))), (10, .pv (.int .i64 S.feats.length)), (11, .pv (.int .i64 x_0))] [(0, .mix 27 [.pv (.sl none S.attrs.length (attrsC S.attrs)), .pv (.sl none S.rels.length (relsC S.rels)), .pv (.sl none S.feats.length (featsC S.feats)), .pv (.int .i64 S.label)])] 1)
    (I := fun x_0 => x_0 ≤ S.feats.length ∧ scanE (featE S) x_0 = 0) (μ := fun x_0 => S.feats.length - x_0) (x0 := (0)) (St.le_mk ⟨rfl, rfl, rfl, rfl, trivial⟩ ⟨rfl, trivial⟩ rfl rfl) (⟨Nat.zero_le _, rfl⟩) ?_
  rintro k ⟨hk, hs⟩
  repeat refine AW.seq ?_
  refine AW.region ?_
  refine A1 rfl ?_
  repeat refine AW.seq ?_
  refine AW.condP rfl (fun hc12 => ?_) (fun hc12 => ?_)
  · have hlt : k < S.feats.length := by omega
    have hrow := feat_row hlt
    have hne := feat_ne hlt
    have hfe := featE_eq2 S k hlt
    have hfin : ∀ e : Int, e ≠ 0 → featE S k = e → PV.int .i64 e = .int .i64 (scanE (featE S) S.feats.length) := fun e h0 h1 => congrArg (PV.int .i64) (by rw [scanE_at hs (by rw [h1]; exact h0) hlt, h1])
    refine AW.skip ?_
    repeat refine AW.seq ?_
    refine AW.block ?_
    repeat refine AW.seq ?_
    refine AW.region ?_
    iterate 2 refine A1 rfl ?_
    refine RL.step (d := some 15) rfl rfl (xj_loadAR ⟨_, Tryz.underlying73, rfl⟩ sz73 rfl hrow rfl) ?_
    iterate 3 refine A1 rfl ?_
    repeat refine AW.seq ?_
    refine AW.region ?_
    iterate 4 refine A1 rfl ?_
    apply RL.orB 7 19 26 [20, 21, 22, 23, 24, 25] rfl (by first | exact MonoK.le | exact MonoK.aw | exact MonoK.back)
    · intro hb3
      iterate 7 refine A1 rfl ?_
      exact St.le_fg (fEq.upd (fEq.upd (fEq.upd (fEq.upd (fEq.upd (fEq.upd (fEq.upd (fEq.upd (fEq.refl) rfl) rfl) rfl) rfl) rfl) rfl) rfl) rfl) rfl rfl rfl
    · intro hb3
      iterate 7 refine A1 rfl ?_
      exact St.le_fg (fEq.upd (fEq.upd (fEq.upd (fEq.upd (fEq.upd (fEq.upd (fEq.upd (fEq.upd (fEq.refl) rfl) rfl) rfl) rfl) rfl) rfl) rfl) rfl) rfl rfl rfl
    repeat refine AW.seq ?_
    refine AW.cond rfl (fun hc26 => ?_) (fun hc26 => ?_)
    · repeat refine AW.seq ?_
      refine AW.region ?_
      refine A1 rfl ?_
      repeat refine AW.seq ?_
      refine AW.ret ?_
      exact ⟨_, _, rfl, rfl, hfin 2 (by decide) (by rw [hfe, if_pos (by simpa using hc26)])⟩
    · have hx : 0 ≤ S.feats[k].1 ∧ S.feats[k].1 < S.attrs.length := by simp only [Bool.or_eq_false_iff, decide_eq_false_iff_not] at hc26; omega
      obtain ⟨a, ha⟩ := Int.eq_ofNat_of_zero_le hx.1
      have hal : a < S.attrs.length := by omega
      have hk2 : (attrsC S.attrs)[a * 2 + 1]? = some (.int .i64 S.attrs[a].2) := flat_at _ 2 (fun _ => rfl) S.attrs a 1 hal (by decide)
      have hane := attr_ne hal
      have hkd : (S.attrs.getD S.feats[k].1.toNat default).2 = S.attrs[a].2 := by rw [ha]; simp [List.getD, hal]
      refine AW.skip ?_
      repeat refine AW.seq ?_
      refine AW.region ?_
      iterate 4 refine A1 rfl ?_
      refine RL.step (d := some 31) rfl rfl (xj_indexAddr a Tryz.underlying23 sz71 rfl rfl ha hal hane) ?_
      refine A1 rfl ?_
      first | refine A2 rfl (by assumption) ?_ | refine A1 rfl ?_
      refine A1 rfl ?_
      repeat refine AW.seq ?_
      refine AW.region ?_
      iterate 4 refine A1 rfl ?_
      apply RL.andB 3 37 40 [38, 39] rfl (by first | exact MonoK.le | exact MonoK.aw | exact MonoK.back)
      · intro hb3
        iterate 3 refine A1 rfl ?_
        exact St.le_fg (fEq.upd (fEq.upd (fEq.upd (fEq.upd (fEq.refl) rfl) rfl) rfl) rfl) rfl rfl rfl
      · intro hb3
        iterate 3 refine A1 rfl ?_
        exact St.le_fg (fEq.upd (fEq.upd (fEq.upd (fEq.upd (fEq.refl) rfl) rfl) rfl) rfl) rfl rfl rfl
      refine A1 rfl ?_
      apply RL.andB 9 41 50 [42, 43, 44, 45, 46, 47, 48, 49] rfl (by first | exact MonoK.le | exact MonoK.aw | exact MonoK.back)
      · intro hb7
        iterate 4 refine A1 rfl ?_
        apply RL.orB 4 45 49 [46, 47, 48] rfl (by first | exact MonoK.le | exact MonoK.aw | exact MonoK.back)
        · intro hb11
          iterate 4 refine A1 rfl ?_
          exact St.le_fg (fEq.upd (fEq.upd (fEq.upd (fEq.upd (fEq.upd (fEq.refl) rfl) rfl) rfl) rfl) rfl) rfl rfl rfl
        · intro hb11
          iterate 4 refine A1 rfl ?_
          exact St.le_fg (fEq.upd (fEq.upd (fEq.upd (fEq.upd (fEq.upd (fEq.refl) rfl) rfl) rfl) rfl) rfl) rfl rfl rfl
        refine A1 rfl ?_
        exact St.le_fg (fEq.upd (fEq.upd (fEq.upd (fEq.upd (fEq.upd (fEq.upd (fEq.upd (fEq.upd (fEq.upd (fEq.upd (fEq.upd (fEq.refl) rfl) rfl) rfl) rfl) rfl) rfl) rfl) rfl) rfl) rfl) rfl) rfl rfl rfl
      · intro hb7
        iterate 9 refine A1 rfl ?_
        exact St.le_fg (fEq.upd (fEq.upd (fEq.upd (fEq.upd (fEq.upd (fEq.upd (fEq.upd (fEq.upd (fEq.upd (fEq.upd (fEq.refl) rfl) rfl) rfl) rfl) rfl) rfl) rfl) rfl) rfl) rfl) rfl rfl rfl
      refine A1 rfl ?_
      repeat refine AW.seq ?_
      refine AW.region ?_
      iterate 4 refine A1 rfl ?_
      apply RL.andB 3 54 57 [55, 56] rfl (by first | exact MonoK.le | exact MonoK.aw | exact MonoK.back)
      · intro hb3
        iterate 3 refine A1 rfl ?_
        exact St.le_fg (fEq.upd (fEq.upd (fEq.upd (fEq.upd (fEq.refl) rfl) rfl) rfl) rfl) rfl rfl rfl
      · intro hb3
        iterate 3 refine A1 rfl ?_
        exact St.le_fg (fEq.upd (fEq.upd (fEq.upd (fEq.upd (fEq.refl) rfl) rfl) rfl) rfl) rfl rfl rfl
      refine A1 rfl ?_
      apply RL.andB 4 58 62 [59, 60, 61] rfl (by first | exact MonoK.le | exact MonoK.aw | exact MonoK.back)
      · intro hb7
        iterate 4 refine A1 rfl ?_
        exact St.le_fg (fEq.upd (fEq.upd (fEq.upd (fEq.upd (fEq.upd (fEq.refl) rfl) rfl) rfl) rfl) rfl) rfl rfl rfl
      · intro hb7
        iterate 4 refine A1 rfl ?_
        exact St.le_fg (fEq.upd (fEq.upd (fEq.upd (fEq.upd (fEq.upd (fEq.refl) rfl) rfl) rfl) rfl) rfl) rfl rfl rfl
      refine A1 rfl ?_
      repeat refine AW.seq ?_
      refine AW.region ?_
      iterate 3 refine A1 rfl ?_
      apply RL.andB 3 65 68 [66, 67] rfl (by first | exact MonoK.le | exact MonoK.aw | exact MonoK.back)
      · intro hb2
        iterate 3 refine A1 rfl ?_
        exact St.le_fg (fEq.upd (fEq.upd (fEq.upd (fEq.upd (fEq.refl) rfl) rfl) rfl) rfl) rfl rfl rfl
      · intro hb2
        iterate 3 refine A1 rfl ?_
        exact St.le_fg (fEq.upd (fEq.upd (fEq.upd (fEq.upd (fEq.refl) rfl) rfl) rfl) rfl) rfl rfl rfl
      repeat refine AW.seq ?_
      refine AW.cond rfl (fun hc68 => ?_) (fun hc68 => ?_)
      · repeat refine AW.seq ?_
        refine AW.region ?_
        refine A1 rfl ?_
        repeat refine AW.seq ?_
        refine AW.ret ?_
        exact ⟨_, _, rfl, rfl, hfin 7 (by decide) (by rw [hfe, if_neg (by omega), hkd, if_pos (by rw [Bool.or_eq_false_iff]; rw [Bool.and_eq_true, Bool.not_eq_true', Bool.not_eq_true'] at hc68; exact hc68)])⟩
      · refine AW.skip ?_
        refine AW.weaken (St.le_ppA 1 rfl rfl) ?_
        repeat refine AW.seq ?_
        refine AW.region ?_
        iterate 6 refine A1 rfl ?_
        apply RL.orB 7 74 81 [75, 76, 77, 78, 79, 80] rfl (by first | exact MonoK.le | exact MonoK.aw | exact MonoK.back)
        · intro hb5
          iterate 7 refine A1 rfl ?_
          exact St.le_fg (fEq.upd (fEq.upd (fEq.upd (fEq.upd (fEq.upd (fEq.upd (fEq.upd (fEq.upd (fEq.refl) rfl) rfl) rfl) rfl) rfl) rfl) rfl) rfl) rfl rfl rfl
        · intro hb5
          iterate 3 refine A1 rfl ?_
          refine RL.stepG (d := some 78) rfl rfl rfl (XJ.cast (v' := .pv (.sl none (S.feats.take k).length (featsC (S.feats.take k)))) (xj_sliceTo k Tryz.underlying25 sz73 rfl rfl rfl (by omega) hFl) (by rw [feats_take _ _ hk])) ?_
          refine A1 rfl ?_
          refine RL.stepG (d := some 80) rfl rfl rfl (xj_call Tryz.call84 (containsF_spec (S.feats.take k) 85 [.rp (featR S.feats[k]) 0] (fun g => g.1 == S.feats[k].1) (by simp; omega) Tryz.call85 (fun f _ => feat1_spec f _ _ rfl)) rfl) ?_
          refine A1 rfl ?_
          exact St.le_fg (fEq.upd (fEq.upd (fEq.upd (fEq.upd (fEq.upd (fEq.upd (fEq.upd (fEq.upd (fEq.refl) rfl) rfl) rfl) rfl) rfl) rfl) rfl) rfl) rfl rfl rfl
        repeat refine AW.seq ?_
        refine AW.cond rfl (fun hc81 => ?_) (fun hc81 => ?_)
        · repeat refine AW.seq ?_
          refine AW.region ?_
          refine A1 rfl ?_
          repeat refine AW.seq ?_
          refine AW.ret ?_
          exact ⟨_, _, rfl, rfl, hfin 9 (by decide) (by rw [hfe, if_neg (by omega), hkd, if_neg (by intro h; rw [Bool.or_eq_false_iff] at h; rw [h.1, h.2] at hc68; cases hc68), if_pos hc81])⟩
        · refine AW.skip ?_
          repeat refine AW.seq ?_
          refine AW.region ?_
          iterate 2 refine A1 rfl ?_
          exact ⟨(k + 1), St.le_mk ⟨rfl, rfl, rfl, rfl, trivial⟩ ⟨rfl, trivial⟩ rfl rfl, ⟨by omega, by rw [scanE_succ hs, hfe, if_neg (by omega), hkd, if_neg (by intro h; rw [Bool.or_eq_false_iff] at h; rw [h.1, h.2] at hc68; cases hc68), if_neg (by rw [hc81]; decide)]⟩, by omega⟩
  · repeat refine AW.seq ?_
    refine AW.exit ?_
    repeat refine AW.seq ?_
    refine AW.region ?_
    refine A1 rfl ?_
    repeat refine AW.seq ?_
    refine AW.ret ?_
    exact ⟨_, _, rfl, rfl, congrArg (PV.int .i64) (by rw [show S.feats.length = k by omega, hs])⟩
end Go.Proofs.YtkalgjnhaicabaaGreat
namespace Go.Proofs.YtkalgjnhaicabaaGreat
open Go.RowKit Mk
set_option maxRecDepth 100000
set_option maxHeartbeats 2000000
theorem lim_eq (S : Sch) : ((((((S.attrs.length : Int) == 0) || decide ((12 : Int) < S.attrs.length)) || ((S.rels.length : Int) == 0)) || decide ((6 : Int) < S.rels.length)) || decide ((8 : Int) < S.feats.length)) = true ↔ S.attrs.length = 0 ∨ 12 < S.attrs.length ∨ S.rels.length = 0 ∨ 6 < S.rels.length ∨ 8 < S.feats.length := by
  simp only [Bool.or_eq_true, beq_iff_eq, decide_eq_true_eq]
  omega
/-- The three checks, by their numbers. -/
def chkAt (S : Sch) : Nat → Int
  | 0 => scanE (attrE S) S.attrs.length
  | 1 => relsE S
  | _ => scanE (featE S) S.feats.length
def chkFn : Nat → FuncId
  | 0 => 63
  | 1 => 64
  | _ => 65
theorem chkFn_spec (S : Sch) (hS : SB S) (k : Nat) : FnP Tryz.prog (chkFn k) [schP S] (· = .int .i64 (chkAt S k)) := by
  match k with
  | 0 => exact attributes_spec S hS
  | 1 => exact relations_spec S hS
  | k + 2 => exact features_spec S hS
theorem chkFn_ok (k : Nat) : CallOk Tryz.prog (chkFn k) := by
  match k with
  | 0 => exact Tryz.call63
  | 1 => exact Tryz.call64
  | k + 2 => exact Tryz.call65
theorem chkFn_at (k : Nat) (hk : k < 3) : ([.fn (.func 63) [] [], .fn (.func 64) [] [], .fn (.func 65) [] []] : List PV)[k * 1]? = some (.fn (.func (chkFn k)) [] []) := by
  match k, hk with
  | 0, _ => rfl
  | 1, _ => rfl
  | 2, _ => rfl
theorem chk_stop {S : Sch} {k : Nat} (hlim : ¬ (S.attrs.length = 0 ∨ 12 < S.attrs.length ∨ S.rels.length = 0 ∨ 6 < S.rels.length ∨ 8 < S.feats.length)) (hk : k < 3) (hz : ∀ j, j < k → chkAt S j = 0) (h : ¬ chkAt S k = 0) : chkAt S k = checkE S := by
  unfold checkE
  rw [if_neg hlim]
  match k, hk with
  | 0, _ => rw [if_pos (show scanE (attrE S) S.attrs.length ≠ 0 from h)]; rfl
  | 1, _ => have h0 := hz 0 (by omega); rw [if_neg (fun e => e h0), if_pos (show relsE S ≠ 0 from h)]; rfl
  | 2, _ => have h0 := hz 0 (by omega); have h1 := hz 1 (by omega); rw [if_neg (fun e => e h0), if_neg (fun e => e h1), if_pos (show scanE (featE S) S.feats.length ≠ 0 from h)]; rfl
theorem chk_spec (S : Sch) (hS : SB S) : FnP Tryz.prog 42 [schP S] (· = .int .i64 (checkE S)) := by
  refine FnP.of Tryz.func42 rfl Tryz.ntmps42 (by simp) fun m0 w0 F R0 => ?_
  have hb := hS.a
  repeat refine AW.seq ?_
  refine AW.region ?_
  iterate 2 refine A1 rfl ?_
  repeat refine AW.seq ?_
  refine AW.region ?_
  iterate 5 refine A1 rfl ?_
  apply RL.orB 5 10 15 [11, 12, 13, 14] rfl (by first | exact MonoK.le | exact MonoK.aw | exact MonoK.back)
  · intro hb4
    iterate 5 refine A1 rfl ?_
    exact St.le_fg (fEq.upd (fEq.upd (fEq.upd (fEq.upd (fEq.upd (fEq.upd (fEq.refl) rfl) rfl) rfl) rfl) rfl) rfl) rfl rfl rfl
  · intro hb4
    iterate 5 refine A1 rfl ?_
    exact St.le_fg (fEq.upd (fEq.upd (fEq.upd (fEq.upd (fEq.upd (fEq.upd (fEq.refl) rfl) rfl) rfl) rfl) rfl) rfl) rfl rfl rfl
  refine A1 rfl ?_
  apply RL.orB 5 16 21 [17, 18, 19, 20] rfl (by first | exact MonoK.le | exact MonoK.aw | exact MonoK.back)
  · intro hb10
    iterate 5 refine A1 rfl ?_
    exact St.le_fg (fEq.upd (fEq.upd (fEq.upd (fEq.upd (fEq.upd (fEq.upd (fEq.refl) rfl) rfl) rfl) rfl) rfl) rfl) rfl rfl rfl
  · intro hb10
    iterate 5 refine A1 rfl ?_
    exact St.le_fg (fEq.upd (fEq.upd (fEq.upd (fEq.upd (fEq.upd (fEq.upd (fEq.refl) rfl) rfl) rfl) rfl) rfl) rfl) rfl rfl rfl
  refine A1 rfl ?_
  apply RL.orB 5 22 27 [23, 24, 25, 26] rfl (by first | exact MonoK.le | exact MonoK.aw | exact MonoK.back)
  · intro hb16
    iterate 5 refine A1 rfl ?_
    exact St.le_fg (fEq.upd (fEq.upd (fEq.upd (fEq.upd (fEq.upd (fEq.upd (fEq.refl) rfl) rfl) rfl) rfl) rfl) rfl) rfl rfl rfl
  · intro hb16
    iterate 5 refine A1 rfl ?_
    exact St.le_fg (fEq.upd (fEq.upd (fEq.upd (fEq.upd (fEq.upd (fEq.upd (fEq.refl) rfl) rfl) rfl) rfl) rfl) rfl) rfl rfl rfl
  refine A1 rfl ?_
  apply RL.orB 5 28 33 [29, 30, 31, 32] rfl (by first | exact MonoK.le | exact MonoK.aw | exact MonoK.back)
  · intro hb22
    iterate 5 refine A1 rfl ?_
    exact St.le_fg (fEq.upd (fEq.upd (fEq.upd (fEq.upd (fEq.upd (fEq.upd (fEq.refl) rfl) rfl) rfl) rfl) rfl) rfl) rfl rfl rfl
  · intro hb22
    iterate 5 refine A1 rfl ?_
    exact St.le_fg (fEq.upd (fEq.upd (fEq.upd (fEq.upd (fEq.upd (fEq.upd (fEq.refl) rfl) rfl) rfl) rfl) rfl) rfl) rfl rfl rfl
  repeat refine AW.seq ?_
  refine AW.cond rfl (fun hc33 => ?_) (fun hc33 => ?_)
  · repeat refine AW.seq ?_
    refine AW.region ?_
    refine A1 rfl ?_
    repeat refine AW.seq ?_
    refine AW.ret ?_
    exact ⟨_, _, rfl, rfl, congrArg (PV.int .i64) (by unfold checkE; rw [if_pos ((lim_eq S).1 hc33)])⟩
  · have hlim : ¬ (S.attrs.length = 0 ∨ 12 < S.attrs.length ∨ S.rels.length = 0 ∨ 6 < S.rels.length ∨ 8 < S.feats.length) := fun h => by rw [(lim_eq S).2 h] at hc33; cases hc33
    refine AW.skip ?_
    repeat refine AW.seq ?_
    refine AW.region ?_
    refine RL.step (d := some 34) rfl rfl (xj_buildSliceP none (by simp) el94 rfl (by decide) (by decide) rfl rfl) ?_
    iterate 2 refine A1 rfl ?_
    repeat refine AW.seq ?_
    refine AW.block ?_
    repeat refine AW.seq ?_
    refine AW.loop (st := fun x_0 : Nat => mkS [(1, .ptr 0 0), (34, .pv (.sl none 3 [.fn (.func 63) [] [], .fn (.func 64) [] [], .fn (.func 65) [] []])), (35, .pv (.int .i64 3)), (36, .pv (.int .i64 x_0))] [(0, .mix 27 [.pv (.sl none S.attrs.length (attrsC S.attrs)), .pv (.sl none S.rels.length (relsC S.rels)), .pv (.sl none S.feats.length (featsC S.feats)), .pv (.int .i64 S.label)])] 1)
      (I := fun x_0 => x_0 ≤ 3 ∧ ∀ j, j < x_0 → chkAt S j = 0) (μ := fun x_0 => 3 - x_0) (x0 := (0)) (St.le_mk ⟨rfl, rfl, rfl, rfl, trivial⟩ ⟨rfl, trivial⟩ rfl rfl) (⟨by omega, fun j hj => absurd hj (Nat.not_lt_zero _)⟩) ?_
    rintro k ⟨hk, hz⟩
    repeat refine AW.seq ?_
    refine AW.region ?_
    refine A1 rfl ?_
    repeat refine AW.seq ?_
    refine AW.condP rfl (fun hc37 => ?_) (fun hc37 => ?_)
    · have hlt : k < 3 := by omega
      have hv := chkFn_at k hlt
      refine AW.skip ?_
      repeat refine AW.seq ?_
      refine AW.block ?_
      repeat refine AW.seq ?_
      refine AW.region ?_
      refine RL.step (d := some 38) rfl rfl (xj_indexAddr k Tryz.underlying94 sz77 rfl rfl rfl hlt (by simp)) ?_
      first | refine A2 rfl (by assumption) ?_ | refine A1 rfl ?_
      refine A1 rfl ?_
      repeat refine AW.seq ?_
      refine AW.region ?_
      iterate 2 refine A1 rfl ?_
      refine RL.step (d := some 42) rfl rfl (xj_callV (chkFn_ok k) rfl (chkFn_spec S hS k) rfl) ?_
      refine A1 rfl ?_
      repeat refine AW.seq ?_
      refine AW.region ?_
      iterate 2 refine A1 rfl ?_
      repeat refine AW.seq ?_
      refine AW.cond rfl (fun hc44 => ?_) (fun hc44 => ?_)
      · repeat refine AW.seq ?_
        refine AW.region ?_
        iterate 2 refine A1 rfl ?_
        repeat refine AW.seq ?_
        refine AW.ret ?_
        exact ⟨_, _, rfl, rfl, congrArg (PV.int .i64) (chk_stop hlim hlt hz (inT hc44))⟩
      · refine AW.skip ?_
        repeat refine AW.seq ?_
        refine AW.region ?_
        iterate 2 refine A1 rfl ?_
        exact ⟨(k + 1), St.le_mk ⟨rfl, rfl, rfl, rfl, trivial⟩ ⟨rfl, trivial⟩ rfl rfl, ⟨by omega, fun j hj => by rcases Nat.lt_succ_iff_lt_or_eq.1 hj with h | rfl; exact hz j h; exact inF hc44⟩, by omega⟩
    · have h0 := hz 0 (by omega)
      have h1 := hz 1 (by omega)
      have h2 := hz 2 (by omega)
      have hcl := chk_label hlim h0 h1 h2
      repeat refine AW.seq ?_
      refine AW.exit ?_
      repeat refine AW.seq ?_
      refine AW.block ?_
      repeat refine AW.seq ?_
      refine AW.region ?_
      iterate 4 refine A1 rfl ?_
      apply RL.orB 7 51 58 [52, 53, 54, 55, 56, 57] rfl (by first | exact MonoK.le | exact MonoK.aw | exact MonoK.back)
      · intro hb3
        iterate 7 refine A1 rfl ?_
        exact St.le_fg (fEq.upd (fEq.upd (fEq.upd (fEq.upd (fEq.upd (fEq.upd (fEq.upd (fEq.upd (fEq.refl) rfl) rfl) rfl) rfl) rfl) rfl) rfl) rfl) rfl rfl rfl
      · intro hb3
        iterate 7 refine A1 rfl ?_
        exact St.le_fg (fEq.upd (fEq.upd (fEq.upd (fEq.upd (fEq.upd (fEq.upd (fEq.upd (fEq.upd (fEq.refl) rfl) rfl) rfl) rfl) rfl) rfl) rfl) rfl) rfl rfl rfl
      refine A1 rfl ?_
      repeat refine AW.seq ?_
      refine AW.cond rfl (fun hc47 => ?_) (fun hc47 => ?_)
      · repeat refine AW.seq ?_
        refine AW.region ?_
        refine A1 rfl ?_
        repeat refine AW.seq ?_
        refine AW.ret ?_
        exact ⟨_, _, rfl, rfl, congrArg (PV.int .i64) (by rw [hcl, if_pos (by simpa using hc47)])⟩
      · have hn : ¬ (S.label < -1 ∨ (S.attrs.length : Int) ≤ S.label) := by simpa using hc47
        have hlv : 0 ≤ S.label → ∃ (a : Nat), S.label = (a : Int) ∧ a < S.attrs.length ∧ (attrsC S.attrs)[a * 2 + 1]? = some (.int .i64 (S.attrs.getD S.label.toNat default).2) := fun h => by obtain ⟨a, ha⟩ := Int.eq_ofNat_of_zero_le h; have hal : a < S.attrs.length := (by omega); refine ⟨a, ha, hal, ?_⟩; rw [ha]; simp only [Int.toNat_natCast, List.getD, List.getElem?_eq_getElem hal]; exact flat_at _ 2 (fun _ => rfl) S.attrs a 1 hal (by decide)
        repeat refine AW.seq ?_
        refine AW.region ?_
        iterate 4 refine A1 rfl ?_
        apply RL.andB 9 63 72 [64, 65, 66, 67, 68, 69, 70, 71] rfl (by first | exact MonoK.le | exact MonoK.aw | exact MonoK.back)
        · intro hb3
          obtain ⟨a, ha, hal, hk2⟩ := hlv (of_decide_eq_true hb3)
          have hane := attr_ne hal
          iterate 4 refine A1 rfl ?_
          refine RL.stepG (d := some 68) rfl rfl rfl (xj_indexAddr a Tryz.underlying23 sz71 rfl rfl ha hal hane) ?_
          refine A1 rfl ?_
          first | refine A2 rfl (by assumption) ?_ | refine A1 rfl ?_
          iterate 2 refine A1 rfl ?_
          exact St.le_fg (fEq.upd (fEq.upd (fEq.upd (fEq.upd (fEq.upd (fEq.upd (fEq.upd (fEq.upd (fEq.upd (fEq.upd (fEq.refl) rfl) rfl) rfl) rfl) rfl) rfl) rfl) rfl) rfl) rfl) rfl rfl rfl
        · intro hb3
          iterate 9 refine A1 rfl ?_
          exact St.le_fg (fEq.upd (fEq.upd (fEq.upd (fEq.upd (fEq.upd (fEq.upd (fEq.upd (fEq.upd (fEq.upd (fEq.upd (fEq.refl) rfl) rfl) rfl) rfl) rfl) rfl) rfl) rfl) rfl) rfl) rfl rfl rfl
        refine A1 rfl ?_
        repeat refine AW.seq ?_
        refine AW.cond rfl (fun hc59 => ?_) (fun hc59 => ?_)
        · repeat refine AW.seq ?_
          refine AW.region ?_
          refine A1 rfl ?_
          repeat refine AW.seq ?_
          refine AW.ret ?_
          exact ⟨_, _, rfl, rfl, congrArg (PV.int .i64) (by rw [hcl, if_neg hn, if_pos (by simpa using hc59)])⟩
        · refine AW.skip ?_
          repeat refine AW.seq ?_
          refine AW.region ?_
          refine A1 rfl ?_
          repeat refine AW.seq ?_
          refine AW.ret ?_
          exact ⟨_, _, rfl, rfl, congrArg (PV.int .i64) (by rw [hcl, if_neg hn, if_neg (by rintro ⟨h1, h2⟩; rw [decide_eq_true (show S.label ≥ 0 from h1), Bool.true_and, bne_eq_false_iff_eq] at hc59; exact h2 hc59)])⟩
end Go.Proofs.YtkalgjnhaicabaaGreat
namespace Go.Proofs.YtkalgjnhaicabaaGreat
open Go.RowKit Mk
set_option maxRecDepth 100000
set_option maxHeartbeats 4000000
theorem ba_get (s : ByteArray) (k : Nat) (h : k < s.size) : s.data.toList.getD k 0 = s[k]'h := by
  rw [List.getD_eq_getElem?_getD, List.getElem?_eq_getElem (by simpa using h)]
  rfl
def wtest5 (c : UInt8) : Bool := !(((decide ((c.toNat : Int) ≥ 97) && decide ((c.toNat : Int) ≤ 122)) || (decide ((c.toNat : Int) ≥ 48) && decide ((c.toNat : Int) ≤ 57))) || ((c.toNat : Int) == 45))
theorem wtest5_eq (k : Nat) (hk : 0 < k) (c : UInt8) : wtest5 c = !okAt k c.toNat := by
  unfold wtest5 okAt
  generalize c.toNat = n
  have h1 : decide (k ≠ 0) = true := decide_eq_true (by omega)
  have h2 : ((n : Int) == 45) = (n == 45) := by
    by_cases h : n = 45
    · subst h; rfl
    · have h3 : (n : Int) ≠ 45 := by omega
      rw [beq_eq_false_iff_ne.2 h3, beq_eq_false_iff_ne.2 h]
  have h3 : (decide ((n : Int) ≥ 97) && decide ((n : Int) ≤ 122)) = decide (97 ≤ n ∧ n ≤ 122) := by
    rw [Bool.eq_iff_iff]; simp; omega
  have h4 : (decide ((n : Int) ≥ 48) && decide ((n : Int) ≤ 57)) = decide (48 ≤ n ∧ n ≤ 57) := by
    rw [Bool.eq_iff_iff]; simp; omega
  rw [h1, h2, h3, h4]
  cases decide (97 ≤ n ∧ n ≤ 122) <;> cases (n == 45) <;> cases decide (48 ≤ n ∧ n ≤ 57) <;> rfl
theorem word_len (s : ByteArray) (h : s.size = 0 ∨ 12 < s.size) : wordB s = false := by
  unfold wordB
  rw [word_all]
  have : s.data.toList.length = s.size := Array.length_toList
  rw [this]
  rcases h with h | h
  · rw [decide_eq_false (show ¬ 1 ≤ s.size by omega)]; simp
  · rw [decide_eq_false (show ¬ s.size ≤ 12 by omega)]; simp
theorem okAt0 (n : Nat) : okAt 0 n = decide (97 ≤ n ∧ n ≤ 122) := by unfold okAt; simp
def wfirst (s : ByteArray) : Bool := ((((s.size : Int) == 0) || decide ((s.size : Int) > 12)) || decide (((s.data.toList.getD 0 0).toNat : Int) < 97)) || decide (((s.data.toList.getD 0 0).toNat : Int) > 122)
theorem w1_true {s : ByteArray} (h : wfirst s = true) : wordB s = false := by
  unfold wfirst at h
  simp only [Bool.or_eq_true, beq_iff_eq, decide_eq_true_eq] at h
  by_cases hl : s.size = 0 ∨ 12 < s.size
  · exact word_len s hl
  · refine word_no s 0 (by omega) ?_
    rw [okAt0]
    exact decide_eq_false (by omega)
theorem w1_false {s : ByteArray} (h : wfirst s = false) : (1 ≤ s.size ∧ s.size ≤ 12) ∧ okAt 0 (s.data.toList.getD 0 0).toNat = true := by
  unfold wfirst at h
  simp only [Bool.or_eq_false_iff, beq_eq_false_iff_ne, decide_eq_false_iff_not] at h
  refine ⟨by omega, ?_⟩
  rw [okAt0]
  exact decide_eq_true (by omega)
theorem w2_true {s : ByteArray} (h0 : okAt 0 (s.data.toList.getD 0 0).toNat = true) {k : Nat} (hlt : k < s.size) (hc : wtest5 (s[k]'hlt) = true) : wordB s = false := by
  have hgd := ba_get s k hlt
  rcases Nat.eq_zero_or_pos k with e | e
  · exfalso
    subst e
    rw [hgd, okAt0] at h0
    have := of_decide_eq_true h0
    unfold wtest5 at hc
    rw [decide_eq_true (show ((s[0]'hlt).toNat : Int) ≥ 97 by omega), decide_eq_true (show ((s[0]'hlt).toNat : Int) ≤ 122 by omega)] at hc
    simp at hc
  · refine word_no s k hlt ?_
    rw [hgd]
    rw [wtest5_eq k e] at hc
    simpa using hc
theorem w2_false {s : ByteArray} (h0 : okAt 0 (s.data.toList.getD 0 0).toNat = true) {k : Nat} (hlt : k < s.size) (hc : wtest5 (s[k]'hlt) = false) : okAt k (s.data.toList.getD k 0).toNat = true := by
  rcases Nat.eq_zero_or_pos k with e | e
  · subst e; exact h0
  · rw [ba_get s k hlt]
    rw [wtest5_eq k e] at hc
    simpa using hc
theorem rword_spec (s : ByteArray) (hs : s.size ≤ 9223372036854775807) : FnP Tryz.prog 74 [.str s] (· = .bool (wordB s)) := by
  refine FnP.of Tryz.func74 rfl Tryz.ntmps74 (by simp) fun m0 w0 F R0 => ?_
  have hsz : s.data.toList.length = s.size := Array.length_toList
  repeat refine AW.seq ?_
  refine AW.region ?_
  refine A1 rfl ?_
  have hpos : ((s.size : Int) == 0 || decide ((s.size : Int) > 12)) = false → 0 < s.size := fun h => by simp only [Bool.or_eq_false_iff, beq_eq_false_iff_ne, decide_eq_false_iff_not] at h; omega
  repeat refine AW.seq ?_
  refine AW.region ?_
  iterate 4 refine A1 rfl ?_
  apply RL.orB 4 7 11 [8, 9, 10] rfl (by first | exact MonoK.le | exact MonoK.aw | exact MonoK.back)
  · intro hb3
    iterate 4 refine A1 rfl ?_
    exact St.le_fg (fEq.upd (fEq.upd (fEq.upd (fEq.upd (fEq.upd (fEq.refl) rfl) rfl) rfl) rfl) rfl) rfl rfl rfl
  · intro hb3
    iterate 4 refine A1 rfl ?_
    exact St.le_fg (fEq.upd (fEq.upd (fEq.upd (fEq.upd (fEq.upd (fEq.refl) rfl) rfl) rfl) rfl) rfl) rfl rfl rfl
  refine A1 rfl ?_
  apply RL.orB 4 12 16 [13, 14, 15] rfl (by first | exact MonoK.le | exact MonoK.aw | exact MonoK.back)
  · intro hb8
    iterate 4 refine A1 rfl ?_
    exact St.le_fg (fEq.upd (fEq.upd (fEq.upd (fEq.upd (fEq.upd (fEq.refl) rfl) rfl) rfl) rfl) rfl) rfl rfl rfl
  · intro hb8
    have hp := hpos hb8
    refine A1 rfl ?_
    refine RL.stepG (d := some 14) rfl rfl rfl (xj_indexS 0 Tryz.underlying9 rfl rfl rfl hp) ?_
    refine RL.stepG (d := some 15) rfl rfl rfl ((xj_bin rfl rfl rfl).cast (v' := .pv (.bool (decide (((s.data.toList.getD 0 0).toNat : Int) < 97)))) (by rw [ba_get s 0 hp])) ?_
    refine A1 rfl ?_
    exact St.le_fg (fEq.upd (fEq.upd (fEq.upd (fEq.upd (fEq.upd (fEq.refl) rfl) rfl) rfl) rfl) rfl) rfl rfl rfl
  refine A1 rfl ?_
  apply RL.orB 4 17 21 [18, 19, 20] rfl (by first | exact MonoK.le | exact MonoK.aw | exact MonoK.back)
  · intro hb13
    iterate 4 refine A1 rfl ?_
    exact St.le_fg (fEq.upd (fEq.upd (fEq.upd (fEq.upd (fEq.upd (fEq.refl) rfl) rfl) rfl) rfl) rfl) rfl rfl rfl
  · intro hb13
    have hp := hpos (by rw [Bool.or_eq_false_iff] at hb13; exact hb13.1)
    refine A1 rfl ?_
    refine RL.stepG (d := some 19) rfl rfl rfl (xj_indexS 0 Tryz.underlying9 rfl rfl rfl hp) ?_
    refine RL.stepG (d := some 20) rfl rfl rfl ((xj_bin rfl rfl rfl).cast (v' := .pv (.bool (decide (((s.data.toList.getD 0 0).toNat : Int) > 122)))) (by rw [ba_get s 0 hp])) ?_
    refine A1 rfl ?_
    exact St.le_fg (fEq.upd (fEq.upd (fEq.upd (fEq.upd (fEq.upd (fEq.refl) rfl) rfl) rfl) rfl) rfl) rfl rfl rfl
  repeat refine AW.seq ?_
  refine AW.cond rfl (fun hc21 => ?_) (fun hc21 => ?_)
  · repeat refine AW.seq ?_
    refine AW.region ?_
    refine A1 rfl ?_
    repeat refine AW.seq ?_
    refine AW.ret ?_
    exact ⟨_, _, rfl, rfl, congrArg PV.bool (w1_true hc21).symm⟩
  · obtain ⟨hsz2, hok0⟩ := w1_false hc21
    refine AW.skip ?_
    repeat refine AW.seq ?_
    refine AW.region ?_
    refine A1 rfl ?_
    repeat refine AW.seq ?_
    refine AW.block ?_
    repeat refine AW.seq ?_
    refine AW.loop (st := fun x_0 : Nat => mkS [(0, .pv (.str s)), (3, .pv (.int .i64 x_0))] [] 0)
      (I := fun x_0 => x_0 ≤ s.size ∧ ∀ j, j < x_0 → okAt j (s.data.toList.getD j 0).toNat = true) (μ := fun x_0 => s.size - x_0) (x0 := (0)) (St.le_mk ⟨rfl, rfl, trivial⟩ trivial rfl rfl) (⟨Nat.zero_le _, fun j hj => absurd hj (Nat.not_lt_zero _)⟩) ?_
    rintro k ⟨hk, hall⟩
    repeat refine AW.seq ?_
    refine AW.region ?_
    iterate 4 refine A1 rfl ?_
    repeat refine AW.seq ?_
    refine AW.condP rfl (fun hc25 => ?_) (fun hc25 => ?_)
    · have hlt : k < s.size := by omega
      have hgd := ba_get s k hlt
      refine AW.skip ?_
      repeat refine AW.seq ?_
      refine AW.block ?_
      repeat refine AW.seq ?_
      refine AW.region ?_
      iterate 2 refine A1 rfl ?_
      refine RL.step (d := some 30) rfl rfl (xj_indexS k Tryz.underlying9 rfl rfl rfl hlt) ?_
      iterate 2 refine A1 rfl ?_
      apply RL.andB 5 32 37 [33, 34, 35, 36] rfl (by first | exact MonoK.le | exact MonoK.aw | exact MonoK.back)
      · intro hb4
        iterate 2 refine A1 rfl ?_
        refine RL.stepG (d := some 35) rfl rfl rfl (xj_indexS k Tryz.underlying9 rfl rfl rfl hlt) ?_
        iterate 2 refine A1 rfl ?_
        exact St.le_fg (fEq.upd (fEq.upd (fEq.upd (fEq.upd (fEq.upd (fEq.upd (fEq.refl) rfl) rfl) rfl) rfl) rfl) rfl) rfl rfl rfl
      · intro hb4
        iterate 5 refine A1 rfl ?_
        exact St.le_fg (fEq.upd (fEq.upd (fEq.upd (fEq.upd (fEq.upd (fEq.upd (fEq.refl) rfl) rfl) rfl) rfl) rfl) rfl) rfl rfl rfl
      refine A1 rfl ?_
      apply RL.orB 11 38 49 [39, 40, 41, 42, 43, 44, 45, 46, 47, 48] rfl (by first | exact MonoK.le | exact MonoK.aw | exact MonoK.back)
      · intro hb10
        iterate 11 refine A1 rfl ?_
        exact St.le_fg (fEq.upd (fEq.upd (fEq.upd (fEq.upd (fEq.upd (fEq.upd (fEq.upd (fEq.upd (fEq.upd (fEq.upd (fEq.upd (fEq.upd (fEq.refl) rfl) rfl) rfl) rfl) rfl) rfl) rfl) rfl) rfl) rfl) rfl) rfl) rfl rfl rfl
      · intro hb10
        iterate 2 refine A1 rfl ?_
        refine RL.stepG (d := some 41) rfl rfl rfl (xj_indexS k Tryz.underlying9 rfl rfl rfl hlt) ?_
        iterate 2 refine A1 rfl ?_
        apply RL.andB 5 43 48 [44, 45, 46, 47] rfl (by first | exact MonoK.le | exact MonoK.aw | exact MonoK.back)
        · intro hb15
          iterate 2 refine A1 rfl ?_
          refine RL.stepG (d := some 46) rfl rfl rfl (xj_indexS k Tryz.underlying9 rfl rfl rfl hlt) ?_
          iterate 2 refine A1 rfl ?_
          exact St.le_fg (fEq.upd (fEq.upd (fEq.upd (fEq.upd (fEq.upd (fEq.upd (fEq.refl) rfl) rfl) rfl) rfl) rfl) rfl) rfl rfl rfl
        · intro hb15
          iterate 5 refine A1 rfl ?_
          exact St.le_fg (fEq.upd (fEq.upd (fEq.upd (fEq.upd (fEq.upd (fEq.upd (fEq.refl) rfl) rfl) rfl) rfl) rfl) rfl) rfl rfl rfl
        refine A1 rfl ?_
        exact St.le_fg (fEq.upd (fEq.upd (fEq.upd (fEq.upd (fEq.upd (fEq.upd (fEq.upd (fEq.upd (fEq.upd (fEq.upd (fEq.upd (fEq.upd (fEq.upd (fEq.refl) rfl) rfl) rfl) rfl) rfl) rfl) rfl) rfl) rfl) rfl) rfl) rfl) rfl) rfl rfl rfl
      refine A1 rfl ?_
      apply RL.orB 5 50 55 [51, 52, 53, 54] rfl (by first | exact MonoK.le | exact MonoK.aw | exact MonoK.back)
      · intro hb22
        iterate 5 refine A1 rfl ?_
        exact St.le_fg (fEq.upd (fEq.upd (fEq.upd (fEq.upd (fEq.upd (fEq.upd (fEq.refl) rfl) rfl) rfl) rfl) rfl) rfl) rfl rfl rfl
      · intro hb22
        iterate 2 refine A1 rfl ?_
        refine RL.stepG (d := some 53) rfl rfl rfl (xj_indexS k Tryz.underlying9 rfl rfl rfl hlt) ?_
        iterate 2 refine A1 rfl ?_
        exact St.le_fg (fEq.upd (fEq.upd (fEq.upd (fEq.upd (fEq.upd (fEq.upd (fEq.refl) rfl) rfl) rfl) rfl) rfl) rfl) rfl rfl rfl
      refine A1 rfl ?_
      repeat refine AW.seq ?_
      refine AW.cond rfl (fun hc56 => ?_) (fun hc56 => ?_)
      · have hc : wtest5 (s[k]'hlt) = true := hc56
        repeat refine AW.seq ?_
        refine AW.region ?_
        refine A1 rfl ?_
        repeat refine AW.seq ?_
        refine AW.ret ?_
        exact ⟨_, _, rfl, rfl, congrArg PV.bool (w2_true hok0 hlt hc).symm⟩
      · have hc : wtest5 (s[k]'hlt) = false := hc56
        have hnext := w2_false hok0 hlt hc
        refine AW.skip ?_
        repeat refine AW.seq ?_
        refine AW.region ?_
        iterate 3 refine A1 rfl ?_
        exact ⟨(k + 1), St.le_mk ⟨rfl, rfl, trivial⟩ trivial rfl rfl, ⟨by omega, fun j hj => by rcases Nat.lt_succ_iff_lt_or_eq.1 hj with h | rfl; exact hall j h; exact hnext⟩, by omega⟩
    · repeat refine AW.seq ?_
      refine AW.exit ?_
      repeat refine AW.seq ?_
      refine AW.region ?_
      refine A1 rfl ?_
      repeat refine AW.seq ?_
      refine AW.ret ?_
      exact ⟨_, _, rfl, rfl, congrArg PV.bool (by rw [word_yes s (fun j hj => hall j (by omega)), decide_eq_true hsz2.1, decide_eq_true hsz2.2]; rfl)⟩
theorem has_no {α : Type} [DecidableEq α] {l : List α} {x : α} (h : ¬ x ∈ l) : hasB l x = false := by unfold hasB; exact decide_eq_false h
theorem has_yes {α : Type} [DecidableEq α] {l : List α} {x : α} (h : x ∈ l) : hasB l x = true := by unfold hasB; exact decide_eq_true h
theorem mem_take_at {α : Type} {l : List α} {j k : Nat} (hj : j < k) (hl : j < l.length) : l[j] ∈ l.take k := List.mem_take_iff_getElem.2 ⟨j, by omega, rfl⟩
theorem chk_pre {S : Sch} (hlim : ¬ (S.attrs.length = 0 ∨ 12 < S.attrs.length ∨ S.rels.length = 0 ∨ 6 < S.rels.length ∨ 8 < S.feats.length)) {e : Int} (h0 : e ≠ 0) :
    (scanE (attrE S) S.attrs.length = e → checkE S = e) ∧ (scanE (attrE S) S.attrs.length = 0 → relsE S = e → checkE S = e) ∧ (scanE (attrE S) S.attrs.length = 0 → relsE S = 0 → scanE (featE S) S.feats.length = e → checkE S = e) := by
  unfold checkE
  rw [if_neg hlim]
  refine ⟨fun h => ?_, fun h1 h2 => ?_, fun h1 h2 h3 => ?_⟩
  · rw [if_pos (by rw [h]; exact h0), h]
  · rw [if_neg (fun e => e h1), if_pos (by rw [h2]; exact h0), h2]
  · rw [if_neg (fun e => e h1), if_neg (fun e => e h2), if_pos (by rw [h3]; exact h0), h3]
theorem rchk_spec (S : Sch) (hS : SB S) : FnP Tryz.prog 45 [schP S] (· = .int .i64 (checkE S)) := by
  refine FnP.of Tryz.func45 rfl Tryz.ntmps45 (by simp) fun m0 w0 F R0 => ?_
  have hb := hS.a
  have hb2 := hS.r
  have hb3 := hS.f
  repeat refine AW.seq ?_
  refine AW.region ?_
  iterate 2 refine A1 rfl ?_
  repeat refine AW.seq ?_
  refine AW.region ?_
  iterate 5 refine A1 rfl ?_
  apply RL.orB 5 24 29 [25, 26, 27, 28] rfl (by first | exact MonoK.le | exact MonoK.aw | exact MonoK.back)
  · intro hb4
    iterate 5 refine A1 rfl ?_
    exact St.le_fg (fEq.upd (fEq.upd (fEq.upd (fEq.upd (fEq.upd (fEq.upd (fEq.refl) rfl) rfl) rfl) rfl) rfl) rfl) rfl rfl rfl
  · intro hb4
    iterate 5 refine A1 rfl ?_
    exact St.le_fg (fEq.upd (fEq.upd (fEq.upd (fEq.upd (fEq.upd (fEq.upd (fEq.refl) rfl) rfl) rfl) rfl) rfl) rfl) rfl rfl rfl
  refine A1 rfl ?_
  apply RL.orB 5 30 35 [31, 32, 33, 34] rfl (by first | exact MonoK.le | exact MonoK.aw | exact MonoK.back)
  · intro hb10
    iterate 5 refine A1 rfl ?_
    exact St.le_fg (fEq.upd (fEq.upd (fEq.upd (fEq.upd (fEq.upd (fEq.upd (fEq.refl) rfl) rfl) rfl) rfl) rfl) rfl) rfl rfl rfl
  · intro hb10
    iterate 5 refine A1 rfl ?_
    exact St.le_fg (fEq.upd (fEq.upd (fEq.upd (fEq.upd (fEq.upd (fEq.upd (fEq.refl) rfl) rfl) rfl) rfl) rfl) rfl) rfl rfl rfl
  refine A1 rfl ?_
  apply RL.orB 5 36 41 [37, 38, 39, 40] rfl (by first | exact MonoK.le | exact MonoK.aw | exact MonoK.back)
  · intro hb16
    iterate 5 refine A1 rfl ?_
    exact St.le_fg (fEq.upd (fEq.upd (fEq.upd (fEq.upd (fEq.upd (fEq.upd (fEq.refl) rfl) rfl) rfl) rfl) rfl) rfl) rfl rfl rfl
  · intro hb16
    iterate 5 refine A1 rfl ?_
    exact St.le_fg (fEq.upd (fEq.upd (fEq.upd (fEq.upd (fEq.upd (fEq.upd (fEq.refl) rfl) rfl) rfl) rfl) rfl) rfl) rfl rfl rfl
  refine A1 rfl ?_
  apply RL.orB 5 42 47 [43, 44, 45, 46] rfl (by first | exact MonoK.le | exact MonoK.aw | exact MonoK.back)
  · intro hb22
    iterate 5 refine A1 rfl ?_
    exact St.le_fg (fEq.upd (fEq.upd (fEq.upd (fEq.upd (fEq.upd (fEq.upd (fEq.refl) rfl) rfl) rfl) rfl) rfl) rfl) rfl rfl rfl
  · intro hb22
    iterate 5 refine A1 rfl ?_
    exact St.le_fg (fEq.upd (fEq.upd (fEq.upd (fEq.upd (fEq.upd (fEq.upd (fEq.refl) rfl) rfl) rfl) rfl) rfl) rfl) rfl rfl rfl
  repeat refine AW.seq ?_
  refine AW.cond rfl (fun hc47 => ?_) (fun hc47 => ?_)
  · repeat refine AW.seq ?_
    refine AW.region ?_
    refine A1 rfl ?_
    repeat refine AW.seq ?_
    refine AW.ret ?_
    exact ⟨_, _, rfl, rfl, congrArg (PV.int .i64) (by unfold checkE; rw [if_pos ((lim_eq S).1 hc47)])⟩
  · have hlim : ¬ (S.attrs.length = 0 ∨ 12 < S.attrs.length ∨ S.rels.length = 0 ∨ 6 < S.rels.length ∨ 8 < S.feats.length) := fun h => by rw [(lim_eq S).2 h] at hc47; cases hc47
    have hpre := fun {e : Int} (h : e ≠ 0) => chk_pre (S := S) hlim h
    refine AW.skip ?_
    repeat refine AW.seq ?_
    refine AW.region ?_
    iterate 4 refine A1 rfl ?_
    repeat refine AW.seq ?_
    refine AW.block ?_
    repeat refine AW.seq ?_
    refine AW.loop (st := fun x_0 : Nat => mkS [(1, .ptr 0 0), (49, .pv (.sl none S.attrs.length (attrsC S.attrs))), (50, .pv (.int .i64 S.attrs.length)), (51, .pv (.int .i64 x_0))] [(0, .mix 27 [.pv (.sl none S.attrs.length (attrsC S.attrs)), .pv (.sl none S.rels.length (relsC S.rels)), .pv (.sl none S.feats.length (featsC S.feats)), .pv (.int .i64 S.label)])] 1)
      (I := fun x_0 => x_0 ≤ S.attrs.length ∧ scanE (attrE S) x_0 = 0) (μ := fun x_0 => S.attrs.length - x_0) (x0 := (0)) (St.le_mk ⟨rfl, rfl, rfl, rfl, trivial⟩ ⟨rfl, trivial⟩ rfl rfl) (⟨Nat.zero_le _, rfl⟩) ?_
    rintro k ⟨hk, hs⟩
    repeat refine AW.seq ?_
    refine AW.region ?_
    refine A1 rfl ?_
    repeat refine AW.seq ?_
    refine AW.condP rfl (fun hc52 => ?_) (fun hc52 => ?_)
    · have hlt : k < S.attrs.length := by omega
      have hrow := attr_row hlt
      have hne := attr_ne hlt
      have hae := attrE_eq S k hlt
      have hfin : ∀ e : Int, e ≠ 0 → attrE S k = e → PV.int .i64 e = .int .i64 (checkE S) := fun e h0 h1 => congrArg (PV.int .i64) (((hpre h0).1 (by rw [scanE_at hs (by rw [h1]; exact h0) hlt, h1])).symm)
      refine AW.skip ?_
      repeat refine AW.seq ?_
      refine AW.block ?_
      repeat refine AW.seq ?_
      refine AW.region ?_
      iterate 2 refine A1 rfl ?_
      refine RL.step (d := some 55) rfl rfl (xj_loadAR ⟨_, Tryz.underlying71, rfl⟩ sz71 rfl hrow rfl) ?_
      iterate 3 refine A1 rfl ?_
      repeat refine AW.seq ?_
      refine AW.region ?_
      iterate 2 refine A1 rfl ?_
      refine RL.step (d := some 58) rfl rfl (xj_call Tryz.call74 (rword_spec S.attrs[k].1 (hS.an _ (List.getElem_mem hlt))) rfl) ?_
      refine A1 rfl ?_
      repeat refine AW.seq ?_
      refine AW.cond rfl (fun hc59 => ?_) (fun hc59 => ?_)
      · repeat refine AW.seq ?_
        refine AW.region ?_
        refine A1 rfl ?_
        repeat refine AW.seq ?_
        refine AW.ret ?_
        exact ⟨_, _, rfl, rfl, hfin 14 (by decide) (by rw [hae, if_pos (by simpa using hc59)])⟩
      · have hw : ¬ wordB S.attrs[k].1 = false := by simpa using hc59
        refine AW.skip ?_
        repeat refine AW.seq ?_
        refine AW.region ?_
        refine A1 rfl ?_
        repeat refine AW.seq ?_
        refine AW.block ?_
        repeat refine AW.seq ?_
        refine AW.loop (st := fun x_1 : Nat => mkS [(1, .ptr 0 0), (3, .pv (.int .i64 k)), (4, .ptr 1 0), (5, .pv (.int .i64 x_1)), (49, .pv (.sl none S.attrs.length (attrsC S.attrs))), (50, .pv (.int .i64 S.attrs.length)), (51, .pv (.int .i64 k))] [(0, .mix 27 [.pv (.sl none S.attrs.length (attrsC S.attrs)), .pv (.sl none S.rels.length (relsC S.rels)), .pv (.sl none S.feats.length (featsC S.feats)), .pv (.int .i64 S.label)]), (1, .mix 71 [.pv (.str S.attrs[k].1), .pv (.int .i64 S.attrs[k].2)])] 2)
          (I := fun x_1 => x_1 ≤ k ∧ ¬ S.attrs[k].1 ∈ (S.attrs.map (·.1)).take x_1) (μ := fun x_1 => k - x_1) (x0 := (0)) (St.le_mk ⟨rfl, rfl, rfl, rfl, rfl, rfl, rfl, trivial⟩ ⟨rfl, rfl, trivial⟩ rfl rfl) (⟨Nat.zero_le _, by simp⟩) ?_
        rintro j ⟨hj, hno⟩
        repeat refine AW.seq ?_
        refine AW.region ?_
        iterate 3 refine A1 rfl ?_
        repeat refine AW.seq ?_
        refine AW.condP rfl (fun hc62 => ?_) (fun hc62 => ?_)
        · have hjk : j < k := by omega
          have hjl : j < S.attrs.length := by omega
          have hnm : (attrsC S.attrs)[j * 2 + 0]? = some (.str S.attrs[j].1) := flat_at _ 2 (fun _ => rfl) S.attrs j 0 hjl (by decide)
          have hmm : j < (S.attrs.map (·.1)).length := by simpa using hjl
          have hme : (S.attrs.map (·.1))[j] = S.attrs[j].1 := by simp
          refine AW.skip ?_
          repeat refine AW.seq ?_
          refine AW.block ?_
          repeat refine AW.seq ?_
          refine AW.draw follows [[], [0], [], [2, 1, 0], [3, 2, 1, 0], [4, 3, 2, 1, 0], [], [6], [7, 5, 4, 3, 2, 1, 0, 6]] [0, 1, 2, 3, 4, 5, 6, 7, 8] (by kernel_rfl) (by kernel_rfl) ?_
          iterate 5 refine D1 rfl rfl ?_
          first | refine D2 rfl rfl (by assumption) ?_ | refine D1 rfl rfl ?_
          iterate 3 refine D1 rfl rfl ?_
          refine ⟨by kernel_rfl, ?_⟩
          repeat refine AW.seq ?_
          refine AW.cond rfl (fun hc73 => ?_) (fun hc73 => ?_)
          · repeat refine AW.seq ?_
            refine AW.region ?_
            refine A1 rfl ?_
            repeat refine AW.seq ?_
            refine AW.ret ?_
            exact ⟨_, _, rfl, rfl, hfin 9 (by decide) (by rw [hae, if_neg hw, if_pos (has_yes (by rw [← baT hc73, ← hme]; exact mem_take_at hjk hmm))])⟩
          · refine AW.skip ?_
            repeat refine AW.seq ?_
            refine AW.region ?_
            iterate 3 refine A1 rfl ?_
            exact ⟨(j + 1), St.le_mk ⟨rfl, rfl, rfl, rfl, rfl, rfl, rfl, trivial⟩ ⟨rfl, rfl, trivial⟩ rfl rfl, ⟨by omega, take_succ_no hmm hno (by rw [hme]; exact baF hc73)⟩, by omega⟩
        · have hno2 : ¬ hasB ((S.attrs.map (·.1)).take k) S.attrs[k].1 = true := by rw [show j = k by omega] at hno; rw [has_no hno]; decide
          repeat refine AW.seq ?_
          refine AW.exit ?_
          repeat refine AW.seq ?_
          refine AW.region ?_
          iterate 4 refine A1 rfl ?_
          apply RL.orB 4 77 81 [78, 79, 80] rfl (by first | exact MonoK.le | exact MonoK.aw | exact MonoK.back)
          · intro hb3
            iterate 4 refine A1 rfl ?_
            exact St.le_fg (fEq.upd (fEq.upd (fEq.upd (fEq.upd (fEq.upd (fEq.refl) rfl) rfl) rfl) rfl) rfl) rfl rfl rfl
          · intro hb3
            iterate 4 refine A1 rfl ?_
            exact St.le_fg (fEq.upd (fEq.upd (fEq.upd (fEq.upd (fEq.upd (fEq.refl) rfl) rfl) rfl) rfl) rfl) rfl rfl rfl
          repeat refine AW.seq ?_
          refine AW.cond rfl (fun hc81 => ?_) (fun hc81 => ?_)
          · repeat refine AW.seq ?_
            refine AW.region ?_
            refine A1 rfl ?_
            repeat refine AW.seq ?_
            refine AW.ret ?_
            exact ⟨_, _, rfl, rfl, hfin 7 (by decide) (by rw [hae, if_neg hw, if_neg hno2, if_pos (by simp at hc81; omega)])⟩
          · refine AW.skip ?_
            repeat refine AW.seq ?_
            refine AW.region ?_
            iterate 2 refine A1 rfl ?_
            exact ⟨(k + 1), St.le_mk ⟨rfl, rfl, rfl, rfl, trivial⟩ ⟨rfl, trivial⟩ rfl rfl, ⟨by omega, by rw [scanE_succ hs, hae, if_neg hw, if_neg hno2, if_neg (by simp at hc81; omega)]⟩, by omega⟩
    · have hA : scanE (attrE S) S.attrs.length = 0 := by rw [show S.attrs.length = k by omega]; exact hs
      repeat refine AW.seq ?_
      refine AW.exit ?_
      repeat refine AW.seq ?_
      refine AW.region ?_
      iterate 5 refine A1 rfl ?_
      repeat refine AW.seq ?_
      refine AW.region ?_
      iterate 4 refine A1 rfl ?_
      repeat refine AW.seq ?_
      refine AW.block ?_
      repeat refine AW.seq ?_
      refine AW.loop (st := fun x_2 : Nat × List Bool => mkS [(1, .ptr 0 0), (6, .osl 1 1 S.attrs.length), (88, .pv (.sl none S.rels.length (relsC S.rels))), (89, .pv (.int .i64 S.rels.length)), (90, .pv (.int .i64 x_2.1))] [(0, .mix 27 [.pv (.sl none S.attrs.length (attrsC S.attrs)), .pv (.sl none S.rels.length (relsC S.rels)), .pv (.sl none S.feats.length (featsC S.feats)), .pv (.int .i64 S.label)]), (1, .cells 4 (boolsP x_2.2))] 2)
        (I := fun x_2 => x_2.1 ≤ S.rels.length ∧ UsedIs S.attrs.length x_2.2 (fun a => (S.rels.take x_2.1).any fun x => inB x.2 a) ∧ scanE (relE S) x_2.1 = 0) (μ := fun x_2 => S.rels.length - x_2.1) (x0 := (0, List.replicate S.attrs.length false)) (St.le_mk ⟨rfl, rfl, rfl, rfl, rfl, trivial⟩ ⟨rfl, congrArg (fun c => some (Ob.cells 4 c)) ((mkZ_one (.bool false) (S.attrs.length * 1)).trans (by simp)), trivial⟩ rfl rfl) (⟨Nat.zero_le _, UsedIs.zero _, rfl⟩) ?_
      rintro ⟨ri, U⟩ ⟨hk, hU, hs⟩
      try simp only at hk hU hs ⊢
      repeat refine AW.seq ?_
      refine AW.region ?_
      refine A1 rfl ?_
      repeat refine AW.seq ?_
      refine AW.condP rfl (fun hc91 => ?_) (fun hc91 => ?_)
      · have hlt : ri < S.rels.length := by omega
        have hrow := rel_row hlt
        have hne := rel_ne hlt
        have hre := relE_eq2 S ri hlt
        have hul := hU.1
        have hll := hS.rl _ (List.getElem_mem hlt)
        have hfin : ∀ e : Int, e ≠ 0 → relE S ri = e → PV.int .i64 e = .int .i64 (checkE S) := fun e h0 h1 => congrArg (PV.int .i64) (((hpre h0).2.1 hA (by unfold relsE; rw [scanE_at hs (by rw [h1]; exact h0) hlt, if_pos (by rw [h1]; exact h0), h1])).symm)
        refine AW.skip ?_
        repeat refine AW.seq ?_
        refine AW.block ?_
        repeat refine AW.seq ?_
        refine AW.region ?_
        iterate 2 refine A1 rfl ?_
        refine RL.step (d := some 94) rfl rfl (xj_loadAR ⟨_, Tryz.underlying62, rfl⟩ sz62 rfl hrow rfl) ?_
        iterate 3 refine A1 rfl ?_
        repeat refine AW.seq ?_
        refine AW.region ?_
        iterate 2 refine A1 rfl ?_
        refine RL.step (d := some 97) rfl rfl (xj_call Tryz.call74 (rword_spec S.rels[ri].1 (hS.rn _ (List.getElem_mem hlt))) rfl) ?_
        refine A1 rfl ?_
        repeat refine AW.seq ?_
        refine AW.cond rfl (fun hc98 => ?_) (fun hc98 => ?_)
        · repeat refine AW.seq ?_
          refine AW.region ?_
          refine A1 rfl ?_
          repeat refine AW.seq ?_
          refine AW.ret ?_
          exact ⟨_, _, rfl, rfl, hfin 14 (by decide) (by rw [hre, if_pos (by simpa using hc98)])⟩
        · have hw : ¬ wordB S.rels[ri].1 = false := by simpa using hc98
          refine AW.skip ?_
          repeat refine AW.seq ?_
          refine AW.region ?_
          refine A1 rfl ?_
          repeat refine AW.seq ?_
          refine AW.block ?_
          repeat refine AW.seq ?_
          refine AW.loop (st := fun x_3 : Nat => mkS [(1, .ptr 0 0), (6, .osl 1 1 S.attrs.length), (7, .pv (.int .i64 ri)), (8, .ptr 2 0), (9, .pv (.int .i64 x_3)), (88, .pv (.sl none S.rels.length (relsC S.rels))), (89, .pv (.int .i64 S.rels.length)), (90, .pv (.int .i64 ri))] [(0, .mix 27 [.pv (.sl none S.attrs.length (attrsC S.attrs)), .pv (.sl none S.rels.length (relsC S.rels)), .pv (.sl none S.feats.length (featsC S.feats)), .pv (.int .i64 S.label)]), (1, .cells 4 (boolsP U)), (2, .mix 62 [.pv (.str S.rels[ri].1), .pv (pints S.rels[ri].2)])] 3)
            (I := fun x_3 => x_3 ≤ ri ∧ ¬ S.rels[ri].1 ∈ (S.rels.map (·.1)).take x_3) (μ := fun x_3 => ri - x_3) (x0 := (0)) (St.le_mk ⟨rfl, rfl, rfl, rfl, rfl, rfl, rfl, rfl, trivial⟩ ⟨rfl, rfl, rfl, trivial⟩ rfl rfl) (⟨Nat.zero_le _, by simp⟩) ?_
          rintro j ⟨hj, hno⟩
          repeat refine AW.seq ?_
          refine AW.region ?_
          iterate 3 refine A1 rfl ?_
          repeat refine AW.seq ?_
          refine AW.condP rfl (fun hc101 => ?_) (fun hc101 => ?_)
          · have hjk : j < ri := by omega
            have hjl : j < S.rels.length := by omega
            have hnm : (relsC S.rels)[j * 2 + 0]? = some (.str S.rels[j].1) := flat_at _ 2 (fun _ => rfl) S.rels j 0 hjl (by decide)
            have hmm : j < (S.rels.map (·.1)).length := by simpa using hjl
            have hme : (S.rels.map (·.1))[j] = S.rels[j].1 := by simp
            refine AW.skip ?_
            repeat refine AW.seq ?_
            refine AW.block ?_
            repeat refine AW.seq ?_
            refine AW.draw follows [[], [0], [], [2, 1, 0], [3, 2, 1, 0], [4, 3, 2, 1, 0], [], [6], [7, 5, 4, 3, 2, 1, 0, 6]] [0, 1, 2, 3, 4, 5, 6, 7, 8] (by kernel_rfl) (by kernel_rfl) ?_
            iterate 5 refine D1 rfl rfl ?_
            first | refine D2 rfl rfl (by assumption) ?_ | refine D1 rfl rfl ?_
            iterate 3 refine D1 rfl rfl ?_
            refine ⟨by kernel_rfl, ?_⟩
            repeat refine AW.seq ?_
            refine AW.cond rfl (fun hc112 => ?_) (fun hc112 => ?_)
            · repeat refine AW.seq ?_
              refine AW.region ?_
              refine A1 rfl ?_
              repeat refine AW.seq ?_
              refine AW.ret ?_
              exact ⟨_, _, rfl, rfl, hfin 9 (by decide) (by rw [hre, if_neg hw, if_pos (has_yes (by rw [← baT hc112, ← hme]; exact mem_take_at hjk hmm))])⟩
            · refine AW.skip ?_
              repeat refine AW.seq ?_
              refine AW.region ?_
              iterate 3 refine A1 rfl ?_
              exact ⟨(j + 1), St.le_mk ⟨rfl, rfl, rfl, rfl, rfl, rfl, rfl, rfl, trivial⟩ ⟨rfl, rfl, rfl, trivial⟩ rfl rfl, ⟨by omega, take_succ_no hmm hno (by rw [hme]; exact baF hc112)⟩, by omega⟩
          · have hno2 : ¬ hasB ((S.rels.map (·.1)).take ri) S.rels[ri].1 = true := by rw [show j = ri by omega] at hno; rw [has_no hno]; decide
            repeat refine AW.seq ?_
            refine AW.exit ?_
            repeat refine AW.seq ?_
            refine AW.region ?_
            iterate 4 refine A1 rfl ?_
            repeat refine AW.seq ?_
            refine AW.cond rfl (fun hc116 => ?_) (fun hc116 => ?_)
            · repeat refine AW.seq ?_
              refine AW.region ?_
              refine A1 rfl ?_
              repeat refine AW.seq ?_
              refine AW.ret ?_
              exact ⟨_, _, rfl, rfl, hfin 7 (by decide) (by rw [hre, if_neg hw, if_neg hno2, if_pos (by have := ibT hc116; apply List.eq_nil_of_length_eq_zero; omega)])⟩
            · have hl0 : ¬ S.rels[ri].2 = [] := fun e => by rw [e] at hc116; simp at hc116
              refine AW.skip ?_
              repeat refine AW.seq ?_
              refine AW.region ?_
              iterate 4 refine A1 rfl ?_
              repeat refine AW.seq ?_
              refine AW.block ?_
              repeat refine AW.seq ?_
              refine AW.loop (st := fun x_4 : Nat × List Bool => mkS [(1, .ptr 0 0), (6, .osl 1 1 S.attrs.length), (8, .ptr 2 0), (88, .pv (.sl none S.rels.length (relsC S.rels))), (89, .pv (.int .i64 S.rels.length)), (90, .pv (.int .i64 ri)), (118, .pv (pints S.rels[ri].2)), (119, .pv (.int .i64 S.rels[ri].2.length)), (120, .pv (.int .i64 x_4.1))] [(0, .mix 27 [.pv (.sl none S.attrs.length (attrsC S.attrs)), .pv (.sl none S.rels.length (relsC S.rels)), .pv (.sl none S.feats.length (featsC S.feats)), .pv (.int .i64 S.label)]), (1, .cells 4 (boolsP x_4.2)), (2, .mix 62 [.pv (.str S.rels[ri].1), .pv (pints S.rels[ri].2)])] 3)
                (I := fun x_4 => x_4.1 ≤ S.rels[ri].2.length ∧ UsedIs S.attrs.length x_4.2 (fun a => ((S.rels.take ri).any fun x => inB x.2 a) || inB (S.rels[ri].2.take x_4.1) a) ∧ ∀ a ∈ S.rels[ri].2.take x_4.1, 0 ≤ a ∧ a < S.attrs.length) (μ := fun x_4 => S.rels[ri].2.length - x_4.1) (x0 := (0, U)) (St.le_mk ⟨rfl, rfl, rfl, rfl, rfl, rfl, rfl, rfl, rfl, trivial⟩ ⟨rfl, rfl, rfl, trivial⟩ rfl rfl) (⟨Nat.zero_le _, hU.congr (fun a _ => by simp [inB]), by simp⟩) ?_
              rintro ⟨q, U2⟩ ⟨hq, hU2, hr⟩
              try simp only at hq hU2 hr ⊢
              repeat refine AW.seq ?_
              refine AW.region ?_
              refine A1 rfl ?_
              repeat refine AW.seq ?_
              refine AW.condP rfl (fun hc121 => ?_) (fun hc121 => ?_)
              · have hql : q < S.rels[ri].2.length := by omega
                have hv := pints_at hql
                have hne2 := pints_ne hql
                have hul2 := hU2.1
                refine AW.skip ?_
                repeat refine AW.seq ?_
                refine AW.block ?_
                repeat refine AW.seq ?_
                refine AW.region ?_
                refine A1 rfl ?_
                first | refine A2 rfl (by assumption) ?_ | refine A1 rfl ?_
                refine A1 rfl ?_
                repeat refine AW.seq ?_
                refine AW.region ?_
                iterate 3 refine A1 rfl ?_
                apply RL.orB 5 126 131 [127, 128, 129, 130] rfl (by first | exact MonoK.le | exact MonoK.aw | exact MonoK.back)
                · intro hb2
                  iterate 5 refine A1 rfl ?_
                  exact St.le_fg (fEq.upd (fEq.upd (fEq.upd (fEq.upd (fEq.upd (fEq.upd (fEq.refl) rfl) rfl) rfl) rfl) rfl) rfl) rfl rfl rfl
                · intro hb2
                  iterate 5 refine A1 rfl ?_
                  exact St.le_fg (fEq.upd (fEq.upd (fEq.upd (fEq.upd (fEq.upd (fEq.upd (fEq.refl) rfl) rfl) rfl) rfl) rfl) rfl) rfl rfl rfl
                repeat refine AW.seq ?_
                refine AW.cond rfl (fun hc131 => ?_) (fun hc131 => ?_)
                · repeat refine AW.seq ?_
                  refine AW.region ?_
                  refine A1 rfl ?_
                  repeat refine AW.seq ?_
                  refine AW.ret ?_
                  exact ⟨_, _, rfl, rfl, hfin 2 (by decide) (by rw [hre, if_neg hw, if_neg hno2, if_neg hl0, if_pos (rng_no hql (by simp at hc131; omega))])⟩
                · have hx : 0 ≤ S.rels[ri].2[q] ∧ S.rels[ri].2[q] < S.attrs.length := by simp at hc131; omega
                  obtain ⟨j, hj⟩ := Int.eq_ofNat_of_zero_le hx.1
                  refine AW.skip ?_
                  repeat refine AW.seq ?_
                  refine AW.region ?_
                  iterate 2 refine A1 rfl ?_
                  refine RL.step (d := some 134) rfl rfl (xj_indexAddrO j Tryz.underlying110 sz4 rfl rfl rfl hj (by omega)) ?_
                  refine A1 rfl ?_
                  repeat refine AW.seq ?_
                  refine AW.region ?_
                  iterate 2 refine A1 rfl ?_
                  exact ⟨(q + 1, U2.set j true), St.le_mk ⟨rfl, rfl, rfl, rfl, rfl, rfl, rfl, rfl, rfl, trivial⟩ ⟨rfl, by show some (Ob.cells _ _) = _; rw [← bools_set]; simp, rfl, trivial⟩ rfl rfl, ⟨by simp only; omega, (hU2.set (a := j) (by omega)).congr (fun a _ => used_next hql hj), rng_next hql hr hx⟩, by simp only; omega⟩
              · have hrng : (S.rels[ri].2.all fun a => decide (0 ≤ a) && decide (a < S.attrs.length)) = true := rng_yes (fun a ha => hr a (by rw [List.take_of_length_le (by omega)]; exact ha))
                repeat refine AW.seq ?_
                refine AW.exit ?_
                repeat refine AW.seq ?_
                refine AW.region ?_
                refine A1 rfl ?_
                repeat refine AW.seq ?_
                refine AW.block ?_
                repeat refine AW.seq ?_
                refine AW.loop (st := fun x_5 : Nat => mkS [(1, .ptr 0 0), (6, .osl 1 1 S.attrs.length), (8, .ptr 2 0), (12, .pv (.int .i64 x_5)), (88, .pv (.sl none S.rels.length (relsC S.rels))), (89, .pv (.int .i64 S.rels.length)), (90, .pv (.int .i64 ri))] [(0, .mix 27 [.pv (.sl none S.attrs.length (attrsC S.attrs)), .pv (.sl none S.rels.length (relsC S.rels)), .pv (.sl none S.feats.length (featsC S.feats)), .pv (.int .i64 S.label)]), (1, .cells 4 (boolsP U2)), (2, .mix 62 [.pv (.str S.rels[ri].1), .pv (pints S.rels[ri].2)])] 3)
                  (I := fun x_5 => 1 ≤ x_5 ∧ ∀ i, i + 1 < x_5 → i + 1 < S.rels[ri].2.length → S.rels[ri].2.getD i 0 < S.rels[ri].2.getD (i + 1) 0) (μ := fun x_5 => S.rels[ri].2.length - x_5) (x0 := (1)) (St.le_mk ⟨rfl, rfl, rfl, rfl, rfl, rfl, rfl, trivial⟩ ⟨rfl, rfl, rfl, trivial⟩ rfl rfl) (⟨Nat.le_refl _, fun i hi => by omega⟩) ?_
                rintro p ⟨hp1, hasc⟩
                repeat refine AW.seq ?_
                refine AW.region ?_
                iterate 5 refine A1 rfl ?_
                repeat refine AW.seq ?_
                refine AW.condP rfl (fun hc140 => ?_) (fun hc140 => ?_)
                · have hpl : p < S.rels[ri].2.length := by omega
                  have hpl1 : p - 1 < S.rels[ri].2.length := by omega
                  have hv := pints_at hpl
                  have hv1 := pints_at hpl1
                  have hne2 := pints_ne hpl
                  refine AW.skip ?_
                  repeat refine AW.seq ?_
                  refine AW.block ?_
                  repeat refine AW.seq ?_
                  refine AW.draw follows [[], [0], [], [2, 1, 0], [3, 2, 1, 0], [], [5], [], [7], [8, 6, 5, 7], [9, 8, 6, 5, 7], [10, 4, 3, 2, 1, 0, 9, 8, 6, 5, 7]] [0, 1, 2, 3, 4, 5, 6, 7, 8, 9, 10, 11] (by kernel_rfl) (by kernel_rfl) ?_
                  iterate 4 refine D1 rfl rfl ?_
                  first | refine D2 rfl rfl (by assumption) ?_ | refine D1 rfl rfl ?_
                  iterate 4 refine D1 rfl rfl ?_
                  refine DL.step (d := some 152) [] rfl rfl rfl (fun τ h => xj_indexAddr (p - 1) Tryz.underlying22 sz3 ((h.e 0 _ rfl).trans rfl) ((h.e 1 _ rfl).trans rfl) (by omega) (by omega) hne2) rfl (by kernel_rfl) ?_
                  first | refine D2 rfl rfl (by assumption) ?_ | refine D1 rfl rfl ?_
                  refine D1 rfl rfl ?_
                  refine ⟨by kernel_rfl, ?_⟩
                  repeat refine AW.seq ?_
                  refine AW.condP rfl (fun hc154 => ?_) (fun hc154 => ?_)
                  · repeat refine AW.seq ?_
                    refine AW.region ?_
                    refine A1 rfl ?_
                    repeat refine AW.seq ?_
                    refine AW.ret ?_
                    exact ⟨_, _, rfl, rfl, hfin 10 (by decide) (by rw [hre, if_neg hw, if_neg hno2, if_neg hl0, if_neg (by rw [hrng]; decide), if_pos (asc_no hp1 hpl hc154)])⟩
                  · refine AW.skip ?_
                    repeat refine AW.seq ?_
                    refine AW.region ?_
                    iterate 3 refine A1 rfl ?_
                    exact ⟨(p + 1), St.le_mk ⟨rfl, rfl, rfl, rfl, rfl, rfl, rfl, trivial⟩ ⟨rfl, rfl, rfl, trivial⟩ rfl rfl, ⟨by omega, asc_next hpl hp1 hasc (by omega)⟩, by omega⟩
                · repeat refine AW.seq ?_
                  refine AW.exit ?_
                  repeat refine AW.seq ?_
                  refine AW.region ?_
                  iterate 2 refine A1 rfl ?_
                  exact ⟨(ri + 1, U2), St.le_mk ⟨rfl, rfl, rfl, rfl, rfl, trivial⟩ ⟨rfl, rfl, trivial⟩ rfl rfl, ⟨by simp only; omega, hU2.congr (fun a _ => used_rel hlt (by omega)), by simp only; rw [scanE_succ hs, hre, if_neg hw, if_neg hno2, if_neg hl0, if_neg (by rw [hrng]; decide), if_neg (by rw [asc_yes (fun i hi => hasc i (by omega) hi)]; decide)]⟩, by simp only; omega⟩
      · have hR : scanE (relE S) S.rels.length = 0 := by rw [show S.rels.length = ri by omega]; exact hs
        have hU3 : UsedIs S.attrs.length U (usedB S) := by rw [List.take_of_length_le (by omega)] at hU; exact hU
        have hul := hU3.1
        repeat refine AW.seq ?_
        refine AW.exit ?_
        repeat refine AW.seq ?_
        refine AW.region ?_
        iterate 3 refine A1 rfl ?_
        repeat refine AW.seq ?_
        refine AW.block ?_
        repeat refine AW.seq ?_
        refine AW.loop (st := fun x_6 : Nat => mkS [(1, .ptr 0 0), (6, .osl 1 1 S.attrs.length), (156, .osl 1 1 S.attrs.length), (157, .pv (.int .i64 S.attrs.length)), (158, .pv (.int .i64 x_6))] [(0, .mix 27 [.pv (.sl none S.attrs.length (attrsC S.attrs)), .pv (.sl none S.rels.length (relsC S.rels)), .pv (.sl none S.feats.length (featsC S.feats)), .pv (.int .i64 S.label)]), (1, .cells 4 (boolsP U))] 2)
          (I := fun x_6 => x_6 ≤ S.attrs.length ∧ ∀ b, b < x_6 → usedB S b = true) (μ := fun x_6 => S.attrs.length - x_6) (x0 := (0)) (St.le_mk ⟨rfl, rfl, rfl, rfl, rfl, trivial⟩ ⟨rfl, rfl, trivial⟩ rfl rfl) (⟨Nat.zero_le _, fun b hb => absurd hb (Nat.not_lt_zero _)⟩) ?_
        rintro a ⟨ha, hus⟩
        repeat refine AW.seq ?_
        refine AW.region ?_
        refine A1 rfl ?_
        repeat refine AW.seq ?_
        refine AW.condP rfl (fun hc159 => ?_) (fun hc159 => ?_)
        · have hal : a < S.attrs.length := by omega
          have hua := hU3.2 a hal
          have hva : (boolsP U)[a * 1]? = some (.bool (usedB S a)) := by rw [Nat.mul_one, List.getElem?_map, hua]; rfl
          refine AW.skip ?_
          repeat refine AW.seq ?_
          refine AW.block ?_
          repeat refine AW.seq ?_
          refine AW.region ?_
          refine A1 rfl ?_
          first | refine A2 rfl (by assumption) ?_ | refine A1 rfl ?_
          refine A1 rfl ?_
          repeat refine AW.seq ?_
          refine AW.region ?_
          iterate 2 refine A1 rfl ?_
          repeat refine AW.seq ?_
          refine AW.cond rfl (fun hc163 => ?_) (fun hc163 => ?_)
          · repeat refine AW.seq ?_
            refine AW.region ?_
            refine A1 rfl ?_
            repeat refine AW.seq ?_
            refine AW.ret ?_
            exact ⟨_, _, rfl, rfl, congrArg (PV.int .i64) (((hpre (by decide)).2.1 hA (by unfold relsE; rw [if_neg (fun e => e hR), if_pos (List.all_eq_false.2 ⟨a, List.mem_range.2 hal, by simpa using hc163⟩)])).symm)⟩
          · refine AW.skip ?_
            repeat refine AW.seq ?_
            refine AW.region ?_
            iterate 2 refine A1 rfl ?_
            exact ⟨(a + 1), St.le_mk ⟨rfl, rfl, rfl, rfl, rfl, trivial⟩ ⟨rfl, rfl, trivial⟩ rfl rfl, ⟨by omega, fun b hb => by rcases Nat.lt_succ_iff_lt_or_eq.1 hb with h | rfl; exact hus b h; simpa using hc163⟩, by omega⟩
        · have hRS : relsE S = 0 := rels_zero hR (List.all_eq_true.2 fun b hb => hus b (by have := List.mem_range.1 hb; omega))
          repeat refine AW.seq ?_
          refine AW.exit ?_
          repeat refine AW.seq ?_
          refine AW.region ?_
          iterate 4 refine A1 rfl ?_
          repeat refine AW.seq ?_
          refine AW.block ?_
          repeat refine AW.seq ?_
          refine AW.loop (st := fun x_7 : Nat => mkS [(1, .ptr 0 0), (6, .osl 1 1 S.attrs.length), (166, .pv (.sl none S.feats.length (featsC S.feats))), (167, .pv (.int .i64 S.feats.length)), (168, .pv (.int .i64 x_7))] [(0, .mix 27 [.pv (.sl none S.attrs.length (attrsC S.attrs)), .pv (.sl none S.rels.length (relsC S.rels)), .pv (.sl none S.feats.length (featsC S.feats)), .pv (.int .i64 S.label)]), (1, .cells 4 (boolsP U))] 2)
            (I := fun x_7 => x_7 ≤ S.feats.length ∧ scanE (featE S) x_7 = 0) (μ := fun x_7 => S.feats.length - x_7) (x0 := (0)) (St.le_mk ⟨rfl, rfl, rfl, rfl, rfl, trivial⟩ ⟨rfl, rfl, trivial⟩ rfl rfl) (⟨Nat.zero_le _, rfl⟩) ?_
          rintro f ⟨hk, hs⟩
          repeat refine AW.seq ?_
          refine AW.region ?_
          refine A1 rfl ?_
          repeat refine AW.seq ?_
          refine AW.condP rfl (fun hc169 => ?_) (fun hc169 => ?_)
          · have hlt : f < S.feats.length := by omega
            have hrow := feat_row hlt
            have hne := feat_ne hlt
            have hfe := featE_eq2 S f hlt
            have hfin : ∀ e : Int, e ≠ 0 → featE S f = e → PV.int .i64 e = .int .i64 (checkE S) := fun e h0 h1 => congrArg (PV.int .i64) (((hpre h0).2.2 hA hRS (by rw [scanE_at hs (by rw [h1]; exact h0) hlt, h1])).symm)
            refine AW.skip ?_
            repeat refine AW.seq ?_
            refine AW.block ?_
            repeat refine AW.seq ?_
            refine AW.region ?_
            iterate 2 refine A1 rfl ?_
            refine RL.step (d := some 172) rfl rfl (xj_loadAR ⟨_, Tryz.underlying73, rfl⟩ sz73 rfl hrow rfl) ?_
            iterate 3 refine A1 rfl ?_
            repeat refine AW.seq ?_
            refine AW.region ?_
            iterate 4 refine A1 rfl ?_
            apply RL.orB 6 176 182 [177, 178, 179, 180, 181] rfl (by first | exact MonoK.le | exact MonoK.aw | exact MonoK.back)
            · intro hb3
              iterate 6 refine A1 rfl ?_
              exact St.le_fg (fEq.upd (fEq.upd (fEq.upd (fEq.upd (fEq.upd (fEq.upd (fEq.upd (fEq.refl) rfl) rfl) rfl) rfl) rfl) rfl) rfl) rfl rfl rfl
            · intro hb3
              iterate 6 refine A1 rfl ?_
              exact St.le_fg (fEq.upd (fEq.upd (fEq.upd (fEq.upd (fEq.upd (fEq.upd (fEq.upd (fEq.refl) rfl) rfl) rfl) rfl) rfl) rfl) rfl) rfl rfl rfl
            repeat refine AW.seq ?_
            refine AW.cond rfl (fun hc182 => ?_) (fun hc182 => ?_)
            · repeat refine AW.seq ?_
              refine AW.region ?_
              refine A1 rfl ?_
              repeat refine AW.seq ?_
              refine AW.ret ?_
              exact ⟨_, _, rfl, rfl, hfin 2 (by decide) (by rw [hfe, if_pos (by simp at hc182; omega)])⟩
            · have hx : 0 ≤ S.feats[f].1 ∧ S.feats[f].1 < S.attrs.length := by simp at hc182; omega
              obtain ⟨a, ha⟩ := Int.eq_ofNat_of_zero_le hx.1
              have hal : a < S.attrs.length := by omega
              have hk2 : (attrsC S.attrs)[a * 2 + 1]? = some (.int .i64 S.attrs[a].2) := flat_at _ 2 (fun _ => rfl) S.attrs a 1 hal (by decide)
              have hane := attr_ne hal
              have hkd : (S.attrs.getD S.feats[f].1.toNat default).2 = S.attrs[a].2 := by rw [ha]; simp [List.getD, hal]
              refine AW.skip ?_
              repeat refine AW.seq ?_
              refine AW.region ?_
              iterate 4 refine A1 rfl ?_
              apply RL.andB 9 186 195 [187, 188, 189, 190, 191, 192, 193, 194] rfl (by first | exact MonoK.le | exact MonoK.aw | exact MonoK.back)
              · intro hb3
                iterate 4 refine A1 rfl ?_
                apply RL.orB 4 190 194 [191, 192, 193] rfl (by first | exact MonoK.le | exact MonoK.aw | exact MonoK.back)
                · intro hb7
                  iterate 4 refine A1 rfl ?_
                  exact St.le_fg (fEq.upd (fEq.upd (fEq.upd (fEq.upd (fEq.upd (fEq.refl) rfl) rfl) rfl) rfl) rfl) rfl rfl rfl
                · intro hb7
                  iterate 4 refine A1 rfl ?_
                  exact St.le_fg (fEq.upd (fEq.upd (fEq.upd (fEq.upd (fEq.upd (fEq.refl) rfl) rfl) rfl) rfl) rfl) rfl rfl rfl
                refine A1 rfl ?_
                exact St.le_fg (fEq.upd (fEq.upd (fEq.upd (fEq.upd (fEq.upd (fEq.upd (fEq.upd (fEq.upd (fEq.upd (fEq.upd (fEq.upd (fEq.refl) rfl) rfl) rfl) rfl) rfl) rfl) rfl) rfl) rfl) rfl) rfl) rfl rfl rfl
              · intro hb3
                iterate 9 refine A1 rfl ?_
                exact St.le_fg (fEq.upd (fEq.upd (fEq.upd (fEq.upd (fEq.upd (fEq.upd (fEq.upd (fEq.upd (fEq.upd (fEq.upd (fEq.refl) rfl) rfl) rfl) rfl) rfl) rfl) rfl) rfl) rfl) rfl) rfl rfl rfl
              refine A1 rfl ?_
              apply RL.andB 9 196 205 [197, 198, 199, 200, 201, 202, 203, 204] rfl (by first | exact MonoK.le | exact MonoK.aw | exact MonoK.back)
              · intro hb13
                iterate 4 refine A1 rfl ?_
                refine RL.stepG (d := some 201) rfl rfl rfl (xj_indexAddr a Tryz.underlying23 sz71 rfl rfl ha hal hane) ?_
                refine A1 rfl ?_
                first | refine A2 rfl (by assumption) ?_ | refine A1 rfl ?_
                iterate 2 refine A1 rfl ?_
                exact St.le_fg (fEq.upd (fEq.upd (fEq.upd (fEq.upd (fEq.upd (fEq.upd (fEq.upd (fEq.upd (fEq.upd (fEq.upd (fEq.refl) rfl) rfl) rfl) rfl) rfl) rfl) rfl) rfl) rfl) rfl) rfl rfl rfl
              · intro hb13
                iterate 9 refine A1 rfl ?_
                exact St.le_fg (fEq.upd (fEq.upd (fEq.upd (fEq.upd (fEq.upd (fEq.upd (fEq.upd (fEq.upd (fEq.upd (fEq.upd (fEq.refl) rfl) rfl) rfl) rfl) rfl) rfl) rfl) rfl) rfl) rfl) rfl rfl rfl
              refine A1 rfl ?_
              repeat refine AW.seq ?_
              refine AW.region ?_
              iterate 4 refine A1 rfl ?_
              apply RL.andB 4 209 213 [210, 211, 212] rfl (by first | exact MonoK.le | exact MonoK.aw | exact MonoK.back)
              · intro hb3
                iterate 4 refine A1 rfl ?_
                exact St.le_fg (fEq.upd (fEq.upd (fEq.upd (fEq.upd (fEq.upd (fEq.refl) rfl) rfl) rfl) rfl) rfl) rfl rfl rfl
              · intro hb3
                iterate 4 refine A1 rfl ?_
                exact St.le_fg (fEq.upd (fEq.upd (fEq.upd (fEq.upd (fEq.upd (fEq.refl) rfl) rfl) rfl) rfl) rfl) rfl rfl rfl
              refine A1 rfl ?_
              apply RL.andB 9 214 223 [215, 216, 217, 218, 219, 220, 221, 222] rfl (by first | exact MonoK.le | exact MonoK.aw | exact MonoK.back)
              · intro hb8
                iterate 4 refine A1 rfl ?_
                refine RL.stepG (d := some 219) rfl rfl rfl (xj_indexAddr a Tryz.underlying23 sz71 rfl rfl ha hal hane) ?_
                refine A1 rfl ?_
                first | refine A2 rfl (by assumption) ?_ | refine A1 rfl ?_
                iterate 2 refine A1 rfl ?_
                exact St.le_fg (fEq.upd (fEq.upd (fEq.upd (fEq.upd (fEq.upd (fEq.upd (fEq.upd (fEq.upd (fEq.upd (fEq.upd (fEq.refl) rfl) rfl) rfl) rfl) rfl) rfl) rfl) rfl) rfl) rfl) rfl rfl rfl
              · intro hb8
                iterate 9 refine A1 rfl ?_
                exact St.le_fg (fEq.upd (fEq.upd (fEq.upd (fEq.upd (fEq.upd (fEq.upd (fEq.upd (fEq.upd (fEq.upd (fEq.upd (fEq.refl) rfl) rfl) rfl) rfl) rfl) rfl) rfl) rfl) rfl) rfl) rfl rfl rfl
              refine A1 rfl ?_
              repeat refine AW.seq ?_
              refine AW.region ?_
              iterate 3 refine A1 rfl ?_
              apply RL.andB 3 226 229 [227, 228] rfl (by first | exact MonoK.le | exact MonoK.aw | exact MonoK.back)
              · intro hb2
                iterate 3 refine A1 rfl ?_
                exact St.le_fg (fEq.upd (fEq.upd (fEq.upd (fEq.upd (fEq.refl) rfl) rfl) rfl) rfl) rfl rfl rfl
              · intro hb2
                iterate 3 refine A1 rfl ?_
                exact St.le_fg (fEq.upd (fEq.upd (fEq.upd (fEq.upd (fEq.refl) rfl) rfl) rfl) rfl) rfl rfl rfl
              repeat refine AW.seq ?_
              refine AW.cond rfl (fun hc229 => ?_) (fun hc229 => ?_)
              · repeat refine AW.seq ?_
                refine AW.region ?_
                refine A1 rfl ?_
                repeat refine AW.seq ?_
                refine AW.ret ?_
                exact ⟨_, _, rfl, rfl, hfin 7 (by decide) (by rw [hfe, if_neg (by omega), hkd, if_pos (by revert hc229; generalize (S.feats[f].2.1 == 1) = b1; generalize (S.feats[f].2.2 == 0) = b2; generalize (S.feats[f].2.2 == 1) = b3; generalize (S.attrs[a].2 == 2) = b4; generalize (S.feats[f].2.1 == 2) = b5; generalize (S.attrs[a].2 == 3) = b6; cases b1 <;> cases b2 <;> cases b3 <;> cases b4 <;> cases b5 <;> cases b6 <;> decide)])⟩
              · have hkind : ¬ ((S.feats[f].2.1 == 1 && S.attrs[a].2 == 2 && (S.feats[f].2.2 == 0 || S.feats[f].2.2 == 1)) || (S.feats[f].2.1 == 2 && S.attrs[a].2 == 3 && S.feats[f].2.2 == 0)) = false := by revert hc229; generalize (S.feats[f].2.1 == 1) = b1; generalize (S.feats[f].2.2 == 0) = b2; generalize (S.feats[f].2.2 == 1) = b3; generalize (S.attrs[a].2 == 2) = b4; generalize (S.feats[f].2.1 == 2) = b5; generalize (S.attrs[a].2 == 3) = b6; cases b1 <;> cases b2 <;> cases b3 <;> cases b4 <;> cases b5 <;> cases b6 <;> decide
                refine AW.skip ?_
                repeat refine AW.seq ?_
                refine AW.region ?_
                refine A1 rfl ?_
                repeat refine AW.seq ?_
                refine AW.block ?_
                repeat refine AW.seq ?_
                refine AW.loop (st := fun x_8 : Nat => mkS [(1, .ptr 0 0), (6, .osl 1 1 S.attrs.length), (15, .pv (.int .i64 f)), (16, .ptr 2 0), (19, .pv (.int .i64 x_8)), (166, .pv (.sl none S.feats.length (featsC S.feats))), (167, .pv (.int .i64 S.feats.length)), (168, .pv (.int .i64 f))] [(0, .mix 27 [.pv (.sl none S.attrs.length (attrsC S.attrs)), .pv (.sl none S.rels.length (relsC S.rels)), .pv (.sl none S.feats.length (featsC S.feats)), .pv (.int .i64 S.label)]), (1, .cells 4 (boolsP U)), (2, .mix 73 [.pv (.int .i64 S.feats[f].1), .pv (.int .i64 S.feats[f].2.1), .pv (.int .i64 S.feats[f].2.2)])] 3)
                  (I := fun x_8 => x_8 ≤ f ∧ ((S.feats.take x_8).any fun g => g.1 == S.feats[f].1) = false) (μ := fun x_8 => f - x_8) (x0 := (0)) (St.le_mk ⟨rfl, rfl, rfl, rfl, rfl, rfl, rfl, rfl, trivial⟩ ⟨rfl, rfl, rfl, trivial⟩ rfl rfl) (⟨Nat.zero_le _, rfl⟩) ?_
                rintro j ⟨hj, hno⟩
                repeat refine AW.seq ?_
                refine AW.region ?_
                iterate 3 refine A1 rfl ?_
                repeat refine AW.seq ?_
                refine AW.condP rfl (fun hc232 => ?_) (fun hc232 => ?_)
                · have hjk : j < f := by omega
                  have hjl : j < S.feats.length := by omega
                  have hnm : (featsC S.feats)[j * 3 + 0]? = some (.int .i64 S.feats[j].1) := flat_at _ 3 (fun _ => rfl) S.feats j 0 hjl (by decide)
                  refine AW.skip ?_
                  repeat refine AW.seq ?_
                  refine AW.block ?_
                  repeat refine AW.seq ?_
                  refine AW.draw follows [[], [0], [], [2, 1, 0], [3, 2, 1, 0], [4, 3, 2, 1, 0], [], [6], [7, 5, 4, 3, 2, 1, 0, 6]] [0, 1, 2, 3, 4, 5, 6, 7, 8] (by kernel_rfl) (by kernel_rfl) ?_
                  iterate 5 refine D1 rfl rfl ?_
                  first | refine D2 rfl rfl (by assumption) ?_ | refine D1 rfl rfl ?_
                  iterate 3 refine D1 rfl rfl ?_
                  refine ⟨by kernel_rfl, ?_⟩
                  repeat refine AW.seq ?_
                  refine AW.cond rfl (fun hc243 => ?_) (fun hc243 => ?_)
                  · repeat refine AW.seq ?_
                    refine AW.region ?_
                    refine A1 rfl ?_
                    repeat refine AW.seq ?_
                    refine AW.ret ?_
                    exact ⟨_, _, rfl, rfl, hfin 9 (by decide) (by rw [hfe, if_neg (by omega), hkd, if_neg hkind, if_pos (by rw [Bool.or_eq_true]; exact .inr (List.any_eq_true.2 ⟨S.feats[j], mem_take_at hjk hjl, hc243⟩))])⟩
                  · refine AW.skip ?_
                    repeat refine AW.seq ?_
                    refine AW.region ?_
                    iterate 3 refine A1 rfl ?_
                    exact ⟨(j + 1), St.le_mk ⟨rfl, rfl, rfl, rfl, rfl, rfl, rfl, rfl, trivial⟩ ⟨rfl, rfl, rfl, trivial⟩ rfl rfl, ⟨by omega, any_take hjl hno hc243⟩, by omega⟩
                · rw [show j = f by omega] at hno
                  repeat refine AW.seq ?_
                  refine AW.exit ?_
                  repeat refine AW.seq ?_
                  refine AW.region ?_
                  iterate 5 refine A1 rfl ?_
                  repeat refine AW.seq ?_
                  refine AW.cond rfl (fun hc248 => ?_) (fun hc248 => ?_)
                  · repeat refine AW.seq ?_
                    refine AW.region ?_
                    refine A1 rfl ?_
                    repeat refine AW.seq ?_
                    refine AW.ret ?_
                    exact ⟨_, _, rfl, rfl, hfin 9 (by decide) (by rw [hfe, if_neg (by omega), hkd, if_neg hkind, if_pos (by rw [Bool.or_eq_true]; exact .inl hc248)])⟩
                  · refine AW.skip ?_
                    repeat refine AW.seq ?_
                    refine AW.region ?_
                    iterate 2 refine A1 rfl ?_
                    exact ⟨(f + 1), St.le_mk ⟨rfl, rfl, rfl, rfl, rfl, trivial⟩ ⟨rfl, rfl, trivial⟩ rfl rfl, ⟨by omega, by rw [scanE_succ hs, hfe, if_neg (by omega), hkd, if_neg hkind, if_neg (by rw [hno, hc248]; decide)]⟩, by omega⟩
          · have hF : scanE (featE S) S.feats.length = 0 := by rw [show S.feats.length = f by omega]; exact hs
            have hcl := chk_label hlim hA hRS hF
            repeat refine AW.seq ?_
            refine AW.exit ?_
            repeat refine AW.seq ?_
            refine AW.region ?_
            iterate 4 refine A1 rfl ?_
            apply RL.orB 6 253 259 [254, 255, 256, 257, 258] rfl (by first | exact MonoK.le | exact MonoK.aw | exact MonoK.back)
            · intro hb3
              iterate 6 refine A1 rfl ?_
              exact St.le_fg (fEq.upd (fEq.upd (fEq.upd (fEq.upd (fEq.upd (fEq.upd (fEq.upd (fEq.refl) rfl) rfl) rfl) rfl) rfl) rfl) rfl) rfl rfl rfl
            · intro hb3
              iterate 6 refine A1 rfl ?_
              exact St.le_fg (fEq.upd (fEq.upd (fEq.upd (fEq.upd (fEq.upd (fEq.upd (fEq.upd (fEq.refl) rfl) rfl) rfl) rfl) rfl) rfl) rfl) rfl rfl rfl
            repeat refine AW.seq ?_
            refine AW.cond rfl (fun hc259 => ?_) (fun hc259 => ?_)
            · repeat refine AW.seq ?_
              refine AW.region ?_
              refine A1 rfl ?_
              repeat refine AW.seq ?_
              refine AW.ret ?_
              exact ⟨_, _, rfl, rfl, congrArg (PV.int .i64) (by rw [hcl, if_pos (by simpa using hc259)])⟩
            · have hn : ¬ (S.label < -1 ∨ (S.attrs.length : Int) ≤ S.label) := by simpa using hc259
              refine AW.skip ?_
              have hlv : 0 ≤ S.label → ∃ (a : Nat), S.label = (a : Int) ∧ a < S.attrs.length ∧ (attrsC S.attrs)[a * 2 + 1]? = some (.int .i64 (S.attrs.getD S.label.toNat default).2) := fun h => by obtain ⟨a, ha⟩ := Int.eq_ofNat_of_zero_le h; have hal : a < S.attrs.length := (by omega); refine ⟨a, ha, hal, ?_⟩; rw [ha]; simp only [Int.toNat_natCast, List.getD, List.getElem?_eq_getElem hal]; exact flat_at _ 2 (fun _ => rfl) S.attrs a 1 hal (by decide)
              repeat refine AW.seq ?_
              refine AW.region ?_
              iterate 4 refine A1 rfl ?_
              apply RL.andB 9 263 272 [264, 265, 266, 267, 268, 269, 270, 271] rfl (by first | exact MonoK.le | exact MonoK.aw | exact MonoK.back)
              · intro hb3
                obtain ⟨a, ha, hal, hk2⟩ := hlv (of_decide_eq_true hb3)
                have hane := attr_ne hal
                iterate 4 refine A1 rfl ?_
                refine RL.stepG (d := some 268) rfl rfl rfl (xj_indexAddr a Tryz.underlying23 sz71 rfl rfl ha hal hane) ?_
                refine A1 rfl ?_
                first | refine A2 rfl (by assumption) ?_ | refine A1 rfl ?_
                iterate 2 refine A1 rfl ?_
                exact St.le_fg (fEq.upd (fEq.upd (fEq.upd (fEq.upd (fEq.upd (fEq.upd (fEq.upd (fEq.upd (fEq.upd (fEq.upd (fEq.refl) rfl) rfl) rfl) rfl) rfl) rfl) rfl) rfl) rfl) rfl) rfl rfl rfl
              · intro hb3
                iterate 9 refine A1 rfl ?_
                exact St.le_fg (fEq.upd (fEq.upd (fEq.upd (fEq.upd (fEq.upd (fEq.upd (fEq.upd (fEq.upd (fEq.upd (fEq.upd (fEq.refl) rfl) rfl) rfl) rfl) rfl) rfl) rfl) rfl) rfl) rfl) rfl rfl rfl
              repeat refine AW.seq ?_
              refine AW.cond rfl (fun hc272 => ?_) (fun hc272 => ?_)
              · repeat refine AW.seq ?_
                refine AW.region ?_
                refine A1 rfl ?_
                repeat refine AW.seq ?_
                refine AW.ret ?_
                exact ⟨_, _, rfl, rfl, congrArg (PV.int .i64) (by rw [hcl, if_neg hn, if_pos (by simpa using hc272)])⟩
              · refine AW.skip ?_
                repeat refine AW.seq ?_
                refine AW.region ?_
                refine A1 rfl ?_
                repeat refine AW.seq ?_
                refine AW.ret ?_
                exact ⟨_, _, rfl, rfl, congrArg (PV.int .i64) (by rw [hcl, if_neg hn, if_neg (by rintro ⟨h1, h2⟩; rw [decide_eq_true (show S.label ≥ 0 from h1), Bool.true_and, bne_eq_false_iff_eq] at hc272; exact h2 hc272)])⟩
end Go.Proofs.YtkalgjnhaicabaaGreat
namespace Go.Proofs.YtkalgjnhaicabaaGreat
/-- The way upward from x: at most k steps. -/
def upF (P : List Int) : Nat → Int → Option (List Int)
  | 0, x => if x < 0 then some [] else none
  | k + 1, x => if x < 0 then some [] else (upF P k (P.getD x.toNat 0)).map (x :: ·)
/-- The ancestors of a variable, the next one first; none if they do not lead to a root. -/
def abv (P : List Int) (v : Int) : Option (List Int) := upF P P.length (P.getD v.toNat 0)
def abvL (P : List Int) (v : Int) : List Int := (abv P v).getD []
/-- Is a an ancestor of b? -/
def hiB (P : List Int) (a b : Int) : Bool := decide (a ∈ abvL P b)
def rightB (P : List Int) (l : List Int) : Bool := l.all fun a => l.all fun b => a == b || hiB P a b || hiB P b a
/-- What order.Check answers. -/
def ordE (S : Sch) (P : List Int) : Int :=
  if checkE S ≠ 0 then checkE S
  else if P.length ≠ S.attrs.length then 5
  else if (P.any fun p => decide (p < -1) || decide ((P.length : Int) ≤ p)) = true then 2
  else if ((List.range P.length).all fun v => (abv P v).isSome) = false then 13
  else if (S.rels.all fun r => rightB P r.2) = false then 13 else 0
def belowL (P : List Int) (v : Int) : List Int := ((List.range P.length).map Int.ofNat).filter fun a => a == v || hiB P v a
def linkB (S : Sch) (a b : Int) : Bool := S.rels.any fun r => decide (a ∈ r.2) && decide (b ∈ r.2)
/-- The key before it is sorted. -/
def keyU (S : Sch) (P : List Int) (v : Int) : List Int := (abvL P v).filter fun a => (belowL P v).any fun b => linkB S a b
theorem upF_neg {P : List Int} {k : Nat} {x : Int} (h : x < 0) : upF P k x = some [] := by
  cases k <;> simp [upF, h]
theorem upF_nat {P : List Int} {k a : Nat} (ha : a < P.length) : upF P (k + 1) (a : Int) = (upF P k P[a]).map ((a : Int) :: ·) := by
  have h : ¬ ((a : Int) < 0) := by omega
  simp [upF, List.getD, ha, h]
theorem upF_zero {P : List Int} {x : Int} (h : 0 ≤ x) : upF P 0 x = none := by
  simp [upF]; omega
theorem upF_len {P : List Int} : ∀ {k : Nat} {x : Int} {l : List Int}, upF P k x = some l → l.length ≤ k
  | 0, x, l, h => by
    simp only [upF] at h
    split at h
    · cases h; simp
    · cases h
  | k + 1, x, l, h => by
    simp only [upF] at h
    split at h
    · cases h; simp
    · cases e : upF P k (P.getD x.toNat 0) with
      | none => rw [e] at h; cases h
      | some l' => rw [e] at h; cases h; simp; exact upF_len e
theorem abvL_len (P : List Int) (v : Int) : (abvL P v).length ≤ P.length := by
  unfold abvL
  cases h : abv P v with
  | none => simp
  | some l => exact upF_len h
end Go.Proofs.YtkalgjnhaicabaaGreat
namespace Go.Proofs.YtkalgjnhaicabaaGreat
open Go.RowKit Mk
set_option maxRecDepth 100000
set_option maxHeartbeats 1000000
abbrev ordP (P : List Int) : PV := .agg [pints P]
theorem tk_all (L : List Int) : (L.map (PV.int .i64)).take (L.length * 1) = L.map (PV.int .i64) := List.take_of_length_le (by simp)
theorem above_spec (P : List Int) (v : Nat) (hv : v < P.length) (hP : ∀ p ∈ P, p < P.length) (hn : P.length ≤ 1000000) : FnP Tryz.prog 52 [ordP P, .int .i64 v] (· = .tup [pints (abvL P v), .bool (abv P v).isSome]) := by
  refine FnP.of Tryz.func52 rfl Tryz.ntmps52 (by simp) fun m0 w0 F R0 => ?_
  have hv0 := pints_at hv
  have hne := pints_ne hv
  have hab : abv P v = upF P P.length P[v] := by simp [abv, List.getD, hv]
  repeat refine AW.seq ?_
  refine AW.region ?_
  iterate 3 refine A1 rfl ?_
  repeat refine AW.seq ?_
  refine AW.region ?_
  refine A1 rfl ?_
  refine AW.weaken (St.le_gro 6 1 1 3 rfl rfl) ?_
  repeat refine AW.seq ?_
  refine AW.region ?_
  iterate 4 refine A1 rfl ?_
  first | refine A2 rfl (by assumption) ?_ | refine A1 rfl ?_
  refine A1 rfl ?_
  repeat refine AW.seq ?_
  refine AW.block ?_
  repeat refine AW.seq ?_
  refine AW.loop (st := fun x_0 : List Int × Int => mkS [(2, .ptr 0 0), (6, .gsl 1 1 x_0.1.length), (7, .pv (.int .i64 x_0.2))] [(0, .mix 29 [.pv (pints P)]), (1, .gro 3 (intsP x_0.1))] 2)
    (I := fun x_0 => x_0.1.length ≤ P.length ∧ x_0.2 < P.length ∧ abv P v = (upF P (P.length - x_0.1.length) x_0.2).map (x_0.1 ++ ·)) (μ := fun x_0 => P.length - x_0.1.length) (x0 := ([], P[v])) (St.le_mk ⟨rfl, rfl, rfl, trivial⟩ ⟨rfl, rfl, trivial⟩ rfl rfl) (⟨Nat.zero_le _, hP _ (List.getElem_mem hv), by rw [hab]; simp⟩) ?_
  rintro ⟨L, x⟩ ⟨hl, hx, hu⟩
  try simp only at hl hx hu ⊢
  repeat refine AW.seq ?_
  refine AW.region ?_
  iterate 2 refine A1 rfl ?_
  repeat refine AW.seq ?_
  refine AW.condP rfl (fun hc14 => ?_) (fun hc14 => ?_)
  · obtain ⟨a, rfl⟩ := Int.eq_ofNat_of_zero_le hc14
    have ha : a < P.length := by omega
    have hva := pints_at ha
    have hsl : (intsP L).length = L.length * 1 := by simp
    refine AW.skip ?_
    repeat refine AW.seq ?_
    refine AW.block ?_
    repeat refine AW.seq ?_
    refine AW.region ?_
    iterate 6 refine A1 rfl ?_
    repeat refine AW.seq ?_
    refine AW.cond rfl (fun hc25 => ?_) (fun hc25 => ?_)
    · have hle : L.length = P.length := by have := ibT hc25; omega
      have hno : abv P v = none := by rw [hu, hle, Nat.sub_self, upF_zero (by omega)]; rfl
      refine AW.weaken (St.le_fgS []) ?_
      repeat refine AW.seq ?_
      refine AW.region ?_
      iterate 2 refine A1 rfl ?_
      refine AW.weaken (St.le_fgS [4]) ?_
      repeat refine AW.seq ?_
      refine AW.ret ?_
      exact ⟨_, _, rfl, rfl, by unfold abvL; rw [hno]; rfl⟩
    · have hlt : L.length < P.length := by have := ibF hc25; omega
      refine AW.skip ?_
      repeat refine AW.seq ?_
      refine AW.region ?_
      iterate 5 refine A1 rfl ?_
      repeat refine AW.seq ?_
      refine AW.region ?_
      iterate 4 refine A1 rfl ?_
      first | refine A2 rfl (by assumption) ?_ | refine A1 rfl ?_
      refine A1 rfl ?_
      exact ⟨(L ++ [(a : Int)], P[a]), St.le_mkR [0, 3] ⟨rfl, by simp; rfl, rfl, trivial⟩ ⟨rfl, congrArg (fun c => some (Ob.gro 3 c)) (ints_snoc L a).symm, trivial⟩ rfl rfl (by decide) rfl, ⟨by simp; omega, hP _ (List.getElem_mem ha), by rw [hu, show P.length - L.length = P.length - (L ++ [(a : Int)]).length + 1 by simp; omega, upF_nat ha, Option.map_map]; congr 1; funext l; simp⟩, by simp; omega⟩
  · repeat refine AW.seq ?_
    refine AW.exit ?_
    refine AW.weaken (St.le_pubA 1 rfl rfl) ?_
    repeat refine AW.seq ?_
    refine AW.region ?_
    iterate 3 refine A1 rfl ?_
    repeat refine AW.seq ?_
    refine AW.ret ?_
    exact ⟨_, _, rfl, rfl, by rw [show abv P v = some L by rw [hu, upF_neg (by omega)]; simp]; unfold abvL; rw [show abv P v = some L by rw [hu, upF_neg (by omega)]; simp]; simp [tk_all]; rfl⟩
theorem higher_spec (P : List Int) (a b : Int) (hb0 : 0 ≤ b) (hb : b < P.length) (hP : ∀ p ∈ P, p < P.length) (hn : P.length ≤ 1000000) : FnP Tryz.prog 62 [ordP P, .int .i64 a, .int .i64 b] (· = .bool (hiB P a b)) := by
  obtain ⟨v, rfl⟩ := Int.eq_ofNat_of_zero_le hb0
  refine FnP.of Tryz.func62 rfl Tryz.ntmps62 (by simp) fun m0 w0 F R0 => ?_
  have hl := abvL_len P v
  repeat refine AW.seq ?_
  refine AW.region ?_
  iterate 2 refine A1 rfl ?_
  repeat refine AW.seq ?_
  refine AW.region ?_
  iterate 2 refine A1 rfl ?_
  refine RL.step (d := some 12) rfl rfl (xj_call Tryz.call52 (above_spec P v (by omega) hP hn) rfl) ?_
  iterate 5 refine A1 rfl ?_
  repeat refine AW.seq ?_
  refine AW.region ?_
  iterate 2 refine A1 rfl ?_
  refine RL.step (d := some 17) rfl rfl (xj_call Tryz.call49 (contains_spec (abvL P v) a (by omega)) rfl) ?_
  refine A1 rfl ?_
  repeat refine AW.seq ?_
  refine AW.ret ?_
  exact ⟨_, _, rfl, rfl, rfl⟩
abbrev relP (r : ByteArray × List Int) : PV := .agg [.str r.1, pints r.2]
theorem all_take {α : Type} {l : List α} {p : α → Bool} {k : Nat} (hk : k < l.length) (h : (l.take k).all p = true) (hn : p l[k] = true) : (l.take (k + 1)).all p = true := by
  rw [take_snoc hk]; simp only [List.all_append, h, List.all_cons, hn, List.all_nil, Bool.and_true]
theorem all_not {α : Type} {l : List α} {p : α → Bool} {k : Nat} (hk : k < l.length) (h : p l[k] = false) : l.all p = false := by
  rw [List.all_eq_false]; exact ⟨_, List.getElem_mem hk, by rw [h]; decide⟩
theorem neq_not (a b : Int) (p q : Bool) : ((a != b && !p) && !q) = !(a == b || p || q) := by
  rw [bne]; cases (a == b) <;> cases p <;> cases q <;> rfl
theorem right_spec (P : List Int) (r : ByteArray × List Int) (hr : ∀ a ∈ r.2, 0 ≤ a ∧ a < P.length) (hl : r.2.length ≤ 1000000) (hP : ∀ p ∈ P, p < P.length) (hn : P.length ≤ 1000000) : FnP Tryz.prog 55 [ordP P, relP r] (· = .bool (rightB P r.2)) := by
  refine FnP.of Tryz.func55 rfl Tryz.ntmps55 (by simp) fun m0 w0 F R0 => ?_
  repeat refine AW.seq ?_
  refine AW.region ?_
  iterate 3 refine A1 rfl ?_
  repeat refine AW.seq ?_
  refine AW.region ?_
  iterate 4 refine A1 rfl ?_
  repeat refine AW.seq ?_
  refine AW.block ?_
  repeat refine AW.seq ?_
  refine AW.loop (st := fun x_0 : Nat => mkS [(2, .ptr 0 0), (3, .ptr 1 0), (10, .pv (pints r.2)), (11, .pv (.int .i64 r.2.length)), (12, .pv (.int .i64 x_0))] [(0, .mix 29 [.pv (pints P)]), (1, .mix 62 [.pv (.str r.1), .pv (pints r.2)])] 2)
    (I := fun x_0 => x_0 ≤ r.2.length ∧ ((r.2.take x_0).all fun a => r.2.all fun b => a == b || hiB P a b || hiB P b a) = true) (μ := fun x_0 => r.2.length - x_0) (x0 := (0)) (St.le_mk ⟨rfl, rfl, rfl, rfl, rfl, trivial⟩ ⟨rfl, rfl, trivial⟩ rfl rfl) (⟨Nat.zero_le _, rfl⟩) ?_
  rintro k ⟨hk, hall⟩
  repeat refine AW.seq ?_
  refine AW.region ?_
  refine A1 rfl ?_
  repeat refine AW.seq ?_
  refine AW.condP rfl (fun hc13 => ?_) (fun hc13 => ?_)
  · have hlt : k < r.2.length := by omega
    have hva := pints_at hlt
    have hne := pints_ne hlt
    have hka := hr _ (List.getElem_mem hlt)
    refine AW.skip ?_
    repeat refine AW.seq ?_
    refine AW.block ?_
    repeat refine AW.seq ?_
    refine AW.region ?_
    refine A1 rfl ?_
    first | refine A2 rfl (by assumption) ?_ | refine A1 rfl ?_
    refine A1 rfl ?_
    repeat refine AW.seq ?_
    refine AW.region ?_
    iterate 4 refine A1 rfl ?_
    repeat refine AW.seq ?_
    refine AW.block ?_
    repeat refine AW.seq ?_
    refine AW.loop (st := fun x_1 : Nat => mkS [(2, .ptr 0 0), (3, .ptr 1 0), (6, .pv (.int .i64 r.2[k])), (10, .pv (pints r.2)), (11, .pv (.int .i64 r.2.length)), (12, .pv (.int .i64 k)), (17, .pv (pints r.2)), (18, .pv (.int .i64 r.2.length)), (19, .pv (.int .i64 x_1))] [(0, .mix 29 [.pv (pints P)]), (1, .mix 62 [.pv (.str r.1), .pv (pints r.2)])] 2)
      (I := fun x_1 => x_1 ≤ r.2.length ∧ ((r.2.take x_1).all fun b => r.2[k] == b || hiB P r.2[k] b || hiB P b r.2[k]) = true) (μ := fun x_1 => r.2.length - x_1) (x0 := (0)) (St.le_mk ⟨rfl, rfl, rfl, rfl, rfl, rfl, rfl, rfl, rfl, trivial⟩ ⟨rfl, rfl, trivial⟩ rfl rfl) (⟨Nat.zero_le _, rfl⟩) ?_
    rintro j ⟨hj, hall2⟩
    repeat refine AW.seq ?_
    refine AW.region ?_
    refine A1 rfl ?_
    repeat refine AW.seq ?_
    refine AW.condP rfl (fun hc20 => ?_) (fun hc20 => ?_)
    · have hlt2 : j < r.2.length := by omega
      have hvb := pints_at hlt2
      have hja := hr _ (List.getElem_mem hlt2)
      refine AW.skip ?_
      repeat refine AW.seq ?_
      refine AW.block ?_
      repeat refine AW.seq ?_
      refine AW.region ?_
      refine A1 rfl ?_
      first | refine A2 rfl (by assumption) ?_ | refine A1 rfl ?_
      refine A1 rfl ?_
      repeat refine AW.seq ?_
      refine AW.region ?_
      iterate 4 refine A1 rfl ?_
      apply RL.andB 6 26 32 [27, 28, 29, 30, 31] rfl (by first | exact MonoK.le | exact MonoK.aw | exact MonoK.back)
      · intro hb3
        iterate 3 refine A1 rfl ?_
        refine RL.stepG (d := some 30) rfl rfl rfl (xj_call Tryz.call62 (higher_spec P r.2[k] r.2[j] hja.1 hja.2 hP hn) rfl) ?_
        iterate 2 refine A1 rfl ?_
        exact St.le_fg (fEq.upd (fEq.upd (fEq.upd (fEq.upd (fEq.upd (fEq.upd (fEq.upd (fEq.refl) rfl) rfl) rfl) rfl) rfl) rfl) rfl) rfl rfl rfl
      · intro hb3
        iterate 6 refine A1 rfl ?_
        exact St.le_fg (fEq.upd (fEq.upd (fEq.upd (fEq.upd (fEq.upd (fEq.upd (fEq.upd (fEq.refl) rfl) rfl) rfl) rfl) rfl) rfl) rfl) rfl rfl rfl
      refine A1 rfl ?_
      apply RL.andB 6 33 39 [34, 35, 36, 37, 38] rfl (by first | exact MonoK.le | exact MonoK.aw | exact MonoK.back)
      · intro hb10
        iterate 3 refine A1 rfl ?_
        refine RL.stepG (d := some 37) rfl rfl rfl (xj_call Tryz.call62 (higher_spec P r.2[j] r.2[k] hka.1 hka.2 hP hn) rfl) ?_
        iterate 2 refine A1 rfl ?_
        exact St.le_fg (fEq.upd (fEq.upd (fEq.upd (fEq.upd (fEq.upd (fEq.upd (fEq.upd (fEq.refl) rfl) rfl) rfl) rfl) rfl) rfl) rfl) rfl rfl rfl
      · intro hb10
        iterate 6 refine A1 rfl ?_
        exact St.le_fg (fEq.upd (fEq.upd (fEq.upd (fEq.upd (fEq.upd (fEq.upd (fEq.upd (fEq.refl) rfl) rfl) rfl) rfl) rfl) rfl) rfl) rfl rfl rfl
      repeat refine AW.seq ?_
      refine AW.cond rfl (fun hc39 => ?_) (fun hc39 => ?_)
      · rw [neq_not, Bool.not_eq_true'] at hc39
        repeat refine AW.seq ?_
        refine AW.region ?_
        refine A1 rfl ?_
        repeat refine AW.seq ?_
        refine AW.ret ?_
        exact ⟨_, _, rfl, rfl, congrArg PV.bool (by unfold rightB; rw [all_not hlt (all_not hlt2 hc39)])⟩
      · rw [neq_not, Bool.not_eq_false'] at hc39
        refine AW.skip ?_
        repeat refine AW.seq ?_
        refine AW.region ?_
        iterate 2 refine A1 rfl ?_
        exact ⟨(j + 1), St.le_mk ⟨rfl, rfl, rfl, rfl, rfl, rfl, rfl, rfl, rfl, trivial⟩ ⟨rfl, rfl, trivial⟩ rfl rfl, ⟨by omega, all_take hlt2 hall2 hc39⟩, by omega⟩
    · rw [List.take_of_length_le (by omega)] at hall2
      repeat refine AW.seq ?_
      refine AW.exit ?_
      repeat refine AW.seq ?_
      refine AW.region ?_
      iterate 2 refine A1 rfl ?_
      exact ⟨(k + 1), St.le_mk ⟨rfl, rfl, rfl, rfl, rfl, trivial⟩ ⟨rfl, rfl, trivial⟩ rfl rfl, ⟨by omega, all_take hlt hall hall2⟩, by omega⟩
  · rw [List.take_of_length_le (by omega)] at hall
    repeat refine AW.seq ?_
    refine AW.exit ?_
    repeat refine AW.seq ?_
    refine AW.region ?_
    refine A1 rfl ?_
    repeat refine AW.seq ?_
    refine AW.ret ?_
    exact ⟨_, _, rfl, rfl, congrArg PV.bool (by unfold rightB; rw [hall])⟩
theorem check1_spec (P : List Int) (r : ByteArray × List Int) (hr : ∀ a ∈ r.2, 0 ≤ a ∧ a < P.length) (hl : r.2.length ≤ 1000000) (hP : ∀ p ∈ P, p < P.length) (hn : P.length ≤ 1000000) : FnP Tryz.prog 54 [relP r, .rp [pints P] 0] (· = .bool (!rightB P r.2)) := by
  refine FnP.of Tryz.func54 rfl Tryz.ntmps54 (by simp) fun m0 w0 F R0 => ?_
  repeat refine AW.seq ?_
  refine AW.region ?_
  iterate 2 refine A1 rfl ?_
  repeat refine AW.seq ?_
  refine AW.region ?_
  first | refine A1 rfl ?_ | refine A3 rfl (by assumption) ?_
  refine A1 rfl ?_
  refine RL.step (d := some 6) rfl rfl (xj_call Tryz.call55 (right_spec P r hr hl hP hn) rfl) ?_
  iterate 2 refine A1 rfl ?_
  repeat refine AW.seq ?_
  refine AW.ret ?_
  exact ⟨_, _, rfl, rfl, rfl⟩
theorem idxR_spec (l : List (ByteArray × List Int)) (g : FuncId) (caps : List PV) (p : ByteArray × List Int → Bool) (hl : l.length ≤ 1000000) (hc : CallOk Tryz.prog g) (hg : ∀ f ∈ l, FnP Tryz.prog g ([] ++ [relP f] ++ caps) (· = .bool (p f))) :
    FnP Tryz.prog 81 [.sl none l.length (relsC l), .fn (.func g) [] caps] (fun v => ∃ i : Int, v = .int .i64 i ∧ decide (0 ≤ i) = l.any p) := by
  refine FnP.of Tryz.func81 rfl Tryz.ntmps81 (by simp) fun m0 w0 F R0 => ?_
  repeat refine AW.seq ?_
  refine AW.region ?_
  refine A1 rfl ?_
  repeat refine AW.seq ?_
  refine AW.region ?_
  iterate 3 refine A1 rfl ?_
  repeat refine AW.seq ?_
  refine AW.block ?_
  repeat refine AW.seq ?_
  refine AW.loop (st := fun x_0 : Nat => mkS [(0, .pv (.sl none l.length (relsC l))), (1, .pv (.fn (.func g) [] caps)), (7, .pv (.int .i64 l.length)), (8, .pv (.int .i64 x_0))] [] 0)
    (I := fun x_0 => x_0 ≤ l.length ∧ (l.take x_0).any p = false) (μ := fun x_0 => l.length - x_0) (x0 := (0)) (St.le_mk ⟨rfl, rfl, rfl, rfl, trivial⟩ trivial rfl rfl) (⟨Nat.zero_le _, rfl⟩) ?_
  rintro k ⟨hk, hno⟩
  repeat refine AW.seq ?_
  refine AW.region ?_
  refine A1 rfl ?_
  repeat refine AW.seq ?_
  refine AW.condP rfl (fun hc9 => ?_) (fun hc9 => ?_)
  · have hlt : k < l.length := by omega
    have hrow := rel_row hlt
    have hne := rel_ne hlt
    have hgk := hg _ (List.getElem_mem hlt)
    refine AW.skip ?_
    repeat refine AW.seq ?_
    refine AW.block ?_
    repeat refine AW.seq ?_
    refine AW.region ?_
    iterate 2 refine A1 rfl ?_
    repeat refine AW.seq ?_
    refine AW.region ?_
    iterate 4 refine A1 rfl ?_
    refine RL.step (d := some 15) rfl rfl (xj_loadAR ⟨_, Tryz.underlying62, rfl⟩ sz62 rfl hrow rfl) ?_
    refine RL.step (d := some 16) rfl rfl (xj_callV hc rfl hgk rfl) ?_
    repeat refine AW.seq ?_
    refine AW.cond rfl (fun hc16 => ?_) (fun hc16 => ?_)
    · repeat refine AW.seq ?_
      refine AW.region ?_
      iterate 2 refine A1 rfl ?_
      repeat refine AW.seq ?_
      refine AW.ret ?_
      exact ⟨_, _, rfl, rfl, _, rfl, by rw [any_at hlt hc16]; exact decide_eq_true (by omega)⟩
    · refine AW.skip ?_
      repeat refine AW.seq ?_
      refine AW.region ?_
      iterate 2 refine A1 rfl ?_
      exact ⟨(k + 1), St.le_mk ⟨rfl, rfl, rfl, rfl, trivial⟩ trivial rfl rfl, ⟨by omega, any_take hlt hno hc16⟩, by omega⟩
  · repeat refine AW.seq ?_
    refine AW.exit ?_
    repeat refine AW.seq ?_
    refine AW.region ?_
    refine A1 rfl ?_
    repeat refine AW.seq ?_
    refine AW.ret ?_
    exact ⟨_, _, rfl, rfl, _, rfl, by rw [List.take_of_length_le (by omega)] at hno; rw [hno]; rfl⟩
theorem containsR_spec (l : List (ByteArray × List Int)) (g : FuncId) (caps : List PV) (p : ByteArray × List Int → Bool) (hl : l.length ≤ 1000000) (hc : CallOk Tryz.prog g) (hg : ∀ f ∈ l, FnP Tryz.prog g ([] ++ [relP f] ++ caps) (· = .bool (p f))) :
    FnP Tryz.prog 53 [.sl none l.length (relsC l), .fn (.func g) [] caps] (· = .bool (l.any p)) := by
  refine FnP.of Tryz.func53 rfl Tryz.ntmps53 (by simp) fun m0 w0 F R0 => ?_
  repeat refine AW.seq ?_
  refine AW.region ?_
  refine A1 rfl ?_
  repeat refine AW.seq ?_
  refine AW.region ?_
  iterate 2 refine A1 rfl ?_
  refine RL.call rfl (oj_call Tryz.call81 (idxR_spec l g caps p hl hc hg) rfl ?_)
  rintro _ ⟨i, rfl, hi⟩
  iterate 2 refine A1 rfl ?_
  repeat refine AW.seq ?_
  refine AW.ret ?_
  exact ⟨_, _, rfl, rfl, congrArg PV.bool hi⟩
/-- What a valid schema is like. -/
structure Valid (S : Sch) : Prop where
  n1 : 1 ≤ S.attrs.length
  n2 : S.attrs.length ≤ 12
  r1 : 1 ≤ S.rels.length
  r2 : S.rels.length ≤ 6
  ne : ∀ r ∈ S.rels, r.2 ≠ []
  rng : ∀ r ∈ S.rels, ∀ a ∈ r.2, 0 ≤ a ∧ a < S.attrs.length
  asc : ∀ r ∈ S.rels, ascB r.2 = true
  use : ∀ a, a < S.attrs.length → ∃ r ∈ S.rels, (a : Int) ∈ r.2
theorem valid_of {S : Sch} (h : checkE S = 0) : Valid S := by
  unfold checkE at h
  split at h
  · cases h
  · rename_i hlim
    split at h
    · rename_i h1; exact absurd h h1
    · split at h
      · rename_i h1; exact absurd h h1
      · rename_i _ hr
        have hr : relsE S = 0 := Classical.byContradiction hr
        unfold relsE at hr
        split at hr
        · rename_i h1; exact absurd hr h1
        · rename_i hs
          have hs : scanE (relE S) S.rels.length = 0 := Classical.byContradiction hs
          split at hr
          · cases hr
          · rename_i hu
            have hrel : ∀ r ∈ S.rels, r.2 ≠ [] ∧ (r.2.all fun a => decide (0 ≤ a) && decide (a < S.attrs.length)) = true ∧ ascB r.2 = true := by
              intro r hr
              obtain ⟨i, hi, rfl⟩ := List.getElem_of_mem hr
              have he := scanE_zero.1 hs i hi
              unfold relE at he
              rw [show S.rels.getD i default = S.rels[i] by simp [List.getD, hi]] at he
              split at he
              · rename_i h1; exact absurd he h1
              · split at he
                · cases he
                · split at he
                  · cases he
                  · split at he
                    · cases he
                    · rename_i h1 h2 h3
                      exact ⟨h1, by simpa using h2, by simpa using h3⟩
            refine ⟨by omega, by omega, by omega, by omega, fun r hr => (hrel r hr).1, fun r hr a ha => ?_, fun r hr => (hrel r hr).2.2, fun a ha => ?_⟩
            · have := List.all_eq_true.1 (hrel r hr).2.1 a ha
              simpa using this
            · have hu : ((List.range S.attrs.length).all fun a => usedB S a) = true := by simpa using hu
              have := List.all_eq_true.1 hu a (List.mem_range.2 ha)
              unfold usedB at this
              obtain ⟨r, hr, hm⟩ := List.any_eq_true.1 this
              exact ⟨r, hr, by simpa [inB] using hm⟩
theorem ocheck_spec (S : Sch) (hS : SB S) (P : List Int) (hn : P.length ≤ 1000000) : FnP Tryz.prog 22 [schP S, ordP P] (· = .int .i64 (ordE S P)) := by
  refine FnP.of Tryz.func22 rfl Tryz.ntmps22 (by simp) fun m0 w0 F R0 => ?_
  have hb := hS.a
  repeat refine AW.seq ?_
  refine AW.region ?_
  iterate 3 refine A1 rfl ?_
  repeat refine AW.seq ?_
  refine AW.region ?_
  refine A1 rfl ?_
  refine RL.step (d := some 12) rfl rfl (xj_call Tryz.call42 (chk_spec S hS) rfl) ?_
  refine A1 rfl ?_
  repeat refine AW.seq ?_
  refine AW.region ?_
  iterate 2 refine A1 rfl ?_
  repeat refine AW.seq ?_
  refine AW.cond rfl (fun hc14 => ?_) (fun hc14 => ?_)
  · repeat refine AW.seq ?_
    refine AW.region ?_
    iterate 2 refine A1 rfl ?_
    repeat refine AW.seq ?_
    refine AW.ret ?_
    exact ⟨_, _, rfl, rfl, congrArg (PV.int .i64) (by unfold ordE; rw [if_pos (inT hc14)])⟩
  · have h0 : checkE S = 0 := inF hc14
    have hra := (valid_of h0).rng
    refine AW.skip ?_
    repeat refine AW.seq ?_
    refine AW.region ?_
    iterate 7 refine A1 rfl ?_
    repeat refine AW.seq ?_
    refine AW.cond rfl (fun hc22 => ?_) (fun hc22 => ?_)
    · have hne0 : ¬ P.length = S.attrs.length := by have := inT hc22; omega
      repeat refine AW.seq ?_
      refine AW.region ?_
      refine A1 rfl ?_
      repeat refine AW.seq ?_
      refine AW.ret ?_
      exact ⟨_, _, rfl, rfl, congrArg (PV.int .i64) (by unfold ordE; rw [if_neg (fun h => h h0), if_pos hne0])⟩
    · have heq : P.length = S.attrs.length := by have := inF hc22; omega
      refine AW.skip ?_
      repeat refine AW.seq ?_
      refine AW.region ?_
      iterate 4 refine A1 rfl ?_
      repeat refine AW.seq ?_
      refine AW.block ?_
      repeat refine AW.seq ?_
      refine AW.loop (st := fun x_0 : Nat => mkS [(2, .ptr 0 0), (3, .ptr 1 0), (24, .pv (pints P)), (25, .pv (.int .i64 P.length)), (26, .pv (.int .i64 x_0))] [(0, .mix 27 [.pv (.sl none S.attrs.length (attrsC S.attrs)), .pv (.sl none S.rels.length (relsC S.rels)), .pv (.sl none S.feats.length (featsC S.feats)), .pv (.int .i64 S.label)]), (1, .mix 29 [.pv (pints P)])] 2)
        (I := fun x_0 => x_0 ≤ P.length ∧ ((P.take x_0).any fun p => decide (p < -1) || decide ((P.length : Int) ≤ p)) = false) (μ := fun x_0 => P.length - x_0) (x0 := (0)) (St.le_mk ⟨rfl, rfl, rfl, rfl, rfl, trivial⟩ ⟨rfl, rfl, trivial⟩ rfl rfl) (⟨Nat.zero_le _, rfl⟩) ?_
      rintro k ⟨hk, hany⟩
      repeat refine AW.seq ?_
      refine AW.region ?_
      refine A1 rfl ?_
      repeat refine AW.seq ?_
      refine AW.condP rfl (fun hc27 => ?_) (fun hc27 => ?_)
      · have hlt : k < P.length := by omega
        have hva := pints_at hlt
        have hne := pints_ne hlt
        refine AW.skip ?_
        repeat refine AW.seq ?_
        refine AW.block ?_
        repeat refine AW.seq ?_
        refine AW.region ?_
        refine A1 rfl ?_
        first | refine A2 rfl (by assumption) ?_ | refine A1 rfl ?_
        refine A1 rfl ?_
        repeat refine AW.seq ?_
        refine AW.region ?_
        iterate 3 refine A1 rfl ?_
        apply RL.orB 6 32 38 [33, 34, 35, 36, 37] rfl (by first | exact MonoK.le | exact MonoK.aw | exact MonoK.back)
        · intro hb2
          iterate 6 refine A1 rfl ?_
          exact St.le_fg (fEq.upd (fEq.upd (fEq.upd (fEq.upd (fEq.upd (fEq.upd (fEq.upd (fEq.refl) rfl) rfl) rfl) rfl) rfl) rfl) rfl) rfl rfl rfl
        · intro hb2
          iterate 6 refine A1 rfl ?_
          exact St.le_fg (fEq.upd (fEq.upd (fEq.upd (fEq.upd (fEq.upd (fEq.upd (fEq.upd (fEq.refl) rfl) rfl) rfl) rfl) rfl) rfl) rfl) rfl rfl rfl
        repeat refine AW.seq ?_
        refine AW.cond rfl (fun hc38 => ?_) (fun hc38 => ?_)
        · repeat refine AW.seq ?_
          refine AW.region ?_
          refine A1 rfl ?_
          repeat refine AW.seq ?_
          refine AW.ret ?_
          exact ⟨_, _, rfl, rfl, congrArg (PV.int .i64) (by unfold ordE; rw [if_neg (fun h => h h0), if_neg (fun h => h heq), if_pos (any_at hlt hc38)])⟩
        · refine AW.skip ?_
          repeat refine AW.seq ?_
          refine AW.region ?_
          iterate 2 refine A1 rfl ?_
          exact ⟨(k + 1), St.le_mk ⟨rfl, rfl, rfl, rfl, rfl, trivial⟩ ⟨rfl, rfl, trivial⟩ rfl rfl, ⟨by omega, any_take hlt hany hc38⟩, by omega⟩
      · rw [List.take_of_length_le (by omega)] at hany
        have hP : ∀ p ∈ P, p < P.length := fun p hp => by have := List.any_eq_false.1 hany p hp; simp at this; omega
        repeat refine AW.seq ?_
        refine AW.exit ?_
        repeat refine AW.seq ?_
        refine AW.region ?_
        iterate 4 refine A1 rfl ?_
        repeat refine AW.seq ?_
        refine AW.block ?_
        repeat refine AW.seq ?_
        refine AW.loop (st := fun x_1 : Nat => mkS [(2, .ptr 0 0), (3, .ptr 1 0), (42, .pv (.int .i64 P.length)), (43, .pv (.int .i64 x_1))] [(0, .mix 27 [.pv (.sl none S.attrs.length (attrsC S.attrs)), .pv (.sl none S.rels.length (relsC S.rels)), .pv (.sl none S.feats.length (featsC S.feats)), .pv (.int .i64 S.label)]), (1, .mix 29 [.pv (pints P)])] 2)
          (I := fun x_1 => x_1 ≤ P.length ∧ ((List.range x_1).all fun v => (abv P v).isSome) = true) (μ := fun x_1 => P.length - x_1) (x0 := (0)) (St.le_mk ⟨rfl, rfl, rfl, rfl, trivial⟩ ⟨rfl, rfl, trivial⟩ rfl rfl) (⟨Nat.zero_le _, rfl⟩) ?_
        rintro q ⟨hq, hall⟩
        repeat refine AW.seq ?_
        refine AW.region ?_
        refine A1 rfl ?_
        repeat refine AW.seq ?_
        refine AW.condP rfl (fun hc44 => ?_) (fun hc44 => ?_)
        · have hlt : q < P.length := by omega
          refine AW.skip ?_
          repeat refine AW.seq ?_
          refine AW.block ?_
          repeat refine AW.seq ?_
          refine AW.region ?_
          iterate 2 refine A1 rfl ?_
          repeat refine AW.seq ?_
          refine AW.region ?_
          iterate 2 refine A1 rfl ?_
          refine RL.step (d := some 49) rfl rfl (xj_call Tryz.call52 (above_spec P q hlt hP hn) rfl) ?_
          iterate 5 refine A1 rfl ?_
          repeat refine AW.seq ?_
          refine AW.region ?_
          iterate 2 refine A1 rfl ?_
          repeat refine AW.seq ?_
          refine AW.cond rfl (fun hc53 => ?_) (fun hc53 => ?_)
          · have hno : ((List.range P.length).all fun v => (abv P v).isSome) = false := List.all_eq_false.2 ⟨q, List.mem_range.2 hlt, by simpa using hc53⟩
            repeat refine AW.seq ?_
            refine AW.region ?_
            refine A1 rfl ?_
            repeat refine AW.seq ?_
            refine AW.ret ?_
            exact ⟨_, _, rfl, rfl, congrArg (PV.int .i64) (by unfold ordE; rw [if_neg (fun h => h h0), if_neg (fun h => h heq), if_neg (by rw [hany]; decide), if_pos hno])⟩
          · refine AW.skip ?_
            repeat refine AW.seq ?_
            refine AW.region ?_
            iterate 2 refine A1 rfl ?_
            exact ⟨(q + 1), St.le_mk ⟨rfl, rfl, rfl, rfl, trivial⟩ ⟨rfl, rfl, trivial⟩ rfl rfl, ⟨by omega, by rw [List.range_succ, List.all_append, hall]; simpa using hc53⟩, by omega⟩
        · obtain rfl : q = P.length := by omega
          repeat refine AW.seq ?_
          refine AW.exit ?_
          refine AW.weaken (St.le_ppA 1 rfl rfl) ?_
          have hal : ∀ r ∈ S.rels, FnP Tryz.prog 54 ([] ++ [relP r] ++ [.rp [pints P] 0]) (· = .bool (!rightB P r.2)) := fun r hr => check1_spec P r (by rw [heq]; exact hra r hr) (hS.rl r hr) hP hn
          repeat refine AW.seq ?_
          refine AW.region ?_
          iterate 3 refine A1 rfl ?_
          refine RL.step (d := some 58) rfl rfl (xj_call Tryz.call53 (containsR_spec S.rels 54 [.rp [pints P] 0] (fun r => !rightB P r.2) hS.r Tryz.call54 hal) rfl) ?_
          repeat refine AW.seq ?_
          refine AW.cond rfl (fun hc58 => ?_) (fun hc58 => ?_)
          · have hno : (S.rels.all fun r => rightB P r.2) = false := by rw [List.any_eq_not_all_not] at hc58; simpa using hc58
            repeat refine AW.seq ?_
            refine AW.region ?_
            refine A1 rfl ?_
            repeat refine AW.seq ?_
            refine AW.ret ?_
            exact ⟨_, _, rfl, rfl, congrArg (PV.int .i64) (by unfold ordE; rw [if_neg (fun h => h h0), if_neg (fun h => h heq), if_neg (by rw [hany]; decide), if_neg (by rw [hall]; decide), if_pos hno])⟩
          · have hno : (S.rels.all fun r => rightB P r.2) = true := by rw [List.any_eq_not_all_not] at hc58; simpa using hc58
            refine AW.skip ?_
            repeat refine AW.seq ?_
            refine AW.region ?_
            refine A1 rfl ?_
            repeat refine AW.seq ?_
            refine AW.ret ?_
            exact ⟨_, _, rfl, rfl, congrArg (PV.int .i64) (by unfold ordE; rw [if_neg (fun h => h h0), if_neg (fun h => h heq), if_neg (by rw [hany]; decide), if_neg (by rw [hall]; decide), if_neg (by rw [hno]; decide)])⟩
end Go.Proofs.YtkalgjnhaicabaaGreat
namespace Go.Proofs.YtkalgjnhaicabaaGreat
open Go.RowKit Mk
set_option maxRecDepth 100000
set_option maxHeartbeats 1000000
/-- The numbers of a list, ascending. -/
def sortI (l : List Int) : List Int := l.mergeSort (fun a b => decide (a ≤ b))
theorem sortI_perm (l : List Int) : (sortI l).Perm l := List.mergeSort_perm l _
theorem sortI_sorted (l : List Int) : (sortI l).Pairwise (· ≤ ·) := by
  have := List.pairwise_mergeSort (le := fun a b : Int => decide (a ≤ b)) (by intro a b c; simp; omega) (by intro a b; simp; omega) l
  exact this.imp (by simp)
theorem sorted_eq {l r : List Int} (hp : l.Perm r) (hl : l.Pairwise (· ≤ ·)) (hr : r.Pairwise (· ≤ ·)) : l = r :=
  hp.eq_of_pairwise (fun a b _ _ h1 h2 => Int.le_antisymm h1 h2) hl hr
theorem sortI_eq {l r : List Int} (hp : l.Perm r) (hl : l.Pairwise (· ≤ ·)) : l = sortI r := sorted_eq (hp.trans (sortI_perm r).symm) hl (sortI_sorted r)
theorem swapL_getD {q : List Int} {i k p : Nat} (hi : i < q.length) (hk : k < q.length) : (swapL q i k).getD p 0 = if p = k then q.getD i 0 else if p = i then q.getD k 0 else q.getD p 0 := by
  have e1 : q.getD i 0 = q[i] := by simp [List.getD, hi]
  have e2 : q.getD k 0 = q[k] := by simp [List.getD, hk]
  unfold swapL
  rw [e1, e2]
  by_cases h1 : p = k
  · subst h1; simp [List.getD, hk]
  · rw [if_neg h1]
    by_cases h2 : p = i
    · subst h2; simp only [List.getD, if_pos]; rw [List.getElem?_set_ne (fun e => h1 e.symm)]; simp [hi]
    · rw [if_neg h2]; simp only [List.getD]; rw [List.getElem?_set_ne (fun e => h1 e.symm), List.getElem?_set_ne (fun e => h2 e.symm)]
/-- The numbers up to i are ascending, but for the one at j, which is at most what follows. -/
def Ins (l : List Int) (i j : Nat) : Prop := ∀ p q, p < q → q ≤ i → (p ≠ j → q ≠ j → l.getD p 0 ≤ l.getD q 0) ∧ (p = j → l.getD p 0 ≤ l.getD q 0)
def Asc (l : List Int) (i : Nat) : Prop := ∀ p q, p < q → q < i → l.getD p 0 ≤ l.getD q 0
theorem Ins.first {l : List Int} {i : Nat} (h : Asc l i) : Ins l i i := fun p q h1 h2 => ⟨fun _ h4 => h p q h1 (by omega), fun e => by omega⟩
theorem Ins.swap {l : List Int} {i j : Nat} (h : Ins l i j) (hj : 0 < j) (hji : j ≤ i) (hi : i < l.length) (hlt : l.getD j 0 < l.getD (j - 1) 0) : Ins (swapL l j (j - 1)) i (j - 1) := by
  intro p q h1 h2
  rw [swapL_getD (by omega) (by omega), swapL_getD (by omega) (by omega)]
  have a1 := h p q h1 h2
  have a2 := h (j - 1) q
  have a3 := h p (j - 1)
  have a4 := h j q
  have a5 := h p j
  by_cases e1 : p = j - 1
  · rw [if_pos e1]
    refine ⟨fun h => absurd e1 h, fun _ => ?_⟩
    by_cases e2 : q = j - 1
    · omega
    · rw [if_neg e2]
      by_cases e3 : q = j
      · rw [if_pos e3]; omega
      · rw [if_neg e3]; exact (a4 (by omega) h2).2 rfl
  · rw [if_neg e1]
    refine ⟨fun _ h4 => ?_, fun h => absurd h e1⟩
    rw [if_neg h4]
    by_cases e3 : q = j
    · rw [if_pos e3, if_neg (by omega)]
      exact (a3 (by omega) (by omega)).1 (by omega) (by omega)
    · rw [if_neg e3]
      by_cases e5 : p = j
      · rw [if_pos e5]; exact (a2 (by omega) h2).1 (by omega) e3
      · rw [if_neg e5]; exact a1.1 e5 e3
theorem Ins.last {l : List Int} {i j : Nat} (h : Ins l i j) (hji : j ≤ i) (hs : j = 0 ∨ l.getD (j - 1) 0 ≤ l.getD j 0) : Asc l (i + 1) := by
  intro p q h1 h2
  have a1 := h p q h1 (by omega)
  have a3 := h p (j - 1)
  by_cases e1 : p = j
  · exact a1.2 e1
  · by_cases e2 : q = j
    · subst e2
      rcases hs with hs | hs
      · omega
      · by_cases e3 : p = q - 1
        · rw [e3]; exact hs
        · exact Int.le_trans ((a3 (by omega) (by omega)).1 e1 (by omega)) hs
    · exact a1.1 e1 e2
theorem Asc.pw {l : List Int} {i : Nat} (h : Asc l i) (hi : l.length ≤ i) : l.Pairwise (· ≤ ·) := by
  rw [List.pairwise_iff_getElem]
  intro p q hp hq hpq
  have := h p q hpq (by omega)
  simpa [List.getD, hp, hq] using this
theorem nan_spec (a : Int) : FnP Tryz.prog 115 [.int .i64 a] (· = .bool false) := by
  refine FnP.of Tryz.func115 rfl Tryz.ntmps115 (by simp) fun m0 w0 F R0 => ?_
  repeat refine AW.seq ?_
  refine AW.region ?_
  refine A1 rfl ?_
  repeat refine AW.seq ?_
  refine AW.region ?_
  iterate 4 refine A1 rfl ?_
  repeat refine AW.seq ?_
  refine AW.ret ?_
  exact ⟨_, _, rfl, rfl, congrArg PV.bool (by simp)⟩
theorem less_spec (a b : Int) : FnP Tryz.prog 103 [.int .i64 a, .int .i64 b] (· = .bool (decide (a < b))) := by
  refine FnP.of Tryz.func103 rfl Tryz.ntmps103 (by simp) fun m0 w0 F R0 => ?_
  repeat refine AW.seq ?_
  refine AW.region ?_
  refine A1 rfl ?_
  repeat refine AW.seq ?_
  refine AW.region ?_
  refine A1 rfl ?_
  refine RL.step (d := some 6) rfl rfl (xj_call Tryz.call115 (nan_spec a) rfl) ?_
  refine A1 rfl ?_
  apply RL.andB 4 7 11 [8, 9, 10] rfl (by first | exact MonoK.le | exact MonoK.aw | exact MonoK.back)
  · intro hb2
    refine A1 rfl ?_
    refine RL.stepG (d := some 9) rfl rfl rfl (xj_call Tryz.call115 (nan_spec b) rfl) ?_
    iterate 2 refine A1 rfl ?_
    exact St.le_fg (fEq.upd (fEq.upd (fEq.upd (fEq.upd (fEq.upd (fEq.refl) rfl) rfl) rfl) rfl) rfl) rfl rfl rfl
  · intro hb2
    iterate 4 refine A1 rfl ?_
    exact St.le_fg (fEq.upd (fEq.upd (fEq.upd (fEq.upd (fEq.upd (fEq.refl) rfl) rfl) rfl) rfl) rfl) rfl rfl rfl
  refine A1 rfl ?_
  apply RL.orB 4 12 16 [13, 14, 15] rfl (by first | exact MonoK.le | exact MonoK.aw | exact MonoK.back)
  · intro hb7
    iterate 4 refine A1 rfl ?_
    exact St.le_fg (fEq.upd (fEq.upd (fEq.upd (fEq.upd (fEq.upd (fEq.refl) rfl) rfl) rfl) rfl) rfl) rfl rfl rfl
  · intro hb7
    iterate 4 refine A1 rfl ?_
    exact St.le_fg (fEq.upd (fEq.upd (fEq.upd (fEq.upd (fEq.upd (fEq.refl) rfl) rfl) rfl) rfl) rfl) rfl rfl rfl
  refine A1 rfl ?_
  repeat refine AW.seq ?_
  refine AW.ret ?_
  exact ⟨_, _, rfl, rfl, congrArg PV.bool (by simp)⟩
theorem len64_spec (k : Nat) (hk : k ≤ 12) : FnP Tryz.prog 107 [.int .u64 k] (fun v => ∃ i, v = .int .i64 i) := by
  refine FnP.of Tryz.func107 rfl Tryz.ntmps107 (by simp) fun m0 w0 F R0 => ?_
  have hw : IntKind.u8.wrap (k : Int) = (k : Int) := by
    have : k < 256 := by omega
    show ((k : Int) % 256) = k
    omega
  repeat refine AW.seq ?_
  refine AW.region ?_
  refine A1 rfl ?_
  repeat refine AW.seq ?_
  refine AW.region ?_
  iterate 2 refine A1 rfl ?_
  repeat refine AW.seq ?_
  refine AW.condP rfl (fun hc4 => absurd hc4 (by omega)) (fun hc4 => ?_)
  refine AW.skip ?_
  repeat refine AW.seq ?_
  refine AW.region ?_
  iterate 2 refine A1 rfl ?_
  repeat refine AW.seq ?_
  refine AW.condP rfl (fun hc8 => absurd hc8 (by omega)) (fun hc8 => ?_)
  refine AW.skip ?_
  repeat refine AW.seq ?_
  refine AW.region ?_
  iterate 2 refine A1 rfl ?_
  repeat refine AW.seq ?_
  refine AW.condP rfl (fun hc14 => absurd hc14 (by omega)) (fun hc14 => ?_)
  refine AW.skip ?_
  repeat refine AW.seq ?_
  refine AW.region ?_
  iterate 2 refine A1 rfl ?_
  refine RL.step (d := some 21) rfl rfl ((xj_conv Tryz.underlying139 Tryz.underlying5 rfl).cast (v' := .pv (.int .u8 k)) (by rw [hw])) ?_
  refine RL.step (d := some 22) rfl rfl (xj_indexS k Tryz.underlying9 rfl rfl rfl (by show k < 256; omega)) ?_
  refine A1 rfl ?_
  refine RL.step (d := some 24) rfl rfl (xj_bin rfl rfl rfl) ?_
  refine A1 rfl ?_
  repeat refine AW.seq ?_
  refine AW.ret ?_
  exact ⟨_, _, rfl, rfl, _, rfl⟩
theorem len_spec (k : Nat) (hk : k ≤ 12) : FnP Tryz.prog 91 [.int .u64 k] (fun v => ∃ i, v = .int .i64 i) := by
  refine FnP.of Tryz.func91 rfl Tryz.ntmps91 (by simp) fun m0 w0 F R0 => ?_
  repeat refine AW.seq ?_
  refine AW.region ?_
  refine A1 rfl ?_
  repeat refine AW.seq ?_
  refine AW.cond rfl (fun hcK => absurd hcK (Bool.false_ne_true)) (fun hcK => ?_)
  refine AW.skip ?_
  repeat refine AW.seq ?_
  refine AW.region ?_
  refine A1 rfl ?_
  refine RL.call rfl (oj_call Tryz.call107 (len64_spec k hk) rfl ?_)
  rintro _ ⟨i, rfl⟩
  refine A1 rfl ?_
  repeat refine AW.seq ?_
  refine AW.ret ?_
  exact ⟨_, _, rfl, rfl, _, rfl⟩
section
variable {C : Ctx} {n : Nat} {σ : St} {dst : Option Tmp} {ty : TypeId} {ts : Array TypeId} {pos : String} {after : Array Edge} {gd : Option (Nat × Bool)}
/-- oj_callO with the contract first. -/
theorem oj_callF1 {f : FuncId} {xs : Array Operand} {args : List V} {os : List (Nat × Ob)} {k' : Nat} {Q : V → (Nat → Option Ob) → Prop} {K : St → Prop} (ids : List Nat) (base : Nat) (hc : CallOk C.P f) (hf : FnO C.P f ids.length k' args os Q) (hargs : xs.toList.map (σ.ev n) = V.renL (renI ids base) args)
    (ha : V.allL (okR ids.length 0) args = true) (hos : os.map (·.1) = (List.range ids.length).map (big + ·)) (hob : os.all (fun p => p.2.all (okR ids.length 0)) = true) (hobs : allObR σ (renI ids base) os)
    (hnd : ids.Nodup) (hav : (nwO base k').all σ.av = true)
    (hk : ∀ v ob', Q v ob' → K (σ.app dst ⟨v.ren (renI ids base), wrO ids base k' ob', nwO base k'⟩)) :
    OJ C n ⟨dst, .call { callee := .value (.func f), args := xs, argTypes := ts }, ty, pos, after, gd⟩ K σ := oj_callO ids base hc hargs ha hos hob hobs hnd hav hf hk
end
abbrev intsO (l : List Int) : Ob := .cells 3 (intsP l)
theorem ins_spec (l : List Int) (n : Nat) (hl : l.length = n) (hn : n ≤ 1000) : FnO Tryz.prog 97 1 0 [.osl big 1 n, .pv (.int .i64 0), .pv (.int .i64 n)] [(big, intsO l)] (fun v ob' => v = .tup [] ∧ ob' = lookO [(big, intsO (sortI l))]) := by
  refine FnO.of Tryz.func97 rfl Tryz.ntmps97 (by simp) fun m0 w0 F R0 => ?_
  repeat refine AW.seq ?_
  refine AW.region ?_
  iterate 3 refine A1 rfl ?_
  repeat refine AW.seq ?_
  refine AW.block ?_
  repeat refine AW.seq ?_
  refine AW.loop (st := fun x_0 : Nat × List Int => mkS [(0, .osl big 1 n), (1, .pv (.int .i64 0)), (2, .pv (.int .i64 n)), (6, .pv (.int .i64 x_0.1))] [(big, intsO x_0.2)] 0)
    (I := fun x_0 => 1 ≤ x_0.1 ∧ x_0.2.Perm l ∧ Asc x_0.2 x_0.1 ∧ x_0.1 ≤ n + 1) (μ := fun x_0 => n + 1 - x_0.1) (x0 := (1, l)) (St.le_mk ⟨rfl, rfl, rfl, rfl, trivial⟩ ⟨rfl, trivial⟩ rfl rfl) (⟨Nat.le_refl _, List.Perm.refl _, fun p q h1 h2 => by simp at h2; omega, by simp⟩) ?_
  rintro ⟨i, q⟩ ⟨hi, hq, ha, hin⟩
  try simp only at hi hq ha hin ⊢
  repeat refine AW.seq ?_
  refine AW.region ?_
  iterate 3 refine A1 rfl ?_
  repeat refine AW.seq ?_
  refine AW.condP rfl (fun hc12 => ?_) (fun hc12 => ?_)
  · have hql : q.length = n := by rw [hq.length_eq, hl]
    have hlt : i < n := by omega
    refine AW.skip ?_
    repeat refine AW.seq ?_
    refine AW.block ?_
    repeat refine AW.seq ?_
    refine AW.region ?_
    iterate 2 refine A1 rfl ?_
    repeat refine AW.seq ?_
    refine AW.block ?_
    repeat refine AW.seq ?_
    refine AW.loop (st := fun x_1 : Nat × List Int => mkS [(0, .osl big 1 n), (1, .pv (.int .i64 0)), (2, .pv (.int .i64 n)), (6, .pv (.int .i64 i)), (7, .pv (.int .i64 x_1.1))] [(big, intsO x_1.2)] 0)
      (I := fun x_1 => x_1.1 ≤ i ∧ x_1.2.Perm l ∧ Ins x_1.2 i x_1.1) (μ := fun x_1 => x_1.1) (x0 := (i, q)) (St.le_mk ⟨rfl, rfl, rfl, rfl, rfl, trivial⟩ ⟨rfl, trivial⟩ rfl rfl) (⟨Nat.le_refl _, hq, Ins.first ha⟩) ?_
    rintro ⟨j, s⟩ ⟨hj, hs, hI⟩
    try simp only at hj hs hI ⊢
    have hsl : s.length = n := by rw [hs.length_eq, hl]
    have hjl : j < s.length := by omega
    have hv0 := pints_at hjl
    by_cases h : 0 < j
    · have hjl1 : j - 1 < s.length := by omega
      have hv1 := pints_at hjl1
      have hd1 : s.getD j 0 = s[j] := by simp [List.getD, hjl]
      have hd2 : s.getD (j - 1) 0 = s[j - 1] := by simp [List.getD, hjl1]
      repeat refine AW.seq ?_
      refine AW.draw follows [[], [], [1, 0], [2, 1, 0], [3, 2, 1, 0], [3, 2, 1, 0], [5, 4, 3, 2, 1, 0], [6, 5, 4, 3, 2, 1, 0], [3, 2, 1, 0], [3, 2, 1, 0], [9, 3, 2, 1, 0], [10, 8, 3, 2, 1, 0, 9], [11, 10, 8, 3, 2, 1, 0, 9], [12, 7, 6, 5, 4, 3, 2, 1, 0, 11, 10, 8, 9], [13, 3, 2, 1, 0, 12, 7, 6, 5, 4, 11, 10, 8, 9]] [0, 1, 2, 3, 4, 5, 6, 7, 8, 9, 10, 11, 12, 13, 14] (by kernel_rfl) (by kernel_rfl) ?_
      iterate 2 refine D1 rfl rfl ?_
      refine DL.step (d := some 18) [] rfl rfl rfl (fun τ h => (xj_bin ((h.e 0 _ rfl).trans rfl) ((h.e 1 _ rfl).trans rfl) rfl).cast (v' := .pv (.bool true)) (by simp; omega)) rfl (by kernel_rfl) ?_
      iterate 3 refine D1 rfl rfl ?_
      refine DL.stepG (d := some 22) [_] rfl rfl rfl rfl (fun τ h => xj_indexAddrO j Tryz.underlying22 sz3 ((h.e 0 _ rfl).trans rfl) ((h.o 0 _ rfl).trans rfl) ((h.e 1 _ rfl).trans rfl) rfl (by omega)) rfl (by kernel_rfl) ?_
      refine DL.stepG (d := some 23) [_] rfl rfl rfl rfl (fun τ h => xj_load1P ⟨_, Tryz.underlying3, rfl⟩ ((h.e 0 _ rfl).trans rfl) ((h.o 0 _ rfl).trans rfl) hv0) rfl (by kernel_rfl) ?_
      iterate 3 refine D1 rfl rfl ?_
      refine DL.stepG (d := some 27) [_] rfl rfl rfl rfl (fun τ h => xj_indexAddrO (j - 1) Tryz.underlying22 sz3 ((h.e 0 _ rfl).trans rfl) ((h.o 0 _ rfl).trans rfl) ((h.e 1 _ rfl).trans rfl) (by omega) (by omega)) rfl (by kernel_rfl) ?_
      refine DL.stepG (d := some 28) [_] rfl rfl rfl rfl (fun τ h => xj_load1P ⟨_, Tryz.underlying3, rfl⟩ ((h.e 0 _ rfl).trans rfl) ((h.o 0 _ rfl).trans rfl) hv1) rfl (by kernel_rfl) ?_
      refine DL.stepG (d := some 29) [] rfl rfl rfl rfl (fun τ h => xj_call Tryz.call103 (less_spec s[j] s[j - 1]) (h.argsP rfl)) rfl (by kernel_rfl) ?_
      refine DL.step (d := some 30) [] rfl rfl rfl (fun τ h => xj_pickT ((h.e 0 _ rfl).trans rfl) ((h.e 1 _ rfl).trans rfl)) rfl (by kernel_rfl) ?_
      refine ⟨by kernel_rfl, ?_⟩
      repeat refine AW.seq ?_
      refine AW.cond rfl (fun hc30 => ?_) (fun hc30 => ?_)
      · have hsw : s.getD j 0 < s.getD (j - 1) 0 := by rw [hd1, hd2]; exact of_decide_eq_true hc30
        have hsp := swap_perm hjl hjl1
        have hse := swapL_eq hjl hjl1
        refine AW.skip ?_
        repeat refine AW.seq ?_
        refine AW.block ?_
        repeat refine AW.seq ?_
        refine AW.draw follows [[], [], [], [], [3], [], [], [6], [7, 5, 6], [8, 7, 5, 6], [], [], [11, 10], [12, 11, 10], [13, 9, 8, 7, 6, 5, 1, 0, 12, 11, 10], [14, 13, 9, 8, 7, 6, 5, 1, 0, 12, 11, 10], [15, 14, 13, 12, 11, 10, 9, 8, 7, 6, 5, 1, 0, 4, 2, 3], [16, 15, 14, 13, 12, 11, 10, 9, 8, 7, 6, 5, 1, 0, 4, 2, 3]] [0, 1, 2, 3, 4, 5, 6, 7, 8, 9, 10, 11, 12, 13, 14, 15, 16, 17] (by kernel_rfl) (by kernel_rfl) ?_
        iterate 8 refine D1 rfl rfl ?_
        refine DL.step (d := some 41) [_] rfl rfl rfl (fun τ h => xj_indexAddrO (j - 1) Tryz.underlying22 sz3 ((h.e 0 _ rfl).trans rfl) ((h.o 0 _ rfl).trans rfl) ((h.e 1 _ rfl).trans rfl) (by omega) (by omega)) rfl (by kernel_rfl) ?_
        refine DL.step (d := some 42) [_] rfl rfl rfl (fun τ h => xj_load1P ⟨_, Tryz.underlying3, rfl⟩ ((h.e 0 _ rfl).trans rfl) ((h.o 0 _ rfl).trans rfl) hv1) rfl (by kernel_rfl) ?_
        iterate 2 refine D1 rfl rfl ?_
        refine DL.step (d := some 45) [_] rfl rfl rfl (fun τ h => xj_indexAddrO j Tryz.underlying22 sz3 ((h.e 0 _ rfl).trans rfl) ((h.o 0 _ rfl).trans rfl) ((h.e 1 _ rfl).trans rfl) rfl (by omega)) rfl (by kernel_rfl) ?_
        refine DL.step (d := some 46) [_] rfl rfl rfl (fun τ h => xj_load1P ⟨_, Tryz.underlying3, rfl⟩ ((h.e 0 _ rfl).trans rfl) ((h.o 0 _ rfl).trans rfl) hv0) rfl (by kernel_rfl) ?_
        refine DL.step (d := some 47) [_] rfl rfl rfl (fun τ h => xj_indexAddrO j Tryz.underlying22 sz3 ((h.e 0 _ rfl).trans rfl) ((h.o 0 _ rfl).trans rfl) ((h.e 1 _ rfl).trans rfl) rfl (by omega)) rfl (by kernel_rfl) ?_
        refine DL.step (d := none) [_] rfl rfl rfl (fun τ h => xj_storeP sz3 ((h.e 0 _ rfl).trans rfl) ((h.o 0 _ rfl).trans rfl) ((h.e 1 _ rfl).trans rfl) rfl (by simp; omega)) rfl (by kernel_rfl) ?_
        refine DL.step (d := some 48) [_] rfl rfl rfl (fun τ h => xj_indexAddrO (j - 1) Tryz.underlying22 sz3 ((h.e 0 _ rfl).trans rfl) ((h.o 0 _ rfl).trans rfl) ((h.e 1 _ rfl).trans rfl) (by omega) (by omega)) rfl (by kernel_rfl) ?_
        refine DL.step (d := none) [_] rfl rfl rfl (fun τ h => xj_storeP sz3 ((h.e 0 _ rfl).trans rfl) ((h.o 0 _ rfl).trans rfl) ((h.e 1 _ rfl).trans rfl) rfl (by simp; omega)) rfl (by kernel_rfl) ?_
        refine ⟨by kernel_rfl, ?_⟩
        repeat refine AW.seq ?_
        refine AW.region ?_
        iterate 3 refine A1 rfl ?_
        exact ⟨(j - 1, swapL s j (j - 1)), St.le_mk ⟨rfl, rfl, rfl, rfl, congrArg (fun i => V.pv (PV.int .i64 i)) (by omega), trivial⟩ ⟨congrArg (fun c => some (Ob.cells 3 c)) (by rw [← hse]; simp), trivial⟩ rfl rfl, ⟨by simp only; omega, hsp.trans hs, hI.swap h hj (by omega) hsw⟩, by simp only; omega⟩
      · have hst : j = 0 ∨ s.getD (j - 1) 0 ≤ s.getD j 0 := .inr (by rw [hd1, hd2]; have := of_decide_eq_false hc30; omega)
        repeat refine AW.seq ?_
        refine AW.exit ?_
        repeat refine AW.seq ?_
        refine AW.region ?_
        iterate 3 refine A1 rfl ?_
        exact ⟨(i + 1, s), St.le_mk ⟨rfl, rfl, rfl, rfl, trivial⟩ ⟨rfl, trivial⟩ rfl rfl, ⟨by simp only; omega, hs, hI.last hj hst, by simp only; omega⟩, by simp only; omega⟩
    · repeat refine AW.seq ?_
      refine AW.draw follows [[], [], [1, 0], [2, 1, 0], [3, 2, 1, 0], [3, 2, 1, 0], [5, 4, 3, 2, 1, 0], [6, 5, 4, 3, 2, 1, 0], [3, 2, 1, 0], [3, 2, 1, 0], [9, 3, 2, 1, 0], [10, 8, 3, 2, 1, 0, 9], [11, 10, 8, 3, 2, 1, 0, 9], [12, 7, 6, 5, 4, 3, 2, 1, 0, 11, 10, 8, 9], [13, 3, 2, 1, 0, 12, 7, 6, 5, 4, 11, 10, 8, 9]] [0, 1, 2, 3, 4, 5, 6, 7, 8, 9, 10, 11, 12, 13, 14] (by kernel_rfl) (by kernel_rfl) ?_
      iterate 2 refine D1 rfl rfl ?_
      refine DL.step (d := some 18) [] rfl rfl rfl (fun τ h => (xj_bin ((h.e 0 _ rfl).trans rfl) ((h.e 1 _ rfl).trans rfl) rfl).cast (v' := .pv (.bool false)) (by simp; omega)) rfl (by kernel_rfl) ?_
      iterate 11 refine D1 rfl rfl ?_
      refine DL.step (d := some 30) [] rfl rfl rfl (fun τ h => xj_pickF ((h.e 0 _ rfl).trans rfl) ((h.e 2 _ rfl).trans rfl)) rfl (by kernel_rfl) ?_
      refine ⟨by kernel_rfl, ?_⟩
      repeat refine AW.seq ?_
      refine AW.cond rfl (fun hc30 => absurd hc30 (Bool.false_ne_true)) (fun hc30 => ?_)
      have hst : j = 0 ∨ s.getD (j - 1) 0 ≤ s.getD j 0 := .inl (by omega)
      repeat refine AW.seq ?_
      refine AW.exit ?_
      repeat refine AW.seq ?_
      refine AW.region ?_
      iterate 3 refine A1 rfl ?_
      exact ⟨(i + 1, s), St.le_mk ⟨rfl, rfl, rfl, rfl, trivial⟩ ⟨rfl, trivial⟩ rfl rfl, ⟨by simp only; omega, hs, hI.last hj hst, by simp only; omega⟩, by simp only; omega⟩
  · repeat refine AW.seq ?_
    refine AW.exit ?_
    exact ⟨[], [(big, intsO (sortI l))], [], St.le_mk trivial ⟨congrArg (fun c => some (Ob.cells 3 (intsP c))) (sortI_eq hq (ha.pw (by rw [hq.length_eq, hl]; omega))), trivial⟩ rfl rfl, rfl, rfl, rfl, rfl, rfl⟩
theorem pdq_spec (l : List Int) (n : Nat) (e : Int) (hl : l.length = n) (hn : n ≤ 12) : FnO Tryz.prog 90 1 0 [.osl big 1 n, .pv (.int .i64 0), .pv (.int .i64 n), .pv (.int .i64 e)] [(big, intsO l)] (fun v ob' => v = .tup [] ∧ ob' = lookO [(big, intsO (sortI l))]) := by
  refine FnO.of Tryz.func90 rfl Tryz.ntmps90 (by simp) fun m0 w0 F R0 => ?_
  repeat refine AW.seq ?_
  refine AW.region ?_
  refine A1 rfl ?_
  repeat refine AW.seq ?_
  refine AW.region ?_
  refine A1 rfl ?_
  repeat refine AW.seq ?_
  refine AW.block ?_
  repeat refine AW.seq ?_
  refine AW.loop (st := fun x_0 : Unit => mkS [(0, .osl big 1 n), (1, .pv (.int .i64 0)), (2, .pv (.int .i64 n)), (3, .pv (.int .i64 e)), (8, .pv (.bool true)), (9, .pv (.bool true))] [(big, intsO l)] 0)
    (I := fun x_0 => True) (μ := fun x_0 => 0) (x0 := (())) (St.le_mk ⟨rfl, rfl, rfl, rfl, rfl, rfl, trivial⟩ ⟨rfl, trivial⟩ rfl rfl) (trivial) ?_
  rintro u hI
  repeat refine AW.seq ?_
  refine AW.block ?_
  repeat refine AW.seq ?_
  refine AW.region ?_
  iterate 4 refine A1 rfl ?_
  repeat refine AW.seq ?_
  refine AW.region ?_
  iterate 2 refine A1 rfl ?_
  repeat refine AW.seq ?_
  refine AW.condP rfl (fun hc23 => ?_) (fun hc23 => absurd hc23 (fun h => h (by omega)))
  repeat refine AW.seq ?_
  refine AW.region ?_
  iterate 3 refine A1 rfl ?_
  refine RL.call rfl (oj_callF1 [big] 0 Tryz.call97 (ins_spec l n hl (by omega)) rfl rfl rfl rfl ⟨rfl, trivial⟩ (by decide) rfl ?_)
  rintro _ _ ⟨rfl, rfl⟩
  repeat refine AW.seq ?_
  refine AW.ret ?_
  exact ⟨[], [(big, intsO (sortI l))], [], St.le_mk trivial ⟨rfl, trivial⟩ rfl rfl, rfl, rfl, rfl, rfl, rfl⟩
theorem sort_spec (l : List Int) (n : Nat) (hl : l.length = n) (hn : n ≤ 12) : FnO Tryz.prog 80 1 0 [.osl big 1 n] [(big, intsO l)] (fun v ob' => v = .tup [] ∧ ob' = lookO [(big, intsO (sortI l))]) := by
  refine FnO.of Tryz.func80 rfl Tryz.ntmps80 (by simp) fun m0 w0 F R0 => ?_
  have hw : IntKind.u64.wrap (n : Int) = (n : Int) := by
    show ((n : Int) % 18446744073709551616) = n
    omega
  repeat refine AW.seq ?_
  refine AW.region ?_
  iterate 3 refine A1 rfl ?_
  repeat refine AW.seq ?_
  refine AW.region ?_
  iterate 3 refine A1 rfl ?_
  refine RL.step (d := some 8) rfl rfl ((xj_conv Tryz.underlying3 Tryz.underlying81 rfl).cast (v' := .pv (.int .u64 n)) (by rw [hw])) ?_
  refine RL.call rfl (oj_call Tryz.call91 (len_spec n hn) rfl ?_)
  rintro _ ⟨e, rfl⟩
  refine RL.call rfl (oj_callF1 [big] 0 Tryz.call90 (pdq_spec l n e hl hn) rfl rfl rfl rfl ⟨rfl, trivial⟩ (by decide) rfl ?_)
  rintro _ _ ⟨rfl, rfl⟩
  exact ⟨[], [(big, intsO (sortI l))], [], St.le_mk trivial ⟨rfl, trivial⟩ rfl rfl, rfl, rfl, rfl, rfl, rfl⟩
end Go.Proofs.YtkalgjnhaicabaaGreat
