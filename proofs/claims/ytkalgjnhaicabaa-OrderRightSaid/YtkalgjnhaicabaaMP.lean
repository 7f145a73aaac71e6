/-
  Plain facts on schemas and on what the makers make. No program in sight.
-/
import Derived.Test.YtkalgjnhaicabaaSpec
namespace Go.Proofs.Ytkalgjnhaicabaa.Mk
open Go.Proofs.Ytkalgjnhaicabaa

def chr (n : Int) : ByteArray := ⟨#[UInt8.ofNat n.toNat]⟩
def nm (p : UInt8) (i : Nat) : ByteArray := ⟨#[p]⟩ ++ chr (97 + i)
theorem asc_len : ∀ (l : List Int) (lo hi : Int), l.Pairwise (· < ·) → (∀ a ∈ l, lo ≤ a ∧ a ≤ hi) → (l.length : Int) ≤ max 0 (hi + 1 - lo) := by
  intro l
  induction l with
  | nil => intro lo hi _ _; simp; omega
  | cons x t ih =>
    intro lo hi hp hb
    have hp' := List.pairwise_cons.1 hp
    have hx := hb x (by simp)
    have := ih (x + 1) hi hp'.2 (fun a ha => ⟨by have := hp'.1 a ha; omega, (hb a (by simp [ha])).2⟩)
    simp only [List.length_cons]
    omega
theorem asc_no {l : List Int} {q : Nat} (h1 : 1 ≤ q) (h2 : q < l.length) (h : l[q] ≤ l[q - 1]) : ascB l = false := by
  unfold ascB
  rw [List.all_eq_false]
  refine ⟨q - 1, by simp; omega, ?_⟩
  have e : l.getD (q - 1 + 1) 0 = l[q] := by
    simp only [show q - 1 + 1 = q by omega, List.getD, List.getElem?_eq_getElem h2]; rfl
  have e2 : l.getD (q - 1) 0 = l[q - 1] := by
    simp only [List.getD, List.getElem?_eq_getElem (show q - 1 < l.length by omega)]; rfl
  rw [e, e2]; simp; omega
theorem asc_yes {l : List Int} (h : ∀ p, p + 1 < l.length → l.getD p 0 < l.getD (p + 1) 0) : ascB l = true := by
  unfold ascB
  rw [List.all_eq_true]
  intro p hp
  simp only [List.mem_range] at hp
  simpa using h p (by omega)
theorem asc_pair {l : List Int} (h : ascB l = true) : l.Pairwise (· < ·) := by
  unfold ascB at h
  rw [List.all_eq_true] at h
  have h1 : ∀ p (hp : p + 1 < l.length), l[p] < l[p + 1] := fun p hp => by
    have := h p (by simp; omega)
    simpa [List.getD, hp, show p < l.length by omega] using this
  clear h
  induction l with
  | nil => exact List.Pairwise.nil
  | cons x t ih =>
    have ht := ih fun p hp => h1 (p + 1) (by simpa using hp)
    refine List.pairwise_cons.2 ⟨?_, ht⟩
    cases t with
    | nil => intro a ha; simp at ha
    | cons y t =>
      have hxy := h1 0 (by simp)
      simp at hxy
      intro a ha
      rcases List.mem_cons.1 ha with e | e
      · rw [e]; exact hxy
      · have := (List.pairwise_cons.1 ht).1 a e; omega
theorem rng_no {l : List Int} {n q : Nat} (hq : q < l.length) (h : ¬ (0 ≤ l[q] ∧ l[q] < n)) : (l.all fun a => decide (0 ≤ a) && decide (a < n)) = false := by
  rw [List.all_eq_false]
  exact ⟨l[q], List.getElem_mem hq, by simp; omega⟩
theorem rng_yes {l : List Int} {n : Nat} (h : ∀ a ∈ l, 0 ≤ a ∧ a < n) : (l.all fun a => decide (0 ≤ a) && decide (a < n)) = true := by
  rw [List.all_eq_true]
  intro a ha
  have := h a ha
  simp; omega
theorem asc_of {l : List Int} (h : l.Pairwise (· < ·)) : ascB l = true := by
  apply asc_yes
  intro p hp
  have := List.pairwise_iff_getElem.1 h p (p + 1) (by omega) hp (by omega)
  simpa [List.getD, hp, show p < l.length by omega] using this
theorem relE_eq2 (S : Sch) (k : Nat) (hk : k < S.rels.length) : relE S k = if wordB S.rels[k].1 = false then 14 else if hasB ((S.rels.map (·.1)).take k) S.rels[k].1 = true then 9 else if S.rels[k].2 = [] then 7
    else if (S.rels[k].2.all fun a => decide (0 ≤ a) && decide (a < S.attrs.length)) = false then 2 else if ascB S.rels[k].2 = false then 10 else 0 := by
  have e1 : (S.rels.map (·.1)).getD k default = S.rels[k].1 := by simp [List.getD, hk]
  have e2 : S.rels.getD k default = S.rels[k] := by simp [List.getD, hk]
  unfold relE namedE
  rw [e1, e2]
  by_cases h1 : wordB S.rels[k].1 = false
  · simp [h1]
  · by_cases h2 : hasB ((S.rels.map (·.1)).take k) S.rels[k].1 = true
    · simp [h1, h2]
    · simp [h1, h2]
theorem attrE_eq (S : Sch) (k : Nat) (hk : k < S.attrs.length) : attrE S k = if wordB S.attrs[k].1 = false then 14 else if hasB ((S.attrs.map (·.1)).take k) S.attrs[k].1 = true then 9 else if S.attrs[k].2 < 1 ∨ 3 < S.attrs[k].2 then 7 else 0 := by
  have e1 : (S.attrs.map (·.1)).getD k default = S.attrs[k].1 := by simp [List.getD, hk]
  have e2 : S.attrs.getD k default = S.attrs[k] := by simp [List.getD, hk]
  unfold attrE namedE
  rw [e1, e2]
  by_cases h1 : wordB S.attrs[k].1 = false
  · simp [h1]
  · by_cases h2 : hasB ((S.attrs.map (·.1)).take k) S.attrs[k].1 = true
    · simp [h1, h2]
    · simp [h1, h2]
theorem featE_eq2 (S : Sch) (k : Nat) (hk : k < S.feats.length) : featE S k = if S.feats[k].1 < 0 ∨ (S.attrs.length : Int) ≤ S.feats[k].1 then 2
    else if ((S.feats[k].2.1 == 1 && (S.attrs.getD S.feats[k].1.toNat default).2 == 2 && (S.feats[k].2.2 == 0 || S.feats[k].2.2 == 1)) || (S.feats[k].2.1 == 2 && (S.attrs.getD S.feats[k].1.toNat default).2 == 3 && S.feats[k].2.2 == 0)) = false then 7
    else if (S.feats[k].1 == S.label || (S.feats.take k).any fun g => g.1 == S.feats[k].1) = true then 9 else 0 := by
  have e : S.feats.getD k default = S.feats[k] := by simp [List.getD, hk]
  unfold featE
  rw [e]
theorem rels_zero {S : Sch} (hr : scanE (relE S) S.rels.length = 0) (hu : ((List.range S.attrs.length).all fun a => usedB S a) = true) : relsE S = 0 := by
  unfold relsE; rw [if_neg (by simp [hr]), if_neg (by rw [hu]; decide)]
def limB (S : Sch) : Prop := ¬ (S.attrs.length = 0 ∨ 12 < S.attrs.length ∨ S.rels.length = 0 ∨ 6 < S.rels.length ∨ 8 < S.feats.length)
theorem chk_label {S : Sch} (h : limB S) (ha : scanE (attrE S) S.attrs.length = 0) (hr : relsE S = 0) (hf : scanE (featE S) S.feats.length = 0) : checkE S = if S.label < -1 ∨ (S.attrs.length : Int) ≤ S.label then 2 else if 0 ≤ S.label ∧ (S.attrs.getD S.label.toNat default).2 ≠ 2 then 7 else 0 := by
  unfold checkE
  rw [if_neg h, if_neg (by simp [ha]), if_neg (by simp [hr]), if_neg (by simp [hf])]
def okAt (i n : Nat) : Bool := decide (97 ≤ n ∧ n ≤ 122) || (decide (i ≠ 0) && (n == 45 || decide (48 ≤ n ∧ n ≤ 57)))
theorem okAt_zero (c : UInt8) : okAt 0 c.toNat = letterB c := by
  rw [Bool.eq_iff_iff]; simp [okAt, letterB, UInt8.le_iff_toNat_le]
theorem okAt_succ (k : Nat) (c : UInt8) : okAt (k + 1) c.toNat = tailB c := by
  rw [Bool.eq_iff_iff]
  have e : c = 45 ↔ c.toNat = 45 := by
    constructor
    · rintro rfl; rfl
    · intro h; exact UInt8.toNat_inj.1 h
  simp [okAt, tailB, letterB, UInt8.le_iff_toNat_le, e]
  omega
theorem word_all (l : List UInt8) : wordL l = (((List.range l.length).all fun k => okAt k (l.getD k 0).toNat) && decide (1 ≤ l.length) && decide (l.length ≤ 12)) := by
  cases l with
  | nil => simp [wordL]
  | cons c r =>
    rw [Bool.eq_iff_iff]
    simp only [wordL, Bool.and_eq_true, List.all_eq_true, decide_eq_true_eq, List.mem_range, List.length_cons]
    constructor
    · rintro ⟨⟨h1, h2⟩, h3⟩
      refine ⟨⟨fun k hk => ?_, by omega⟩, by omega⟩
      cases k with
      | zero => rw [List.getD_cons_zero, okAt_zero]; exact h1
      | succ k =>
        rw [List.getD_cons_succ, okAt_succ]
        have hk' : k < r.length := by omega
        rw [List.getD, List.getElem?_eq_getElem hk']
        exact h2 _ (List.getElem_mem hk')
    · rintro ⟨⟨h1, _⟩, h3⟩
      refine ⟨⟨?_, fun x hx => ?_⟩, by omega⟩
      · have := h1 0 (by omega); rwa [List.getD_cons_zero, okAt_zero] at this
      · obtain ⟨k, hk, rfl⟩ := List.getElem_of_mem hx
        have := h1 (k + 1) (by omega)
        rwa [List.getD_cons_succ, okAt_succ, List.getD, List.getElem?_eq_getElem hk] at this
theorem word_no (s : ByteArray) (k : Nat) (hk : k < s.size) (h : okAt k (s.data.toList.getD k 0).toNat = false) : wordB s = false := by
  unfold wordB
  rw [word_all]
  have : ((List.range s.data.toList.length).all fun k => okAt k (s.data.toList.getD k 0).toNat) = false := by
    rw [List.all_eq_false]
    exact ⟨k, by simp; exact hk, by rw [h]; simp⟩
  rw [this]; rfl
theorem word_yes (s : ByteArray) (h : ∀ k, k < s.size → okAt k (s.data.toList.getD k 0).toNat = true) : wordB s = (decide (1 ≤ s.size) && decide (s.size ≤ 12)) := by
  unfold wordB
  rw [word_all]
  have : ((List.range s.data.toList.length).all fun k => okAt k (s.data.toList.getD k 0).toNat) = true := by
    rw [List.all_eq_true]
    intro k hk
    exact h k (by simpa using hk)
  rw [this]
  simp
theorem nm_inj : ∀ i, i < 26 → ∀ j, j < 26 → nm 97 i = nm 97 j → i = j := by decide
theorem nm_inj_r : ∀ i, i < 6 → ∀ j, j < 6 → nm 114 i = nm 114 j → i = j := by decide
theorem nm_word : ∀ i, i < 26 → wordB (nm 97 i) = true := by decide
theorem nm_word_r : ∀ i, i < 6 → wordB (nm 114 i) = true := by decide
theorem map_nodup {α β : Type} {f : α → β} {l : List α} (h : l.Nodup) (hf : ∀ a ∈ l, ∀ b ∈ l, f a = f b → a = b) : (l.map f).Nodup := by
  unfold List.Nodup
  rw [List.pairwise_map]
  exact List.Pairwise.imp_of_mem (fun {a b} ha hb hne e => hne (hf a ha b hb e)) h
def AttrsOk (at' : List (ByteArray × Int)) : Prop := ∀ j (hj : j < at'.length), at'[j].1 = nm 97 j ∧ 1 ≤ at'[j].2 ∧ at'[j].2 ≤ 3
def RelsOk (rs : List (ByteArray × List Int)) (n : Nat) : Prop := ∀ j (hj : j < rs.length), rs[j].1 = nm 114 j ∧ rs[j].2 ≠ [] ∧ rs[j].2.Pairwise (· < ·) ∧ ∀ a ∈ rs[j].2, 0 ≤ a ∧ a < n
def CoverOk (rs : List (ByteArray × List Int)) (n : Nat) : Prop := ∀ a, a < n → ∃ x ∈ rs, (a : Int) ∈ x.2
def FeatOk (at' : List (ByteArray × Int)) (lb : Int) (k : Nat) (f : Int × Int × Int) : Prop :=
  ∃ a : Nat, f.1 = (a : Int) ∧ a < k ∧ (a : Int) ≠ lb ∧ ((f.2.1 = 1 ∧ (at'.getD a default).2 = 2 ∧ (f.2.2 = 0 ∨ f.2.2 = 1)) ∨ (f.2.1 = 2 ∧ (at'.getD a default).2 = 3 ∧ f.2.2 = 0))
def FeatsOk (at' : List (ByteArray × Int)) (fs : List (Int × Int × Int)) (lb : Int) (k : Nat) : Prop :=
  (fs.map (·.1)).Pairwise (· < ·) ∧ (∀ f ∈ fs, FeatOk at' lb k f) ∧ (lb = -1 ∨ ∃ a : Nat, lb = (a : Int) ∧ a < k ∧ (at'.getD a default).2 = 2)
theorem attrsOk_snoc {at' : List (ByteArray × Int)} (h : AttrsOk at') {x : Int} (h1 : 1 ≤ x) (h2 : x ≤ 3) : AttrsOk (at' ++ [(nm 97 at'.length, x)]) := by
  intro j hj
  by_cases e : j < at'.length
  · rw [List.getElem_append_left e]; exact h j e
  · obtain rfl : j = at'.length := by simp at hj; omega
    simpa using ⟨h1, h2⟩
theorem relsOk_mono {rs : List (ByteArray × List Int)} {n m : Nat} (h : RelsOk rs n) (hm : n ≤ m) : RelsOk rs m := by
  intro j hj
  obtain ⟨h1, h2, h3, h4⟩ := h j hj
  exact ⟨h1, h2, h3, fun a ha => by have := h4 a ha; omega⟩
theorem relsOk_snoc {rs : List (ByteArray × List Int)} {n : Nat} (h : RelsOk rs n) {l : List Int} (h1 : l ≠ []) (h2 : l.Pairwise (· < ·)) (h3 : ∀ a ∈ l, 0 ≤ a ∧ a < n) : RelsOk (rs ++ [(nm 114 rs.length, l)]) n := by
  intro j hj
  by_cases e : j < rs.length
  · rw [List.getElem_append_left e]; exact h j e
  · obtain rfl : j = rs.length := by simp at hj; omega
    simpa using ⟨h1, h2, h3⟩
theorem asc_snoc {l : List Int} {x : Int} (h : l.Pairwise (· < ·)) (hx : ∀ a ∈ l, a < x) : (l ++ [x]).Pairwise (· < ·) := by
  rw [List.pairwise_append]
  exact ⟨h, by simp, fun a ha b hb => by simp at hb; rw [hb]; exact hx a ha⟩
theorem featsOk_next {at' : List (ByteArray × Int)} {fs : List (Int × Int × Int)} {lb : Int} {k : Nat} (h : FeatsOk at' fs lb k) : FeatsOk at' fs lb (k + 1) := by
  refine ⟨h.1, fun f hf => ?_, ?_⟩
  · obtain ⟨a, h1, h2, h3⟩ := h.2.1 f hf
    exact ⟨a, h1, by omega, h3⟩
  · rcases h.2.2 with h1 | ⟨a, h1, h2, h3⟩
    · exact .inl h1
    · exact .inr ⟨a, h1, by omega, h3⟩
theorem featsOk_label {at' : List (ByteArray × Int)} {fs : List (Int × Int × Int)} {k : Nat} {lb : Int} (h : FeatsOk at' fs lb k) (hk : (at'.getD k default).2 = 2) : FeatsOk at' fs (k : Int) (k + 1) := by
  refine ⟨h.1, fun f hf => ?_, .inr ⟨k, rfl, by omega, hk⟩⟩
  obtain ⟨a, h1, h2, _, h3⟩ := h.2.1 f hf
  exact ⟨a, h1, by omega, by omega, h3⟩
theorem featsOk_snoc {at' : List (ByteArray × Int)} {fs : List (Int × Int × Int)} {k : Nat} {lb : Int} (h : FeatsOk at' fs lb k) {x y : Int} (hlb : lb = -1 ∨ lb < k)
    (hk : (x = 1 ∧ (at'.getD k default).2 = 2 ∧ (y = 0 ∨ y = 1)) ∨ (x = 2 ∧ (at'.getD k default).2 = 3 ∧ y = 0)) : FeatsOk at' (fs ++ [((k : Int), x, y)]) lb (k + 1) := by
  refine ⟨?_, fun f hf => ?_, (featsOk_next h).2.2⟩
  · rw [List.map_append]
    refine asc_snoc h.1 fun a ha => ?_
    obtain ⟨f, hf, rfl⟩ := List.mem_map.1 ha
    obtain ⟨a, h1, h2, _⟩ := h.2.1 f hf
    show f.1 < (k : Int)
    omega
  · rcases List.mem_append.1 hf with hf | hf
    · exact (featsOk_next h).2.1 f hf
    · simp at hf
      subst hf
      exact ⟨k, rfl, by omega, by omega, hk⟩
theorem featsOk_lb {at' : List (ByteArray × Int)} {fs : List (Int × Int × Int)} {k : Nat} {lb : Int} (h : FeatsOk at' fs lb k) : -1 ≤ lb ∧ lb < k := by
  rcases h.2.2 with h1 | ⟨a, h1, h2, _⟩ <;> omega
theorem featsOk_len {at' : List (ByteArray × Int)} {fs : List (Int × Int × Int)} {k : Nat} {lb : Int} (h : FeatsOk at' fs lb k) : fs.length ≤ k := by
  have := asc_len (fs.map (·.1)) 0 (k - 1) h.1 (fun a ha => by
    obtain ⟨f, hf, rfl⟩ := List.mem_map.1 ha
    obtain ⟨a, h1, h2, _⟩ := h.2.1 f hf
    omega)
  simp at this
  omega
structure Made (S : Sch) (most : Nat) : Prop where
  a1 : 1 ≤ S.attrs.length
  a2 : S.attrs.length ≤ most
  r1 : 1 ≤ S.rels.length
  r2 : S.rels.length ≤ 3
  at' : AttrsOk S.attrs
  rs : RelsOk S.rels S.attrs.length
  cv : CoverOk S.rels S.attrs.length
  fs : FeatsOk S.attrs S.feats S.label S.attrs.length
theorem made_check {S : Sch} {most : Nat} (h : Made S most) (hm : most ≤ 8) : checkE S = 0 := by
  have hal := h.a2
  have hrl := h.r2
  have hA : scanE (attrE S) S.attrs.length = 0 := by
    rw [scanE_zero]
    intro k hk
    rw [attrE_eq S k hk]
    obtain ⟨h1, h2, h3⟩ := h.at' k hk
    rw [if_neg (by rw [h1, nm_word k (by omega)]; decide), if_neg, if_neg (by omega)]
    unfold hasB
    simp only [decide_eq_true_eq]
    intro hmem
    obtain ⟨j, hj, hjk⟩ := List.mem_take_iff_getElem.1 hmem
    have hj2 : j < S.attrs.length := by simp at hj; omega
    rw [List.getElem_map, (h.at' j hj2).1, h1] at hjk
    have := nm_inj j (by omega) k (by omega) hjk
    simp at hj; omega
  have hR : scanE (relE S) S.rels.length = 0 := by
    rw [scanE_zero]
    intro k hk
    rw [relE_eq2 S k hk]
    obtain ⟨h1, h2, h3, h4⟩ := h.rs k hk
    rw [if_neg (by rw [h1, nm_word_r k (by omega)]; decide), if_neg, if_neg h2, if_neg (by rw [rng_yes h4]; decide), if_neg (by rw [asc_of h3]; decide)]
    unfold hasB
    simp only [decide_eq_true_eq]
    intro hmem
    obtain ⟨j, hj, hjk⟩ := List.mem_take_iff_getElem.1 hmem
    have hj2 : j < S.rels.length := by simp at hj; omega
    rw [List.getElem_map, (h.rs j hj2).1, h1] at hjk
    have := nm_inj_r j (by omega) k (by omega) hjk
    simp at hj; omega
  have hRS : relsE S = 0 := by
    refine rels_zero hR ?_
    rw [List.all_eq_true]
    intro a ha
    obtain ⟨x, hx, hax⟩ := h.cv a (by simpa using ha)
    unfold usedB
    rw [List.any_eq_true]
    exact ⟨x, hx, by simpa [inB] using hax⟩
  have hfl := featsOk_len h.fs
  have hF : scanE (featE S) S.feats.length = 0 := by
    rw [scanE_zero]
    intro k hk
    rw [featE_eq2 S k hk]
    obtain ⟨a, h1, h2, h3, h4⟩ := h.fs.2.1 _ (List.getElem_mem hk)
    rw [h1, Int.toNat_natCast, if_neg (by omega), if_neg, if_neg]
    · rw [Bool.or_eq_true, not_or]
      refine ⟨by simpa using h3, ?_⟩
      rw [List.any_eq_true]
      rintro ⟨f, hf, hfa⟩
      obtain ⟨j, hj, rfl⟩ := List.mem_take_iff_getElem.1 hf
      have := List.pairwise_iff_getElem.1 h.fs.1 j k (by simp; omega) (by simpa using hk) (by omega)
      simp at this hfa
      omega
    · rcases h4 with ⟨g1, g2, g3⟩ | ⟨g1, g2, g3⟩
      · rw [g1, g2]
        rcases g3 with g3 | g3 <;> rw [g3] <;> decide
      · rw [g1, g2, g3]; decide
  have hlim : limB S := by unfold limB; have := h.a1; have := h.r1; omega
  rw [chk_label hlim hA hRS hF]
  have hlb := featsOk_lb h.fs
  rw [if_neg (by omega), if_neg]
  rintro ⟨g1, g2⟩
  rcases h.fs.2.2 with g3 | ⟨a, g3, g4, g5⟩
  · omega
  · rw [g3, Int.toNat_natCast] at g2
    exact g2 g5
def ListOk (l : List Int) (n : Nat) : Prop := l.Pairwise (· < ·) ∧ (∀ a ∈ l, 0 ≤ a ∧ a < n)
theorem ListOk.len {l : List Int} {n : Nat} (h : ListOk l n) : l.length ≤ n := by
  have := asc_len l 0 (n - 1) h.1 (fun a ha => by have := h.2 a ha; omega)
  omega
theorem ListOk.snoc {l : List Int} {n : Nat} (h : ListOk l n) : ListOk (l ++ [(n : Int)]) (n + 1) := by
  refine ⟨asc_snoc h.1 fun a ha => (h.2 a ha).2, fun a ha => ?_⟩
  rcases List.mem_append.1 ha with h1 | h1
  · have := h.2 a h1; omega
  · simp at h1; omega
theorem ListOk.mono {l : List Int} {n m : Nat} (h : ListOk l n) (hm : n ≤ m) : ListOk l m := ⟨h.1, fun a ha => by have := h.2 a ha; omega⟩
def HeadOk (at' : List (ByteArray × Int)) (rs : List (ByteArray × List Int)) (most k : Nat) : Prop :=
  AttrsOk at' ∧ RelsOk rs at'.length ∧ CoverOk rs at'.length ∧ at'.length ≤ most ∧ rs.length = k ∧ (1 ≤ k → 1 ≤ at'.length)
def MidOk (at' at2 : List (ByteArray × Int)) (l : List Int) (most : Nat) : Prop :=
  AttrsOk at2 ∧ at2.length ≤ most ∧ at'.length ≤ at2.length ∧ ListOk l at2.length ∧ ∀ a : Nat, at'.length ≤ a → a < at2.length → (a : Int) ∈ l
theorem mid_snoc {at' at2 : List (ByteArray × Int)} {l : List Int} {most : Nat} (h : MidOk at' at2 l most) (hm : at2.length < most) {x : Int} (hx : x ∈ [1, 2, 2, 3]) : MidOk at' (at2 ++ [(nm 97 at2.length, x)]) (l ++ [(at2.length : Int)]) most := by
  obtain ⟨h1, h2, h3, h4, h5⟩ := h
  refine ⟨attrsOk_snoc h1 (by simp at hx; omega) (by simp at hx; omega), by simp; omega, by simp; omega, by simpa using h4.snoc, fun a ha1 ha2 => ?_⟩
  by_cases e : a < at2.length
  · exact List.mem_append_left _ (h5 a ha1 e)
  · have : a = at2.length := by simp at ha2; omega
    subst this; simp
def EndOk (at' at2 : List (ByteArray × Int)) (l : List Int) (most : Nat) : Prop := MidOk at' at2 l most ∧ l ≠ [] ∧ 1 ≤ at2.length
theorem head_next {at' at2 : List (ByteArray × Int)} {rs : List (ByteArray × List Int)} {l : List Int} {most k : Nat} (h : HeadOk at' rs most k) (he : EndOk at' at2 l most) : HeadOk at2 (rs ++ [(nm 114 k, l)]) most (k + 1) := by
  obtain ⟨h1, h2, h3, h4, h5, h6⟩ := h
  obtain ⟨⟨g1, g2, g3, g4, g5⟩, g6, g7⟩ := he
  subst h5
  refine ⟨g1, relsOk_snoc (relsOk_mono h2 g3) g6 g4.1 g4.2, fun a ha => ?_, g2, by simp, fun _ => g7⟩
  by_cases e : a < at'.length
  · obtain ⟨x, hx, hax⟩ := h3 a e
    exact ⟨x, List.mem_append_left _ hx, hax⟩
  · exact ⟨(nm 114 rs.length, l), List.mem_append_right _ (by simp), g5 a (by omega) ha⟩

end Go.Proofs.Ytkalgjnhaicabaa.Mk
