/-
  Plain facts on the schemas that the statements make: they are valid, also with one relation more.
-/
import Derived.Test.YtopblgabadljdaaSane
import Derived.Test.YtopblgabadljdaaLink
namespace Go.Proofs.Ytopblgabadljdaa

theorem named_zero {names : List ByteArray} {k : Nat} (hk : k < names.length) (hn : names.Nodup) (hw : ∀ x ∈ names, wordB x = true) : namedE names k = 0 := by
  unfold namedE
  have e : names.getD k default = names[k] := by simp [List.getD, hk]
  rw [e, if_neg (by rw [hw _ (List.getElem_mem hk)]; simp), if_neg]
  unfold hasB
  simp only [decide_eq_true_eq]
  intro hm
  obtain ⟨j, hj, hjk⟩ := List.mem_take_iff_getElem.1 hm
  exact List.pairwise_iff_getElem.1 hn j k (by omega) hk (by omega) hjk
theorem asc_of {l : List Int} (h : l.Pairwise (· < ·)) : ascB l = true := by
  apply asc_yes
  intro p hp
  have := List.pairwise_iff_getElem.1 h p (p + 1) (by omega) hp (by omega)
  simpa [List.getD, hp, show p < l.length by omega] using this
theorem rel_intro {S : Sch} {k : Nat} (hk : k < S.rels.length) (hn : (S.rels.map (·.1)).Nodup) (hw : ∀ x ∈ S.rels, wordB x.1 = true) (h1 : S.rels[k].2 ≠ []) (h2 : ∀ a ∈ S.rels[k].2, 0 ≤ a ∧ a < S.attrs.length) (h3 : S.rels[k].2.Pairwise (· < ·)) : relE S k = 0 := by
  rw [relE_eq S k hk _ rfl, named_zero (by simpa using hk) hn (fun x hx => by obtain ⟨y, hy, rfl⟩ := List.mem_map.1 hx; exact hw y hy)]
  simp only [ne_eq, not_true_eq_false, if_false]
  rw [if_neg h1, rng_yes h2, asc_of h3]
  simp
theorem check_intro {S : Sch} (a1 : 1 ≤ S.attrs.length) (a2 : S.attrs.length ≤ 12) (a3 : 1 ≤ S.rels.length) (a4 : S.rels.length ≤ 6) (a5 : S.feats = []) (a6 : S.label = -1)
    (b1 : (S.attrs.map (·.1)).Nodup) (b2 : ∀ x ∈ S.attrs, wordB x.1 = true ∧ 1 ≤ x.2 ∧ x.2 ≤ 3)
    (c1 : (S.rels.map (·.1)).Nodup) (c2 : ∀ x ∈ S.rels, wordB x.1 = true ∧ x.2 ≠ [] ∧ (∀ a ∈ x.2, 0 ≤ a ∧ a < S.attrs.length) ∧ x.2.Pairwise (· < ·))
    (d : ∀ a, a < S.attrs.length → ∃ x ∈ S.rels, (a : Int) ∈ x.2) : checkE S = 0 := by
  have hA : scanE (attrE S) S.attrs.length = 0 := by
    rw [scanE_zero]
    intro k hk
    unfold attrE
    rw [named_zero (by simpa using hk) b1 (fun x hx => by obtain ⟨y, hy, rfl⟩ := List.mem_map.1 hx; exact (b2 y hy).1)]
    have e : S.attrs.getD k default = S.attrs[k] := by simp [List.getD, hk]
    have := b2 _ (List.getElem_mem hk)
    rw [e, if_neg (by simp), if_neg (by omega)]
  have hR : scanE (relE S) S.rels.length = 0 := by
    rw [scanE_zero]
    intro k hk
    have := c2 _ (List.getElem_mem hk)
    exact rel_intro hk c1 (fun x hx => (c2 x hx).1) this.2.1 this.2.2.1 this.2.2.2
  have hRS : relsE S = 0 := by
    unfold relsE
    rw [hR, if_neg (by simp), if_neg]
    rw [Bool.not_eq_false, List.all_eq_true]
    intro a ha
    obtain ⟨x, hx, hax⟩ := d a (by simpa using ha)
    unfold usedB
    rw [List.any_eq_true]
    exact ⟨x, hx, by simpa [inB] using hax⟩
  unfold checkE
  rw [if_neg (by rw [a5, List.length_nil]; omega), hA, hRS, a5, a6]
  simp [scanE]
  omega

theorem nm_inj : ∀ i, i < 26 → ∀ j, j < 26 → nm 97 i = nm 97 j → i = j := by decide
theorem nm_inj_r : ∀ i, i < 6 → ∀ j, j < 6 → nm 114 i = nm 114 j → i = j := by decide
theorem nm_word : ∀ i, i < 26 → wordB (nm 97 i) = true := by decide
theorem nm_word_r : ∀ i, i < 6 → wordB (nm 114 i) = true := by decide
theorem map_nodup {α β : Type} {f : α → β} {l : List α} (h : l.Nodup) (hf : ∀ a ∈ l, ∀ b ∈ l, f a = f b → a = b) : (l.map f).Nodup := by
  unfold List.Nodup
  rw [List.pairwise_map]
  exact List.Pairwise.imp_of_mem (fun {a b} ha hb hne e => hne (hf a ha b hb e)) h

theorem most_good {ls : List (List Int)} (h : GoodL ls) : mostOf ls.flatten = 4 := by
  have h1 := mostOf_bd ls.flatten 4 (by omega) (fun a ha => by
    obtain ⟨l, hl1, hl2⟩ := List.mem_flatten.1 ha
    exact (h.2.2.1 l hl1).2.2 a hl2)
  obtain ⟨l, hl, h4⟩ := h.2.2.2 4 (by omega)
  have h2 : (4 : Int) ≤ mostOf ls.flatten := by
    have : ∀ (l : List Int) (m x : Int), (x ∈ l ∨ x ≤ m) → x ≤ l.foldl max m := by
      intro l
      induction l with
      | nil => intro m x hx; simpa using hx
      | cons y l ih =>
        intro m x hx
        apply ih
        rcases hx with hx | hx
        · rcases List.mem_cons.1 hx with e | e
          · right; omega
          · exact .inl e
        · right; omega
    exact this _ 0 4 (.inl (List.mem_flatten.2 ⟨l, hl, h4⟩))
  omega
theorem attrs_good {ls : List (List Int)} (h : GoodL ls) : (schOf ls).attrs = (List.range 5).map fun i => (nm 97 i, 1) := by
  simp [schOf, most_good h]
theorem rels_get (ls : List (List Int)) (i : Nat) (hi : i < (schOf ls).rels.length) : ∃ hi' : i < ls.length, (schOf ls).rels[i] = (nm 114 i, ls[i]) := by
  have hi' : i < ls.length := by simpa [schOf] using hi
  exact ⟨hi', by simp [schOf]⟩
theorem rels_len (ls : List (List Int)) : (schOf ls).rels.length = ls.length := by simp [schOf]
theorem rels_names (ls : List (List Int)) : (schOf ls).rels.map (·.1) = (List.range ls.length).map (nm 114) := by
  apply List.ext_getElem
  · simp [schOf]
  · intro i h1 h2; simp [schOf]

/-- A schema over the same attributes, whose relations are valid lists with different names, of which some have each attribute. -/
theorem check_over {ls : List (List Int)} (h : GoodL ls) (rs : List (ByteArray × List Int)) (h1 : 1 ≤ rs.length) (h2 : rs.length ≤ 6) (h3 : (rs.map (·.1)).Nodup) (h4 : ∀ x ∈ rs, wordB x.1 = true ∧ OkL x.2) (h5 : ∀ l ∈ ls, ∃ x ∈ rs, x.2 = l) :
    checkE { schOf ls with rels := rs } = 0 := by
  have ha := attrs_good h
  refine check_intro ?_ ?_ h1 h2 rfl rfl ?_ ?_ h3 ?_ ?_
  · rw [ha]; simp
  · rw [ha]; simp
  · show ((schOf ls).attrs.map (·.1)).Nodup
    rw [ha, List.map_map]
    exact map_nodup List.nodup_range fun a h1 b h2 => nm_inj a (by simp at h1; omega) b (by simp at h2; omega)
  · intro x hx
    rw [ha] at hx
    obtain ⟨i, hi, rfl⟩ := List.mem_map.1 hx
    exact ⟨nm_word i (by simp at hi; omega), by simp, by simp⟩
  · intro x hx
    have := h4 x hx
    refine ⟨this.1, this.2.1, fun a hax => ?_, this.2.2.1⟩
    have := this.2.2.2 a hax
    show 0 ≤ a ∧ a < ((schOf ls).attrs.length : Int)
    rw [ha]; simp; omega
  · intro a hlt
    have hlt' : a < 5 := by
      have : a < (schOf ls).attrs.length := hlt
      rw [ha] at this; simpa using this
    obtain ⟨l, hl, hal⟩ := h.2.2.2 a hlt'
    obtain ⟨x, hx, rfl⟩ := h5 l hl
    exact ⟨x, hx, hal⟩
theorem schOf_self (ls : List (List Int)) : { schOf ls with rels := (schOf ls).rels } = schOf ls := rfl
theorem names_nodup {ls : List (List Int)} (h : GoodL ls) : ((schOf ls).rels.map (·.1)).Nodup := by
  rw [rels_names]
  exact map_nodup List.nodup_range fun a h1 b h2 => nm_inj_r a (by simp at h1; have := h.2.1; omega) b (by simp at h2; have := h.2.1; omega)
theorem rels_ok {ls : List (List Int)} (h : GoodL ls) : ∀ x ∈ (schOf ls).rels, wordB x.1 = true ∧ OkL x.2 := by
  intro x hx
  obtain ⟨i, hi, rfl⟩ := List.getElem_of_mem hx
  obtain ⟨hi', e⟩ := rels_get ls i hi
  rw [e]
  exact ⟨nm_word_r i (by have := h.2.1; omega), h.2.2.1 _ (List.getElem_mem hi')⟩
theorem rels_cover (ls : List (List Int)) : ∀ l ∈ ls, ∃ x ∈ (schOf ls).rels, x.2 = l := by
  intro l hl
  obtain ⟨i, hi, rfl⟩ := List.getElem_of_mem hl
  have hi2 : i < (schOf ls).rels.length := by rw [rels_len]; exact hi
  obtain ⟨_, e⟩ := rels_get ls i hi2
  exact ⟨(schOf ls).rels[i], List.getElem_mem hi2, by rw [e]⟩
theorem good_check {ls : List (List Int)} (h : GoodL ls) : checkE (schOf ls) = 0 := by
  have := check_over h (schOf ls).rels (by rw [rels_len]; exact h.1) (by rw [rels_len]; have := h.2.1; omega) (names_nodup h) (rels_ok h) (rels_cover ls)
  rwa [schOf_self] at this
theorem good_bd {ls : List (List Int)} (h : GoodL ls) : SBd (schOf ls) :=
  schOf_bd ls (by have := h.2.1; omega) fun l hl => ⟨by have := okL_len5 l (h.2.2.1 l hl); omega, fun a ha => by have := (h.2.2.1 l hl).2.2 a ha; omega⟩

end Go.Proofs.Ytopblgabadljdaa
