/-
  Plain law behind AcyclicTwice: a relation that is there twice leaves as many relations; two relations are never cyclic.
-/
import Derived.Test.YtopblgabadljdaaGood
namespace Go.Proofs.Ytopblgabadljdaa

def againB : ByteArray := ⟨#[97, 103, 97, 105, 110]⟩
def twiceS (ls : List (List Int)) (q : Nat) : Sch := { schOf ls with rels := (schOf ls).rels ++ [(againB, ls.getD q [])] }

theorem again_ne : ∀ i, i < 6 → nm 114 i ≠ againB := by decide
theorem twice_check {ls : List (List Int)} (h : GoodL ls) {q : Nat} (hq : q < ls.length) : checkE (twiceS ls q) = 0 := by
  have hn := h.2.1
  refine check_over h _ (by simp) (by rw [List.length_append, rels_len]; simp; omega) ?_ ?_ ?_
  · rw [List.map_append]
    refine List.nodup_append.2 ⟨names_nodup h, by simp, ?_⟩
    intro a ha b hb e
    simp at hb
    rw [rels_names] at ha
    obtain ⟨i, hi, rfl⟩ := List.mem_map.1 ha
    exact again_ne i (by simp at hi; omega) (by rw [e, hb])
  · intro x hx
    rcases List.mem_append.1 hx with hx | hx
    · exact rels_ok h x hx
    · simp at hx
      subst hx
      refine ⟨by show wordB againB = true; decide, ?_⟩
      have : ls.getD q [] = ls[q] := by simp [List.getD, hq]
      show OkL (ls.getD q [])
      rw [this]; exact h.2.2.1 _ (List.getElem_mem hq)
  · intro l hl
    obtain ⟨x, hx, e⟩ := rels_cover ls l hl
    exact ⟨x, List.mem_append_left _ hx, e⟩

theorem left_single {e : Nat → Nat → Prop} {i : Nat} {J : List Nat} (h : Left e [i] J) : J.length = 1 := by
  rcases left_cases h with ⟨_, rfl⟩ | ⟨k, hk, _⟩
  · rfl
  · obtain ⟨h1, w, h2, h3, _⟩ := hk
    simp at h1 h2
    omega
theorem left_unique {e : Nat → Nat → Prop} {I J J' : List Nat} (hn : I.Nodup) (h : Left e I J) (h' : Left e I J') : J.length = J'.length :=
  left_same I.length e e I id J J' rfl hn (iso_id e I) h (by simpa using h')
/-- The same relations, of which others may come behind. -/
theorem left_prefix {rs rs' : List (ByteArray × List Int)} {J J' : List Nat} (h : Left (eR rs) (List.range rs.length) J) (h' : Left (eR (rs ++ rs')) (List.range rs.length) J') : J.length = J'.length := by
  refine left_same rs.length (eR rs) (eR (rs ++ rs')) _ id J J' (by simp) List.nodup_range ⟨fun _ _ _ _ h => h, ?_⟩ h (by simpa using h')
  intro i hi k hk w hw _ _ _
  have e : ∀ i, i ∈ List.range rs.length → ∀ a, eR rs i a ↔ eR (rs ++ rs') i a := fun i hi a => by
    have hi' : i < rs.length := by simpa using hi
    unfold eR
    have : (rs ++ rs').getD i default = rs.getD i default := by simp [List.getD, List.getElem?_append_left hi']
    rw [this]
  unfold Tri
  simp only [id]
  constructor
  · intro h a h1 h2; exact (e w hw a).1 (h a ((e i hi a).2 h1) ((e k hk a).2 h2))
  · intro h a h1 h2; exact (e w hw a).2 (h a ((e i hi a).1 h1) ((e k hk a).1 h2))
theorem range_erase (n : Nat) : (List.range (n + 1)).erase n = List.range n := by
  rw [List.range_succ, List.erase_append_right _ (by simp)]
  simp

theorem twice_core {ls : List (List Int)} (h : GoodL ls) {q : Nat} (hq : q < ls.length) : (corS (schOf ls)).length = (corS (twiceS ls q)).length := by
  unfold corS
  rw [if_pos (good_check h), if_pos (twice_check h hq), core_len, core_len]
  have hx := red_left (schOf ls).rels (check_relOk (good_check h))
  have hy := red_left (twiceS ls q).rels (check_relOk (twice_check h hq))
  generalize idx (redS (schOf ls).rels).inn (schOf ls).rels.length = Jx at *
  generalize idx (redS (twiceS ls q).rels).inn (twiceS ls q).rels.length = Jy at *
  have hr : (twiceS ls q).rels = (schOf ls).rels ++ [(againB, ls.getD q [])] := rfl
  rw [hr, List.length_append] at hy
  simp only [List.length_cons, List.length_nil, Nat.zero_add] at hy
  have hgq : ls.getD q [] = ls[q] := by simp [List.getD, hq]
  generalize hN : (schOf ls).rels.length = n at *
  have hn : n = ls.length := by rw [← hN, rels_len]
  obtain ⟨J3, h3⟩ := left_exists (eR ((schOf ls).rels ++ [(againB, ls.getD q [])])) _ (List.range n) rfl
  have e1 : Jx.length = J3.length := by
    rw [← hN] at hx h3
    exact left_prefix hx h3
  have hlast : ∀ a, eR ((schOf ls).rels ++ [(againB, ls.getD q [])]) n a → eR ((schOf ls).rels ++ [(againB, ls.getD q [])]) q a := by
    intro a ha
    unfold eR at ha ⊢
    have g1 : ((schOf ls).rels ++ [(againB, ls.getD q [])]).getD n default = (againB, ls.getD q []) := by
      simp [List.getD, ← hN]
    have hq2 : q < (schOf ls).rels.length := by rw [rels_len]; exact hq
    have g2 : ((schOf ls).rels ++ [(againB, ls.getD q [])]).getD q default = (schOf ls).rels[q] := by
      simp only [List.getD]
      rw [List.getElem?_append_left hq2, List.getElem?_eq_getElem hq2]; rfl
    obtain ⟨_, g3⟩ := rels_get ls q hq2
    rw [g1] at ha
    rw [g2, g3]
    rw [hgq] at ha
    exact ha
  have hear : IsEar (eR ((schOf ls).rels ++ [(againB, ls.getD q [])])) (List.range (n + 1)) n :=
    ⟨by simp, q, by simp; omega, by omega, fun k _ _ a ha _ => hlast a ha⟩
  have h4 : Left (eR ((schOf ls).rels ++ [(againB, ls.getD q [])])) (List.range (n + 1)) J3 := .step n hear (by rw [range_erase]; exact h3)
  rw [e1]
  exact left_unique List.nodup_range h4 hy
theorem small_core {ls : List (List Int)} (h : GoodL ls) (hn : ls.length ≤ 2) : (corS (schOf ls)).length = 1 := by
  unfold corS
  rw [if_pos (good_check h), core_len]
  have hx := red_left (schOf ls).rels (check_relOk (good_check h))
  generalize idx (redS (schOf ls).rels).inn (schOf ls).rels.length = Jx at *
  rw [rels_len] at hx
  have h1 := h.1
  by_cases e : ls.length = 1
  · rw [e] at hx
    exact left_single hx
  · have e2 : ls.length = 2 := by omega
    rw [e2] at hx
    obtain ⟨J3, h3⟩ := left_exists (eR (schOf ls).rels) _ [1] rfl
    have hear : IsEar (eR (schOf ls).rels) (List.range 2) 0 := ⟨by simp, 1, by simp, by omega, fun k hk hne a _ hka => by
      have : k = 1 := by simp at hk; omega
      rw [this] at hka; exact hka⟩
    have h4 : Left (eR (schOf ls).rels) (List.range 2) J3 := .step 0 hear (by simpa [List.range_succ] using h3)
    rw [left_unique List.nodup_range hx h4]
    exact left_single h3
/-- What Ear answers of all relations: the witness is another one, and has all that others share with the ear. -/
theorem ear_all {ls : List (List Int)} (h : GoodL ls) {i w : Nat} (hi : i < ls.length) (he : earO (schOf ls) (List.replicate ls.length true) i = some w) :
    ∃ hw : w < ls.length, w ≠ i ∧ ∀ a ∈ ls[i], (∃ j, ∃ hj : j < ls.length, j ≠ i ∧ a ∈ ls[j]) → a ∈ ls[w] := by
  unfold earO at he
  split at he
  · simp at he
  · rw [Int.toNat_natCast] at he
    have hok := check_relOk (good_check h)
    have hw := witI_some hok he
    rw [rels_len, idx_all] at hw
    have hwl : w < ls.length := by simpa using hw.1
    have hget : ∀ j (hj : j < ls.length) (a : Nat), eR (schOf ls).rels j a ↔ (a : Int) ∈ ls[j] := fun j hj a => by
      have hj2 : j < (schOf ls).rels.length := by rw [rels_len]; exact hj
      obtain ⟨_, e⟩ := rels_get ls j hj2
      unfold eR
      simp only [List.getD]
      rw [List.getElem?_eq_getElem hj2, e]; rfl
    refine ⟨hwl, hw.2.1, ?_⟩
    rintro a ha ⟨j, hj, hji, haj⟩
    have hb := (h.2.2.1 _ (List.getElem_mem hi)).2.2 a ha
    obtain ⟨an, rfl⟩ := Int.eq_ofNat_of_zero_le hb.1
    exact (hget w hwl an).1 (hw.2.2 j (by simpa using hj) hji an ((hget i hi an).2 ha) ((hget j hj an).2 haj))

theorem twice_bd {ls : List (List Int)} (h : GoodL ls) {q : Nat} (hq : q < ls.length) : SBd (twiceS ls q) := by
  have hb := good_bd h
  have hgq : ls.getD q [] = ls[q] := by simp [List.getD, hq]
  have hn := h.2.1
  refine ⟨hb.a, ?_, hb.f, hb.an, ?_, ?_⟩
  · show ((schOf ls).rels ++ [(againB, ls.getD q [])]).length ≤ 1000
    rw [List.length_append, rels_len]; simp; omega
  · intro x hx
    rcases List.mem_append.1 hx with hx | hx
    · exact hb.rn x hx
    · simp at hx; subst hx
      show againB.size ≤ _
      decide
  · intro x hx
    rcases List.mem_append.1 hx with hx | hx
    · exact hb.rl x hx
    · simp at hx; subst hx
      show (ls[q]?.getD []).length ≤ 1000
      have := okL_len5 _ (h.2.2.1 _ (List.getElem_mem hq))
      simp [hq]; omega
theorem twice_eq {ls : List (List Int)} {q : Nat} (hq : q < (schOf ls).rels.length) : twiceS ls q = { schOf ls with rels := (schOf ls).rels ++ [(againB, (schOf ls).rels[q].2)] } := by
  obtain ⟨hq', e⟩ := rels_get ls q hq
  unfold twiceS
  rw [e]
  simp [List.getD, hq']
/-- Do others than the i-th relation have attribute a, up to the k-th? -/
def shrTo (ls : List (List Int)) (i : Nat) (a : Int) (k : Nat) : Bool := (List.range k).any fun j => decide (j ≠ i) && inB (ls.getD j []) a
theorem shrTo_succ (ls : List (List Int)) (i : Nat) (a : Int) (k : Nat) : shrTo ls i a (k + 1) = (shrTo ls i a k || (decide (k ≠ i) && inB (ls.getD k []) a)) := by
  simp [shrTo, List.range_succ, List.any_append]
theorem shr_wit {ls : List (List Int)} (h : GoodL ls) {i w : Nat} (hi : i < ls.length) (he : earO (schOf ls) (List.replicate ls.length true) i = some w) :
    w < ls.length ∧ w ≠ i ∧ ∀ a ∈ ls.getD i [], shrTo ls i a ls.length = true → inB (ls.getD w []) a = true := by
  obtain ⟨hw, h1, h2⟩ := ear_all h hi he
  refine ⟨hw, h1, fun a ha hs => ?_⟩
  unfold shrTo at hs
  rw [List.any_eq_true] at hs
  obtain ⟨j, hj, hj2⟩ := hs
  have hj' : j < ls.length := by simpa using hj
  simp only [Bool.and_eq_true, decide_eq_true_eq] at hj2
  have e : ∀ k (hk : k < ls.length), ls.getD k [] = ls[k] := fun k hk => by simp [List.getD, hk]
  rw [e i hi] at ha
  rw [e w hw]
  rw [e j hj'] at hj2
  have := h2 a ha ⟨j, hj', hj2.1, by simpa [inB] using hj2.2⟩
  simpa [inB] using this

end Go.Proofs.Ytopblgabadljdaa
