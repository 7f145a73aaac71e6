/-
  Plain law behind AcyclicOrder: the number of relations that are left does not depend on their numbers; a relation with all attributes makes a schema acyclic.
-/
import Derived.Test.YtopblgabadljdaaTwiceP
namespace Go.Proofs.Ytopblgabadljdaa

/-- The relations in the order p. -/
def permS (ls : List (List Int)) (p : List Nat) : Sch := { schOf ls with rels := p.map fun i => (schOf ls).rels.getD i default }
def allB : ByteArray := ⟨#[97, 108, 108]⟩
def allS (ls : List (List Int)) : Sch := { schOf ls with rels := (schOf ls).rels ++ [(allB, [0, 1, 2, 3, 4])] }

theorem perm_rels {ls : List (List Int)} {p : List Nat} (hp : p.Perm (List.range ls.length)) : (permS ls p).rels.Perm (schOf ls).rels := by
  have h1 : (permS ls p).rels.Perm ((List.range ls.length).map fun i => (schOf ls).rels.getD i default) := hp.map _
  have h2 : ((List.range ls.length).map fun i => (schOf ls).rels.getD i default) = (schOf ls).rels := by
    apply List.ext_getElem
    · simp [schOf]
    · intro i h1 h2
      simp [List.getD, h2]
  rwa [h2] at h1
theorem perm_check {ls : List (List Int)} (h : GoodL ls) {p : List Nat} (hp : p.Perm (List.range ls.length)) : checkE (permS ls p) = 0 := by
  have hr := perm_rels (ls := ls) hp
  have hl := hr.length_eq
  rw [rels_len] at hl
  refine check_over h (permS ls p).rels (by rw [hl]; exact h.1) (by rw [hl]; have := h.2.1; omega) ?_ ?_ ?_
  · exact (hr.map (·.1)).nodup_iff.2 (names_nodup h)
  · intro x hx; exact rels_ok h x (hr.mem_iff.1 hx)
  · intro l hl2
    obtain ⟨x, hx, e⟩ := rels_cover ls l hl2
    exact ⟨x, hr.mem_iff.2 hx, e⟩
theorem perm_bd {ls : List (List Int)} (h : GoodL ls) {p : List Nat} (hp : p.Perm (List.range ls.length)) : SBd (permS ls p) := by
  have hb := good_bd h
  have hr := perm_rels (ls := ls) hp
  exact ⟨hb.a, by rw [hr.length_eq]; exact hb.r, hb.f, hb.an, fun x hx => hb.rn x (hr.mem_iff.1 hx), fun x hx => hb.rl x (hr.mem_iff.1 hx)⟩
theorem perm_core {ls : List (List Int)} (h : GoodL ls) {p : List Nat} (hp : p.Perm (List.range ls.length)) : (corS (schOf ls)).length = (corS (permS ls p)).length := by
  unfold corS
  rw [if_pos (good_check h), if_pos (perm_check h hp), core_len, core_len]
  have hx := red_left (schOf ls).rels (check_relOk (good_check h))
  have hy := red_left (permS ls p).rels (check_relOk (perm_check h hp))
  generalize idx (redS (schOf ls).rels).inn (schOf ls).rels.length = Jx at *
  generalize idx (redS (permS ls p).rels).inn (permS ls p).rels.length = Jy at *
  have hlen : (permS ls p).rels.length = p.length := by simp [permS]
  rw [hlen] at hy
  rw [rels_len] at hx
  obtain ⟨Jx', hx', hpx⟩ := left_perm hx hp.symm
  rw [hpx.length_eq]
  have hn : p.Nodup := hp.nodup_iff.2 List.nodup_range
  have hmap : (List.range p.length).map (fun k => p.getD k 0) = p := by
    apply List.ext_getElem
    · simp
    · intro i h1 h2; simp [List.getD, h2]
  refine (left_same p.length (eR (permS ls p).rels) (eR (schOf ls).rels) (List.range p.length) (fun k => p.getD k 0) Jy Jx' (by simp) List.nodup_range ⟨?_, ?_⟩ hy (by rw [hmap]; exact hx')).symm
  · intro i hi k hk e
    have hi' : i < p.length := by simpa using hi
    have hk' : k < p.length := by simpa using hk
    simp only [List.getD, List.getElem?_eq_getElem hi', List.getElem?_eq_getElem hk', Option.getD_some] at e
    rcases Nat.lt_trichotomy i k with hlt | heq | hgt
    · exact absurd e (List.pairwise_iff_getElem.1 hn i k hi' hk' hlt)
    · exact heq
    · exact absurd e.symm (List.pairwise_iff_getElem.1 hn k i hk' hi' hgt)
  · intro i hi k hk w hw _ _ _
    have e : ∀ i, i ∈ List.range p.length → ∀ a, eR (permS ls p).rels i a ↔ eR (schOf ls).rels (p.getD i 0) a := fun i hi a => by
      have hi' : i < p.length := by simpa using hi
      unfold eR permS
      simp [List.getD, hi']
    unfold Tri
    constructor
    · intro h a h1 h2; exact (e w hw a).1 (h a ((e i hi a).2 h1) ((e k hk a).2 h2))
    · intro h a h1 h2; exact (e w hw a).2 (h a ((e i hi a).1 h1) ((e k hk a).1 h2))

theorem all_ne : ∀ i, i < 6 → nm 114 i ≠ allB := by decide
theorem all_check {ls : List (List Int)} (h : GoodL ls) : checkE (allS ls) = 0 := by
  have hn := h.2.1
  refine check_over h _ (by simp) (by rw [List.length_append, rels_len]; simp; omega) ?_ ?_ ?_
  · rw [List.map_append]
    refine List.nodup_append.2 ⟨names_nodup h, by simp, ?_⟩
    intro a ha b hb e
    simp at hb
    rw [rels_names] at ha
    obtain ⟨i, hi, rfl⟩ := List.mem_map.1 ha
    exact all_ne i (by simp at hi; omega) (by rw [e, hb])
  · intro x hx
    rcases List.mem_append.1 hx with hx | hx
    · exact rels_ok h x hx
    · simp at hx
      subst hx
      refine ⟨by decide, by decide, by decide, by decide⟩
  · intro l hl
    obtain ⟨x, hx, e⟩ := rels_cover ls l hl
    exact ⟨x, List.mem_append_left _ hx, e⟩
theorem all_bd {ls : List (List Int)} (h : GoodL ls) : SBd (allS ls) := by
  have hb := good_bd h
  have hn := h.2.1
  refine ⟨hb.a, ?_, hb.f, hb.an, ?_, ?_⟩
  · show ((schOf ls).rels ++ [(allB, [0, 1, 2, 3, 4])]).length ≤ 1000
    rw [List.length_append, rels_len]; simp; omega
  · intro x hx
    rcases List.mem_append.1 hx with hx | hx
    · exact hb.rn x hx
    · simp at hx; subst hx; decide
  · intro x hx
    rcases List.mem_append.1 hx with hx | hx
    · exact hb.rl x hx
    · simp at hx; subst hx; decide
/-- If one relation has all that the others have, the others can be removed one after the other. -/
theorem left_all {e : Nat → Nat → Prop} {n : Nat} (hall : ∀ i, i < n → ∀ a, e i a → e n a) : ∀ (I : List Nat), I.Nodup → (∀ i ∈ I, i < n) → ∃ J, Left e (I ++ [n]) J ∧ J.length = 1 := by
  intro I
  induction I with
  | nil =>
    intro _ _
    obtain ⟨J, hJ⟩ := left_exists e _ [n] rfl
    exact ⟨J, hJ, left_single hJ⟩
  | cons i t ih =>
    intro hn hi
    have hn' := List.nodup_cons.1 hn
    obtain ⟨J, hJ, hl⟩ := ih hn'.2 fun k hk => hi k (by simp [hk])
    have hin := hi i (by simp)
    refine ⟨J, .step i ⟨by simp, n, by simp, by omega, fun k _ _ a ha _ => hall i hin a ha⟩ ?_, hl⟩
    simpa using hJ
theorem all_acyclic {ls : List (List Int)} (h : GoodL ls) : treB (allS ls) = true := by
  have hc := all_check h
  unfold treB
  rw [decide_eq_true_eq]
  refine ⟨hc, ?_⟩
  rw [core_len]
  have hx := red_left (allS ls).rels (check_relOk hc)
  generalize idx (redS (allS ls).rels).inn (allS ls).rels.length = Jx at *
  have hlen : (allS ls).rels.length = ls.length + 1 := by
    show ((schOf ls).rels ++ [(allB, [0, 1, 2, 3, 4])]).length = _
    rw [List.length_append, rels_len]; rfl
  rw [hlen, List.range_succ] at hx
  have hall : ∀ i, i < ls.length → ∀ a, eR (allS ls).rels i a → eR (allS ls).rels ls.length a := by
    intro i hi a ha
    unfold eR at ha ⊢
    have hi2 : i < (schOf ls).rels.length := by rw [rels_len]; exact hi
    have g1 : (allS ls).rels.getD i default = (schOf ls).rels[i] := by
      show ((schOf ls).rels ++ [(allB, [0, 1, 2, 3, 4])]).getD i default = _
      simp only [List.getD]
      rw [List.getElem?_append_left hi2, List.getElem?_eq_getElem hi2]; rfl
    have g2 : (allS ls).rels.getD ls.length default = (allB, [0, 1, 2, 3, 4]) := by
      show ((schOf ls).rels ++ [(allB, [0, 1, 2, 3, 4])]).getD ls.length default = _
      simp [List.getD, ← rels_len]
    obtain ⟨hi', g3⟩ := rels_get ls i hi2
    rw [g1, g3] at ha
    rw [g2]
    have hb := (h.2.2.1 _ (List.getElem_mem hi')).2.2 (a : Int) ha
    show (a : Int) ∈ [0, 1, 2, 3, 4]
    simp; omega
  obtain ⟨J, hJ, hl⟩ := left_all hall (List.range ls.length) List.nodup_range (fun i hi => by simpa using hi)
  have hnd : (List.range ls.length ++ [ls.length]).Nodup := by rw [← List.range_succ]; exact List.nodup_range
  rw [left_unique hnd hx hJ, hl]
  exact Nat.le_refl _

end Go.Proofs.Ytopblgabadljdaa
