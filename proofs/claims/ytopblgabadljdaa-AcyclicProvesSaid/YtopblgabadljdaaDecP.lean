/-
  Plain laws behind AcyclicDecides and AcyclicProves: the witnesses make a right join tree; a join tree gives an order of removals down to one relation; so no tree stands beside a proof that there is none.
-/
import Derived.Test.YtopblgabadljdaaTwiceP
import Derived.Test.YtopblgabadljdaaChk
namespace Go.Proofs.Ytopblgabadljdaa

/-! ### From removals to a tree -/
/-- Ears are removed, from I to J; par has their witnesses. -/
def RemN (e : Nat → Nat → Prop) (par : Nat → Int) : Nat → List Nat → List Nat → Prop
  | 0, I, J => J = I
  | n + 1, I, J => J = I ∨ ∃ i w, i ∈ I ∧ IsWit e I i w ∧ par i = (w : Int) ∧ RemN e par n (I.erase i) J
/-- A relation that has an attribute which its parent lacks. -/
def TopP (e : Nat → Nat → Prop) (par : Nat → Int) (a t : Nat) : Prop := e t a ∧ ¬ ∃ w : Nat, par t = (w : Int) ∧ e w a

theorem rem_top {e : Nat → Nat → Prop} {par : Nat → Int} {c : Nat} (hc : par c = -1) (a : Nat) : ∀ (n : Nat) (I : List Nat), RemN e par n I [c] → I.Nodup → (∃ k ∈ I, e k a) → ∃ t ∈ I, TopP e par a t ∧ ∀ t' ∈ I, TopP e par a t' → t' = t := by
  have base : ∀ I, [c] = I → (∃ k ∈ I, e k a) → ∃ t ∈ I, TopP e par a t ∧ ∀ t' ∈ I, TopP e par a t' → t' = t := by
    rintro I rfl ⟨k, hk, he⟩
    simp at hk
    subst hk
    exact ⟨k, by simp, ⟨he, by rintro ⟨w, hw, _⟩; omega⟩, fun t' ht' _ => by simpa using ht'⟩
  intro n
  induction n with
  | zero => intro I h _ hk; exact base I h hk
  | succ n ih =>
    intro I h hn hk
    rcases h with h | ⟨i, w, hi, hw, hp, h⟩
    · exact base I h hk
    · have hn' := hn.erase i
      by_cases hex : ∃ k ∈ I.erase i, e k a
      · obtain ⟨t, ht, h1, h2⟩ := ih _ h hn' hex
        refine ⟨t, List.mem_of_mem_erase ht, h1, fun t' ht' htop => ?_⟩
        by_cases e1 : t' = i
        · exfalso
          subst e1
          obtain ⟨k, hk1, hk2⟩ := hex
          obtain ⟨hk3, hk4⟩ := (hn.mem_erase_iff).1 hk1
          exact htop.2 ⟨w, hp, hw.2.2 k hk4 hk3 a htop.1 hk2⟩
        · exact h2 t' ((hn.mem_erase_iff).2 ⟨e1, ht'⟩) htop
      · obtain ⟨k, hk1, hk2⟩ := hk
        have hki : ∀ k ∈ I, e k a → k = i := fun k hk he => by
          by_cases e1 : k = i
          · exact e1
          · exact absurd ⟨k, (hn.mem_erase_iff).2 ⟨e1, hk⟩, he⟩ hex
        obtain rfl := hki k hk1 hk2
        refine ⟨k, hk1, ⟨hk2, ?_⟩, fun t' ht' htop => hki t' ht' htop.1⟩
        rintro ⟨w', hw', he⟩
        have : w' = w := by omega
        subst this
        exact hw.2.1 (hki w' hw.1 he)

theorem walkB_mono {par : List Int} : ∀ {f : Nat} {a : Int}, walkB par f a = true → walkB par (f + 1) a = true := by
  intro f
  induction f with
  | zero => intro a h; simp [walkB] at h; exact walkB_neg h
  | succ f ih =>
    intro a h
    by_cases ha : a < 0
    · exact walkB_neg ha
    · simp only [walkB] at h ⊢
      rw [if_neg ha] at h ⊢
      exact ih h
theorem walkB_up {par : List Int} {f : Nat} {i : Nat} {p : Int} (hp : par.getD i 0 = p) : walkB par (f + 1) (i : Int) = walkB par f p := by
  simp only [walkB]
  rw [if_neg (by omega), Int.toNat_natCast, hp]
theorem rem_walk {e : Nat → Nat → Prop} {par : List Int} {c : Nat} (hc : par.getD c 0 = -1) : ∀ (n : Nat) (I : List Nat), RemN e (fun i => par.getD i 0) n I [c] → ∀ i ∈ I, walkB par I.length (i : Int) = true := by
  have base : ∀ I, [c] = I → ∀ i ∈ I, walkB par I.length (i : Int) = true := by
    rintro I rfl i hi
    simp at hi
    subst hi
    rw [show [i].length = 0 + 1 from rfl, walkB_up hc]
    exact walkB_neg (by omega)
  intro n
  induction n with
  | zero => intro I h; exact base I h
  | succ n ih =>
    intro I h
    rcases h with h | ⟨i, w, hi, hw, hp, h⟩
    · exact base I h
    · have hl : I.length = (I.erase i).length + 1 := by
        rw [List.length_erase_of_mem hi]
        have := List.length_pos_of_mem hi
        omega
      intro k hk
      rw [hl]
      by_cases e1 : k = i
      · subst e1
        rw [walkB_up hp]
        exact ih _ h w ((List.mem_erase_of_ne hw.2.1).2 hw.1)
      · exact walkB_mono (ih _ h k ((List.mem_erase_of_ne e1).2 hk))
theorem rem_par {e : Nat → Nat → Prop} {par : Nat → Int} {c : Nat} (hc : par c = -1) : ∀ (n : Nat) (I : List Nat), RemN e par n I [c] → ∀ i ∈ I, (i = c ∧ par i = -1) ∨ ∃ w ∈ I, par i = (w : Int) := by
  have base : ∀ I, [c] = I → ∀ i ∈ I, (i = c ∧ par i = -1) ∨ ∃ w ∈ I, par i = (w : Int) := by
    rintro I rfl i hi
    simp at hi
    subst hi
    exact .inl ⟨rfl, hc⟩
  intro n
  induction n with
  | zero => intro I h; exact base I h
  | succ n ih =>
    intro I h
    rcases h with h | ⟨i, w, hi, hw, hp, h⟩
    · exact base I h
    · intro k hk
      by_cases e1 : k = i
      · subst e1
        exact .inr ⟨w, hw.1, hp⟩
      · rcases ih _ h k ((List.mem_erase_of_ne e1).2 hk) with h1 | ⟨w', h1, h2⟩
        · exact .inl h1
        · exact .inr ⟨w', List.mem_of_mem_erase h1, h2⟩
theorem rem_ne {e : Nat → Nat → Prop} {par : Nat → Int} : ∀ (n : Nat) (I J : List Nat), RemN e par n I J → I ≠ [] → J ≠ [] := by
  intro n
  induction n with
  | zero => intro I J h hI; rw [h]; exact hI
  | succ n ih =>
    intro I J h hI
    rcases h with h | ⟨i, w, hi, hw, hp, h⟩
    · rw [h]; exact hI
    · exact ih _ _ h (List.ne_nil_of_mem ((List.mem_erase_of_ne hw.2.1).2 hw.1))

theorem countP_one {n c : Nat} {p : Nat → Bool} (hc : c < n) (hp : p c = true) (hu : ∀ i, i < n → p i = true → i = c) : (List.range n).countP p = 1 := by
  rw [List.countP_eq_length_filter]
  have hnd : ((List.range n).filter p).Nodup := List.nodup_range.filter _
  have hmem : c ∈ (List.range n).filter p := by simp [hc, hp]
  have hall : ∀ x ∈ (List.range n).filter p, x = c := by
    intro x hx
    simp at hx
    exact hu x hx.1 hx.2
  have h1 := List.eq_replicate_of_mem hall
  rw [h1, List.nodup_replicate] at hnd
  have h2 := List.length_pos_of_mem hmem
  omega
theorem countP_uniq {n : Nat} {p : Nat → Bool} (h : (List.range n).countP p = 1) : ∃ c, c < n ∧ p c = true ∧ ∀ i, i < n → p i = true → i = c := by
  rw [List.countP_eq_length_filter, List.length_eq_one_iff] at h
  obtain ⟨c, hc⟩ := h
  have hm : ∀ i, (i < n ∧ p i = true) ↔ i = c := by
    intro i
    have : i ∈ (List.range n).filter p ↔ i ∈ [c] := by rw [hc]
    simpa using this
  exact ⟨c, ((hm c).2 rfl).1, ((hm c).2 rfl).2, fun i h1 h2 => (hm i).1 ⟨h1, h2⟩⟩

theorem uses_has {S : Sch} {a : Int} {x : Int} : hasB (usesL S a) x = true ↔ ∃ k : Nat, x = (k : Int) ∧ hasB (S.rels.getD k default).2 a = true := by
  unfold hasB
  rw [decide_eq_true_eq]
  constructor
  · intro h
    obtain ⟨k, h1, _, h3⟩ := usesTo_mem h
    exact ⟨k, h1, h3⟩
  · rintro ⟨k, rfl, h⟩
    unfold usesL usesTo
    refine List.mem_map.2 ⟨k, ?_, rfl⟩
    rw [List.mem_filter]
    refine ⟨?_, h⟩
    rw [List.mem_range]
    rcases Nat.lt_or_ge k S.rels.length with hk | hk
    · exact hk
    · exfalso
      simp only [List.getD, List.getElem?_eq_none hk, Option.getD_none] at h
      exact absurd h (by simp; exact fun h => by cases h)
theorem eR_has {rs : List (ByteArray × List Int)} {k a : Nat} : eR rs k a ↔ hasB (rs.getD k default).2 (a : Int) = true := by
  unfold eR hasB
  rw [decide_eq_true_eq]
theorem top_iff {S : Sch} {par : List Int} {a t : Nat} : (hasB (S.rels.getD t default).2 (a : Int) && topF S par a (t : Int)) = true ↔ TopP (eR S.rels) (fun i => par.getD i 0) a t := by
  rw [Bool.and_eq_true]
  unfold TopP topF
  rw [eR_has, Int.toNat_natCast, Bool.not_eq_true']
  refine and_congr_right fun _ => ?_
  rw [← Bool.not_eq_true, uses_has]
  simp only [eR_has]
theorem tops_eq (S : Sch) (par : List Int) (a : Nat) : (usesL S a).countP (topF S par a) = (List.range S.rels.length).countP fun t => hasB (S.rels.getD t default).2 (a : Int) && topF S par a (t : Int) := by
  unfold usesL usesTo
  rw [List.countP_map, List.countP_filter]
  congr 1
  funext t
  simp [Bool.and_comm]

/-! ### What reduce computes -/
theorem red_rem (rs : List (ByteArray × List Int)) (hok : RelOk rs) (par : Nat → Int) (J : List Nat) : ∀ (j n : Nat), (∀ i, i < rs.length → (redTo rs j).inn.getD i false = false → par i = (redTo rs j).wit.getD i 0) →
    RemN (eR rs) par n (idx (redTo rs j).inn rs.length) J → ∃ m, RemN (eR rs) par m (List.range rs.length) J := by
  intro j
  induction j with
  | zero =>
    intro n _ h
    refine ⟨n, ?_⟩
    have : idx (redTo rs 0).inn rs.length = List.range rs.length := idx_all _
    rwa [this] at h
  | succ j ih =>
    intro n hag h
    cases he : earI rs (redTo rs j).inn with
    | none =>
      have e1 : redTo rs (j + 1) = redTo rs j := redTo_stop rs j he (j + 1) (by omega)
      rw [e1] at hag h
      exact ih n hag h
    | some i =>
      have e1 := redTo_next he
      obtain ⟨hi, hear, _⟩ := earI_some he
      have hil := (redTo_len rs j).1
      have hwl := (redTo_len rs j).2
      have hear' := hear
      unfold earAt at hear'
      rw [Bool.and_eq_true] at hear'
      obtain ⟨w, hw⟩ := Option.isSome_iff_exists.1 hear'.2
      have hwit := witI_some hok hw
      rw [e1] at hag h
      simp only at hag h
      rw [idx_set _ _ _ (by omega)] at h
      refine ih (n + 1) ?_ (.inr ⟨i, w, mem_idx.2 ⟨hi, hear'.1⟩, hwit, ?_, h⟩)
      · intro k hk hk2
        have hki : k ≠ i := by rintro rfl; rw [hear'.1] at hk2; cases hk2
        have := hag k hk (by rw [List.getD, List.getElem?_set_ne (by omega)]; exact hk2)
        rw [this, List.getD, List.getElem?_set_ne (by omega)]; rfl
      · have := hag i hi (by rw [List.getD, List.getElem?_set_self (by omega)]; rfl)
        rw [this, List.getD, List.getElem?_set_self (by omega), hw]; rfl
theorem red_in (rs : List (ByteArray × List Int)) : ∀ (j i : Nat), i < rs.length → (redTo rs j).inn.getD i false = true → (redTo rs j).wit.getD i 0 = -1 := by
  intro j
  induction j with
  | zero => intro i hi _; simp [redTo, List.getD, hi]
  | succ j ih =>
    intro i hi h
    cases he : earI rs (redTo rs j).inn with
    | none =>
      have e1 : redTo rs (j + 1) = redTo rs j := redTo_stop rs j he (j + 1) (by omega)
      rw [e1] at h ⊢
      exact ih i hi h
    | some k =>
      have e1 := redTo_next he
      have hil := (redTo_len rs j).1
      rw [e1] at h ⊢
      simp only at h ⊢
      have hki : k ≠ i := by
        rintro rfl
        rw [List.getD, List.getElem?_set_self (by omega)] at h
        simp at h
      rw [List.getD, List.getElem?_set_ne hki] at h ⊢
      exact ih i hi h
theorem core_pos {rs : List (ByteArray × List Int)} (hok : RelOk rs) (hn : 1 ≤ rs.length) : 1 ≤ (coreS rs).length := by
  obtain ⟨m, hm⟩ := red_rem rs hok (fun i => (redS rs).wit.getD i 0) (idx (redS rs).inn rs.length) rs.length 0 (fun i _ _ => rfl) rfl
  have hr : List.range rs.length ≠ [] := by
    intro h
    have h' : (List.range rs.length).length = 0 := by rw [h]; rfl
    rw [List.length_range] at h'
    omega
  have := rem_ne m _ _ hm hr
  rw [core_len]
  exact List.length_pos_iff.2 this
theorem ord_core (rs : List (ByteArray × List Int)) : (redS rs).ord.length + (coreS rs).length = rs.length := by
  have h := (redTo_count rs rs.length).1
  have h2 : (coreS rs).length = (redTo rs rs.length).inn.count true := by
    rw [core_len]
    have hl : (redTo rs rs.length).inn.length = rs.length := (redTo_len rs rs.length).1
    unfold redS
    generalize (redTo rs rs.length).inn = inn at *
    unfold idx
    rw [← List.countP_eq_length_filter, ← hl, List.count]
    have : inn = (List.range inn.length).map fun i => inn.getD i false := by
      apply List.ext_getElem
      · simp
      · intro i h1 h2; simp [List.getD, h1]
    conv => rhs; rw [this]
    rw [List.countP_map]
    congr 1
    funext i
    simp
  unfold redS
  omega

theorem wit_tree {S : Sch} (hc : checkE S = 0) (h1 : (coreS S.rels).length = 1) : chkB S (redS S.rels).wit = true := by
  have hok := check_relOk hc
  obtain ⟨_, _, hr1, _, _, hrel, hused⟩ := check_zero hc
  have hwl : (redS S.rels).wit.length = S.rels.length := (redTo_len S.rels S.rels.length).2
  obtain ⟨m, hm⟩ := red_rem S.rels hok (fun i => (redS S.rels).wit.getD i 0) (idx (redS S.rels).inn S.rels.length) S.rels.length 0 (fun i _ _ => rfl) rfl
  rw [core_len, List.length_eq_one_iff] at h1
  obtain ⟨c, hcore⟩ := h1
  rw [hcore] at hm
  have hcm : c ∈ idx (redS S.rels).inn S.rels.length := by rw [hcore]; simp
  obtain ⟨hcn, hcin⟩ := mem_idx.1 hcm
  have hcw : (redS S.rels).wit.getD c 0 = -1 := red_in S.rels S.rels.length c hcn hcin
  have hwalk := rem_walk hcw m _ hm
  have hpar := rem_par (par := fun i => (redS S.rels).wit.getD i 0) hcw m _ hm
  have htop := fun a => rem_top (par := fun i => (redS S.rels).wit.getD i 0) hcw a m _ hm List.nodup_range
  generalize (redS S.rels).wit = par at *
  rw [List.length_range] at hwalk
  refine chkB_yes hc hwl ?_ ?_
  · have hp2 : ∀ j (hj : j < par.length), par.getD j 0 = par[j] := fun j hj => by simp [List.getD, hj]
    rw [treeB_end, beq_iff_eq]
    · have : par.count (-1) = 1 := by
        have hmap : par = (List.range par.length).map fun i => par.getD i 0 := by
          apply List.ext_getElem
          · simp
          · intro i h1 h2; simp [List.getD, h1]
        rw [List.count]
        conv => lhs; rw [hmap, List.countP_map]
        refine countP_one (c := c) (by omega) ?_ ?_
        · show (par.getD c 0 == -1) = true
          rw [hcw]; rfl
        · intro i hi h
          have h : (par.getD i 0 == -1) = true := h
          rw [beq_iff_eq] at h
          rcases hpar i (by simp; omega) with h2 | ⟨w, _, h2⟩
          · exact h2.1
          · have h2' : par.getD i 0 = (w : Int) := h2
            omega
      omega
    · intro j hj
      rw [← hp2 j hj]
      rcases hpar j (by simp; omega) with h2 | ⟨w, hw, h2⟩
      · rw [h2.2]; omega
      · have h2' : par.getD j 0 = (w : Int) := h2
        simp at hw
        omega
    · intro j hj
      rw [hwl]
      exact hwalk j (by simp; omega)
  · intro a ha
    have hu := hused a ha
    unfold usedB at hu
    rw [List.any_eq_true] at hu
    obtain ⟨r, hr, hin⟩ := hu
    obtain ⟨k, hk, rfl⟩ := List.getElem_of_mem hr
    have hek : eR S.rels k a := by
      unfold eR
      unfold inB at hin
      simpa [List.getD, hk] using hin
    obtain ⟨t, ht, h1, h2⟩ := htop a ⟨k, by simpa using hk, hek⟩
    rw [tops_eq]
    exact countP_one (c := t) (by simpa using ht) (top_iff.2 h1) fun i hi hp => h2 i (by simpa using hi) (top_iff.1 hp)

/-! ### Proofs that there is no tree -/
theorem clTo_app {S : Sch} (o x : List Int) : ∀ k, k ≤ o.length → clTo S (o ++ x) k = clTo S o k := by
  intro k
  induction k with
  | zero => intro _; rfl
  | succ k ih =>
    intro hk
    simp only [clTo]
    rw [ih (by omega)]
    have : (o ++ x).getD k 0 = o.getD k 0 := by simp only [List.getD]; rw [List.getElem?_append_left (by omega)]
    rw [this]
theorem clTo_red {S : Sch} (hc : checkE S = 0) : ∀ j, clTo S (redTo S.rels j).ord (redTo S.rels j).ord.length = some (redTo S.rels j).inn := by
  intro j
  induction j with
  | zero => rfl
  | succ j ih =>
    cases he : earI S.rels (redTo S.rels j).inn with
    | none =>
      have e1 : redTo S.rels (j + 1) = redTo S.rels j := redTo_stop S.rels j he (j + 1) (by omega)
      rw [e1]; exact ih
    | some i =>
      have e1 := redTo_next he
      obtain ⟨hi, hear, _⟩ := earI_some he
      have hil := (redTo_len S.rels j).1
      unfold earAt at hear
      rw [Bool.and_eq_true] at hear
      rw [e1]
      simp only [List.length_append, List.length_singleton]
      have hg : ((redTo S.rels j).ord ++ [(i : Int)]).getD (redTo S.rels j).ord.length 0 = (i : Int) := by simp [List.getD]
      have hcl : clTo S ((redTo S.rels j).ord ++ [(i : Int)]) (redTo S.rels j).ord.length = some (redTo S.rels j).inn := by rw [clTo_app _ _ _ (Nat.le_refl _)]; exact ih
      have hea : (earO S (redTo S.rels j).inn (i : Int)).isSome = true := by
        unfold earO
        rw [if_neg]
        · rw [Int.toNat_natCast]; exact hear.2
        · rw [Int.toNat_natCast, hear.1]
          rintro (h | h | h | h | h)
          · exact h hc
          · exact h hil
          · omega
          · omega
          · cases h
      have := clTo_succ_yes hcl (by rw [hg]; exact hea)
      rw [hg] at this
      rw [this]; rfl
theorem closed_small {S : Sch} {ord core : List Int} (h : core.length < 2) : closedB S ord core = false := by
  unfold closedB
  split
  · rfl
  · split
    · rfl
    · have : decide (2 ≤ core.length) = false := by simp; omega
      rw [this]; rfl
theorem closed_red {S : Sch} (hc : checkE S = 0) (h2 : 2 ≤ (coreS S.rels).length) : closedB S (redS S.rels).ord (coreS S.rels) = true := by
  unfold closedB
  rw [if_neg (by simp [hc])]
  have hcl := clTo_red hc S.rels.length
  have e : redTo S.rels S.rels.length = redS S.rels := rfl
  rw [e] at hcl
  rw [hcl]
  simp only
  have h3 : (coreS S.rels).any (isEar S (redS S.rels).inn) = false := by
    rw [List.any_eq_false]
    intro r hr
    obtain ⟨h1, h2, h3⟩ := coreTo_mem hr
    have hst := red_stuck S.rels
    unfold earI at hst
    rw [List.find?_eq_none] at hst
    have := hst r.toNat (by simp; omega)
    unfold earAt at this
    rw [h3] at this
    simpa [isEar] using this
  rw [h3, decide_eq_true h2, show eqB (coreS S.rels) (coreTo (redS S.rels).inn S.rels.length) = true by simp [eqB, coreS]]
  rfl
theorem clTo_left {S : Sch} (hok : RelOk S.rels) (ord : List Int) : ∀ (k : Nat) (inn : List Bool) (J : List Nat), clTo S ord k = some inn → Left (eR S.rels) (idx inn S.rels.length) J → Left (eR S.rels) (List.range S.rels.length) J := by
  intro k
  induction k with
  | zero =>
    intro inn J h hl
    simp [clTo] at h
    rw [← h, idx_all] at hl
    exact hl
  | succ k ih =>
    intro inn J h hl
    cases hk : clTo S ord k with
    | none => simp [clTo, hk] at h
    | some inn' =>
      have hlen := clTo_len hk
      cases he : (earO S inn' (ord.getD k 0)).isSome with
      | false => rw [clTo_succ_no hk he] at h; cases h
      | true =>
        rw [clTo_succ_yes hk he] at h
        injection h with h
        obtain ⟨r1, r2, r3, r4⟩ := earO_range he
        obtain ⟨i, hi⟩ := Int.eq_ofNat_of_zero_le r1
        rw [hi] at he h r2 r4
        rw [Int.toNat_natCast] at h r4
        rw [← h, idx_set _ _ _ (by omega)] at hl
        refine ih inn' J hk (.step i ?_ hl)
        rw [← ear_iff S.rels inn' i hok (by omega)]
        unfold earAt
        rw [r4, Bool.true_and]
        unfold earO at he
        split at he
        · cases he
        · rwa [Int.toNat_natCast] at he
theorem closed_left {S : Sch} {ord core : List Int} (hc : checkE S = 0) (h : closedB S ord core = true) : ∃ J, Left (eR S.rels) (List.range S.rels.length) J ∧ 2 ≤ J.length := by
  have hok := check_relOk hc
  unfold closedB at h
  rw [if_neg (by simp [hc])] at h
  cases hk : clTo S ord ord.length with
  | none => rw [hk] at h; cases h
  | some inn =>
    rw [hk] at h
    simp only [Bool.and_eq_true, decide_eq_true_eq, eqB, Bool.not_eq_true'] at h
    obtain ⟨⟨h1, h2⟩, h3⟩ := h
    have hlen := clTo_len hk
    refine ⟨idx inn S.rels.length, clTo_left hok ord _ inn _ hk (.stop ?_), ?_⟩
    · intro i hi
      obtain ⟨hin, hi2⟩ := mem_idx.1 hi.1
      have := (ear_iff S.rels inn i hok hin).2 hi
      unfold earAt at this
      rw [Bool.and_eq_true] at this
      rw [List.any_eq_false] at h3
      have hm : (i : Int) ∈ core := by
        rw [h2]
        unfold coreTo
        exact List.mem_map.2 ⟨i, hi.1, rfl⟩
      apply h3 (i : Int) hm
      unfold isEar
      rw [Int.toNat_natCast]
      exact this.2
    · rw [h2] at h1
      simpa [coreTo, idx] using h1

/-! ### From a tree to removals -/
theorem max_mem (d : Nat → Nat) : ∀ (L : List Nat), L ≠ [] → ∃ i ∈ L, ∀ k ∈ L, d k ≤ d i := by
  intro L
  induction L with
  | nil => intro h; exact absurd rfl h
  | cons x t ih =>
    intro _
    by_cases ht : t = []
    · subst ht; exact ⟨x, by simp, by simp⟩
    · obtain ⟨i, hi, hm⟩ := ih ht
      by_cases hx : d x ≤ d i
      · exact ⟨i, by simp [hi], fun k hk => by
          rcases List.mem_cons.1 hk with rfl | hk
          · exact hx
          · exact hm k hk⟩
      · refine ⟨x, by simp, fun k hk => ?_⟩
        rcases List.mem_cons.1 hk with rfl | hk
        · exact Nat.le_refl _
        · have := hm k hk; omega
theorem tree_left {e : Nat → Nat → Prop} {par : Nat → Int} {d : Nat → Nat} {c : Nat} (hc : par c = -1) : ∀ (m : Nat) (I : List Nat), I.length = m + 1 → I.Nodup → c ∈ I → (∀ i ∈ I, i ≠ c → ∃ p ∈ I, par i = (p : Int) ∧ d p < d i) →
    (∀ a, ∀ t ∈ I, ∀ t' ∈ I, TopP e par a t → TopP e par a t' → t = t') → ∃ J, Left e I J ∧ J.length = 1 := by
  intro m
  induction m with
  | zero =>
    intro I hl _ _ _ _
    obtain ⟨x, rfl⟩ := List.length_eq_one_iff.1 hl
    obtain ⟨J, hJ⟩ := left_exists e _ [x] rfl
    exact ⟨J, hJ, left_single hJ⟩
  | succ m ih =>
    intro I hl hn hcI hp hu
    have hne : I.erase c ≠ [] := by
      intro h
      have := List.length_erase_of_mem hcI
      rw [h, hl] at this
      simp at this
    obtain ⟨i, hi, hmax⟩ := max_mem d _ hne
    obtain ⟨hic, hiI⟩ := (hn.mem_erase_iff).1 hi
    obtain ⟨p, hpI, hpar, hd⟩ := hp i hiI hic
    have hleaf : ∀ k ∈ I, par k ≠ (i : Int) := by
      intro k hk he
      by_cases e1 : k = c
      · subst e1; omega
      · obtain ⟨q, _, hq, hdq⟩ := hp k hk e1
        have : q = i := by omega
        subst this
        have := hmax k ((hn.mem_erase_iff).2 ⟨e1, hk⟩)
        omega
    have hpi : p ≠ i := by rintro rfl; omega
    have hclimb : ∀ (f k : Nat), d k ≤ f → k ∈ I → ∀ a, e k a → ∃ t ∈ I, TopP e par a t ∧ (t = i → k = i) := by
      intro f
      induction f with
      | zero =>
        intro k hf hk a ha
        refine ⟨k, hk, ⟨ha, ?_⟩, id⟩
        rintro ⟨w, hw, _⟩
        by_cases e1 : k = c
        · subst e1; omega
        · obtain ⟨q, _, _, hdq⟩ := hp k hk e1; omega
      | succ f ihf =>
        intro k hf hk a ha
        by_cases hw : ∃ w : Nat, par k = (w : Int) ∧ e w a
        · obtain ⟨w, hw1, hw2⟩ := hw
          have e1 : k ≠ c := by rintro rfl; omega
          obtain ⟨q, hq, hq1, hdq⟩ := hp k hk e1
          have : q = w := by omega
          subst this
          obtain ⟨t, ht, h1, h2⟩ := ihf q (by omega) hq a hw2
          exact ⟨t, ht, h1, fun h => absurd hq1 (by rw [h2 h] at hq1; exact absurd hq1 (hleaf k hk))⟩
        · exact ⟨k, hk, ⟨ha, hw⟩, id⟩
    have hear : IsEar e I i := by
      refine ⟨hiI, p, hpI, hpi, fun k hk hki a hia hka => ?_⟩
      rcases Classical.em (e p a) with h | h
      · exact h
      · exfalso
        have htop : TopP e par a i := ⟨hia, by rintro ⟨w, hw1, hw2⟩; have : w = p := by omega
                                               subst this; exact h hw2⟩
        obtain ⟨t, ht, h1, h2⟩ := hclimb (d k) k (Nat.le_refl _) hk a hka
        exact hki (h2 (hu a t ht i hiI h1 htop))
    obtain ⟨J, hJ, hJ1⟩ := ih (I.erase i) (by rw [List.length_erase_of_mem hiI, hl]; rfl) (hn.erase i) ((hn.mem_erase_iff).2 ⟨Ne.symm hic, hcI⟩) (fun k hk hkc => by
        have hk' := List.mem_of_mem_erase hk
        obtain ⟨q, hq, hq1, hdq⟩ := hp k hk' hkc
        refine ⟨q, (hn.mem_erase_iff).2 ⟨?_, hq⟩, hq1, hdq⟩
        rintro rfl
        exact hleaf k hk' hq1) (fun a t ht t' ht' => hu a t (List.mem_of_mem_erase ht) t' (List.mem_of_mem_erase ht'))
    exact ⟨J, .step i hear hJ, hJ1⟩

/-- The depth of a relation in a tree. -/
def depN (par : List Int) : Nat → Int → Nat
  | 0, _ => 0
  | f + 1, a => if a < 0 then 0 else 1 + depN par f (par.getD a.toNat 0)
theorem depN_stay {par : List Int} : ∀ {f : Nat} {a : Int}, walkB par f a = true → depN par (f + 1) a = depN par f a := by
  intro f
  induction f with
  | zero => intro a h; simp [walkB] at h; simp [depN, h]
  | succ f ih =>
    intro a h
    by_cases ha : a < 0
    · simp [depN, ha]
    · simp only [walkB] at h
      rw [if_neg ha] at h
      have := ih h
      rw [show depN par (f + 1 + 1) a = if a < 0 then 0 else 1 + depN par (f + 1) (par.getD a.toNat 0) from rfl, show depN par (f + 1) a = if a < 0 then 0 else 1 + depN par f (par.getD a.toNat 0) from rfl, this]
theorem chk_left {S : Sch} {par : List Int} (h : chkB S par = true) : ∃ J, Left (eR S.rels) (List.range S.rels.length) J ∧ J.length = 1 := by
  unfold chkB at h
  simp only [Bool.and_eq_true, decide_eq_true_eq] at h
  obtain ⟨⟨⟨hc, hl⟩, ht⟩, htops⟩ := h
  simp only [List.all_eq_true, List.mem_range, decide_eq_true_eq] at htops
  obtain ⟨_, _, hr1, _, _, hrel, _⟩ := check_zero hc
  unfold treeB at ht
  simp only [Bool.and_eq_true, decide_eq_true_eq, rangeB, List.all_eq_true, List.mem_range] at ht
  obtain ⟨⟨hrg, hwalk⟩, hcount⟩ := ht
  have hp2 : ∀ j (hj : j < par.length), par.getD j 0 = par[j] := fun j hj => by simp [List.getD, hj]
  have hmap : par = (List.range par.length).map fun i => par.getD i 0 := by
    apply List.ext_getElem
    · simp
    · intro i h1 h2; simp [List.getD, h1]
  have hcnt : (List.range par.length).countP (fun i => par.getD i 0 == -1) = 1 := by
    rw [← hcount, List.count]
    conv => rhs; rw [hmap, List.countP_map]
    rfl
  obtain ⟨c, hcn, hc1, hcu⟩ := countP_uniq hcnt
  rw [beq_iff_eq] at hc1
  refine tree_left (par := fun i => par.getD i 0) (d := fun i => depN par par.length (i : Int)) hc1 (S.rels.length - 1) _ (by simp; omega) List.nodup_range (by simp; omega) ?_ ?_
  · intro i hi hic
    have hi' : i < par.length := by simp at hi; omega
    have hri := hrg par[i] (List.getElem_mem hi')
    rw [← hp2 i hi'] at hri
    have hne : par.getD i 0 ≠ -1 := fun e => hic (hcu i hi' (by rw [e]; rfl))
    obtain ⟨p, hp⟩ := Int.eq_ofNat_of_zero_le (show 0 ≤ par.getD i 0 by omega)
    refine ⟨p, by simp; omega, hp, ?_⟩
    obtain ⟨f, hf⟩ : ∃ f, par.length = f + 1 := ⟨par.length - 1, by omega⟩
    have hw := hwalk i hi'
    show depN par par.length (p : Int) < depN par par.length (i : Int)
    rw [hf] at hw ⊢
    rw [walkB_up hp] at hw
    rw [depN_stay hw]
    simp only [depN]
    rw [if_neg (by omega), Int.toNat_natCast, hp]
    omega
  · intro a t ht t' ht' h1 h2
    have ht3 : t < S.rels.length := by simpa using ht
    have ha : a < S.attrs.length := by
      have := (rel_zero ht3 (hrel t ht3)).2.1 (a : Int) (by have := h1.1; unfold eR at this; simpa [List.getD, ht3] using this)
      omega
    have := htops a ha
    rw [tops_eq] at this
    obtain ⟨x, _, _, hx⟩ := countP_uniq this
    rw [hx t ht3 (top_iff.2 h1), hx t' (by simpa using ht') (top_iff.2 h2)]
/-- No tree stands beside a proof that there is none. -/
theorem no_both {S : Sch} {par ord core : List Int} (hc : checkE S = 0) (h1 : chkB S par = true) (h2 : closedB S ord core = true) : False := by
  obtain ⟨J, hJ, hJ1⟩ := chk_left h1
  obtain ⟨J', hJ', hJ2⟩ := closed_left hc h2
  have := left_unique List.nodup_range hJ hJ'
  omega

end Go.Proofs.Ytopblgabadljdaa
