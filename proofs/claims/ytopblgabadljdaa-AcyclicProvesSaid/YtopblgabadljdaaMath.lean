/-
  Plain law: how many relations are left when ears are removed does not depend on the order. No program in sight.
-/
import Init
namespace Go.Proofs.Ytopblgabadljdaa

/-- What i and k share, w has. -/
def Tri (e : Nat → Nat → Prop) (i k w : Nat) : Prop := ∀ a, e i a → e k a → e w a
/-- w is a witness of i in the set I. -/
def IsWit (e : Nat → Nat → Prop) (I : List Nat) (i w : Nat) : Prop := w ∈ I ∧ w ≠ i ∧ ∀ k, k ∈ I → k ≠ i → Tri e i k w
def IsEar (e : Nat → Nat → Prop) (I : List Nat) (i : Nat) : Prop := i ∈ I ∧ ∃ w, IsWit e I i w

/-- J is what is left of I behind at most n removals, and has no ear. -/
def LeftN (e : Nat → Nat → Prop) : Nat → List Nat → List Nat → Prop
  | 0, I, J => (∀ i, ¬ IsEar e I i) ∧ J = I
  | n + 1, I, J => ((∀ i, ¬ IsEar e I i) ∧ J = I) ∨ ∃ i, IsEar e I i ∧ LeftN e n (I.erase i) J
def Left (e : Nat → Nat → Prop) (I J : List Nat) : Prop := ∃ n, LeftN e n I J
theorem Left.stop {e : Nat → Nat → Prop} {I : List Nat} (h : ∀ i, ¬ IsEar e I i) : Left e I I := ⟨0, h, rfl⟩
theorem Left.step {e : Nat → Nat → Prop} {I J : List Nat} (i : Nat) (h : IsEar e I i) (h' : Left e (I.erase i) J) : Left e I J := by
  obtain ⟨n, hn⟩ := h'
  exact ⟨n + 1, .inr ⟨i, h, hn⟩⟩
theorem left_cases {e : Nat → Nat → Prop} {I J : List Nat} (h : Left e I J) : ((∀ i, ¬ IsEar e I i) ∧ J = I) ∨ ∃ i, IsEar e I i ∧ Left e (I.erase i) J := by
  obtain ⟨n, hn⟩ := h
  cases n with
  | zero => exact .inl hn
  | succ n =>
    rcases hn with hn | ⟨i, h1, h2⟩
    · exact .inl hn
    · exact .inr ⟨i, h1, n, h2⟩

theorem left_exists (e : Nat → Nat → Prop) : ∀ (n : Nat) (I : List Nat), I.length = n → ∃ J, Left e I J := by
  intro n
  induction n with
  | zero =>
    intro I h
    have : I = [] := List.eq_nil_of_length_eq_zero h
    subst this
    exact ⟨[], .stop fun i hi => by simp [IsEar] at hi⟩
  | succ n ih =>
    intro I h
    by_cases hs : ∃ i, IsEar e I i
    · obtain ⟨i, hi⟩ := hs
      obtain ⟨J, hJ⟩ := ih (I.erase i) (by rw [List.length_erase_of_mem hi.1]; omega)
      exact ⟨J, .step i hi hJ⟩
    · exact ⟨I, .stop fun i hi => hs ⟨i, hi⟩⟩

/-- f carries the structure on I over to e'. -/
structure Iso (e e' : Nat → Nat → Prop) (I : List Nat) (f : Nat → Nat) : Prop where
  inj : ∀ i ∈ I, ∀ k ∈ I, f i = f k → i = k
  tri : ∀ i ∈ I, ∀ k ∈ I, ∀ w ∈ I, (i ≠ k → i ≠ w → k ≠ w → (Tri e i k w ↔ Tri e' (f i) (f k) (f w)))

theorem iso_wit {e e' : Nat → Nat → Prop} {I : List Nat} {f : Nat → Nat} (h : Iso e e' I f) {i w : Nat} (hi : i ∈ I) (hw : w ∈ I) : IsWit e I i w ↔ IsWit e' (I.map f) (f i) (f w) := by
  constructor
  · rintro ⟨_, h2, h3⟩
    refine ⟨List.mem_map_of_mem hw, fun e => h2 (h.inj w hw i hi e), ?_⟩
    intro k' hk' hne
    obtain ⟨k, hk, rfl⟩ := List.mem_map.1 hk'
    have hki : k ≠ i := fun e => hne (by rw [e])
    by_cases hkw : k = w
    · subst hkw; exact fun a _ h => h
    · exact (h.tri i hi k hk w hw (Ne.symm hki) (Ne.symm h2) hkw).1 (h3 k hk hki)
  · rintro ⟨_, h2, h3⟩
    have h2' : w ≠ i := fun e => h2 (by rw [e])
    refine ⟨hw, h2', fun k hk hki => ?_⟩
    by_cases hkw : k = w
    · subst hkw; exact fun a _ h => h
    · exact (h.tri i hi k hk w hw (Ne.symm hki) (Ne.symm h2') hkw).2 (h3 (f k) (List.mem_map_of_mem hk) fun e => hki (h.inj k hk i hi e))
theorem iso_ear {e e' : Nat → Nat → Prop} {I : List Nat} {f : Nat → Nat} (h : Iso e e' I f) {i : Nat} (hi : i ∈ I) : IsEar e I i ↔ IsEar e' (I.map f) (f i) := by
  constructor
  · rintro ⟨_, w, hw⟩
    exact ⟨List.mem_map_of_mem hi, f w, (iso_wit h hi hw.1).1 hw⟩
  · rintro ⟨_, w', hw'⟩
    obtain ⟨w, hw, rfl⟩ := List.mem_map.1 hw'.1
    exact ⟨hi, w, (iso_wit h hi hw).2 hw'⟩
theorem map_erase_inj {f : Nat → Nat} {I : List Nat} {i : Nat} (hi : i ∈ I) (h : ∀ a ∈ I, ∀ b ∈ I, f a = f b → a = b) : (I.map f).erase (f i) = (I.erase i).map f := by
  induction I with
  | nil => simp at hi
  | cons x t ih =>
    by_cases e : x = i
    · subst e; simp
    · have hne : f x ≠ f i := fun e' => e (h x (by simp) i hi e')
      have hi' : i ∈ t := by simpa [Ne.symm e] using hi
      rw [List.map_cons, List.erase_cons_tail (by simpa using hne), List.erase_cons_tail (by simpa using e), List.map_cons, ih hi' fun a ha b hb => h a (by simp [ha]) b (by simp [hb])]
theorem iso_erase {e e' : Nat → Nat → Prop} {I : List Nat} {f : Nat → Nat} (h : Iso e e' I f) (i : Nat) : Iso e e' (I.erase i) f :=
  ⟨fun a ha b hb => h.inj a (List.mem_of_mem_erase ha) b (List.mem_of_mem_erase hb),
   fun a ha b hb c hc => h.tri a (List.mem_of_mem_erase ha) b (List.mem_of_mem_erase hb) c (List.mem_of_mem_erase hc)⟩
theorem iso_id (e : Nat → Nat → Prop) (I : List Nat) : Iso e e I id := ⟨fun _ _ _ _ h => h, fun _ _ _ _ _ _ _ _ _ => Iff.rfl⟩

/-- A witness stays one. -/
theorem wit_erase {e : Nat → Nat → Prop} {I : List Nat} (hn : I.Nodup) {i j w : Nat} (h : IsWit e I j w) (hwi : w ≠ i) : IsWit e (I.erase i) j w :=
  ⟨(List.Nodup.mem_erase_iff hn).2 ⟨hwi, h.1⟩, h.2.1, fun k hk => h.2.2 k (List.mem_of_mem_erase hk)⟩
/-- If i is the witness of j, and w that of i, then w is one of j when i is gone. -/
theorem wit_through {e : Nat → Nat → Prop} {I : List Nat} (hn : I.Nodup) {i j w : Nat} (hj : j ∈ I) (hji : j ≠ i) (h : IsWit e I j i) (h' : IsWit e I i w) (hwj : w ≠ j) : IsWit e (I.erase i) j w := by
  refine ⟨(List.Nodup.mem_erase_iff hn).2 ⟨h'.2.1, h'.1⟩, hwj, fun k hk hkj a ha hka => ?_⟩
  have hai : e i a := h.2.2 k (List.mem_of_mem_erase hk) hkj a ha hka
  exact h'.2.2 j hj hji a hai ha

theorem ear_perm {e : Nat → Nat → Prop} {I I' : List Nat} (h : I.Perm I') {i : Nat} (hi : IsEar e I i) : IsEar e I' i := by
  obtain ⟨h1, w, h2, h3, h4⟩ := hi
  exact ⟨h.mem_iff.1 h1, w, h.mem_iff.1 h2, h3, fun k hk => h4 k (h.mem_iff.2 hk)⟩
theorem left_perm {e : Nat → Nat → Prop} {I J I' : List Nat} (h : Left e I J) (hp : I.Perm I') : ∃ J', Left e I' J' ∧ J.Perm J' := by
  obtain ⟨n, hn⟩ := h
  induction n generalizing I I' with
  | zero => exact ⟨I', .stop fun i hi => hn.1 i (ear_perm hp.symm hi), by rw [hn.2]; exact hp⟩
  | succ n ih =>
    rcases hn with hn | ⟨i, h1, h2⟩
    · exact ⟨I', .stop fun i hi => hn.1 i (ear_perm hp.symm hi), by rw [hn.2]; exact hp⟩
    · obtain ⟨J', h3, h4⟩ := ih (hp.erase i) h2
      exact ⟨J', .step i (ear_perm hp h1) h3, h4⟩

theorem left_same : ∀ (n : Nat) (e e' : Nat → Nat → Prop) (I : List Nat) (f : Nat → Nat) (J J' : List Nat), I.length = n → I.Nodup → Iso e e' I f → Left e I J → Left e' (I.map f) J' → J.length = J'.length := by
  intro n
  induction n with
  | zero =>
    intro e e' I f J J' hl hn hiso h h'
    have : I = [] := List.eq_nil_of_length_eq_zero hl
    subst this
    rcases left_cases h with ⟨_, rfl⟩ | ⟨i, hi, _⟩
    · rcases left_cases h' with ⟨_, rfl⟩ | ⟨i, hi, _⟩
      · rfl
      · simp [IsEar] at hi
    · simp [IsEar] at hi
  | succ n ih =>
    intro e e' I f J J' hl hn hiso h h'
    rcases left_cases h with ⟨hno, rfl⟩ | ⟨i, hi, hJ⟩
    · rcases left_cases h' with ⟨_, rfl⟩ | ⟨i', hi', _⟩
      · simp
      · obtain ⟨i, hi, rfl⟩ := List.mem_map.1 hi'.1
        exact absurd ((iso_ear hiso hi).2 hi') (hno i)
    · rcases left_cases h' with ⟨hno, _⟩ | ⟨j', hj', hJ'⟩
      · exact absurd ((iso_ear hiso hi.1).1 hi) (hno (f i))
      · obtain ⟨j, hjI, rfl⟩ := List.mem_map.1 hj'.1
        have hj : IsEar e I j := (iso_ear hiso hjI).2 hj'
        rw [map_erase_inj hjI hiso.inj] at hJ'
        have hli : (I.erase i).length = n := by rw [List.length_erase_of_mem hi.1]; omega
        have hlj : (I.erase j).length = n := by rw [List.length_erase_of_mem hjI]; omega
        by_cases hij : i = j
        · subst hij
          exact ih e e' _ f J J' hli (hn.erase i) (iso_erase hiso i) hJ hJ'
        · obtain ⟨wi, hwi⟩ := hi.2
          obtain ⟨wj, hwj⟩ := hj.2
          by_cases hmut : (∃ w, IsWit e I i w ∧ w ≠ j) ∨ (∃ w, IsWit e I j w ∧ w ≠ i)
          · -- both can be removed one behind the other
            have hji : IsEar e (I.erase i) j := by
              refine ⟨(List.Nodup.mem_erase_iff hn).2 ⟨Ne.symm hij, hjI⟩, ?_⟩
              by_cases hc : wj = i
              · subst hc
                rcases hmut with ⟨w, hw, hwne⟩ | ⟨w, hw, hwne⟩
                · exact ⟨w, wit_through hn hjI (Ne.symm hij) hwj hw hwne⟩
                · exact ⟨w, wit_erase hn hw hwne⟩
              · exact ⟨wj, wit_erase hn hwj hc⟩
            have hiJ : IsEar e (I.erase j) i := by
              refine ⟨(List.Nodup.mem_erase_iff hn).2 ⟨hij, hi.1⟩, ?_⟩
              by_cases hc : wi = j
              · subst hc
                rcases hmut with ⟨w, hw, hwne⟩ | ⟨w, hw, hwne⟩
                · exact ⟨w, wit_erase hn hw hwne⟩
                · exact ⟨w, wit_through hn hi.1 hij hwi hw hwne⟩
              · exact ⟨wi, wit_erase hn hwi hc⟩
            obtain ⟨K, hK⟩ := left_exists e _ ((I.erase i).erase j) rfl
            have h1 := ih e e (I.erase i) id J K hli (hn.erase i) (iso_id e _) hJ (by simpa using Left.step j hji hK)
            have hK' : Left e (I.erase j) K := .step i hiJ (by rw [List.erase_comm]; exact hK)
            have h2 := ih e e' (I.erase j) f K J' hlj (hn.erase j) (iso_erase hiso j) hK' hJ'
            omega
          · -- each is the other's only witness: the same structure is left
            have e1 : wi = j := by
              rcases Classical.em (wi = j) with h | h
              · exact h
              · exact absurd (.inl ⟨wi, hwi, h⟩) hmut
            have e2 : wj = i := by
              rcases Classical.em (wj = i) with h | h
              · exact h
              · exact absurd (.inr ⟨wj, hwj, h⟩) hmut
            subst e1
            rw [e2] at hwj
            let g : Nat → Nat := fun k => if k = wi then i else k
            have hg : ∀ k, k ∈ I.erase i → g k ∈ I := fun k hk => by
              show (if k = wi then i else k) ∈ I
              split
              · exact hi.1
              · exact List.mem_of_mem_erase hk
            have hmem : ∀ k, k ∈ I.erase i → k ≠ i := fun k hk => ((List.Nodup.mem_erase_iff hn).1 hk).1
            have same : ∀ k ∈ I, k ≠ i → k ≠ wi → ∀ a, e k a → (e i a ↔ e wi a) := fun k hk h1 h2 a hka =>
              ⟨fun h => hwi.2.2 k hk h1 a h hka, fun h => hwj.2.2 k hk h2 a h hka⟩
            have htri : Iso e e' (I.erase i) (fun k => f (g k)) := by
              refine ⟨fun a ha b hb hab => ?_, fun a ha b hb c hc h1 h2 h3 => ?_⟩
              · have := hiso.inj _ (hg a ha) _ (hg b hb) hab
                simp only [g] at this
                have ha' := hmem a ha
                have hb' := hmem b hb
                split at this <;> split at this <;> omega
              · have ga := hg a ha
                have gb := hg b hb
                have gc := hg c hc
                have na := hmem a ha
                have nb := hmem b hb
                have nc := hmem c hc
                have d1 : g a ≠ g b := by simp only [g]; split <;> split <;> omega
                have d2 : g a ≠ g c := by simp only [g]; split <;> split <;> omega
                have d3 : g b ≠ g c := by simp only [g]; split <;> split <;> omega
                rw [← hiso.tri _ ga _ gb _ gc d1 d2 d3]
                have ma := List.mem_of_mem_erase ha
                have mb := List.mem_of_mem_erase hb
                have mc := List.mem_of_mem_erase hc
                simp only [g]
                by_cases ea : a = wi
                · have eb : b ≠ wi := by omega
                  have ec : c ≠ wi := by omega
                  rw [if_pos ea, if_neg eb, if_neg ec, ea]
                  constructor
                  · intro h x hx1 hx2; exact h x ((same b mb nb eb x hx2).1 hx1) hx2
                  · intro h x hx1 hx2; exact h x ((same b mb nb eb x hx2).2 hx1) hx2
                · by_cases eb : b = wi
                  · have ec : c ≠ wi := by omega
                    rw [if_neg ea, if_pos eb, if_neg ec, eb]
                    constructor
                    · intro h x hx1 hx2; exact h x hx1 ((same a ma na ea x hx1).1 hx2)
                    · intro h x hx1 hx2; exact h x hx1 ((same a ma na ea x hx1).2 hx2)
                  · by_cases ec : c = wi
                    · rw [if_neg ea, if_neg eb, if_pos ec, ec]
                      constructor
                      · intro h x hx1 hx2; exact (same a ma na ea x hx1).2 (h x hx1 hx2)
                      · intro h x hx1 hx2; exact (same a ma na ea x hx1).1 (h x hx1 hx2)
                    · rw [if_neg ea, if_neg eb, if_neg ec]
            have hwI : wi ∈ I := hwi.1
            have hwi' : wi ∈ I.erase i := (List.Nodup.mem_erase_iff hn).2 ⟨hwi.2.1, hwI⟩
            have hiw' : i ∈ I.erase wi := (List.Nodup.mem_erase_iff hn).2 ⟨hij, hi.1⟩
            have p1 : (I.erase i).Perm (wi :: (I.erase i).erase wi) := List.perm_cons_erase hwi'
            have p2 : (I.erase wi).Perm (i :: (I.erase i).erase wi) := by
              have := List.perm_cons_erase hiw'
              rwa [List.erase_comm] at this
            have hR : ((I.erase i).erase wi).map g = (I.erase i).erase wi := by
              rw [List.map_congr_left (g := id)]
              · simp
              · intro k hk
                have := ((List.Nodup.mem_erase_iff (hn.erase i)).1 hk).1
                simp [g, this]
            have p3 : ((I.erase i).map g).Perm (I.erase wi) := by
              refine (p1.map g).trans ?_
              rw [List.map_cons, hR, show g wi = i by simp [g]]
              exact p2.symm
            have p4 : ((I.erase wi).map f).Perm ((I.erase i).map fun k => f (g k)) := by
              have := (p3.map f).symm
              rwa [List.map_map] at this
            obtain ⟨J'', hJ'', hp⟩ := left_perm hJ' p4
            rw [hp.length_eq]
            exact ih e e' (I.erase i) (fun k => f (g k)) J J'' hli (hn.erase i) htri hJ hJ''

end Go.Proofs.Ytopblgabadljdaa
