/-
  Orders of attributes: ancestors, the walk. Plain; no program in sight.
-/
import Derived.Test.YtkalgjnhaicabaaB4
namespace Go.Proofs.Ytkalgjnhaicabaa
set_option maxHeartbeats 1000000

theorem nodup_perm {α : Type} [DecidableEq α] {l r : List α} (hl : l.Nodup) (hr : r.Nodup) (h : ∀ a, a ∈ l ↔ a ∈ r) : l.Perm r := by
  rw [List.perm_iff_count]
  intro a
  rw [hl.count, hr.count]
  by_cases e : a ∈ l
  · rw [if_pos e, if_pos ((h a).1 e)]
  · rw [if_neg e, if_neg (fun x => e ((h a).2 x))]
theorem upZ_mem {n : Nat} {x : Int} : x ∈ upZ n ↔ ∃ a : Nat, a < n ∧ x = (a : Int) := by
  unfold upZ
  rw [List.mem_map]
  constructor
  · rintro ⟨a, ha, rfl⟩; exact ⟨a, List.mem_range.1 ha, rfl⟩
  · rintro ⟨a, ha, rfl⟩; exact ⟨a, List.mem_range.2 ha, rfl⟩
theorem upZ_nodup (n : Nat) : (upZ n).Nodup := by
  unfold upZ; exact List.Pairwise.map _ (fun a b h e => h (Int.ofNat.inj e)) List.nodup_range

structure UpOk (P : List Int) : Prop where
  rng : ∀ p ∈ P, -1 ≤ p ∧ p < P.length
  up : ∀ v, v < P.length → (abv P (v : Int)).isSome = true

theorem upF_mono {P : List Int} : ∀ {k : Nat} {x : Int} {l : List Int}, upF P k x = some l → upF P (k + 1) x = some l
  | 0, x, l, h => by
    simp only [upF] at h ⊢
    split at h
    · rename_i hx; rw [if_pos hx]; exact h
    · cases h
  | k + 1, x, l, h => by
    simp only [upF] at h
    unfold upF
    split at h
    · rename_i hx; rw [if_pos hx]; exact h
    · rename_i hx
      rw [if_neg hx]
      cases e : upF P k (P.getD x.toNat 0) with
      | none => rw [e] at h; cases h
      | some l' =>
        rw [e] at h
        rw [upF_mono e]; exact h
section
variable {P : List Int} (hP : UpOk P)
include hP
theorem par_cases {v : Nat} (hv : v < P.length) : P[v] = -1 ∨ ∃ a : Nat, a < P.length ∧ P[v] = (a : Int) := by
  have := hP.rng _ (List.getElem_mem hv)
  by_cases h : P[v] = -1
  · exact .inl h
  · obtain ⟨a, ha⟩ := Int.eq_ofNat_of_zero_le (show 0 ≤ P[v] by omega)
    exact .inr ⟨a, by omega, ha⟩
omit hP in
theorem abv_eq {v : Nat} (hv : v < P.length) : abv P v = upF P P.length P[v] := by simp [abv, List.getD, hv]
omit hP in
theorem abvL_root {v : Nat} (hv : v < P.length) (h : P[v] = -1) : abvL P v = [] := by
  unfold abvL
  rw [abv_eq hv, h, upF_neg (by decide)]; rfl
theorem abvL_cons {v a : Nat} (hv : v < P.length) (ha : a < P.length) (h : P[v] = (a : Int)) : abvL P v = (a : Int) :: abvL P a := by
  have hs := hP.up v hv
  have e := abv_eq hv
  rw [h] at e
  obtain ⟨k, hk⟩ : ∃ k, P.length = k + 1 := ⟨P.length - 1, by omega⟩
  rw [hk, upF_nat ha] at e
  cases e2 : upF P k P[a] with
  | none => rw [e, e2] at hs; cases hs
  | some l =>
    have e3 : abv P a = some l := by rw [abv_eq ha, hk]; exact upF_mono e2
    unfold abvL
    rw [e, e2, e3]; rfl
theorem up_ind {motive : Nat → Prop} (root : ∀ v (hv : v < P.length), P[v] = -1 → abvL P v = [] → motive v)
    (step : ∀ v (hv : v < P.length) a (_ : a < P.length), P[v] = (a : Int) → abvL P v = (a : Int) :: abvL P a → motive a → motive v) : ∀ v, v < P.length → motive v := by
  have key : ∀ m v, v < P.length → (abvL P v).length ≤ m → motive v := by
    intro m
    induction m with
    | zero =>
      intro v hv hl
      rcases par_cases hP hv with h | ⟨a, ha, h⟩
      · exact root v hv h (abvL_root hv h)
      · rw [abvL_cons hP hv ha h] at hl; simp at hl
    | succ m ih =>
      intro v hv hl
      rcases par_cases hP hv with h | ⟨a, ha, h⟩
      · exact root v hv h (abvL_root hv h)
      · have e := abvL_cons hP hv ha h
        rw [e] at hl
        exact step v hv a ha h e (ih a ha (by simpa using hl))
  exact fun v hv => key _ v hv (Nat.le_refl _)
theorem abvL_mem : ∀ v, v < P.length → ∀ x ∈ abvL P v, ∃ a : Nat, a < P.length ∧ x = (a : Int) ∧ ∃ pre, abvL P v = pre ++ (a : Int) :: abvL P a := by
  refine up_ind hP (fun v hv h e x hx => ?_) (fun v hv a ha h e ih x hx => ?_)
  · rw [e] at hx; cases hx
  · rw [e] at hx ⊢
    rcases List.mem_cons.1 hx with rfl | hx
    · exact ⟨a, ha, rfl, [], rfl⟩
    · obtain ⟨b, hb, rfl, pre, e2⟩ := ih x hx
      exact ⟨b, hb, rfl, (a : Int) :: pre, by rw [e2]; rfl⟩
theorem hi_len {v a : Nat} (hv : v < P.length) (h : (a : Int) ∈ abvL P v) : a < P.length ∧ (abvL P a).length < (abvL P v).length := by
  obtain ⟨b, hb, e, pre, e2⟩ := abvL_mem hP v hv _ h
  have : a = b := by omega
  subst this
  refine ⟨hb, ?_⟩
  rw [e2]; simp; omega
theorem hi_irr {v : Nat} (hv : v < P.length) : (v : Int) ∉ abvL P v := fun h => Nat.lt_irrefl _ (hi_len hP hv h).2
theorem hi_trans {a b c : Nat} (hc : c < P.length) (h1 : (a : Int) ∈ abvL P b) (h2 : (b : Int) ∈ abvL P c) : (a : Int) ∈ abvL P c := by
  obtain ⟨b', hb, e, pre, e2⟩ := abvL_mem hP c hc _ h2
  have : b = b' := by omega
  subst this
  rw [e2]
  exact List.mem_append_right _ (List.mem_cons_of_mem _ h1)
theorem abvL_nodup : ∀ v, v < P.length → ((v : Int) :: abvL P v).Nodup := by
  refine up_ind hP (fun v hv h e => by rw [e]; simp) (fun v hv a ha h e ih => ?_)
  rw [List.nodup_cons]
  refine ⟨hi_irr hP hv, ?_⟩
  rw [e]; exact ih
/-- The parents of a variable and of its ancestors. -/
theorem chain_par : ∀ v, v < P.length → ((v : Int) :: abvL P v).map (fun a => P.getD a.toNat 0) = abvL P v ++ [-1] := by
  refine up_ind hP (fun v hv h e => ?_) (fun v hv a ha h e ih => ?_)
  · rw [e]; simp [List.getD, hv, h]
  · rw [e, List.map_cons, ih]
    simp [List.getD, hv, h]
theorem chain_sub {v : Nat} (hv : v < P.length) {x : Int} (h : x ∈ (v : Int) :: abvL P v) : ∃ a : Nat, a < P.length ∧ x = (a : Int) := by
  rcases List.mem_cons.1 h with rfl | h
  · exact ⟨v, hv, rfl⟩
  · obtain ⟨a, ha, e, _⟩ := abvL_mem hP v hv x h
    exact ⟨a, ha, e⟩
theorem upm_nodup {v : Nat} (hv : v < P.length) : (abvL P v ++ [-1]).Nodup := by
  rw [List.nodup_append]
  refine ⟨(List.nodup_cons.1 (abvL_nodup hP v hv)).2, by simp, ?_⟩
  intro a ha b hb
  rw [List.mem_singleton.1 hb]
  obtain ⟨c, _, rfl⟩ := chain_sub hP hv (List.mem_cons_of_mem _ ha)
  omega

omit hP in
theorem sum_ite {α : Type} (p : α → Bool) : ∀ l : List α, (l.map fun a => if p a = true then 1 else 0).sum = l.countP p
  | [] => rfl
  | a :: l => by rw [List.map_cons, List.sum_cons, sum_ite p l, List.countP_cons]; omega
theorem chain_filter {v : Nat} (hv : v < P.length) : ((upZ P.length).filter fun a => decide (a ∈ (v : Int) :: abvL P v)).Perm ((v : Int) :: abvL P v) := by
  refine nodup_perm (List.Pairwise.sublist List.filter_sublist (upZ_nodup _)) (abvL_nodup hP v hv) fun a => ?_
  rw [List.mem_filter, decide_eq_true_iff, upZ_mem]
  exact ⟨fun h => h.2, fun h => ⟨chain_sub hP hv h, h⟩⟩
/-- How often a number stands in the walk. -/
theorem walk_count : ∀ (f : Nat) (v : Int), (∀ a (ha : a < P.length), P[a] = v → P.length + 1 ≤ (abvL P a).length + f) → ∀ x, x < P.length → (walkF P f v).count (x : Int) = if v ∈ abvL P x ++ [-1] then 1 else 0 := by
  intro f
  induction f with
  | zero =>
    intro v hf x hx
    rw [if_neg]
    · rfl
    · intro hm
      rw [← chain_par hP x hx] at hm
      obtain ⟨a, ha, e⟩ := List.mem_map.1 hm
      obtain ⟨b, hb, rfl⟩ := chain_sub hP hx ha
      have h1 := hf b hb (by simpa [List.getD, hb] using e)
      have := abvL_len P (b : Int)
      omega
  | succ f ih =>
    intro v hf x hx
    have term : ∀ a ∈ upZ P.length, (List.count (x : Int) ∘ fun a => if P.getD a.toNat 0 = v then a :: walkF P f a else []) a = if (decide (P.getD a.toNat 0 = v) && decide (a ∈ (x : Int) :: abvL P x)) = true then 1 else 0 := by
      intro a ha
      obtain ⟨b, hb, rfl⟩ := upZ_mem.1 ha
      have hgd : P.getD (b : Int).toNat 0 = P[b] := by simp [List.getD, hb]
      simp only [Function.comp, hgd]
      by_cases e : P[b] = v
      · rw [if_pos e, List.count_cons, ih (b : Int) ?_ x hx]
        · simp only [e, decide_true, Bool.true_and, decide_eq_true_eq, List.mem_cons, List.mem_append, List.mem_singleton]
          by_cases e1 : b = x
          · subst e1
            rw [if_neg]
            · simp
            · rintro (h | h)
              · exact hi_irr hP hb h
              · simp at h
          · have e2 : ¬ (b : Int) = x := by omega
            have e3 : ¬ (b : Int) = -1 := by omega
            have e4 : ((b : Int) == (x : Int)) = false := by simpa using e2
            simp [e2, e3, e4]
        · intro c hc hcb
          have h1 := hf b hb e
          rw [abvL_cons hP hc hb hcb]
          simp; omega
      · rw [if_neg e]; simp [e]
    unfold walkF
    rw [List.count_flatMap, List.map_congr_left term, sum_ite, ← List.countP_filter, (chain_filter hP hx).countP_eq]
    have e1 : List.countP (fun a => decide (P.getD a.toNat 0 = v)) ((x : Int) :: abvL P x) = List.count v (((x : Int) :: abvL P x).map fun a => P.getD a.toNat 0) := by
      rw [List.count, List.countP_map]
      refine List.countP_congr fun a _ => ?_
      simp
    rw [e1, chain_par hP x hx, (upm_nodup hP hx).count]
omit hP in
theorem walk_rng : ∀ (f : Nat) (v : Int), ∀ x ∈ walkF P f v, ∃ a : Nat, a < P.length ∧ x = (a : Int)
  | 0, v, x, hx => by simp [walkF] at hx
  | f + 1, v, x, hx => by
    simp only [walkF] at hx
    obtain ⟨a, ha, hx⟩ := List.mem_flatMap.1 hx
    split at hx
    · rcases List.mem_cons.1 hx with rfl | hx
      · exact upZ_mem.1 ha
      · exact walk_rng f a x hx
    · cases hx
def walkL (P : List Int) : List Int := walkF P (P.length + 1) (-1)
theorem walk_perm : (walkL P).Perm (upZ P.length) := by
  rw [List.perm_iff_count]
  intro x
  rw [(upZ_nodup _).count]
  by_cases h : x ∈ upZ P.length
  · rw [if_pos h]
    obtain ⟨a, ha, rfl⟩ := upZ_mem.1 h
    unfold walkL
    rw [walk_count hP _ _ (fun b hb e => by omega) a ha, if_pos (by simp)]
  · rw [if_neg h, List.count_eq_zero]
    exact fun hx => h (upZ_mem.2 (walk_rng _ _ x hx))
end

/-- In w each one's parent is v or stands before it. -/
def Bef (P : List Int) (v : Int) (w : List Int) : Prop := ∀ pre x post, w = pre ++ x :: post → P.getD x.toNat 0 = v ∨ P.getD x.toNat 0 ∈ pre
theorem Bef.nil {P : List Int} {v : Int} : Bef P v [] := fun pre x post h => by simp at h
theorem Bef.append {P : List Int} {v : Int} {w1 w2 : List Int} (h1 : Bef P v w1) (h2 : Bef P v w2) : Bef P v (w1 ++ w2) := by
  intro pre x post e
  rcases List.append_eq_append_iff.1 e with ⟨us, e1, e2⟩ | ⟨bs, e1, e2⟩
  · rcases h2 us x post e2 with h | h
    · exact .inl h
    · right; rw [e1]; exact List.mem_append_right _ h
  · cases bs with
    | nil =>
      simp at e1 e2
      rcases h2 [] x post (by simpa using e2.symm) with h | h
      · exact .inl h
      · cases h
    | cons b bs =>
      simp at e2
      exact h1 pre x bs (by rw [e1, ← e2.1])
theorem Bef.cons {P : List Int} {v a : Int} {w : List Int} (ha : P.getD a.toNat 0 = v) (h : Bef P a w) : Bef P v (a :: w) := by
  intro pre x post e
  cases pre with
  | nil => simp at e; rw [← e.1]; exact .inl ha
  | cons b pre =>
    simp at e
    rcases h pre x post e.2 with h | h
    · right; rw [h, e.1]; exact List.mem_cons_self ..
    · right; exact List.mem_cons_of_mem _ h
theorem Bef.flat {P : List Int} {v : Int} {f : Int → List Int} : ∀ {l : List Int}, (∀ a ∈ l, Bef P v (f a)) → Bef P v (l.flatMap f)
  | [], _ => Bef.nil
  | a :: l, h => by
    rw [List.flatMap_cons]
    exact (h a (List.mem_cons_self ..)).append (Bef.flat fun b hb => h b (List.mem_cons_of_mem _ hb))
theorem walk_bef (P : List Int) : ∀ (f : Nat) (v : Int), Bef P v (walkF P f v)
  | 0, _ => Bef.nil
  | f + 1, v => by
    unfold walkF
    refine Bef.flat fun a _ => ?_
    split
    · rename_i h; exact Bef.cons h (walk_bef P f a)
    · exact Bef.nil
theorem walk_at {P : List Int} (hP : UpOk P) {i : Nat} (hi : i < (walkL P).length) : (walkL P)[i] ∉ (walkL P).take i ∧ (P.getD (walkL P)[i].toNat 0 = -1 ∨ P.getD (walkL P)[i].toNat 0 ∈ (walkL P).take i) := by
  have e : walkL P = (walkL P).take i ++ (walkL P)[i] :: (walkL P).drop (i + 1) := by
    conv => lhs; rw [← List.take_append_drop i (walkL P)]
    rw [List.drop_eq_getElem_cons hi]
  refine ⟨?_, walk_bef P _ _ _ _ _ e⟩
  have hnd : (walkL P).Nodup := (walk_perm hP).nodup_iff.2 (upZ_nodup _)
  intro hm
  obtain ⟨j, hj, e2⟩ := List.mem_take_iff_getElem.1 hm
  exact List.pairwise_iff_getElem.1 hnd j i (by omega) hi (by omega) e2

/-! Homes and keys. -/
theorem sort_mem {l : List Int} {x : Int} : x ∈ sortI l ↔ x ∈ l := (sortI_perm l).mem_iff
theorem key_mem {S : Sch} {P : List Int} {v x : Int} : x ∈ keyL S P v ↔ x ∈ abvL P v ∧ ∃ b ∈ belowL P v, linkB S x b = true := by
  unfold keyL keyU
  rw [sort_mem, List.mem_filter, List.any_eq_true]
theorem below_mem {P : List Int} {v b : Int} : b ∈ belowL P v ↔ (∃ a : Nat, a < P.length ∧ b = (a : Int)) ∧ (b = v ∨ v ∈ abvL P b) := by
  have e : belowL P v = (upZ P.length).filter fun a => a == v || hiB P v a := rfl
  rw [e, List.mem_filter, upZ_mem]
  simp [hiB]
theorem link_of {S : Sch} {r : ByteArray × List Int} (hr : r ∈ S.rels) {a b : Int} (ha : a ∈ r.2) (hb : b ∈ r.2) : linkB S a b = true := by
  unfold linkB; rw [List.any_eq_true]; exact ⟨r, hr, by simp [ha, hb]⟩
theorem right_pair {P l : List Int} (h : rightB P l = true) {a b : Int} (ha : a ∈ l) (hb : b ∈ l) : a = b ∨ a ∈ abvL P b ∨ b ∈ abvL P a := by
  unfold rightB at h
  have := List.all_eq_true.1 (List.all_eq_true.1 h a ha) b hb
  simp [hiB, or_assoc] at this
  exact this
theorem home_fold {P l : List Int} (hP : UpOk P) (hr : ∀ a ∈ l, 0 ≤ a ∧ a < P.length) (hl : rightB P l = true) : ∀ (k : List Int) (done : List Int) (h : Int), (∀ a ∈ k, a ∈ l) → (∀ a ∈ done, a ∈ l) → h ∈ l → (∀ a ∈ done, a = h ∨ a ∈ abvL P h) →
    k.foldl (homeF P) h ∈ l ∧ ∀ a, a ∈ done ∨ a ∈ k → a = k.foldl (homeF P) h ∨ a ∈ abvL P (k.foldl (homeF P) h)
  | [], done, h, _, _, hh, hd => ⟨hh, fun a ha => hd a (ha.resolve_right (by simp))⟩
  | x :: k, done, h, hk, hdn, hh, hd => by
    have hx := hk x (List.mem_cons_self ..)
    have nat : ∀ {a : Int}, a ∈ l → ∃ n : Nat, n < P.length ∧ a = (n : Int) := fun {a} ha => by
      obtain ⟨n, hn⟩ := Int.eq_ofNat_of_zero_le (hr a ha).1
      have := (hr a ha).2
      exact ⟨n, by omega, hn⟩
    have step : homeF P h x ∈ l ∧ ∀ a ∈ done ++ [x], a = homeF P h x ∨ a ∈ abvL P (homeF P h x) := by
      unfold homeF
      by_cases e : hiB P h x = true
      · rw [if_pos e]
        have e' : h ∈ abvL P x := by simpa [hiB] using e
        refine ⟨hx, fun a ha => ?_⟩
        rcases List.mem_append.1 ha with had | ha
        · right
          rcases hd a had with rfl | h3
          · exact e'
          · obtain ⟨n, _, rfl⟩ := nat hh
            obtain ⟨m, hm, rfl⟩ := nat hx
            obtain ⟨p, _, rfl⟩ := nat (hdn a had)
            exact hi_trans hP hm h3 e'
        · left; exact List.mem_singleton.1 ha
      · rw [if_neg e]
        have e' : h ∉ abvL P x := by simpa [hiB] using e
        refine ⟨hh, fun a ha => ?_⟩
        rcases List.mem_append.1 ha with ha | ha
        · exact hd a ha
        · rw [List.mem_singleton.1 ha]
          rcases right_pair hl hx hh with h1 | h1 | h1
          · exact .inl h1
          · exact .inr h1
          · exact absurd h1 e'
    have := home_fold hP hr hl k (done ++ [x]) (homeF P h x) (fun a ha => hk a (List.mem_cons_of_mem _ ha)) (fun a ha => by
      rcases List.mem_append.1 ha with h | h
      · exact hdn a h
      · rw [List.mem_singleton.1 h]; exact hx) step.1 step.2
    rw [List.foldl_cons]
    refine ⟨this.1, fun a ha => this.2 a ?_⟩
    rcases ha with ha | ha
    · exact .inl (List.mem_append_left _ ha)
    · rcases List.mem_cons.1 ha with rfl | ha
      · exact .inl (by simp)
      · exact .inr ha
theorem home_all {P l : List Int} (hP : UpOk P) (hne : l ≠ []) (hr : ∀ a ∈ l, 0 ≤ a ∧ a < P.length) (hl : rightB P l = true) : homeL P l ∈ l ∧ ∀ a ∈ l, a = homeL P l ∨ a ∈ abvL P (homeL P l) := by
  cases l with
  | nil => exact absurd rfl hne
  | cons x l =>
    have := home_fold hP hr hl (x :: l) [] x (fun a h => h) (by simp) (List.mem_cons_self ..) (by simp)
    unfold homeL
    exact ⟨this.1, fun a ha => this.2 a (.inr ha)⟩
theorem OrdOk.upOk {S : Sch} {P : List Int} (h : OrdOk S P) : UpOk P := ⟨h.rng, h.up⟩
/-- The attributes of a relation are its home and attributes of the home's key. -/
theorem home_key {S : Sch} {P : List Int} (h : OrdOk S P) {r : ByteArray × List Int} (hr : r ∈ S.rels) : homeL P r.2 ∈ r.2 ∧ ∀ a ∈ r.2, a = homeL P r.2 ∨ a ∈ keyL S P (homeL P r.2) := by
  have hrng : ∀ a ∈ r.2, 0 ≤ a ∧ a < P.length := by rw [h.len]; exact h.val.rng r hr
  obtain ⟨h1, h2⟩ := home_all h.upOk (h.val.ne r hr) hrng (h.rt r hr)
  refine ⟨h1, fun a ha => ?_⟩
  rcases h2 a ha with h3 | h3
  · exact .inl h3
  · right
    rw [key_mem]
    refine ⟨h3, homeL P r.2, ?_, link_of hr ha h1⟩
    rw [below_mem]
    obtain ⟨n, hn⟩ := Int.eq_ofNat_of_zero_le (hrng _ h1).1
    exact ⟨⟨n, by have := (hrng _ h1).2; omega, hn⟩, .inl rfl⟩
/-- The key of a variable is a part of its parent's key and the parent. -/
theorem key_up {S : Sch} {P : List Int} (h : UpOk P) {v p : Nat} (hv : v < P.length) (hp : p < P.length) (e : P[v] = (p : Int)) {x : Int} (hx : x ∈ keyL S P v) : (x = p ∨ x ∈ keyL S P p) ∧ x ∉ belowL P v := by
  rw [key_mem] at hx
  obtain ⟨h1, b, hb, hl⟩ := hx
  have hc := abvL_cons h hv hp e
  refine ⟨?_, ?_⟩
  · rw [hc] at h1
    rcases List.mem_cons.1 h1 with h1 | h1
    · exact .inl h1
    · right
      rw [key_mem]
      refine ⟨h1, b, ?_, hl⟩
      rw [below_mem] at hb ⊢
      refine ⟨hb.1, .inr ?_⟩
      obtain ⟨⟨n, hn, rfl⟩, hb2⟩ := hb
      have hpv : (p : Int) ∈ abvL P v := by rw [hc]; exact List.mem_cons_self ..
      rcases hb2 with hb2 | hb2
      · rw [hb2]; exact hpv
      · exact hi_trans h hn hpv hb2
  · rw [below_mem]
    rintro ⟨⟨n, hn, rfl⟩, h2⟩
    rcases h2 with h2 | h2
    · rw [h2] at h1; exact hi_irr h hv h1
    · exact hi_irr h hv (hi_trans h hv h2 h1)

end Go.Proofs.Ytkalgjnhaicabaa
