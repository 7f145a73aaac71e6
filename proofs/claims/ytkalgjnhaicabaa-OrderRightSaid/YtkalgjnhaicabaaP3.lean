/-
  The parents that outline.Of sets are those of the order of the permutation. Plain; no program in sight.
-/
import Derived.Test.YtkalgjnhaicabaaP2
namespace Go.Proofs.Ytkalgjnhaicabaa
set_option maxHeartbeats 1000000

def adjG (G : List B64) (a b : Nat) : Prop := (G.getD a 0#64).getLsbD b = true
theorem reach_path {G : List B64} {rest : B64} {a b : Nat} : Reach G rest a b ↔ Path (adjG G) (fun c => rest.getLsbD c = true) a b := by
  constructor
  · intro h
    induction h with
    | refl => exact .refl
    | step _ h1 h2 ih => exact .step ih h1 h2
  · intro h
    induction h with
    | refl => exact .refl
    | step _ h1 h2 ih => exact .step ih h1 h2
structure Comp (adj : Nat → Nat → Prop) (rest c : B64) : Prop where
  sub : ∀ i, c.getLsbD i = true → rest.getLsbD i = true
  clo : ∀ i j, c.getLsbD i = true → adj i j → rest.getLsbD j = true → c.getLsbD j = true
  con : ∀ i j, c.getLsbD i = true → c.getLsbD j = true → Path adj (fun x => c.getLsbD x = true) i j
  ne : ∃ i, c.getLsbD i = true
structure CompsI (adj : Nat → Nat → Prop) (rest : B64) (k : Nat) (cs : List B64) (R : B64) : Prop where
  all : ∀ c ∈ cs, Comp adj rest c
  cov : ∀ i, rest.getLsbD i = true ↔ R.getLsbD i = true ∨ ∃ c ∈ cs, c.getLsbD i = true
  dis : ∀ i, R.getLsbD i = true → ∀ c ∈ cs, ¬ c.getLsbD i = true
  pw : cs.Pairwise (fun c d => ∀ i, c.getLsbD i = true → ¬ d.getLsbD i = true)
  low : ∀ i, i < k → ¬ R.getLsbD i = true
theorem minus_bit (x y : B64) (i : Nat) : (x &&& ~~~y).getLsbD i = true ↔ x.getLsbD i = true ∧ ¬ y.getLsbD i = true := by
  rw [BitVec.getLsbD_and, BitVec.getLsbD_not]
  constructor
  · intro h; simp at h; exact ⟨h.1, by rw [h.2.2]; decide⟩
  · rintro ⟨h1, h2⟩
    have := bits_lt h1
    have h3 : y.getLsbD i = false := by simpa using h2
    rw [h1, h3, decide_eq_true this]; rfl
theorem comps_inv (G : List B64) (rest : B64) (hs : ∀ a b, adjG G a b → adjG G b a) : ∀ k, CompsI (adjG G) rest k (compsN G rest k).1 (compsN G rest k).2
  | 0 => ⟨by simp [compsN], by simp [compsN], by simp [compsN], by simp [compsN], by intro i h; omega⟩
  | k + 1 => by
    have h := comps_inv G rest hs k
    simp only [compsN]
    generalize compsN G rest k = cr at *
    obtain ⟨cs, R⟩ := cr
    simp only at h ⊢
    by_cases hk : R.getLsbD k = true
    · rw [if_pos hk]
      have hcR : ∀ i, (compB G R k).getLsbD i = true → R.getLsbD i = true := fun i hi => compB_sub hk hi
      have hkc : (compB G R k).getLsbD k = true := (compB_bit (bits_lt hk)).2 .refl
      have hclR : ∀ i j, (compB G R k).getLsbD i = true → adjG G i j → R.getLsbD j = true → (compB G R k).getLsbD j = true := fun i j h1 h2 h3 =>
        (compB_bit (bits_lt h3)).2 (.step (compB_reach h1) h2 h3)
      have hC : Comp (adjG G) rest (compB G R k) := by
        refine ⟨fun i hi => (h.cov i).2 (.inl (hcR i hi)), fun i j h1 h2 h3 => ?_, ?_, ⟨k, hkc⟩⟩
        · rcases (h.cov j).1 h3 with h4 | ⟨d, hd, h4⟩
          · exact hclR i j h1 h2 h4
          · exact absurd ((h.all d hd).clo j i h4 (hs i j h2) ((h.cov i).2 (.inl (hcR i h1)))) (h.dis i (hcR i h1) d hd)
        · have one : ∀ i, (compB G R k).getLsbD i = true → Path (adjG G) (fun x => (compB G R k).getLsbD x = true) k i := fun i hi =>
            ((reach_path.1 (compB_reach hi)).stay (inn := fun x => (compB G R k).getLsbD x = true) hkc hclR).1.mono fun c hc => hc.2
          exact fun i j hi hj => ((one i hi).symm hs hkc).trans (one j hj)
      refine ⟨fun c hc => ?_, fun i => ?_, fun i hi c hc => ?_, ?_, fun i hi hR => ?_⟩
      · rcases List.mem_append.1 hc with hc | hc
        · exact h.all c hc
        · rw [List.mem_singleton.1 hc]; exact hC
      · rw [h.cov i, minus_bit]
        constructor
        · rintro (h1 | ⟨c, hc, h1⟩)
          · by_cases h2 : (compB G R k).getLsbD i = true
            · exact .inr ⟨_, List.mem_append_right _ (List.mem_singleton.2 rfl), h2⟩
            · exact .inl ⟨h1, h2⟩
          · exact .inr ⟨c, List.mem_append_left _ hc, h1⟩
        · rintro (h1 | ⟨c, hc, h1⟩)
          · exact .inl h1.1
          · rcases List.mem_append.1 hc with hc | hc
            · exact .inr ⟨c, hc, h1⟩
            · rw [List.mem_singleton.1 hc] at h1; exact .inl (hcR i h1)
      · rw [minus_bit] at hi
        rcases List.mem_append.1 hc with hc | hc
        · exact h.dis i hi.1 c hc
        · rw [List.mem_singleton.1 hc]; exact hi.2
      · rw [List.pairwise_append]
        refine ⟨h.pw, by simp, fun c hc d hd i h1 h2 => ?_⟩
        rw [List.mem_singleton.1 hd] at h2
        exact h.dis i (hcR i h2) c hc h1
      · rw [minus_bit] at hR
        by_cases e : i = k
        · subst e; exact hR.2 hkc
        · exact h.low i (by omega) hR.1
    · rw [if_neg hk]
      refine ⟨h.all, h.cov, h.dis, h.pw, fun i hi => ?_⟩
      by_cases e : i = k
      · subst e; exact hk
      · exact h.low i (by omega)

def AncR (adj : Nat → Nat → Prop) (pos : Nat → Nat) (rest : B64) (a b : Nat) : Prop :=
  rest.getLsbD a = true ∧ rest.getLsbD b = true ∧ pos a < pos b ∧ Path adj (fun c => rest.getLsbD c = true ∧ pos a ≤ pos c) a b
def GoodR (adj : Nat → Nat → Prop) (pos : Nat → Nat) (rest : B64) (par : Int) (b : Nat) (x : Int) : Prop :=
  (x = par ∧ ∀ a, ¬ AncR adj pos rest a b) ∨ ∃ a : Nat, x = (a : Int) ∧ AncR adj pos rest a b ∧ ∀ a', AncR adj pos rest a' b → a' = a ∨ AncR adj pos rest a' a
theorem first_in {n : Nat} {q : List Int} (hq : q.Perm (upZ n)) {c : B64} (hc : ∀ i, c.getLsbD i = true → i < n) (hne : ∃ i, c.getLsbD i = true) :
    ∃ a : Nat, a < n ∧ q.find? (fun x => c.getLsbD x.toNat) = some (a : Int) ∧ c.getLsbD a = true ∧ ∀ i, c.getLsbD i = true → posQ q a ≤ posQ q i := by
  cases hf : q.find? (fun x => c.getLsbD x.toNat) with
  | none =>
    obtain ⟨i, hi⟩ := hne
    have := List.find?_eq_none.1 hf (i : Int) (hq.mem_iff.2 (upZ_mem.2 ⟨i, hc i hi, rfl⟩))
    simp at this
    rw [hi] at this; cases this
  | some x =>
    obtain ⟨h1, us, vs, h2, h3⟩ := List.find?_eq_some_iff_append.1 hf
    have hxm : x ∈ q := by rw [h2]; simp
    obtain ⟨a, ha, rfl⟩ := upZ_mem.1 (hq.mem_iff.1 hxm)
    have h1' : c.getLsbD a = true := by simpa using h1
    refine ⟨a, ha, rfl, h1', fun i hi => ?_⟩
    have no : ∀ j : Nat, c.getLsbD j = true → (j : Int) ∉ us := fun j hj hm => by
      have := h3 _ hm
      simp at this
      rw [hj] at this; cases this
    unfold posQ
    rw [h2, List.idxOf_append, List.idxOf_append, if_neg (no a h1'), if_neg (no i hi)]
    simp
section
variable {n : Nat} {G : List B64} {q : List Int} (hG : G.length = n) (hs : ∀ a b, adjG G a b → adjG G b a) (hq : q.Perm (upZ n))
theorem AncR.sub {adj : Nat → Nat → Prop} {pos : Nat → Nat} {r r' : B64} (h : ∀ i, r.getLsbD i = true → r'.getLsbD i = true) {a b : Nat} (k : AncR adj pos r a b) : AncR adj pos r' a b :=
  ⟨h _ k.1, h _ k.2.1, k.2.2.1, k.2.2.2.mono fun c hc => ⟨h _ hc.1, hc.2⟩⟩
include hs hq in
theorem placeC_good {f : Nat} (IH : ∀ rest par P, popB rest ≤ f → (∀ i, rest.getLsbD i = true → i < n) → P.length = n → ∀ b, b < n → (rest.getLsbD b = false → (placeF G q f rest par P).getD b 0 = P.getD b 0) ∧ (rest.getLsbD b = true → GoodR (adjG G) (posQ q) rest par b ((placeF G q f rest par P).getD b 0)))
    {rest c : B64} (hc : Comp (adjG G) rest c) (hpop : ∀ a, c.getLsbD a = true → popB (c &&& ~~~(BitVec.twoPow 64 a)) ≤ f) (hr : ∀ i, rest.getLsbD i = true → i < n) (par : Int) (P : List Int) (hP : P.length = n) (b : Nat) (hb : b < n) :
    (c.getLsbD b = false → (placeC q (placeF G q f) par P c).getD b 0 = P.getD b 0) ∧ (c.getLsbD b = true → GoodR (adjG G) (posQ q) rest par b ((placeC q (placeF G q f) par P c).getD b 0)) := by
  obtain ⟨a, ha, hfind, hca, hmin⟩ := first_in hq (fun i hi => hr i (hc.sub i hi)) hc.ne
  have e : placeC q (placeF G q f) par P c = placeF G q f (c &&& ~~~(BitVec.twoPow 64 a)) a (P.set a par) := by unfold placeC; rw [hfind]; rfl
  rw [e]
  have hbit : ∀ i, (c &&& ~~~(BitVec.twoPow 64 a)).getLsbD i = true ↔ c.getLsbD i = true ∧ a ≠ i := fun i => by rw [diff_bit, Bool.and_eq_true, decide_eq_true_iff]
  have hih := IH (c &&& ~~~(BitVec.twoPow 64 a)) a (P.set a par) (hpop a hca) (fun i hi => hr i (hc.sub i ((hbit i).1 hi).1)) (by simp [hP]) b hb
  have stay : ∀ a' b', AncR (adjG G) (posQ q) rest a' b' → c.getLsbD b' = true → c.getLsbD a' = true := by
    intro a' b' h1 h2
    have hpath := (h1.2.2.2.symm hs ⟨h1.1, Nat.le_refl _⟩)
    exact (hpath.stay (inn := fun x => c.getLsbD x = true) h2 (fun x y hx hxy hy => hc.clo x y hx hxy hy.1)).2
  have inside : ∀ a' b', AncR (adjG G) (posQ q) rest a' b' → c.getLsbD b' = true → a' ≠ a → AncR (adjG G) (posQ q) (c &&& ~~~(BitVec.twoPow 64 a)) a' b' := by
    intro a' b' h1 h2 h3
    have hca' := stay a' b' h1 h2
    have hpa : posQ q a < posQ q a' := Nat.lt_of_le_of_ne (hmin a' hca') (fun e => h3 (posQ_inj hq ha e).symm)
    have hpb := h1.2.2.1
    refine ⟨(hbit a').2 ⟨hca', fun e => h3 e.symm⟩, (hbit b').2 ⟨h2, fun e => by subst e; omega⟩, h1.2.2.1, ?_⟩
    refine ((h1.2.2.2.stay (inn := fun x => c.getLsbD x = true) hca' (fun x y hx hxy hy => hc.clo x y hx hxy hy.1)).1.mono fun x hx => ?_)
    exact ⟨(hbit x).2 ⟨hx.2, fun e => by have := hx.1.2; subst e; omega⟩, hx.1.2⟩
  have root : ∀ b', c.getLsbD b' = true → a ≠ b' → AncR (adjG G) (posQ q) rest a b' := fun b' h1 h2 =>
    ⟨hc.sub a hca, hc.sub b' h1, Nat.lt_of_le_of_ne (hmin b' h1) (fun e => h2 (posQ_inj hq ha e)), (hc.con a b' hca h1).mono fun x hx => ⟨hc.sub x hx, hmin x hx⟩⟩
  have hsub : ∀ i, (c &&& ~~~(BitVec.twoPow 64 a)).getLsbD i = true → rest.getLsbD i = true := fun i hi => hc.sub i ((hbit i).1 hi).1
  constructor
  · intro hcb
    have hab : a ≠ b := fun e => by subst e; rw [hca] at hcb; cases hcb
    have h1 : (c &&& ~~~(BitVec.twoPow 64 a)).getLsbD b = false := by
      cases h2 : (c &&& ~~~(BitVec.twoPow 64 a)).getLsbD b with
      | false => rfl
      | true => rw [((hbit b).1 h2).1] at hcb; cases hcb
    rw [hih.1 h1, List.getD, List.getD, List.getElem?_set_ne hab]
  · intro hcb
    by_cases hab : a = b
    · subst hab
      have h1 : (c &&& ~~~(BitVec.twoPow 64 a)).getLsbD a = false := by rw [diff_bit]; simp
      left
      refine ⟨by rw [hih.1 h1, List.getD]; simp [hP, ha], fun a' h2 => ?_⟩
      have h3 := stay a' a h2 hca
      have := hmin a' h3
      have := h2.2.2.1
      omega
    · have h1 : (c &&& ~~~(BitVec.twoPow 64 a)).getLsbD b = true := (hbit b).2 ⟨hcb, hab⟩
      right
      rcases hih.2 h1 with ⟨h2, h3⟩ | ⟨d, h2, h3, h4⟩
      · refine ⟨a, h2, root b hcb hab, fun a' h5 => ?_⟩
        by_cases e2 : a' = a
        · exact .inl e2
        · exact absurd (inside a' b h5 hcb e2) (h3 a')
      · refine ⟨d, h2, h3.sub hsub, fun a' h5 => ?_⟩
        have hd := (hbit d).1 h3.1
        by_cases e2 : a' = a
        · right; rw [e2]; exact root d hd.1 hd.2
        · rcases h4 a' (inside a' b h5 hcb e2) with h6 | h6
          · exact .inl h6
          · exact .inr (h6.sub hsub)
include hG hs hq in
theorem place_good : ∀ (f : Nat) (rest : B64) (par : Int) (P : List Int), popB rest ≤ f → (∀ i, rest.getLsbD i = true → i < n) → P.length = n → ∀ b, b < n → (rest.getLsbD b = false → (placeF G q f rest par P).getD b 0 = P.getD b 0) ∧ (rest.getLsbD b = true → GoodR (adjG G) (posQ q) rest par b ((placeF G q f rest par P).getD b 0)) := by
  intro f
  induction f with
  | zero =>
    intro rest par P hf hr hP b hb
    refine ⟨fun _ => rfl, fun h => ?_⟩
    rw [pop_zero (Nat.le_zero.1 hf) b] at h; cases h
  | succ f IH =>
    intro rest par P hf hr hP b hb
    have hI := comps_inv G rest hs G.length
    have hpop : ∀ c ∈ (compsN G rest G.length).1, ∀ a, c.getLsbD a = true → popB (c &&& ~~~(BitVec.twoPow 64 a)) ≤ f := fun c hc a ha => by have := pop_step hc ha; omega
    have fold : ∀ (cs : List B64) (P : List Int), (∀ c ∈ cs, Comp (adjG G) rest c) → (∀ c ∈ cs, ∀ a, c.getLsbD a = true → popB (c &&& ~~~(BitVec.twoPow 64 a)) ≤ f) → cs.Pairwise (fun c d => ∀ i, c.getLsbD i = true → ¬ d.getLsbD i = true) → P.length = n →
        ((∀ c ∈ cs, ¬ c.getLsbD b = true) → (cs.foldl (placeC q (placeF G q f) par) P).getD b 0 = P.getD b 0) ∧ (∀ c ∈ cs, c.getLsbD b = true → GoodR (adjG G) (posQ q) rest par b ((cs.foldl (placeC q (placeF G q f) par) P).getD b 0)) := by
      intro cs
      induction cs with
      | nil => intro P _ _ _ _; exact ⟨fun _ => rfl, fun c hc => by cases hc⟩
      | cons c cs ih =>
        intro P h1 h2 h3 h4
        have hl : (placeC q (placeF G q f) par P c).length = n := by
          unfold placeC; split
          · rw [place_len]; simp [h4]
          · exact h4
        have hg := placeC_good hs hq IH (h1 c (List.mem_cons_self ..)) (h2 c (List.mem_cons_self ..)) hr par P h4 b hb
        have hi := ih (placeC q (placeF G q f) par P c) (fun d hd => h1 d (List.mem_cons_of_mem _ hd)) (fun d hd => h2 d (List.mem_cons_of_mem _ hd)) (List.pairwise_cons.1 h3).2 hl
        rw [List.foldl_cons]
        constructor
        · intro h5
          rw [hi.1 (fun d hd => h5 d (List.mem_cons_of_mem _ hd))]
          exact hg.1 (by simpa using h5 c (List.mem_cons_self ..))
        · intro d hd h5
          rcases List.mem_cons.1 hd with rfl | hd
          · rw [hi.1 (fun e he => (List.pairwise_cons.1 h3).1 e he b h5)]
            exact hg.2 h5
          · exact hi.2 d hd h5
    have hfold := fold (compsN G rest G.length).1 P hI.all hpop hI.pw hP
    simp only [placeF]
    constructor
    · intro h1
      refine hfold.1 fun c hc h2 => ?_
      rw [(hI.all c hc).sub b h2] at h1; cases h1
    · intro h1
      rcases (hI.cov b).1 h1 with h2 | ⟨c, hc, h2⟩
      · exact absurd h2 (hI.low b (by omega))
      · exact hfold.2 c hc h2
include hG hs hq in
theorem ofL_ord (hn : n < 64) (hadj : ∀ a b, adjG G a b → b < n) : IsOrd n (adjG G) (posQ q) (ofL G q) := by
  have hall : ∀ i, (allB G.length).getLsbD i = true ↔ i < n := fun i => by rw [allB_bit (by omega), decide_eq_true_iff, hG]
  have anc : ∀ a b, a < n → b < n → (AncR (adjG G) (posQ q) (allB G.length) a b ↔ Anc (adjG G) (posQ q) a b) := by
    intro a b ha hb
    constructor
    · intro h; exact ⟨h.2.2.1, h.2.2.2.mono fun c hc => hc.2⟩
    · intro h
      refine ⟨(hall a).2 ha, (hall b).2 hb, h.1, ?_⟩
      exact (h.2.stay (inn := fun x => (allB G.length).getLsbD x = true) ((hall a).2 ha) (fun x y _ hxy _ => (hall y).2 (hadj x y hxy))).1.mono fun c hc => ⟨hc.2, hc.1⟩
  refine ⟨by rw [ofL_len, hG], fun b hb => ?_⟩
  have := (place_good hG hs hq 64 (allB G.length) (-1) (List.replicate G.length 0) (pop_le _) (fun i hi => (hall i).1 hi) (by simp [hG]) b hb).2 ((hall b).2 hb)
  rcases this with ⟨h1, h2⟩ | ⟨a, h1, h2, h3⟩
  · exact .inl ⟨h1, fun a ha h3 => h2 a ((anc a b ha hb).2 h3)⟩
  · have ha := (hall a).1 h2.1
    refine .inr ⟨a, ha, h1, (anc a b ha hb).1 h2, fun a' ha' h4 => ?_⟩
    rcases h3 a' ((anc a' b ha' hb).2 h4) with h5 | h5
    · exact .inl h5
    · exact .inr ((anc a' a ha' ha).1 h5)
end
theorem adjG_iff {S : Sch} (hV : Valid S) (a b : Nat) : adjG (gr S) a b ↔ adjS S a b := by
  unfold adjG adjS
  by_cases ha : a < S.attrs.length
  · rw [gr_bit hV ha, Bool.and_eq_true, decide_eq_true_iff]
  · rw [List.getD, List.getElem?_eq_none (by rw [gr_len]; omega)]
    constructor
    · intro h; simp at h
    · rintro ⟨_, h⟩; have := (link_lt hV h).1; omega
theorem adjG_eq {S : Sch} (hV : Valid S) : adjG (gr S) = adjS S := by
  funext a b; exact propext (adjG_iff hV a b)
theorem ordL_ord {S : Sch} (hV : Valid S) {q : List Int} (hq : q.Perm (upZ S.attrs.length)) : IsOrd S.attrs.length (adjS S) (posQ q) (ordL S q) := by
  have h1 := adjG_eq hV
  have h2 := hV.n2
  have := ofL_ord (G := gr S) (q := q) (n := S.attrs.length) (gr_len S) (by rw [h1]; exact adjS_symm S) hq (by omega) (by rw [h1]; intro a b h; have := (link_lt hV h.2).2; omega)
  rw [h1] at this
  exact this

end Go.Proofs.Ytkalgjnhaicabaa
