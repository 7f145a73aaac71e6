/-
  The order of a permutation: what its parents are, and that it is right. Plain; no program in sight.
-/
import Derived.Test.YtkalgjnhaicabaaP1
namespace Go.Proofs.Ytkalgjnhaicabaa
set_option maxHeartbeats 1000000

/-- A way along adj whose steps enter ok numbers only. -/
inductive Path (adj : Nat → Nat → Prop) (ok : Nat → Prop) (a : Nat) : Nat → Prop
  | refl : Path adj ok a a
  | step {b c : Nat} : Path adj ok a b → adj b c → ok c → Path adj ok a c
section
variable {adj : Nat → Nat → Prop} {ok ok' : Nat → Prop}
theorem Path.trans {a b c : Nat} (h1 : Path adj ok a b) (h2 : Path adj ok b c) : Path adj ok a c := by
  induction h2 with
  | refl => exact h1
  | step _ h3 h4 ih => exact .step ih h3 h4
theorem Path.one {a b : Nat} (h : adj a b) (hb : ok b) : Path adj ok a b := .step .refl h hb
theorem Path.mono {a b : Nat} (h : Path adj ok a b) (hm : ∀ c, ok c → ok' c) : Path adj ok' a b := by
  induction h with
  | refl => exact .refl
  | step _ h3 h4 ih => exact .step ih h3 (hm _ h4)
theorem Path.fin {a b : Nat} (h : Path adj ok a b) (ha : ok a) : ok b := by
  cases h with
  | refl => exact ha
  | step _ _ h => exact h
theorem Path.symm (hs : ∀ a b, adj a b → adj b a) {a b : Nat} (h : Path adj ok a b) (ha : ok a) : Path adj ok b a := by
  induction h with
  | refl => exact .refl
  | step h1 h3 h4 ih => exact (Path.one (hs _ _ h3) (h1.fin ha)).trans ih
/-- A way that can't leave a closed set stays in it. -/
theorem Path.stay {inn : Nat → Prop} {a b : Nat} (h : Path adj ok a b) (ha : inn a) (hc : ∀ x y, inn x → adj x y → ok y → inn y) : Path adj (fun c => ok c ∧ inn c) a b ∧ inn b := by
  induction h with
  | refl => exact ⟨.refl, ha⟩
  | step _ h3 h4 ih => exact ⟨.step ih.1 h3 ⟨h4, hc _ _ ih.2 h3 h4⟩, hc _ _ ih.2 h3 h4⟩
end

/-- a comes before b, and is connected with it when what comes before a is gone. -/
def Anc (adj : Nat → Nat → Prop) (pos : Nat → Nat) (a b : Nat) : Prop := pos a < pos b ∧ Path adj (fun c => pos a ≤ pos c) a b
section
variable {adj : Nat → Nat → Prop} {pos : Nat → Nat} (hs : ∀ a b, adj a b → adj b a)
theorem Anc.trans {a b c : Nat} (h1 : Anc adj pos a b) (h2 : Anc adj pos b c) : Anc adj pos a c := by
  have h3 := h1.1
  exact ⟨Nat.lt_trans h1.1 h2.1, h1.2.trans (h2.2.mono fun d hd => by omega)⟩
include hs in
theorem Anc.lin {a b c : Nat} (h1 : Anc adj pos a c) (h2 : Anc adj pos b c) (h : pos a < pos b) : Anc adj pos a b :=
  ⟨h, h1.2.trans ((h2.2.symm hs (Nat.le_refl _)).mono fun d hd => by omega)⟩
end

/-- The parents of the order of a permutation. -/
structure IsOrd (n : Nat) (adj : Nat → Nat → Prop) (pos : Nat → Nat) (P : List Int) : Prop where
  len : P.length = n
  par : ∀ b, b < n → (P.getD b 0 = -1 ∧ ∀ a, a < n → ¬ Anc adj pos a b) ∨ (∃ a : Nat, a < n ∧ P.getD b 0 = (a : Int) ∧ Anc adj pos a b ∧ ∀ a', a' < n → Anc adj pos a' b → a' = a ∨ Anc adj pos a' a)
section
variable {n : Nat} {adj : Nat → Nat → Prop} {pos : Nat → Nat} {P : List Int}
theorem IsOrd.upF (h : IsOrd n adj pos P) : ∀ (m b k : Nat), b < n → pos b ≤ m → pos b ≤ k → (upF P k (P.getD b 0)).isSome = true := by
  intro m
  induction m with
  | zero =>
    intro b k hb hm hk
    rcases h.par b hb with ⟨h1, _⟩ | ⟨a, ha, h1, h2, _⟩
    · rw [h1, upF_neg (by decide)]; rfl
    · have := h2.1; omega
  | succ m ih =>
    intro b k hb hm hk
    rcases h.par b hb with ⟨h1, _⟩ | ⟨a, ha, h1, h2, _⟩
    · rw [h1, upF_neg (by decide)]; rfl
    · have := h2.1
      obtain ⟨k', rfl⟩ : ∃ k', k = k' + 1 := ⟨k - 1, by omega⟩
      rw [h1, upF_nat (by rw [h.len]; exact ha), Option.isSome_map]
      have := ih a k' ha (by omega) (by omega)
      rwa [getD_eq (by rw [h.len]; exact ha)] at this
theorem IsOrd.upOk (h : IsOrd n adj pos P) (hp : ∀ b, b < n → pos b < n) : UpOk P := by
  refine ⟨fun p hp => ?_, fun v hv => ?_⟩
  · obtain ⟨b, hb, e⟩ := List.getElem_of_mem hp
    rw [← getD_eq hb 0] at e
    have hb' : b < n := by rw [← h.len]; exact hb
    have := h.len
    rcases h.par b hb' with ⟨h1, _⟩ | ⟨a, ha, h1, _, _⟩ <;> omega
  · have hv' : v < n := by rw [← h.len]; exact hv
    have := h.upF (pos v) v P.length hv' (Nat.le_refl _) (by rw [h.len]; exact Nat.le_of_lt (hp v hv'))
    rwa [abv_eq hv, ← getD_eq hv 0]
theorem IsOrd.mem (h : IsOrd n adj pos P) (hp : ∀ b, b < n → pos b < n) : ∀ b, b < P.length → ∀ a : Nat, (a : Int) ∈ abvL P b ↔ a < n ∧ Anc adj pos a b := by
  have hl := h.len
  refine up_ind (h.upOk hp) (fun v hv hr e a => ?_) (fun v hv p hpl hr e ih a => ?_)
  · rw [e]
    rcases h.par v (by omega) with ⟨_, h2⟩ | ⟨c, hc, h1, _, _⟩
    · exact ⟨fun hh => absurd hh List.not_mem_nil, fun hh => absurd hh.2 (h2 a hh.1)⟩
    · rw [getD_eq hv, hr] at h1; omega
  · rw [e, List.mem_cons, ih a]
    rcases h.par v (by omega) with ⟨h1, _⟩ | ⟨c, hc, h1, h2, h3⟩
    · rw [getD_eq hv, hr] at h1; omega
    · rw [getD_eq hv, hr] at h1
      have : c = p := by omega
      subst this
      constructor
      · rintro (h4 | h4)
        · have : a = c := by omega
          subst this; exact ⟨hc, h2⟩
        · exact ⟨h4.1, h4.2.trans h2⟩
      · rintro ⟨h4, h5⟩
        rcases h3 a h4 h5 with rfl | h6
        · exact .inl rfl
        · exact .inr ⟨h4, h6⟩
theorem IsOrd.unique {P' : List Int} (h : IsOrd n adj pos P) (h' : IsOrd n adj pos P') : P = P' := by
  apply List.ext_getElem
  · rw [h.len, h'.len]
  · intro b h1 h2
    have hb : b < n := by rw [← h.len]; exact h1
    rw [← getD_eq h1 0, ← getD_eq h2 0]
    rcases h.par b hb with ⟨e1, f1⟩ | ⟨a, ha, e1, g1, k1⟩
    · rcases h'.par b hb with ⟨e2, _⟩ | ⟨a', ha', e2, g2, _⟩
      · rw [e1, e2]
      · exact absurd g2 (f1 a' ha')
    · rcases h'.par b hb with ⟨e2, f2⟩ | ⟨a', ha', e2, g2, k2⟩
      · exact absurd g1 (f2 a ha)
      · rw [e1, e2]
        rcases k1 a' ha' g2 with e3 | e3
        · rw [e3]
        · rcases k2 a ha g1 with e4 | e4
          · rw [e4]
          · exact absurd (Nat.lt_trans e3.1 e4.1) (Nat.lt_irrefl _)
end

/-- The graph of a schema. -/
def adjS (S : Sch) (a b : Nat) : Prop := a ≠ b ∧ linkB S a b = true
theorem link_symm {S : Sch} {a b : Int} (h : linkB S a b = true) : linkB S b a = true := by
  unfold linkB at h ⊢
  obtain ⟨r, hr, h2⟩ := List.any_eq_true.1 h
  rw [List.any_eq_true]
  exact ⟨r, hr, by rw [Bool.and_comm]; exact h2⟩
theorem adjS_symm (S : Sch) : ∀ a b, adjS S a b → adjS S b a := fun _ _ h => ⟨fun e => h.1 e.symm, link_symm h.2⟩
def posQ (q : List Int) (a : Nat) : Nat := q.idxOf (a : Int)
theorem posQ_lt {n : Nat} {q : List Int} (hq : q.Perm (upZ n)) {a : Nat} (ha : a < n) : posQ q a < n := by
  have : q.idxOf (a : Int) < q.length := List.idxOf_lt_length_of_mem (hq.mem_iff.2 (upZ_mem.2 ⟨a, ha, rfl⟩))
  rwa [hq.length_eq, upZ_len] at this
theorem posQ_inj {n : Nat} {q : List Int} (hq : q.Perm (upZ n)) {a b : Nat} (ha : a < n) (h : posQ q a = posQ q b) : a = b := by
  have h1 : q.idxOf (a : Int) < q.length := List.idxOf_lt_length_of_mem (hq.mem_iff.2 (upZ_mem.2 ⟨a, ha, rfl⟩))
  have h2 : q.idxOf (b : Int) < q.length := by unfold posQ at h; rw [← h]; exact h1
  have e1 : q[q.idxOf (a : Int)] = (a : Int) := List.getElem_idxOf h1
  have e2 : q[q.idxOf (b : Int)] = (b : Int) := List.getElem_idxOf h2
  have e3 : q[q.idxOf (a : Int)] = q[q.idxOf (b : Int)] := by unfold posQ at h; congr 1
  rw [e1, e2] at e3
  omega
/-- The order of a permutation is right. -/
theorem IsOrd.ok {S : Sch} (hV : Valid S) {q : List Int} (hq : q.Perm (upZ S.attrs.length)) {P : List Int} (h : IsOrd S.attrs.length (adjS S) (posQ q) P) : OrdOk S P := by
  have hp : ∀ b, b < S.attrs.length → posQ q b < S.attrs.length := fun b hb => posQ_lt hq hb
  have hu := h.upOk hp
  refine ⟨hV, h.len, hu.rng, hu.up, fun r hr => ?_⟩
  unfold rightB
  rw [List.all_eq_true]
  intro a ha
  rw [List.all_eq_true]
  intro b hb
  obtain ⟨x, hx⟩ := Int.eq_ofNat_of_zero_le (hV.rng r hr a ha).1
  obtain ⟨y, hy⟩ := Int.eq_ofNat_of_zero_le (hV.rng r hr b hb).1
  have hxl : x < S.attrs.length := by have := (hV.rng r hr a ha).2; omega
  have hyl : y < S.attrs.length := by have := (hV.rng r hr b hb).2; omega
  by_cases e : a = b
  · simp [e]
  · have hxy : x ≠ y := by omega
    have hadj : adjS S x y := ⟨hxy, by rw [← hx, ← hy]; exact link_of hr ha hb⟩
    have hl := h.len
    rcases Nat.lt_or_gt_of_ne (fun e => hxy (posQ_inj hq hxl e)) with h1 | h1
    · have : (x : Int) ∈ abvL P y := (h.mem hp y (by omega) x).2 ⟨hxl, h1, .one hadj (Nat.le_of_lt h1)⟩
      rw [hx, hy]; simp [hiB, this]
    · have : (y : Int) ∈ abvL P x := (h.mem hp x (by omega) y).2 ⟨hyl, h1, .one (adjS_symm S _ _ hadj) (Nat.le_of_lt h1)⟩
      rw [hx, hy]; simp [hiB, this]

end Go.Proofs.Ytkalgjnhaicabaa
