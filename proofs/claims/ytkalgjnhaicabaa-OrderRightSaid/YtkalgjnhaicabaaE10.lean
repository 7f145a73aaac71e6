/-
  Our own step logic: calls that are handed places of the caller's. No statement of the program is proved here.
-/
import Derived.Test.YtkalgjnhaicabaaE9
namespace Go.Proofs.Ytkalgjnhaicabaa
open Go.RowKit

mutual
def V.ren (ρ : Nat → Nat) : V → V
  | .pv p => .pv p
  | .ptr i o => .ptr (ρ i) o
  | .osl i s k => .osl (ρ i) s k
  | .gsl i s k => .gsl (ρ i) s k
  | .map i => .map (ρ i)
  | .agg cs => .agg (V.renL ρ cs)
  | .tup cs => .tup (V.renL ρ cs)
  | .fn f a b => .fn f (V.renL ρ a) (V.renL ρ b)
def V.renL (ρ : Nat → Nat) : List V → List V
  | [] => []
  | c :: cs => V.ren ρ c :: V.renL ρ cs
end
def Ob.ren (ρ : Nat → Nat) : Ob → Ob
  | .cells t cs => .cells t cs
  | .mix t cs => .mix t (V.renL ρ cs)
  | .gro t cs => .gro t cs
theorem Ob.real_ren (ρ : Nat → Nat) : ∀ o : Ob, (o.ren ρ).real = o.real
  | .cells _ _ => rfl
  | .mix _ _ => rfl
  | .gro _ [] => rfl
  | .gro _ (_ :: _) => rfl
theorem liveO_ren (ρ : Nat → Nat) : ∀ o : Option Ob, liveO (o.map (Ob.ren ρ)) = liveO o
  | none => rfl
  | some o => Ob.real_ren ρ o

mutual
/-- Only places with a name that p holds of. -/
def V.all (p : Nat → Bool) : V → Bool
  | .pv _ => true
  | .ptr i _ => p i
  | .osl i _ _ => p i
  | .gsl i _ _ => p i
  | .map i => p i
  | .agg cs => V.allL p cs
  | .tup cs => V.allL p cs
  | .fn _ a b => V.allL p a && V.allL p b
def V.allL (p : Nat → Bool) : List V → Bool
  | [] => true
  | c :: cs => V.all p c && V.allL p cs
end
def Ob.all (p : Nat → Bool) : Ob → Bool
  | .cells _ _ => true
  | .mix _ cs => V.allL p cs
  | .gro _ _ => true

section
variable {w : World} {R : Nat → Prop}
mutual
/-- From one numbering to another. -/
theorem Rel.ren {m m' : Gm} {av av' : Av} (ρ : Nat → Nat) (p : Nat → Bool) (hm : ∀ i x, p i = true → m' (ρ i) = some x → m i = some x) (ha : ∀ i, p i = true → av i = false → av' (ρ i) = false) :
    ∀ (v : V) (u : Value), v.all p = true → Rel w m av R v u → Rel w m' av' R (v.ren ρ) u
  | .pv q, u, _, h => by simpa only [Rel, V.ren] using h
  | .ptr i o, _, hp, h => by simp only [V.all] at hp; simp only [Rel, V.ren] at h ⊢; exact ⟨ha i hp h.1, fun b N e => h.2 b N (hm i _ hp e)⟩
  | .osl i s k, _, hp, h => by simp only [V.all] at hp; simp only [Rel, V.ren] at h ⊢; exact ⟨ha i hp h.1, fun b N e => h.2 b N (hm i _ hp e)⟩
  | .gsl i s k, _, hp, h => by
    simp only [V.all] at hp
    simp only [Rel, V.ren] at h ⊢
    obtain ⟨h0, A, c, e, h1, h2, h3, h4⟩ := h
    exact ⟨ha i hp h0, A, c, e, h1, h2, fun hn => ⟨(h3 hn).1, (h3 hn).2.1, sub_none (fun x => hm i x hp) (h3 hn).2.2⟩, fun hk b N e => h4 hk b N (hm i _ hp e)⟩
  | .map i, _, hp, h => by simp only [V.all] at hp; simp only [Rel, V.ren] at h ⊢; exact ⟨ha i hp h.1, fun b N e => h.2 b N (hm i _ hp e)⟩
  | .agg cs, _, hp, h => by
    simp only [V.all] at hp
    simp only [Rel, V.ren] at h ⊢
    obtain ⟨us, e, h⟩ := h
    exact ⟨us, e, RelL.ren ρ p hm ha cs us hp h⟩
  | .tup cs, _, hp, h => by
    simp only [V.all] at hp
    simp only [Rel, V.ren] at h ⊢
    obtain ⟨us, e, h⟩ := h
    exact ⟨us, e, RelL.ren ρ p hm ha cs us hp h⟩
  | .fn f a b, _, hp, h => by
    simp only [V.all, Bool.and_eq_true] at hp
    simp only [Rel, V.ren] at h ⊢
    obtain ⟨us, vs, e, h1, h2⟩ := h
    exact ⟨us, vs, e, RelL.ren ρ p hm ha a us hp.1 h1, RelL.ren ρ p hm ha b vs hp.2 h2⟩
theorem RelL.ren {m m' : Gm} {av av' : Av} (ρ : Nat → Nat) (p : Nat → Bool) (hm : ∀ i x, p i = true → m' (ρ i) = some x → m i = some x) (ha : ∀ i, p i = true → av i = false → av' (ρ i) = false) :
    ∀ (vs : List V) (us : List Value), V.allL p vs = true → RelL w m av R vs us → RelL w m' av' R (V.renL ρ vs) us
  | [], _, _, h => by simpa only [RelL, V.renL] using h
  | c :: cs, _, hp, h => by
    simp only [V.allL, Bool.and_eq_true] at hp
    simp only [RelL, V.renL] at h ⊢
    obtain ⟨u, us, e, h1, h2⟩ := h
    exact ⟨u, us, e, Rel.ren ρ p hm ha c u hp.1 h1, RelL.ren ρ p hm ha cs us hp.2 h2⟩
end
mutual
/-- And back. -/
theorem Rel.unren {m m' : Gm} {av av' : Av} (ρ : Nat → Nat) (p : Nat → Bool) (hm : ∀ i x, p i = true → m i = some x → m' (ρ i) = some x) (ha : ∀ i, p i = true → av i = false) :
    ∀ (v : V) (u : Value), v.all p = true → Rel w m' av' R (v.ren ρ) u → Rel w m av R v u
  | .pv q, u, _, h => by simpa only [Rel, V.ren] using h
  | .ptr i o, _, hp, h => by simp only [V.all] at hp; simp only [Rel, V.ren] at h ⊢; exact ⟨ha i hp, fun b N e => h.2 b N (hm i _ hp e)⟩
  | .osl i s k, _, hp, h => by simp only [V.all] at hp; simp only [Rel, V.ren] at h ⊢; exact ⟨ha i hp, fun b N e => h.2 b N (hm i _ hp e)⟩
  | .gsl i s k, _, hp, h => by
    simp only [V.all] at hp
    simp only [Rel, V.ren] at h ⊢
    obtain ⟨h0, A, c, e, h1, h2, h3, h4⟩ := h
    exact ⟨ha i hp, A, c, e, h1, h2, fun hn => ⟨(h3 hn).1, (h3 hn).2.1, sub_none (fun x => hm i x hp) (h3 hn).2.2⟩, fun hk b N e => h4 hk b N (hm i _ hp e)⟩
  | .map i, _, hp, h => by simp only [V.all] at hp; simp only [Rel, V.ren] at h ⊢; exact ⟨ha i hp, fun b N e => h.2 b N (hm i _ hp e)⟩
  | .agg cs, _, hp, h => by
    simp only [V.all] at hp
    simp only [Rel, V.ren] at h ⊢
    obtain ⟨us, e, h⟩ := h
    exact ⟨us, e, RelL.unren ρ p hm ha cs us hp h⟩
  | .tup cs, _, hp, h => by
    simp only [V.all] at hp
    simp only [Rel, V.ren] at h ⊢
    obtain ⟨us, e, h⟩ := h
    exact ⟨us, e, RelL.unren ρ p hm ha cs us hp h⟩
  | .fn f a b, _, hp, h => by
    simp only [V.all, Bool.and_eq_true] at hp
    simp only [Rel, V.ren] at h ⊢
    obtain ⟨us, vs, e, h1, h2⟩ := h
    exact ⟨us, vs, e, RelL.unren ρ p hm ha a us hp.1 h1, RelL.unren ρ p hm ha b vs hp.2 h2⟩
theorem RelL.unren {m m' : Gm} {av av' : Av} (ρ : Nat → Nat) (p : Nat → Bool) (hm : ∀ i x, p i = true → m i = some x → m' (ρ i) = some x) (ha : ∀ i, p i = true → av i = false) :
    ∀ (vs : List V) (us : List Value), V.allL p vs = true → RelL w m' av' R (V.renL ρ vs) us → RelL w m av R vs us
  | [], _, _, h => by simpa only [RelL, V.renL] using h
  | c :: cs, _, hp, h => by
    simp only [V.allL, Bool.and_eq_true] at hp
    simp only [RelL, V.renL] at h ⊢
    obtain ⟨u, us, e, h1, h2⟩ := h
    exact ⟨u, us, e, Rel.unren ρ p hm ha c u hp.1 h1, RelL.unren ρ p hm ha cs us hp.2 h2⟩
end
theorem ORel.ren {m m' : Gm} {av av' : Av} (ρ : Nat → Nat) (p : Nat → Bool) (hm : ∀ i x, p i = true → m' (ρ i) = some x → m i = some x) (ha : ∀ i, p i = true → av i = false → av' (ρ i) = false) {b N : Nat} {o : Ob} (ho : o.all p = true) (h : ORel w m av R b N o) : ORel w m' av' R b N (o.ren ρ) := by
  cases o with
  | cells ty cs => exact h
  | gro ty cs => exact h
  | mix ty cs =>
    obtain ⟨arr, h1, h2, h3, h4⟩ := h
    have hl : (V.renL ρ cs).length = cs.length := by
      clear ho h3 h4
      induction cs with
      | nil => rfl
      | cons c cs ih => simp [V.renL, ih]
    exact ⟨arr, h1, h2, by rw [hl]; exact h3, by rw [hl]; exact h4.ren ρ p hm ha _ _ ho⟩
theorem ORel.unren {m m' : Gm} {av av' : Av} (ρ : Nat → Nat) (p : Nat → Bool) (hm : ∀ i x, p i = true → m i = some x → m' (ρ i) = some x) (ha : ∀ i, p i = true → av i = false) {b N : Nat} {o : Ob} (ho : o.all p = true) (h : ORel w m' av' R b N (o.ren ρ)) : ORel w m av R b N o := by
  cases o with
  | cells ty cs => exact h
  | gro ty cs => exact h
  | mix ty cs =>
    obtain ⟨arr, h1, h2, h3, h4⟩ := h
    have hl : (V.renL ρ cs).length = cs.length := by
      clear ho h3 h4
      induction cs with
      | nil => rfl
      | cons c cs ih => simp [V.renL, ih]
    rw [hl] at h3 h4
    exact ⟨arr, h1, h2, h3, h4.unren ρ p hm ha _ _ ho⟩
end

/-- The names of k places that were handed over and of k' new ones. -/
def okR (k k' : Nat) : Nat → Bool := fun i => Nat.blt i k' || (Nat.ble big i && Nat.blt i (big + k))
def resOneV : List V → V
  | [v] => v
  | vs => .tup vs
def argsV : Nat → List V → List (Nat × V)
  | _, [] => []
  | k, p :: ps => (k, p) :: argsV (k + 1) ps

/-- The contract of a function that is handed k places of the caller's (big, big + 1, ..) and may leave k' new ones (0, 1, ..). -/
def FnO (P : Program) (f : FuncId) (k k' : Nat) (args : List V) (os : List (Nat × Ob)) (Q : V → (Nat → Option Ob) → Prop) : Prop :=
  ∀ (w : World) (m : Gm) (R : Nat → Prop) (us : List Value), HR ⟨P, m, w, OwnB m, R⟩ m R (lookO os) (avK 0) w → RelL w m (avK 0) R args us →
    Calls P f us.toArray w fun e w' => ∃ u v ob' m' R', e = .returned u ∧ Q v ob' ∧ v.all (okR k k') = true ∧ (∀ i o, ob' i = some o → okR k k' i = true ∧ o.all (okR k k') = true) ∧ HR ⟨P, m, w, OwnB m, R⟩ m' R' ob' (avK k') w' ∧ Rel w' m' (avK k') R' v u
theorem FnO.mono {P : Program} {f : FuncId} {k k' : Nat} {args : List V} {os : List (Nat × Ob)} {Q Q' : V → (Nat → Option Ob) → Prop} (h : FnO P f k k' args os Q) (hq : ∀ v o, Q v o → Q' v o) : FnO P f k k' args os Q' :=
  fun w m R us h1 h2 => (h w m R us h1 h2).mono fun _ _ ⟨u, v, o, m', R', e, q, r⟩ => ⟨u, v, o, m', R', e, hq v o q, r⟩

def retO (fn : Func) (n k k' : Nat) (Q : V → (Nat → Option Ob) → Prop) : Exit → St → Prop
  | .ret, σ | .normal, σ => ∃ l os' vs, σ.le (mkS l os' k') ∧ resV n (mkS l os' k') fn.results.toList = some vs ∧ V.allL (okR k k') vs = true ∧ os'.all (fun p => okR k k' p.1 && p.2.all (okR k k')) = true ∧ Q (resOneV vs) (lookO os')
  | _, _ => False

theorem lookO_mem : ∀ {os : List (Nat × Ob)} {i : Nat} {o : Ob}, lookO os i = some o → (i, o) ∈ os
  | [], _, _, h => by simp [lookO] at h
  | (d, v) :: os, i, o, h => by
    simp only [lookO] at h
    cases hb : Nat.beq i d with
    | true => rw [hb] at h; simp at h; have := Nat.eq_of_beq_eq_true hb; subst this; subst h; simp
    | false => rw [hb] at h; exact List.mem_cons_of_mem _ (lookO_mem (by simpa using h))

theorem resOneV_rel {w : World} {m : Gm} {av : Av} {R : Nat → Prop} {vs : List V} {us : List Value} (h : RelL w m av R vs us) : Rel w m av R (resOneV vs) (if h : us.toArray.size = 1 then us.toArray[0] else .tuple us.toArray) := by
  have hl := h.length
  cases vs with
  | nil =>
    simp only [RelL] at h
    subst h
    simp only [resOneV, Rel]
    exact ⟨[], by simp, RelL.nil⟩
  | cons p ps =>
    cases ps with
    | nil =>
      simp only [RelL] at h
      obtain ⟨u, vs', rfl, h5, rfl⟩ := h
      simpa [resOneV] using h5
    | cons p2 ps =>
      simp only [resOneV, Rel]
      refine ⟨us, ?_, h⟩
      rw [dif_neg (by simp at hl ⊢; omega)]

theorem resOneV_all {p : Nat → Bool} {vs : List V} (h : V.allL p vs = true) : (resOneV vs).all p = true := by
  cases vs with
  | nil => rfl
  | cons a l =>
    cases l with
    | nil => simpa [resOneV, V.allL] using h
    | cons b l => simpa [resOneV, V.all] using h

theorem FnO.of {P : Program} {f : FuncId} {fn : Func} {c : Code} {n k k' : Nat} {args : List V} {os : List (Nat × Ob)} {Q : V → (Nat → Option Ob) → Prop} (hf : P.funcs[f]? = some fn) (hb : fn.body = some c) (hn : fn.ntmps = n) (hna : args.length ≤ n)
    (h : ∀ m0 w0 F R0, AW ⟨P, m0, w0, F, R0⟩ n c (retO fn n k k' Q) (mkS (argsV 0 args) os 0)) : FnO P f k k' args os Q := by
  intro w m R us hHR hrel
  refine calls_of_wp hf hb ?_
  have hl := hrel.length
  have init : SJ ⟨P, m, w, OwnB m, R⟩ n (mkS (argsV 0 args) os 0) { tmps := us.toArray ++ Array.replicate (fn.ntmps - us.toArray.size) undef, defers := [] } w := by
    refine ⟨m, R, ⟨hHR, rfl, by simp; omega, ?_⟩⟩
    intro t ht
    show Rel w m (avK 0) R (look (argsV 0 args) t) ((us.toArray ++ Array.replicate (fn.ntmps - us.toArray.size) undef).getD t undef)
    have key : ∀ (ps : List V) (vs : List Value) (k : Nat), RelL w m (avK 0) R ps vs → k ≤ t → ∀ z : Value, Rel w m (avK 0) R (look (argsV k ps) t) (vs[t - k]?.getD z) := by
      intro ps
      induction ps with
      | nil => intro vs k _ _ z; simp only [argsV, look, Rel, RelP]
      | cons p ps ih =>
        intro vs k hr hk z
        simp only [RelL] at hr
        obtain ⟨u, vs', rfl, h1, h2⟩ := hr
        simp only [argsV, look]
        by_cases e : t = k
        · subst e
          simp only [Nat.beq_refl, cond_true, Nat.sub_self]
          simpa using h1
        · have hb : Nat.beq t k = false := by cases hb : Nat.beq t k; rfl; exact absurd (Nat.eq_of_beq_eq_true hb) e
          rw [hb]
          have := ih vs' (k + 1) h2 (by omega) z
          have e2 : t - k = (t - (k + 1)) + 1 := by omega
          rw [e2]
          simpa using this
    have := key args us 0 hrel (Nat.zero_le _) undef
    simp only [Nat.sub_zero] at this
    rw [Array.getD_eq_getD_getElem?, Array.getElem?_append]
    by_cases e : t < us.length
    · simpa [e] using this
    · rw [List.getElem?_eq_none (by omega)] at this
      simp only [List.size_toArray, e, if_false, Array.getElem?_replicate]
      split <;> simpa using this
  have hbody := (h m w (OwnB m) R).go _ w init
  refine wp_mono hbody ?_
  rintro ex a' w' ⟨σ', hq, hsj⟩
  have fin : ∀ l os' vs, σ'.le (mkS l os' k') → resV n (mkS l os' k') fn.results.toList = some vs → V.allL (okR k k') vs = true → os'.all (fun p => okR k k' p.1 && p.2.all (okR k k')) = true → Q (resOneV vs) (lookO os') →
      a'.defers = [] ∧ ∃ v, (results fn a'.tmps).run P w' = .ok v w' ∧ ∃ u v_1 ob' m' R', Ending.returned v = .returned u ∧ Q v_1 ob' ∧ v_1.all (okR k k') = true ∧ (∀ i o, ob' i = some o → okR k k' i = true ∧ o.all (okR k k') = true) ∧ HR ⟨P, m, w, OwnB m, R⟩ m' R' ob' (avK k') w' ∧ Rel w' m' (avK k') R' v_1 u := by
    intro l os' vs h1 h2 h3 h4 h5
    obtain ⟨m2, R2, hw⟩ := h1 _ _ _ _ hsj
    have hrl := resV_rel hw h2
    have hrun := fun f hf => mapM_run (a := a') w' P f hf h2
    generalize fn.results.toList.map (resU a') = us' at hrl hrun
    refine ⟨hw.df, (if h : us'.toArray.size = 1 then us'.toArray[0] else .tuple us'.toArray), ?_, ?_⟩
    · unfold results
      rw [Array.mapM_eq_mapM_toList]
      simp only [Sem.run_bind, Sem.run_map]
      rw [hrun _ (fun t => rfl)]
      rfl
    · refine ⟨_, resOneV vs, lookO os', m2, R2, rfl, h5, resOneV_all h3, ?_, hw.hr, resOneV_rel hrl⟩
      intro i o hio
      have := List.all_eq_true.1 h4 (i, o) (lookO_mem hio)
      simpa using this
  cases ex with
  | normal => obtain ⟨l, os', vs, h1, h2, h3, h4, h5⟩ := hq; exact fin l os' vs h1 h2 h3 h4 h5
  | ret => obtain ⟨l, os', vs, h1, h2, h3, h4, h5⟩ := hq; exact fin l os' vs h1 h2 h3 h4 h5
  | _ => exact hq.elim

/-- The caller's names. -/
def renI (ids : List Nat) (base : Nat) (i : Nat) : Nat := bif Nat.ble big i then ids.getD (i - big) 0 else base + i
/-- What the caller's places are behind the call. -/
def wrO (ids : List Nat) (base k' : Nat) (ob' : Nat → Option Ob) : List (Nat × Option Ob) :=
  ids.zipIdx.map (fun p => (p.1, (ob' (big + p.2)).map (Ob.ren (renI ids base)))) ++ (List.range k').map (fun i => (base + i, (ob' i).map (Ob.ren (renI ids base))))
def nwO (base k' : Nat) : List Nat := (List.range k').map (base + ·)

def lkL {β : Type} : List (Nat × β) → (Nat → β) → Nat → β
  | [], f, id => f id
  | (i, o) :: l, f, id => bif Nat.beq id i then o else lkL l f id
theorem obL_lk : ∀ (l : List (Nat × Option Ob)) (f : Nat → Option Ob), obL l f = lkL l f
  | [], f => rfl
  | (i, o) :: l, f => by funext id; simp only [obL, lkL, obL_lk l f]
theorem lkL_get {β : Type} : ∀ (l : List (Nat × β)) (f : Nat → β) (id : Nat), id ∉ l.map (·.1) → lkL l f id = f id
  | [], _, _, _ => rfl
  | (i, o) :: l, f, id, h => by
    simp only [List.map_cons, List.mem_cons, not_or] at h
    have hb : Nat.beq id i = false := by cases hb : Nat.beq id i; rfl; exact absurd (Nat.eq_of_beq_eq_true hb) h.1
    simp only [lkL, hb, cond_false]
    exact lkL_get l f id h.2
theorem lkL_app {β : Type} : ∀ (l l' : List (Nat × β)) (f : Nat → β), lkL (l ++ l') f = lkL l (lkL l' f)
  | [], _, _ => rfl
  | (i, o) :: l, l', f => by funext id; simp only [List.cons_append, lkL, lkL_app l l' f]
theorem lkL_zip {β : Type} (g : Nat → β) (f : Nat → β) : ∀ (ids : List Nat) (k i : Nat) (id : Nat), ids.Nodup → ids[i]? = some id → lkL ((ids.zipIdx k).map fun p => (p.1, g p.2)) f id = g (k + i)
  | [], _, _, _, _, h => by simp at h
  | q :: ids, k, i, id, hn, h => by
    simp only [List.zipIdx_cons, List.map_cons, lkL]
    cases i with
    | zero => simp at h; subst h; simp
    | succ i =>
      simp at h
      have hne : id ≠ q := fun e => by subst e; exact (List.nodup_cons.1 hn).1 (List.mem_of_getElem? h)
      have hb : Nat.beq id q = false := by cases hb : Nat.beq id q; rfl; exact absurd (Nat.eq_of_beq_eq_true hb) hne
      rw [hb]
      simp only [cond_false]
      rw [lkL_zip g f ids (k + 1) i id (List.nodup_cons.1 hn).2 h]
      congr 1
      omega
theorem lkL_range {β : Type} (g : Nat → β) (f : Nat → β) (base k' i : Nat) (hi : i < k') : lkL ((List.range k').map fun i => (base + i, g i)) f (base + i) = g i := by
  have gen : ∀ (l : List Nat), i ∈ l → lkL (l.map fun i => (base + i, g i)) f (base + i) = g i := by
    intro l
    induction l with
    | nil => intro h; simp at h
    | cons q l ih =>
      intro h
      simp only [List.map_cons, lkL]
      by_cases e : i = q
      · subst e; simp
      · have hb : Nat.beq (base + i) (base + q) = false := by cases hb : Nat.beq (base + i) (base + q); rfl; have := Nat.eq_of_beq_eq_true hb; omega
        rw [hb]
        simp only [cond_false]
        exact ih (by simpa [e] using h)
  exact gen _ (by simpa using hi)

end Go.Proofs.Ytkalgjnhaicabaa
