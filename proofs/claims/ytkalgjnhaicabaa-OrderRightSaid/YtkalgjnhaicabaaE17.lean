/-
  Our own step logic: variables that are never written again are plain; places that were handed over get names of the call's own; growing slices that are not empty. No statement of the program is proved here.
-/
import Derived.Test.YtkalgjnhaicabaaE16
namespace Go.Proofs.Ytkalgjnhaicabaa
open Go.RowKit

mutual
/-- Pointers to the place id are plain from now on. -/
def V.ppV (id : Nat) (cs : List PV) : V → V
  | .ptr i o => bif Nat.beq i id then .pv (.rp cs o) else .ptr i o
  | .agg vs => .agg (V.ppL id cs vs)
  | .tup vs => .tup (V.ppL id cs vs)
  | .fn f a b => .fn f (V.ppL id cs a) (V.ppL id cs b)
  | .pv p => .pv p
  | .osl i sz k => bif Nat.beq i id then .pv .any else .osl i sz k
  | .gsl i sz k => bif Nat.beq i id then .pv .any else .gsl i sz k
  | .map i => .map i
def V.ppL (id : Nat) (cs : List PV) : List V → List V
  | [] => []
  | v :: vs => V.ppV id cs v :: V.ppL id cs vs
end
def Ob.ppO (id : Nat) (cs : List PV) : Ob → Ob
  | .cells t c => .cells t c
  | .gro t c => .gro t c
  | .mix t vs => .mix t (V.ppL id cs vs)
theorem Ob.ppO_real (id : Nat) (cs : List PV) : ∀ o : Ob, (o.ppO id cs).real = o.real
  | .cells _ _ => rfl
  | .mix _ _ => rfl
  | .gro _ [] => rfl
  | .gro _ (_ :: _) => rfl
theorem liveO_pp (id : Nat) (cs : List PV) : ∀ o : Option Ob, liveO (o.map (Ob.ppO id cs)) = liveO o
  | none => rfl
  | some o => Ob.ppO_real id cs o
def St.ppA (σ : St) (id : Nat) (cs : List PV) : St := ⟨fun t => V.ppV id cs (σ.sl t), fun i => bif Nat.beq i id then none else (σ.ob i).map (Ob.ppO id cs), σ.av⟩

section
variable {w : World} {m m' : Gm} {av : Av} {R R' : Nat → Prop}
theorem ppL_length (id : Nat) (cs : List PV) : ∀ vs : List V, (V.ppL id cs vs).length = vs.length
  | [] => rfl
  | _ :: vs => by simp [V.ppL, ppL_length id cs vs]
mutual
theorem Rel.ppV {id : Nat} {cs : List PV} (hR : ∀ b, R b → R' b ∧ w.heap[b]? = w.heap[b]?) (hm : ∀ i x, m' i = some x → m i = some x)
    (h1 : ∀ o u, Rel w m av R (.ptr id o) u → RelP w R' (.rp cs o) u) :
    ∀ (v : V) (u : Value), Rel w m av R v u → Rel w m' av R' (V.ppV id cs v) u
  | .ptr i o, u, h => by
    simp only [V.ppV]
    cases hb : Nat.beq i id with
    | true => have := Nat.eq_of_beq_eq_true hb; subst this; simp only [cond_true, Rel]; exact h1 o u h
    | false => simp only [cond_false]; exact h.mono hR (fun i x _ e => hm i x e) (fun _ e => e)
  | .agg vs, u, h => by
    simp only [Rel, V.ppV] at h ⊢
    obtain ⟨us, e, h⟩ := h
    exact ⟨us, e, RelL.ppL hR hm h1 vs us h⟩
  | .tup vs, u, h => by
    simp only [Rel, V.ppV] at h ⊢
    obtain ⟨us, e, h⟩ := h
    exact ⟨us, e, RelL.ppL hR hm h1 vs us h⟩
  | .fn f a b, u, h => by
    simp only [Rel, V.ppV] at h ⊢
    obtain ⟨us, vs, e, ha, hb⟩ := h
    exact ⟨us, vs, e, RelL.ppL hR hm h1 a us ha, RelL.ppL hR hm h1 b vs hb⟩
  | .pv p, u, h => by simp only [V.ppV]; exact h.mono hR (fun i x _ e => hm i x e) (fun _ e => e)
  | .osl i sz k, u, h => by
    simp only [V.ppV]
    cases hb : Nat.beq i id with
    | true => simp only [cond_true, Rel, RelP]
    | false => simp only [cond_false]; exact h.mono hR (fun i x _ e => hm i x e) (fun _ e => e)
  | .gsl i sz k, u, h => by
    simp only [V.ppV]
    cases hb : Nat.beq i id with
    | true => simp only [cond_true, Rel, RelP]
    | false => simp only [cond_false]; exact h.mono hR (fun i x _ e => hm i x e) (fun _ e => e)
  | .map i, u, h => by simp only [V.ppV]; exact h.mono hR (fun i x _ e => hm i x e) (fun _ e => e)
theorem RelL.ppL {id : Nat} {cs : List PV} (hR : ∀ b, R b → R' b ∧ w.heap[b]? = w.heap[b]?) (hm : ∀ i x, m' i = some x → m i = some x)
    (h1 : ∀ o u, Rel w m av R (.ptr id o) u → RelP w R' (.rp cs o) u) :
    ∀ (vs : List V) (us : List Value), RelL w m av R vs us → RelL w m' av R' (V.ppL id cs vs) us
  | [], _, h => by simpa only [RelL, V.ppL] using h
  | c :: vs, _, h => by
    simp only [RelL, V.ppL] at h ⊢
    obtain ⟨u, us, e, ha, hb⟩ := h
    exact ⟨u, us, e, Rel.ppV hR hm h1 c u ha, RelL.ppL hR hm h1 vs us hb⟩
end
end

/-- The cells of a variable of plain values. -/
def Ob.plainV : Ob → Option (List PV)
  | .cells _ cs => some cs
  | .mix _ vs => V.pvs vs
  | .gro _ _ => none
/-- A variable is never written again: pointers to it are plain values from now on, wherever they stand. -/
theorem St.le_ppA {σ : St} {o : Ob} {cs : List PV} (id : Nat) (ho : σ.ob id = some o) (hc : o.plainV = some cs) : σ.le (σ.ppA id cs) := by
  rintro C n a w ⟨m, R, hw⟩
  have hd := hw.drop id
  have sub : ∀ i x, upd m id none i = some x → m i = some x ∧ i ≠ id := fun i x e => by
    by_cases hi : i = id
    · subst hi; rw [upd_same] at e; cases e
    · rw [upd_ne _ _ hi] at e; exact ⟨e, hi⟩
  let R' : Nat → Prop := fun q => R q ∨ ∃ N, m id = some (q, N)
  have hR : ∀ b, R b → R' b ∧ w.heap[b]? = w.heap[b]? := fun b hb => ⟨.inl hb, rfl⟩
  have hcell : ∀ b N, m id = some (b, N) → ∃ us, RelPL w R' cs us ∧ Shows w R' b 0 us := by
    intro b N hm
    have hO := hw.hr.obj id o b N ho hm
    have fin : ∀ T (arr : Array Value), w.heap[b]? = some (.cells arr T (0, 0)) → RelPL w R cs (arr.toList.take cs.length) → ∃ us, RelPL w R' cs us ∧ Shows w R' b 0 us := by
      intro T arr hb hr
      refine ⟨_, hr.mono hR, .inr ⟨N, hm⟩, ?_⟩
      intro j hj
      simp only [List.length_take] at hj
      rw [Nat.zero_add, cell_of_row w b j arr T (0, 0) hb, List.getElem?_take, if_pos (by omega)]
      simp
    cases o with
    | cells T c => simp only [Ob.plainV, Option.some.injEq] at hc; subst hc; obtain ⟨arr, q1, _, _, q4⟩ := hO; exact fin T arr q1 q4
    | gro T c => simp [Ob.plainV] at hc
    | mix T c =>
      have e := V.pvs_eq hc
      obtain ⟨arr, q1, _, _, q4⟩ := hO
      rw [e] at q4
      simp only [List.length_map] at q4
      exact fin T arr q1 (RelL.toP q4)
  have hlv : (m id).isSome = true := by
    rw [hw.hr.dom, ho]
    cases o with
    | cells T c => rfl
    | gro T c => simp [Ob.plainV] at hc
    | mix T c => rfl
  have p1 : ∀ q u, Rel w m σ.av R (.ptr id q) u → RelP w R' (.rp cs q) u := by
    intro q u h
    obtain ⟨⟨b, N⟩, hm⟩ := Option.isSome_iff_exists.1 hlv
    simp only [Rel] at h
    obtain ⟨us, hr, hsh⟩ := hcell b N hm
    simp only [RelP]
    exact ⟨b, 0, us, by rw [Nat.zero_add]; exact h.2 b N hm, hr, hsh⟩
  have hsub : ∀ i x, upd m id none i = some x → m i = some x := fun i x e => (sub i x e).1
  have obn : ∀ i, (σ.ppA id cs).ob i = bif Nat.beq i id then none else (σ.ob i).map (Ob.ppO id cs) := fun _ => rfl
  have obs : (σ.ppA id cs).ob id = none := by rw [obn]; simp
  have obe : ∀ i, i ≠ id → (σ.ppA id cs).ob i = (σ.ob i).map (Ob.ppO id cs) := fun i hi => by
    rw [obn]
    have : Nat.beq i id = false := by cases hb : Nat.beq i id; rfl; exact absurd (Nat.eq_of_beq_eq_true hb) hi
    rw [this]; rfl
  refine ⟨upd m id none, R', ⟨?_, ?_, ?_, hd.hr.inj, ?_, ?_, ?_, fun q hq => .inl (hw.hr.r0 q hq), hw.hr.frame, hd.hr.keep, hd.hr.res⟩, hw.df, hw.sz, ?_⟩
  · intro i
    by_cases e : i = id
    · subst e; rw [upd_same, obs]; rfl
    · rw [upd_ne _ _ e, obe i e, liveO_pp]; exact hw.hr.dom i
  · intro i hi
    by_cases e : i = id
    · subst e; exact obs
    · rw [obe i e, hw.hr.free i hi]; rfl
  · intro i o' b N h1 h2
    obtain ⟨h2', e⟩ := sub i _ h2
    rw [obe i e] at h1
    cases ho' : σ.ob i with
    | none => rw [ho'] at h1; cases h1
    | some o2 =>
      rw [ho'] at h1
      simp only [Option.map_some, Option.some.injEq] at h1
      subst h1
      have hO := hw.hr.obj i o2 b N ho' h2'
      cases o2 with
      | cells T c => obtain ⟨arr, q1, q2, q3, q4⟩ := hO; exact ⟨arr, q1, q2, q3, q4.mono hR⟩
      | gro T c => obtain ⟨arr, q1, q2, q3, q4⟩ := hO; exact ⟨arr, q1, q2, q3, q4.mono hR⟩
      | mix T c =>
        obtain ⟨arr, q1, q2, q3, q4⟩ := hO
        refine ⟨arr, q1, q2, by rw [ppL_length]; exact q3, ?_⟩
        rw [ppL_length]
        exact q4.ppL hR hsub p1
  · intro i b N h1
    obtain ⟨h2, h3, h4⟩ := hw.hr.own i b N (sub i _ h1).1
    refine ⟨h2, ?_, h4⟩
    rintro (h5 | ⟨N', h5⟩)
    · exact h3 h5
    · exact (sub i _ h1).2 (hw.hr.inj i id b N N' (sub i _ h1).1 h5)
  · rintro q (hq | ⟨N, hq⟩)
    · exact hw.hr.rsz q hq
    · exact (hw.hr.own id q N hq).1
  · rintro q (hq | ⟨N, hq⟩)
    · exact hw.hr.rfr q hq
    · rcases (hw.hr.own id q N hq).2.2 with h | h
      · exact .inr (.inr h)
      · exact .inr (.inl h)
  · intro t ht
    exact (hw.sl t ht).ppV hR hsub p1

/-- A growing slice that is not empty is a slice of the call's own. -/
def St.own (σ : St) (t id sz n : Nat) (T : TypeId) (cs : List PV) : St := ⟨upd σ.sl t (.osl id sz n), obL [(id, some (.cells T cs))] σ.ob, σ.av⟩
theorem St.le_own {σ : St} {id sz n : Nat} {T : TypeId} {cs : List PV} (t : Nat) (ht : σ.sl t = .gsl id sz n) (ho : σ.ob id = some (.gro T cs)) (hn : 0 < n) (hc : cs ≠ []) : σ.le (σ.own t id sz n T cs) := by
  rintro C nn a w ⟨m, R, hw⟩
  have hs : ∀ i, i ≠ id → obL [(id, some (Ob.cells T cs))] σ.ob i = σ.ob i := fun i hi => obL_get _ _ _ (by simpa using hi)
  have hi : obL [(id, some (Ob.cells T cs))] σ.ob id = some (.cells T cs) := by simp [obL]
  refine ⟨m, R, ⟨?_, ?_, ?_, hw.hr.inj, hw.hr.own, hw.hr.rsz, hw.hr.rfr, hw.hr.r0, hw.hr.frame, hw.hr.keep, hw.hr.res⟩, hw.df, hw.sz, ?_⟩
  · intro i
    by_cases e : i = id
    · subst e; rw [hw.hr.dom, ho]; show _ = liveO (obL _ _ _); rw [hi]; exact gro_real hc
    · show _ = liveO (obL _ _ _); rw [hs i e]; exact hw.hr.dom i
  · intro i h
    by_cases e : i = id
    · subst e; have := hw.hr.free i h; rw [ho] at this; cases this
    · show obL _ _ _ = none; rw [hs i e]; exact hw.hr.free i h
  · intro i o b N h1 h2
    by_cases e : i = id
    · subst e
      have h1' : obL [(i, some (Ob.cells T cs))] σ.ob i = some o := h1
      rw [hi] at h1'
      cases h1'
      have q := hw.hr.obj i _ b N ho h2
      exact q
    · have h1' : obL [(id, some (Ob.cells T cs))] σ.ob i = some o := h1
      rw [hs i e] at h1'
      exact hw.hr.obj i o b N h1' h2
  · intro q hq
    show Rel w m σ.av R (upd σ.sl t (.osl id sz n) q) _
    by_cases e : q = t
    · subst e
      rw [upd_same]
      have := hw.sl q hq
      rw [ht] at this
      simp only [Rel] at this ⊢
      obtain ⟨h0, A, c, he, h1, h2, h3, h4⟩ := this
      refine ⟨h0, fun b N hm => ⟨c, ?_, h1, h2, (h4 hn b N hm).2⟩⟩
      rw [he, (h4 hn b N hm).1]
    · rw [upd_ne _ _ e]; exact hw.sl q hq

/-- Places that were handed over may get small names, if their own names are given up. -/
theorem St.le_mkB {σ : St} {l : List (Nat × V)} {os : List (Nat × Ob)} (ids : List Nat) (hl : allSlR σ (renS ids) l) (ho : allObR σ (renS ids) os) (h1 : l.all (fun p => p.2.okA ids.length) = true) (h2 : os.all (fun p => (Nat.blt p.1 ids.length || Nat.ble big p.1) && p.2.okA ids.length) = true)
    (hnd : ids.Nodup) (hbg : ids.all (fun i => Nat.blt i big || !(lookO os i).isSome) = true) : σ.le (mkS l os ids.length) := by
  rintro C n a w ⟨m, R, hw⟩
  have key : ∀ i o, lookO os i = some o → σ.ob (renS ids i) = some (o.ren (renS ids)) ∧ (Nat.blt i ids.length || Nat.ble big i) = true ∧ o.okA ids.length = true := by
    intro i o h
    have hm := lookO_mem h
    have := List.all_eq_true.1 h2 _ hm
    simp only [Bool.and_eq_true] at this
    exact ⟨allObR_mem ho i o hm, this.1, this.2⟩
  let m2 : Gm := fun i => if (lookO os i).isSome then m (renS ids i) else none
  have sub : ∀ i x, m2 i = some x → m (renS ids i) = some x ∧ (Nat.blt i ids.length || Nat.ble big i) = true := fun i x h => by
    simp only [m2] at h
    split at h
    · rename_i hs
      obtain ⟨o, hoo⟩ := Option.isSome_iff_exists.1 hs
      exact ⟨h, (key i o hoo).2.1⟩
    · cases h
  have subI : ∀ i x, m2 i = some x → (lookO os i).isSome = true := fun i x h => by
    simp only [m2] at h
    split at h
    · rename_i hs; exact hs
    · cases h
  have ρinj : ∀ i j, (Nat.blt i ids.length || Nat.ble big i) = true → (Nat.blt j ids.length || Nat.ble big j) = true → (lookO os i).isSome = true → (lookO os j).isSome = true → renS ids i = renS ids j → i = j := by
    intro i j hi hj hli hlj e
    have small : ∀ q, Nat.blt q ids.length = true → Nat.ble big q = false → ∃ h : q < ids.length, renS ids q = ids[q] ∧ (ids[q] < big ∨ (lookO os ids[q]).isSome = false) := by
      intro q hq hb
      have h : q < ids.length := by simpa [Nat.blt_eq] using hq
      refine ⟨h, by simp [renS, hb, List.getD_eq_getElem?_getD, h], ?_⟩
      have := List.all_eq_true.1 hbg ids[q] (List.getElem_mem h)
      simpa [Nat.blt_eq] using this
    have large : ∀ q, Nat.ble big q = true → renS ids q = q := fun q hq => by simp [renS, hq]
    cases hbi : Nat.ble big i with
    | true =>
      cases hbj : Nat.ble big j with
      | true => rw [large i hbi, large j hbj] at e; exact e
      | false =>
        rw [hbj, Bool.or_false] at hj
        obtain ⟨h, e2, h3⟩ := small j hj hbj
        rw [large i hbi, e2] at e
        have := Nat.le_of_ble_eq_true hbi
        rcases h3 with h3 | h3
        · omega
        · rw [← e, hli] at h3; cases h3
    | false =>
      rw [hbi, Bool.or_false] at hi
      obtain ⟨h, e1, h3⟩ := small i hi hbi
      cases hbj : Nat.ble big j with
      | true =>
        rw [large j hbj, e1] at e
        have := Nat.le_of_ble_eq_true hbj
        rcases h3 with h3 | h3
        · omega
        · rw [e, hlj] at h3; cases h3
      | false =>
        rw [hbj, Bool.or_false] at hj
        obtain ⟨h', e2, h4⟩ := small j hj hbj
        rw [e1, e2] at e
        exact (List.getElem_inj hnd).1 e
  have um : ∀ i x, (Nat.blt i ids.length || Nat.ble big i) = true → m2 i = some x → m (renS ids i) = some x := fun i x _ h => (sub i x h).1
  have ua : ∀ i, (Nat.blt i ids.length || Nat.ble big i) = true → avK ids.length i = false := fun i h => ble_of h
  refine ⟨m2, R, ⟨?_, ?_, ?_, ?_, ?_, hw.hr.rsz, hw.hr.rfr, hw.hr.r0, hw.hr.frame, ?_, fun i hi => avK_big hi⟩, hw.df, hw.sz, ?_⟩
  · intro i
    show (m2 i).isSome = liveO (lookO os i)
    simp only [m2]
    cases e : lookO os i with
    | none => rfl
    | some o =>
      have := hw.hr.dom (renS ids i)
      rw [(key i o e).1] at this
      simpa [liveO, Ob.real_ren] using this
  · intro i hi
    show lookO os i = none
    cases e : lookO os i with
    | none => rfl
    | some o =>
      have h3 := ble_of (key i o e).2.1
      have hi' : avK ids.length i = true := hi
      rw [hi'] at h3
      cases h3
  · intro i o b N h3 h4
    have h5 := key i o h3
    exact (hw.hr.obj _ _ b N h5.1 (sub _ _ h4).1).unren (renS ids) _ um ua (Ob.okA_all _ h5.2.2)
  · intro i j b N N' e1 e2
    exact ρinj i j (sub _ _ e1).2 (sub _ _ e2).2 (subI _ _ e1) (subI _ _ e2) (hw.hr.inj _ _ b N N' (sub _ _ e1).1 (sub _ _ e2).1)
  · exact fun i b N e => hw.hr.own _ b N (sub _ _ e).1
  · intro i x hi e
    have hb : Nat.ble big i = true := Nat.ble_eq_true_of_le hi
    have e2 := (sub i x e).1
    have : renS ids i = i := by simp [renS, hb]
    rw [this] at e2
    exact hw.hr.keep i x hi e2
  · intro t ht
    show Rel w m2 (avK ids.length) R (look l t) _
    rcases look_specR hl t with e | e
    · rw [e]; simp only [Rel, RelP]
    · have h3 := hw.sl t ht
      rw [e] at h3
      exact h3.unren (renS ids) _ um ua _ _ (V.okA_all _ _ (look_ok h1 t))

/-- Some slots are not told any more. -/
def fgs (f : Nat → V) : List Nat → Nat → V
  | [] => f
  | d :: ds => fgs (upd f d (.pv .any)) ds
def St.fgP (σ : St) (ds : List Nat) (p : Nat) (v : V) : St := ⟨upd (fgs σ.sl ds) p v, σ.ob, σ.av⟩
/-- Equal but for the slots of S. -/
def fEq (S : List Nat) (f g : Nat → V) : Prop := ∀ q, S.contains q = false → f q = g q
theorem fEq.refl {S : List Nat} {f : Nat → V} : fEq S f f := fun _ _ => rfl
theorem fEq.upd {S : List Nat} {f g : Nat → V} {d : Nat} {v : V} (h : fEq S f g) (hd : S.contains d = true) : fEq S (upd f d v) g := fun q hq => by
  rw [upd_ne _ _ (fun e => by rw [e, hd] at hq; cases hq)]
  exact h q hq
theorem fgs_out : ∀ (ds : List Nat) (f : Nat → V) (q : Nat), ds.contains q = false → fgs f ds q = f q
  | [], _, _, _ => rfl
  | d :: ds, f, q, h => by
    simp only [List.contains_cons, Bool.or_eq_false_iff, beq_eq_false_iff_ne] at h
    simp only [fgs]
    rw [fgs_out ds _ q h.2, upd_ne _ _ h.1]
theorem fgs_in : ∀ (ds : List Nat) (f : Nat → V) (q : Nat), (ds.contains q = true ∨ f q = .pv .any) → fgs f ds q = .pv .any
  | [], _, _, h => by simp only [fgs]; simpa using h
  | d :: ds, f, q, h => by
    simp only [fgs]
    apply fgs_in ds
    by_cases e : q = d
    · subst e; exact .inr (upd_same _ _ _)
    · rw [upd_ne _ _ e]
      rcases h with h | h
      · simp only [List.contains_cons, Bool.or_eq_true, beq_iff_eq] at h
        exact .inl (h.resolve_left e)
      · exact .inr h
theorem St.le_fg {σ s : St} {ds : List Nat} {p : Nat} {v : V} (h : fEq (p :: ds) s.sl σ.sl) (hp : s.sl p = v) (ho : s.ob = σ.ob) (ha : s.av = σ.av) : s.le (σ.fgP ds p v) := by
  rintro C n a w ⟨m, R, hw⟩
  refine ⟨m, R, ⟨?_, hw.df, hw.sz, ?_⟩⟩
  · show HR C m R σ.ob σ.av w
    rw [← ho, ← ha]; exact hw.hr
  · intro t ht
    show Rel w m σ.av R (upd (fgs σ.sl ds) p v t) _
    rw [← ha]
    by_cases e : t = p
    · subst e; rw [upd_same, ← hp]; exact hw.sl t ht
    · rw [upd_ne _ _ e]
      cases hd : ds.contains t with
      | true => rw [fgs_in ds _ t (.inl hd)]; simp only [Rel, RelP]
      | false =>
        rw [fgs_out ds _ t hd, ← h t (by simp only [List.contains_cons, hd, Bool.or_false, beq_eq_false_iff_ne]; exact e)]
        exact hw.sl t ht

section
variable {C : Ctx} {n : Nat} {σ τ : St} {ops : Array Oper}
theorem RL.mono {K K' : St → Prop} : ∀ {os : List Oper} {σ : St}, RL C n ops os K σ → (∀ s, K s → K' s) → RL C n ops os K' σ
  | [], _, h, hk => hk _ h
  | o :: os, σ, h, hk => by
    simp only [RL] at h ⊢
    cases hg : o.guard with
    | none => rw [hg] at h; exact OJ.mono h fun s hs => RL.mono hs hk
    | some jw =>
      obtain ⟨j, want⟩ := jw
      rw [hg] at h
      obtain ⟨b, h1, h2, h3⟩ := h
      exact ⟨b, h1, fun e => OJ.mono (h2 e) fun s hs => RL.mono hs hk, fun e a w hs => (h3 e a w hs).imp fun s ⟨q, r⟩ => ⟨RL.mono q hk, r⟩⟩
theorem RL.append {K : St → Prop} : ∀ {os os' : List Oper} {σ : St}, RL C n ops os (RL C n ops os' K) σ → RL C n ops (os ++ os') K σ
  | [], _, _, h => h
  | o :: os, os', σ, h => by
    simp only [RL, List.cons_append] at h ⊢
    cases hg : o.guard with
    | none => rw [hg] at h; exact OJ.mono h fun s hs => RL.append hs
    | some jw =>
      obtain ⟨j, want⟩ := jw
      rw [hg] at h
      obtain ⟨b, h1, h2, h3⟩ := h
      exact ⟨b, h1, fun e => OJ.mono (h2 e) fun s hs => RL.append hs, fun e a w hs => (h3 e a w hs).imp fun s ⟨q, r⟩ => ⟨RL.append q, r⟩⟩
theorem OJ.weaken {o : Oper} {K : St → Prop} (hl : σ.le τ) (h : OJ C n o K τ) : OJ C n o K σ := fun a w Q hs => h a w Q (hl C n a w hs)
/-- What may begin in a state may begin in one that says more. -/
def MonoK (K : St → Prop) : Prop := ∀ s t, s.le t → K t → K s
theorem RL.weaken {K : St → Prop} (hK : MonoK K) : ∀ {os : List Oper}, σ.le τ → RL C n ops os K τ → RL C n ops os K σ
  | [], hl, h => hK _ _ hl h
  | o :: os, hl, h => by
    simp only [RL] at h ⊢
    cases hg : o.guard with
    | none => rw [hg] at h; exact OJ.weaken hl h
    | some jw =>
      obtain ⟨j, want⟩ := jw
      rw [hg] at h
      obtain ⟨b, h1, h2, h3⟩ := h
      exact ⟨b, fun a w hs => h1 a w (hl C n a w hs), fun e => OJ.weaken hl (h2 e), fun e a w hs => h3 e a w (hl C n a w hs)⟩
theorem MonoK.le {τ : St} : MonoK (fun s => s.le τ) := fun _ _ h k => h.trans k
theorem MonoK.aw {c : Code} {Q : Exit → St → Prop} : MonoK (fun s => AW C n c Q s) := fun _ _ h k => AW.weaken h k
theorem MonoK.back {X : Type} {st : X → St} {p : X → Prop} : MonoK (fun s => ∃ x', s.le (st x') ∧ p x') := fun _ _ h ⟨x, a, b⟩ => ⟨x, h.trans a, b⟩

theorem upd_eta {f : Nat → V} {t : Nat} {v : V} (h : f t = v) : upd f t v = f := by
  funext q
  by_cases hq : q = t
  · subst hq; rw [upd_same, h]
  · rw [upd_ne _ _ hq]
/-- A group of guarded operations and the choice behind it: both ways come together. -/
theorem RL.ifB {os : List Oper} {K : St → Prop} {b : Bool} (v : Bool → V) (k t p : Nat) (ds : List Nat) (ht : σ.ev n (.tmp t) = .pv (.bool b)) (hK : MonoK K)
    (h1 : b = true → RL C n ops (os.take k) (fun s => s.le (σ.fgP (t :: ds) p (v true))) ⟨upd σ.sl t (.pv (.bool true)), σ.ob, σ.av⟩)
    (h2 : b = false → RL C n ops (os.take k) (fun s => s.le (σ.fgP (t :: ds) p (v false))) ⟨upd σ.sl t (.pv (.bool false)), σ.ob, σ.av⟩)
    (h : RL C n ops (os.drop k) K (σ.fgP (t :: ds) p (v b))) : RL C n ops os K σ := by
  have e : σ.sl t = .pv (.bool b) := by
    simp only [St.ev] at ht
    cases hb : Nat.blt t n with
    | true => rw [hb] at ht; simpa using ht
    | false => rw [hb] at ht; simp at ht
  have key : (⟨upd σ.sl t (.pv (.bool b)), σ.ob, σ.av⟩ : St) = σ := by rw [upd_eta e]
  have e2 : os = os.take k ++ os.drop k := (List.take_append_drop k os).symm
  rw [e2]
  apply RL.append
  cases b with
  | true =>
    have := h1 rfl
    rw [key] at this
    exact RL.mono this fun s hs => RL.weaken hK hs h
  | false =>
    have := h2 rfl
    rw [key] at this
    exact RL.mono this fun s hs => RL.weaken hK hs h
theorem RL.andB {os : List Oper} {K : St → Prop} {b e : Bool} (k t p : Nat) (ds : List Nat) (ht : σ.ev n (.tmp t) = .pv (.bool b)) (hK : MonoK K)
    (h1 : b = true → RL C n ops (os.take k) (fun s => s.le (σ.fgP (t :: ds) p (.pv (.bool e)))) ⟨upd σ.sl t (.pv (.bool true)), σ.ob, σ.av⟩)
    (h2 : b = false → RL C n ops (os.take k) (fun s => s.le (σ.fgP (t :: ds) p (.pv (.bool false)))) ⟨upd σ.sl t (.pv (.bool false)), σ.ob, σ.av⟩)
    (h : RL C n ops (os.drop k) K (σ.fgP (t :: ds) p (.pv (.bool (b && e))))) : RL C n ops os K σ :=
  RL.ifB (fun b => .pv (.bool (b && e))) k t p ds ht hK h1 h2 h
theorem RL.orB {os : List Oper} {K : St → Prop} {b e : Bool} (k t p : Nat) (ds : List Nat) (ht : σ.ev n (.tmp t) = .pv (.bool b)) (hK : MonoK K)
    (h1 : b = true → RL C n ops (os.take k) (fun s => s.le (σ.fgP (t :: ds) p (.pv (.bool true)))) ⟨upd σ.sl t (.pv (.bool true)), σ.ob, σ.av⟩)
    (h2 : b = false → RL C n ops (os.take k) (fun s => s.le (σ.fgP (t :: ds) p (.pv (.bool e)))) ⟨upd σ.sl t (.pv (.bool false)), σ.ob, σ.av⟩)
    (h : RL C n ops (os.drop k) K (σ.fgP (t :: ds) p (.pv (.bool (b || e))))) : RL C n ops os K σ :=
  RL.ifB (fun b => .pv (.bool (b || e))) k t p ds ht hK h1 h2 h
end

end Go.Proofs.Ytkalgjnhaicabaa
