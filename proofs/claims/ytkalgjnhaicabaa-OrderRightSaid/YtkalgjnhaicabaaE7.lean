/-
  Our own step logic: values built, make; states that say less; calls and returns. No statement of the program is proved here.
-/
import Derived.Test.YtkalgjnhaicabaaE6
namespace Go.Proofs.Ytkalgjnhaicabaa
open Go.RowKit

/-- A state written out: some slots, some places, the numbers below k are taken. -/
def look : List (Nat × V) → Nat → V
  | [], _ => .pv .any
  | (d, v) :: l, t => bif Nat.beq t d then v else look l t
def lookO : List (Nat × Ob) → Nat → Option Ob
  | [], _ => none
  | (d, v) :: l, t => bif Nat.beq t d then some v else lookO l t
/-- The numbers from k on are free. -/
def avK (k : Nat) : Av := fun id => Nat.ble k id && Nat.blt id big
def mkS (l : List (Nat × V)) (os : List (Nat × Ob)) (k : Nat) : St := ⟨look l, lookO os, avK k⟩

mutual
def V.okA (k : Nat) : V → Bool
  | .pv _ => true
  | .ptr id _ => Nat.blt id k || Nat.ble big id
  | .osl id _ _ => Nat.blt id k || Nat.ble big id
  | .gsl id _ _ => Nat.blt id k || Nat.ble big id
  | .map id => Nat.blt id k || Nat.ble big id
  | .agg cs => V.okL k cs
  | .tup cs => V.okL k cs
  | .fn _ a b => V.okL k a && V.okL k b
def V.okL (k : Nat) : List V → Bool
  | [] => true
  | c :: cs => V.okA k c && V.okL k cs
end
def Ob.okA (k : Nat) : Ob → Bool
  | .cells _ _ => true
  | .mix _ cs => V.okL k cs
  | .gro _ _ => true

section
variable {w : World} {m m' : Gm} {av : Av} {R : Nat → Prop} {k : Nat}
theorem ble_of {k id : Nat} (h : (Nat.blt id k || Nat.ble big id) = true) : avK k id = false := by
  unfold avK
  cases hb : Nat.ble k id
  · rfl
  · cases hc : Nat.blt id big
    · rfl
    · have h1 := Nat.le_of_ble_eq_true hb
      have h3 : id < big := by simpa [Nat.blt_eq] using hc
      rcases (Bool.or_eq_true_iff).1 h with h | h
      · have h2 : id < k := by simpa [Nat.blt_eq] using h
        omega
      · have h2 := Nat.le_of_ble_eq_true h
        omega
theorem avK_lt {k id : Nat} (h : avK k id = true) : k ≤ id ∧ id < big := by
  unfold avK at h
  simp only [Bool.and_eq_true] at h
  exact ⟨Nat.le_of_ble_eq_true h.1, by simpa [Nat.blt_eq] using h.2⟩
theorem avK_big {k id : Nat} (h : big ≤ id) : avK k id = false := by
  cases hb : avK k id
  · rfl
  · have := (avK_lt hb).2; omega
mutual
theorem Rel.okA (hm : ∀ id x, m' id = some x → m id = some x) : ∀ (v : V) (u : Value), v.okA k = true → Rel w m av R v u → Rel w m' (avK k) R v u
  | .pv p, u, _, h => by simpa only [Rel] using h
  | .ptr id off, _, ho, h => by simp only [V.okA] at ho; simp only [Rel] at h ⊢; exact ⟨ble_of ho, fun b N e => h.2 b N (hm _ _ e)⟩
  | .osl id sz n, _, ho, h => by simp only [V.okA] at ho; simp only [Rel] at h ⊢; exact ⟨ble_of ho, fun b N e => h.2 b N (hm _ _ e)⟩
  | .gsl id sz n, _, ho, h => by
    simp only [V.okA] at ho
    simp only [Rel] at h ⊢
    obtain ⟨h0, A, c, e, h1, h2, h3, h4⟩ := h
    exact ⟨ble_of ho, A, c, e, h1, h2, fun hn => ⟨(h3 hn).1, (h3 hn).2.1, sub_none (fun x => hm id x) (h3 hn).2.2⟩, fun hp b N e => h4 hp b N (hm _ _ e)⟩
  | .map id, _, ho, h => by simp only [V.okA] at ho; simp only [Rel] at h ⊢; exact ⟨ble_of ho, fun b N e => h.2 b N (hm _ _ e)⟩
  | .agg cs, _, ho, h => by
    simp only [V.okA] at ho
    simp only [Rel] at h ⊢
    obtain ⟨us, e, h⟩ := h
    exact ⟨us, e, RelL.okA hm cs us ho h⟩
  | .tup cs, _, ho, h => by
    simp only [V.okA] at ho
    simp only [Rel] at h ⊢
    obtain ⟨us, e, h⟩ := h
    exact ⟨us, e, RelL.okA hm cs us ho h⟩
  | .fn f fs cs, _, ho, h => by
    simp only [V.okA, Bool.and_eq_true] at ho
    simp only [Rel] at h ⊢
    obtain ⟨us, vs, e, h1, h2⟩ := h
    exact ⟨us, vs, e, RelL.okA hm fs us ho.1 h1, RelL.okA hm cs vs ho.2 h2⟩
theorem RelL.okA (hm : ∀ id x, m' id = some x → m id = some x) : ∀ (vs : List V) (us : List Value), V.okL k vs = true → RelL w m av R vs us → RelL w m' (avK k) R vs us
  | [], _, _, h => by simpa only [RelL] using h
  | c :: cs, _, ho, h => by
    simp only [V.okL, Bool.and_eq_true] at ho
    simp only [RelL] at h ⊢
    obtain ⟨u, vs, e, h1, h2⟩ := h
    exact ⟨u, vs, e, Rel.okA hm c u ho.1 h1, RelL.okA hm cs vs ho.2 h2⟩
end
end

/-- The state says of these slots and places just this. -/
def allSl (σ : St) : List (Nat × V) → Prop
  | [] => True
  | (t, v) :: l => σ.sl t = v ∧ allSl σ l
def allOb (σ : St) : List (Nat × Ob) → Prop
  | [] => True
  | (t, v) :: l => σ.ob t = some v ∧ allOb σ l

theorem look_spec {σ : St} : ∀ {l : List (Nat × V)}, allSl σ l → ∀ t, look l t = .pv .any ∨ look l t = σ.sl t
  | [], _, _ => .inl rfl
  | (d, v) :: l, h, t => by
    simp only [look]
    cases hb : Nat.beq t d with
    | true => have := Nat.eq_of_beq_eq_true hb; subst this; exact .inr h.1.symm
    | false => simpa using look_spec h.2 t
theorem look_ok {k : Nat} : ∀ {l : List (Nat × V)}, l.all (fun p => p.2.okA k) = true → ∀ t, (look l t).okA k = true
  | [], _, _ => rfl
  | (d, v) :: l, h, t => by
    simp only [List.all_cons, Bool.and_eq_true] at h
    simp only [look]
    cases hb : Nat.beq t d with
    | true => exact h.1
    | false => simpa using look_ok h.2 t
theorem lookO_spec {σ : St} {k : Nat} : ∀ {l : List (Nat × Ob)}, allOb σ l → l.all (fun p => (Nat.blt p.1 k || Nat.ble big p.1) && p.2.okA k) = true → ∀ t o, lookO l t = some o → σ.ob t = some o ∧ avK k t = false ∧ o.okA k = true
  | [], _, _, _, _, h => by simp [lookO] at h
  | (d, v) :: l, h, hk, t, o, ho => by
    simp only [List.all_cons, Bool.and_eq_true] at hk
    simp only [lookO] at ho
    cases hb : Nat.beq t d with
    | true =>
      have := Nat.eq_of_beq_eq_true hb
      subst this
      rw [hb] at ho
      simp at ho
      subst ho
      exact ⟨h.1, ble_of hk.1.1, hk.1.2⟩
    | false => rw [hb] at ho; exact lookO_spec h.2 hk.2 t o (by simpa using ho)

theorem St.le_mk {σ : St} {l : List (Nat × V)} {os : List (Nat × Ob)} {k : Nat} (hl : allSl σ l) (ho : allOb σ os) (h1 : l.all (fun p => p.2.okA k) = true) (h2 : os.all (fun p => (Nat.blt p.1 k || Nat.ble big p.1) && p.2.okA k) = true) : σ.le (mkS l os k) := by
  rintro C n a w ⟨m, R, hw⟩
  refine ⟨fun id => if (lookO os id).isSome then m id else none, R, ?_⟩
  have sub : ∀ id x, (if (lookO os id).isSome then m id else none) = some x → m id = some x := fun id x e => by
    split at e
    · exact e
    · cases e
  refine ⟨⟨?_, ?_, ?_, ?_, ?_, ?_, ?_, ?_, ?_, ?_, ?_⟩, hw.df, hw.sz, ?_⟩
  · intro id
    show (if (lookO os id).isSome then m id else none).isSome = liveO (lookO os id)
    cases e : lookO os id with
    | none => rfl
    | some o =>
      have := hw.hr.dom id
      rw [(lookO_spec ho h2 id o e).1] at this
      simpa using this
  · intro id hid
    show lookO os id = none
    cases e : lookO os id with
    | none => rfl
    | some o =>
      have := (lookO_spec ho h2 id o e).2.1
      have hid' : avK k id = true := hid
      rw [hid'] at this
      cases this
  · intro id o b N h3 h4
    have h5 := lookO_spec ho h2 id o h3
    have h6 := hw.hr.obj id o b N h5.1 (sub _ _ h4)
    cases o with
    | cells ty cs => exact h6
    | gro ty cs => exact h6
    | mix ty cs =>
      obtain ⟨arr, q1, q2, q3, q4⟩ := h6
      exact ⟨arr, q1, q2, q3, q4.okA sub _ _ h5.2.2⟩
  · exact fun i j b N N' e1 e2 => hw.hr.inj i j b N N' (sub _ _ e1) (sub _ _ e2)
  · exact fun id b N e => hw.hr.own id b N (sub _ _ e)
  · exact hw.hr.rsz
  · exact hw.hr.rfr
  · exact hw.hr.r0
  · exact hw.hr.frame
  · exact fun id x hi e => hw.hr.keep id x hi (sub id x e)
  · exact fun id hi => avK_big hi
  · intro t ht
    show Rel w _ (avK k) R (look l t) _
    rcases look_spec hl t with e | e
    · rw [e]; simp only [Rel, RelP]
    · have := look_ok h1 t
      rw [e] at this ⊢
      exact (hw.sl t ht).okA sub _ _ this

/-- A slice of the call's own is finished: from now on it is a plain value, in the slots named. -/
def St.pub (σ : St) (id : Nat) (ts : List Nat) (p : PV) : St := ⟨fun t => bif ts.contains t then .pv p else σ.sl t, obL [(id, none)] σ.ob, σ.av⟩
def slAll (σ : St) (v : V) : List Nat → Prop
  | [] => True
  | t :: ts => σ.sl t = v ∧ slAll σ v ts
theorem slAll_mem {σ : St} {v : V} : ∀ {ts : List Nat}, slAll σ v ts → ∀ t ∈ ts, σ.sl t = v
  | [], _, t, h => by simp at h
  | q :: ts, h, t, hm => by
    rcases List.mem_cons.1 hm with rfl | hm
    · exact h.1
    · exact slAll_mem h.2 t hm
theorem St.le_pub {σ : St} {sz k : Nat} {T : TypeId} {cs : List PV} (id : Nat) (ts : List Nat) (ho : σ.ob id = some (.cells T cs)) (hts' : slAll σ (.osl id sz k) ts) (hsz : k * sz ≤ cs.length) : σ.le (σ.pub id ts (.sl none k (cs.take (k * sz)))) := by
  rintro C n a w ⟨m, R, hw⟩
  have hts := slAll_mem hts'
  obtain ⟨b, N, hm, arr, hb, hN, hle, hr⟩ := hw.live ho
  have own := hw.hr.own id b N hm
  have hd := hw.drop id
  have hmono : ∀ q, R q → (R q ∨ q = b) ∧ w.heap[q]? = w.heap[q]? := fun q hq => ⟨.inl hq, rfl⟩
  have sub : ∀ i x, upd m id none i = some x → m i = some x ∧ i ≠ id := fun i x e => by
    by_cases hi : i = id
    · subst hi; rw [upd_same] at e; cases e
    · rw [upd_ne _ _ hi] at e; exact ⟨e, hi⟩
  refine ⟨upd m id none, fun q => R q ∨ q = b, ?_⟩
  refine ⟨⟨hd.hr.dom, hd.hr.free, ?_, hd.hr.inj, ?_, ?_, ?_, ?_, hw.hr.frame, hd.hr.keep, hd.hr.res⟩, hw.df, hw.sz, ?_⟩
  · intro i o b' N' h1 h2
    exact (hd.hr.obj i o b' N' h1 h2).mono hmono (fun _ _ _ e => e) (fun _ e => e) rfl
  · intro i b' N' h1
    obtain ⟨h2, h3, h4⟩ := hd.hr.own i b' N' h1
    refine ⟨h2, ?_, h4⟩
    rintro (h5 | h5)
    · exact h3 h5
    · exact (sub i _ h1).2 (h_inj hw (sub i _ h1).1 hm h5)
  · rintro q (hq | hq)
    · exact hw.hr.rsz q hq
    · rw [hq]; exact own.1
  · rintro q (hq | hq)
    · exact hw.hr.rfr q hq
    · rw [hq]; rcases own.2.2 with h | h
      · exact .inr (.inr h)
      · exact .inr (.inl h)
  · exact fun q hq => .inl (hw.hr.r0 q hq)
  · intro t ht
    show Rel w _ σ.av _ (bif ts.contains t then .pv _ else σ.sl t) _
    cases hc : ts.contains t with
    | false => exact (hd.sl t ht).mono hmono (fun _ _ _ e => e) (fun _ e => e)
    | true =>
      have hmem : t ∈ ts := by simpa using hc
      have h0 := hw.sl t ht
      rw [hts t hmem] at h0
      simp only [Rel] at h0
      obtain ⟨c, he, h1, h2, h3⟩ := h0.2 b N hm
      simp only [cond_true, Rel, RelP]
      refine ⟨_, c, he, h1, h2, (fun _ e => by cases e), (fun e => by cases e), fun _ => ⟨b, 0, _, rfl, (hr.take (k * sz)).mono hmono, .inr rfl, ?_⟩⟩
      intro j hj
      simp only [List.length_take] at hj
      rw [Nat.zero_add, cell_of_row w b j arr T (0, 0) hb, List.getElem?_take, if_pos (by omega), List.getElem?_take, if_pos (by omega)]
      simp

/-- The plain value of a value: slices of the call's own are seen as they stand. -/
def V.toP1 (ob : Nat → Option Ob) : V → Option PV
  | .pv p => some p
  | .osl id sz k => match ob id with
    | some (.cells _ cs) => some (.sl (some false) k cs)
    | _ => none
  | .gsl id sz k => match ob id with
    | some (.gro _ cs) => some (.sl none k cs)
    | _ => none
  | _ => none
def V.toPL (ob : Nat → Option Ob) : List V → Option (List PV)
  | [] => some []
  | c :: cs => match c.toP1 ob, V.toPL ob cs with
    | some p, some ps => some (p :: ps)
    | _, _ => none
def V.toP (ob : Nat → Option Ob) : V → Option PV
  | .agg cs => match V.toPL ob cs with | some ps => some (.agg ps) | none => none
  | .fn f a b => match V.toPL ob a, V.toPL ob b with | some ps, some qs => some (.fn f ps qs) | _, _ => none
  | v => v.toP1 ob
def V.args (ob : Nat → Option Ob) : List V → Option (List PV)
  | [] => some []
  | c :: cs => match c.toP ob, V.args ob cs with
    | some p, some ps => some (p :: ps)
    | _, _ => none

/-- The blocks of the call's own places. -/
def OwnB (m : Gm) (b : Nat) : Prop := ∃ id N, m id = some (b, N)
section
variable {C : Ctx} {n : Nat} {σ : St} {a : Act} {w : World} {m : Gm} {R : Nat → Prop}
theorem SW.toP1 (hw : SW C n σ a w m R) {v : V} {u : Value} {p : PV} (h : Rel w m σ.av R v u) (hp : v.toP1 σ.ob = some p) : RelP w (fun b => R b ∨ OwnB m b) p u := by
  have hmono : ∀ q, R q → (R q ∨ OwnB m q) ∧ w.heap[q]? = w.heap[q]? := fun q hq => ⟨.inl hq, rfl⟩
  cases v with
  | pv q => simp only [V.toP1, Option.some.injEq] at hp; subst hp; simp only [Rel] at h; exact h.mono hmono
  | osl id sz k =>
    simp only [V.toP1] at hp
    split at hp
    · rename_i T cs ho
      simp at hp
      subst hp
      obtain ⟨b, N, hm, arr, hbk, hN, hle', hr⟩ := hw.live ho
      simp only [Rel] at h
      obtain ⟨c, he, h1, h2, h3⟩ := h.2 b N hm
      simp only [RelP]
      refine ⟨_, c, he, h1, h2, (fun _ e => by cases e; rfl), (fun e => by cases e), fun _ => ⟨b, 0, _, rfl, hr.mono hmono, .inr ⟨id, N, hm⟩, ?_⟩⟩
      intro j hj
      simp only [List.length_take] at hj
      rw [Nat.zero_add, cell_of_row w b j arr T (0, 0) hbk, List.getElem?_take, if_pos (by omega)]
      simp
    · cases hp
  | gsl id sz k =>
    simp only [V.toP1] at hp
    split at hp
    · rename_i T cs ho
      simp at hp
      subst hp
      simp only [Rel] at h
      obtain ⟨h0, A, c, he, h1, h2, h3, h4⟩ := h
      simp only [RelP]
      refine ⟨_, c, he, h1, h2, (fun _ e => by cases e), (fun e => by cases e), fun hne => ?_⟩
      have hre : (Ob.gro T cs).real = true := by cases cs; exact absurd rfl hne; rfl
      obtain ⟨b, N, hm, arr, hbk, hN, hle', hr⟩ := hw.live ho hre
      have hk : 0 < k := by
        rcases Nat.eq_zero_or_pos k with e | e
        · have := (h3 e).2.2; rw [hm] at this; cases this
        · exact e
      refine ⟨b, 0, _, (h4 hk b N hm).1, hr.mono hmono, .inr ⟨id, N, hm⟩, ?_⟩
      intro j hj
      simp only [List.length_take] at hj
      rw [Nat.zero_add, cell_of_row w b j arr T (0, 0) hbk, List.getElem?_take, if_pos (by omega)]
      simp
    · cases hp
  | _ => simp [V.toP1] at hp
theorem SW.toPL (hw : SW C n σ a w m R) : ∀ {vs : List V} {us : List Value} {ps : List PV}, RelL w m σ.av R vs us → V.toPL σ.ob vs = some ps → RelPL w (fun b => R b ∨ OwnB m b) ps us
  | [], _, _, h, hp => by simp only [V.toPL, Option.some.injEq] at hp; subst hp; simpa only [RelL, RelPL] using h
  | c :: cs, _, _, h, hp => by
    simp only [V.toPL] at hp
    split at hp
    · rename_i p ps h1 h2
      simp at hp
      subst hp
      simp only [RelL] at h
      obtain ⟨u, us, rfl, hc, hr⟩ := h
      exact RelPL.cons (hw.toP1 hc h1) (SW.toPL hw hr h2)
    · cases hp
theorem SW.toP (hw : SW C n σ a w m R) {v : V} {u : Value} {p : PV} (h : Rel w m σ.av R v u) (hp : v.toP σ.ob = some p) : RelP w (fun b => R b ∨ OwnB m b) p u := by
  cases v with
  | agg cs =>
    simp only [V.toP] at hp
    split at hp
    · rename_i ps h1
      simp at hp
      subst hp
      simp only [Rel] at h
      obtain ⟨us, rfl, hr⟩ := h
      simp only [RelP]
      exact ⟨us, rfl, hw.toPL hr h1⟩
    · cases hp
  | fn f a b =>
    simp only [V.toP] at hp
    split at hp
    · rename_i ps qs h1 h2
      simp at hp
      subst hp
      simp only [Rel] at h
      obtain ⟨us, vs, rfl, ha, hb⟩ := h
      simp only [RelP]
      exact ⟨us, vs, rfl, hw.toPL ha h1, hw.toPL hb h2⟩
    · cases hp
  | _ => exact hw.toP1 h hp
theorem SW.args (hw : SW C n σ a w m R) : ∀ {vs : List V} {us : List Value} {ps : List PV}, RelL w m σ.av R vs us → V.args σ.ob vs = some ps → RelPL w (fun b => R b ∨ OwnB m b) ps us
  | [], _, _, h, hp => by simp only [V.args, Option.some.injEq] at hp; subst hp; simpa only [RelL, RelPL] using h
  | c :: cs, _, _, h, hp => by
    simp only [V.args] at hp
    split at hp
    · rename_i p ps h1 h2
      simp at hp
      subst hp
      simp only [RelL] at h
      obtain ⟨u, us, rfl, hc, hr⟩ := h
      exact RelPL.cons (hw.toP hc h1) (SW.args hw hr h2)
    · cases hp
theorem SW.evs (hw : SW C n σ a w m R) : ∀ (xs : List Operand), RelL w m σ.av R (xs.map (σ.ev n)) (xs.map a.eval)
  | [] => by simpa using RelL.nil
  | x :: xs => by simpa using RelL.cons (hw.ev x) (SW.evs hw xs)
end

/-- A value of which is not told whether it is nil. -/
def PV.fg1 : PV → PV
  | .sl _ n cs => .sl none n cs
  | p => p
def PV.fgL : List PV → List PV
  | [] => []
  | p :: ps => p.fg1 :: PV.fgL ps
def PV.fg : PV → PV
  | .agg cs => .agg (PV.fgL cs)
  | .tup cs => .tup (PV.fgL cs)
  | p => p.fg1
def PV.fgA : List PV → List PV
  | [] => []
  | p :: ps => p.fg :: PV.fgA ps
theorem RelP.fg1 {w : World} {R : Nat → Prop} {p : PV} {u : Value} (h : RelP w R p u) : RelP w R p.fg1 u := by
  cases p with
  | sl b n cs =>
    simp only [RelP, PV.fg1] at h ⊢
    obtain ⟨A, c, e, h1, h2, _, _, h5⟩ := h
    exact ⟨A, c, e, h1, h2, (fun _ e => by cases e), (fun e => by cases e), h5⟩
  | _ => exact h
theorem RelPL.fgL {w : World} {R : Nat → Prop} : ∀ {ps : List PV} {us : List Value}, RelPL w R ps us → RelPL w R (PV.fgL ps) us
  | [], _, h => h
  | p :: ps, _, h => by
    simp only [RelPL, PV.fgL] at h ⊢
    obtain ⟨u, vs, e, h1, h2⟩ := h
    exact ⟨u, vs, e, h1.fg1, RelPL.fgL h2⟩
theorem RelP.fg {w : World} {R : Nat → Prop} {p : PV} {u : Value} (h : RelP w R p u) : RelP w R p.fg u := by
  cases p with
  | agg cs =>
    simp only [RelP, PV.fg] at h ⊢
    obtain ⟨us, e, h⟩ := h
    exact ⟨us, e, h.fgL⟩
  | tup cs =>
    simp only [RelP, PV.fg] at h ⊢
    obtain ⟨us, e, h⟩ := h
    exact ⟨us, e, h.fgL⟩
  | _ => exact h.fg1
theorem RelPL.fgA {w : World} {R : Nat → Prop} : ∀ {ps : List PV} {us : List Value}, RelPL w R ps us → RelPL w R (PV.fgA ps) us
  | [], _, h => h
  | p :: ps, _, h => by
    simp only [RelPL, PV.fgA] at h ⊢
    obtain ⟨u, vs, e, h1, h2⟩ := h
    exact ⟨u, vs, e, h1.fg, RelPL.fgA h2⟩
/-- What is not told any more: of some slots. -/
def St.fgS (σ : St) (ts : List Nat) : St := ⟨fun t => bif ts.contains t then (match σ.sl t with | .pv p => .pv p.fg | v => v) else σ.sl t, σ.ob, σ.av⟩
theorem St.le_fgS {σ : St} (ts : List Nat) : σ.le (σ.fgS ts) := by
  rintro C n a w ⟨m, R, hw⟩
  refine ⟨m, R, hw.hr, hw.df, hw.sz, fun t ht => ?_⟩
  have h := hw.sl t ht
  show Rel w m σ.av R (bif ts.contains t then (match σ.sl t with | .pv p => .pv p.fg | v => v) else σ.sl t) _
  cases ts.contains t
  · exact h
  · simp only [cond_true]
    cases hv : σ.sl t with
    | pv p => rw [hv] at h; simp only [Rel] at h ⊢; exact h.fg
    | _ => rw [hv] at h; exact h
/-- The same of the cells of a place. -/
def St.fgO (σ : St) (id : Nat) (T : TypeId) (cs : List PV) : St := ⟨σ.sl, obL [(id, some (.cells T (PV.fgL cs)))] σ.ob, σ.av⟩
theorem PV.fgL_length : ∀ cs : List PV, (PV.fgL cs).length = cs.length
  | [] => rfl
  | _ :: cs => by simp [PV.fgL, PV.fgL_length cs]
theorem St.le_fgO {σ : St} {id : Nat} {T : TypeId} {cs : List PV} (ho : σ.ob id = some (.cells T cs)) : σ.le (σ.fgO id T cs) := by
  rintro C n a w ⟨m, R, hw⟩
  have obe : ∀ i, i ≠ id → obL [(id, some (.cells T (PV.fgL cs)))] σ.ob i = σ.ob i := fun i hi => by
    have : Nat.beq i id = false := by cases hb : Nat.beq i id; rfl; exact absurd (Nat.eq_of_beq_eq_true hb) hi
    simp [obL, this]
  have obs : obL [(id, some (.cells T (PV.fgL cs)))] σ.ob id = some (.cells T (PV.fgL cs)) := by simp [obL]
  refine ⟨m, R, ⟨?_, ?_, ?_, hw.hr.inj, hw.hr.own, hw.hr.rsz, hw.hr.rfr, hw.hr.r0, hw.hr.frame, hw.hr.keep, hw.hr.res⟩, hw.df, hw.sz, hw.sl⟩
  · intro i
    show (m i).isSome = liveO (obL _ σ.ob i)
    by_cases e : i = id
    · subst e; rw [obs, hw.hr.dom, ho]; rfl
    · rw [obe i e]; exact hw.hr.dom i
  · intro i hi
    show obL _ σ.ob i = none
    by_cases e : i = id
    · subst e; have := hw.hr.free i hi; rw [ho] at this; cases this
    · rw [obe i e]; exact hw.hr.free i hi
  · intro i o b N h1 h2
    by_cases e : i = id
    · subst e
      have h1' : obL [(i, some (.cells T (PV.fgL cs)))] σ.ob i = some o := h1
      rw [obs] at h1'
      cases h1'
      obtain ⟨arr, q1, q2, q3, q4⟩ := hw.hr.obj i _ b N ho h2
      exact ⟨arr, q1, q2, by rw [PV.fgL_length]; exact q3, by rw [PV.fgL_length]; exact q4.fgL⟩
    · have h1' : obL [(id, some (.cells T (PV.fgL cs)))] σ.ob i = some o := h1
      rw [obe i e] at h1'
      exact hw.hr.obj i o b N h1' h2

/-- The contract of a function on plain values: whatever it returns stands in old memory that stood, or in new memory. -/
def FnP (P : Program) (f : FuncId) (args : List PV) (Q : PV → Prop) : Prop :=
  ∀ (w : World) (R : Nat → Prop) (us : List Value), (∀ b, R b → b < w.heap.size) → RelPL w R args us →
    Calls P f us.toArray w fun e w' => ∃ u v, e = .returned u ∧ Q v ∧ Below w.heap.size w w' ∧ RelP w' (fun b => R b ∨ (w.heap.size ≤ b ∧ b < w'.heap.size)) v u
theorem FnP.mono {P : Program} {f : FuncId} {args : List PV} {Q Q' : PV → Prop} (h : FnP P f args Q) (hq : ∀ v, Q v → Q' v) : FnP P f args Q' :=
  fun w R us h1 h2 => (h w R us h1 h2).mono fun _ _ ⟨u, v, e, q, r⟩ => ⟨u, v, e, hq v q, r⟩

/-- A call is entered. -/
def CallOk (P : Program) (f : FuncId) : Prop := ∀ args w, (callFunc f args).run P w = .ok (.enter f args) w

/-- What does not lean on memory. -/
def PV.flat : PV → Bool
  | .int _ _ | .bool _ | .str _ | .nilfn | .nilptr | .nilmap | .niliface | .any => true
  | .tup ps => ps.all fun | .int _ _ | .bool _ | .str _ => true | _ => false
  | .agg ps => ps.all fun | .int _ _ | .bool _ | .str _ => true | _ => false
  | _ => false
theorem flatL {w w' : World} {R R' : Nat → Prop} : ∀ {ps : List PV} {us : List Value}, (ps.all fun | .int _ _ | .bool _ | .str _ => true | _ => false) = true → RelPL w R ps us → RelPL w' R' ps us
  | [], _, _, h => by simpa only [RelPL] using h
  | c :: cs, _, hf, h => by
    simp only [List.all_cons, Bool.and_eq_true] at hf
    simp only [RelPL] at h ⊢
    obtain ⟨u, us, e, hc, hr⟩ := h
    refine ⟨u, us, e, ?_, flatL hf.2 hr⟩
    cases c <;> simp at hf <;> simpa only [RelP] using hc
theorem RelP.flat {w w' : World} {R R' : Nat → Prop} {p : PV} {u : Value} (hf : p.flat = true) (h : RelP w R p u) : RelP w' R' p u := by
  cases p <;> simp only [PV.flat, Bool.false_eq_true] at hf <;> simp only [RelP] at h ⊢
  case agg ps => obtain ⟨us, e, h⟩ := h; exact ⟨us, e, flatL hf h⟩
  case tup ps => obtain ⟨us, e, h⟩ := h; exact ⟨us, e, flatL hf h⟩
  all_goals exact h

section
variable {C : Ctx} {n : Nat} {σ : St} {dst : Option Tmp} {ty : TypeId} {ts : Array TypeId} {pos : String} {after : Array Edge} {gd : Option (Nat × Bool)}

/-- Behind a call that only made memory. -/
theorem SW.called {a : Act} {w w' : World} {m : Gm} {R : Nat → Prop} (hw : SW C n σ a w m R) (hb : Below w.heap.size w w') :
    SW C n σ a w' m (fun b => R b ∨ (w.heap.size ≤ b ∧ b < w'.heap.size)) := by
  have hR : ∀ b, R b → (R b ∨ (w.heap.size ≤ b ∧ b < w'.heap.size)) ∧ w'.heap[b]? = w.heap[b]? := fun b h => ⟨.inl h, hb.block b (hw.hr.rsz b h)⟩
  have := hw.world (w' := w') (m' := m) (R' := fun b => R b ∨ (w.heap.size ≤ b ∧ b < w'.heap.size)) (ob' := σ.ob) (av' := σ.av) ?_ hR (fun _ _ _ e => e) (fun _ e => e)
  · exact this
  refine ⟨hw.hr.dom, hw.hr.free, ?_, hw.hr.inj, ?_, ?_, ?_, fun b h => .inl (hw.hr.r0 b h), ?_, hw.hr.keep, hw.hr.res⟩
  · intro i o b N h1 h2
    exact (hw.hr.obj i o b N h1 h2).mono hR (fun _ _ _ e => e) (fun _ e => e) (hb.block b (hw.hr.own i b N h2).1)
  · intro i b N h1
    obtain ⟨h2, h3, h4⟩ := hw.hr.own i b N h1
    refine ⟨Nat.lt_of_lt_of_le h2 hb.size, ?_, h4⟩
    rintro (h5 | h5)
    · exact h3 h5
    · omega
  · rintro b (h | h)
    · exact Nat.lt_of_lt_of_le (hw.hr.rsz b h) hb.size
    · exact h.2
  · rintro b (h | h)
    · exact hw.hr.rfr b h
    · exact .inr (.inl (Nat.le_trans hw.hr.frame.size h.1))
  · refine ⟨hb.os.trans hw.hr.frame.os, hb.tape.trans hw.hr.frame.tape, hb.output.trans hw.hr.frame.output, Nat.le_trans hw.hr.frame.size hb.size, fun k hk hF => ?_⟩
    rw [hb.block k (Nat.lt_of_lt_of_le hk hw.hr.frame.size)]
    exact hw.hr.frame.block k hk hF

theorem run_callOp {P : Program} {f : FuncId} (hc : CallOk P f) (xs : Array Operand) (a : Act) (w : World) :
    (execOp a.eval ⟨dst, .call { callee := .value (.func f), args := xs, argTypes := ts }, ty, pos, after, gd⟩).run P w = .ok (.enter f (xs.map a.eval)) w := by
  simp [execOp, resolve, Deferred.ofValue, Act.eval, invoke, hc]
  exact hc _ _

/-- A call of a function on plain values: no slice of the call's own among the arguments. -/
theorem oj_call {f : FuncId} {xs : Array Operand} {ps : List PV} {Q : PV → Prop} {K : St → Prop} (hc : CallOk C.P f) (hf : FnP C.P f ps Q) (hargs : (V.args (fun _ => none) (xs.toList.map (σ.ev n))).map PV.fgA = some ps) (hk : ∀ v, Q v → K (σ.put dst (.pv v))) :
    OJ C n ⟨dst, .call { callee := .value (.func f), args := xs, argTypes := ts }, ty, pos, after, gd⟩ K σ := by
  rintro a w Q' ⟨m, R, hw⟩
  unfold Oper.wp
  rw [run_callOp hc]
  have hrel : RelPL w R ps (xs.toList.map a.eval) := by
    have h0 : SW C n ⟨σ.sl, fun _ => none, σ.av⟩ a w (fun _ => none) R := by
      refine ⟨⟨fun _ => rfl, fun _ _ => rfl, fun _ _ _ _ h => (by cases h), fun _ _ _ _ _ h => (by cases h), fun _ _ _ h => (by cases h), hw.hr.rsz, hw.hr.rfr, hw.hr.r0, hw.hr.frame, fun _ _ _ h => (by cases h), hw.hr.res⟩, hw.df, hw.sz, fun t ht => (hw.sl t ht).mono (fun b h => ⟨h, rfl⟩) (fun _ _ _ e => by cases e) (fun _ e => e)⟩
    obtain ⟨ps0, hargs0, rfl⟩ := Option.map_eq_some_iff.1 hargs
    have h1 := (h0.args (h0.evs xs.toList) hargs0).fgA
    exact h1.mono fun b hb => ⟨hb.elim id (fun ⟨_, _, h⟩ => by cases h), rfl⟩
  have := hf w R (xs.toList.map a.eval) hw.hr.rsz hrel
  have e : (xs.toList.map a.eval).toArray = xs.map a.eval := by rw [← Array.toList_map, Array.toArray_toList]
  rw [e] at this
  refine Calls.mono this ?_
  rintro e w' ⟨u, v, rfl, hq, hb, hr⟩
  exact ⟨_, hk v hq, m, _, (hw.called hb).put dst (by simpa only [Rel] using hr)⟩
theorem xj_call {f : FuncId} {xs : Array Operand} {ps : List PV} {r : PV} (hc : CallOk C.P f) (hf : FnP C.P f ps (· = r)) (hargs : (V.args (fun _ => none) (xs.toList.map (σ.ev n))).map PV.fgA = some ps) :
    XJ C n ⟨dst, .call { callee := .value (.func f), args := xs, argTypes := ts }, ty, pos, after, gd⟩ σ ⟨.pv r, [], []⟩ :=
  oj_call hc hf hargs (by rintro v rfl; exact (St.app_pure σ dst _).symm)

/-- The same where the result does not lean on memory: slices of the call's own may be handed over as they stand. -/
theorem oj_callF {f : FuncId} {xs : Array Operand} {ps : List PV} {Q : PV → Prop} {K : St → Prop} (hc : CallOk C.P f) (hf : FnP C.P f ps Q) (hargs : (V.args σ.ob (xs.toList.map (σ.ev n))).map PV.fgA = some ps) (hfl : ∀ v, Q v → v.flat = true) (hk : ∀ v, Q v → K (σ.put dst (.pv v))) :
    OJ C n ⟨dst, .call { callee := .value (.func f), args := xs, argTypes := ts }, ty, pos, after, gd⟩ K σ := by
  rintro a w Q' ⟨m, R, hw⟩
  unfold Oper.wp
  rw [run_callOp hc]
  obtain ⟨ps0, hargs0, rfl⟩ := Option.map_eq_some_iff.1 hargs
  have hrel := (hw.args (hw.evs xs.toList) hargs0).fgA
  have := hf w (fun b => R b ∨ OwnB m b) (xs.toList.map a.eval) (by rintro b (h | ⟨id, N, h⟩); exact hw.hr.rsz b h; exact (hw.hr.own id b N h).1) hrel
  have e : (xs.toList.map a.eval).toArray = xs.map a.eval := by rw [← Array.toList_map, Array.toArray_toList]
  rw [e] at this
  refine Calls.mono this ?_
  rintro e w' ⟨u, v, rfl, hq, hb, hr⟩
  exact ⟨_, hk v hq, m, _, (hw.called hb).put dst (by simp only [Rel]; exact hr.flat (hfl v hq))⟩
theorem xj_callF {f : FuncId} {xs : Array Operand} {ps : List PV} {r : PV} (hc : CallOk C.P f) (hf : FnP C.P f ps (· = r)) (hargs : (V.args σ.ob (xs.toList.map (σ.ev n))).map PV.fgA = some ps) (hfl : r.flat = true) :
    XJ C n ⟨dst, .call { callee := .value (.func f), args := xs, argTypes := ts }, ty, pos, after, gd⟩ σ ⟨.pv r, [], []⟩ :=
  oj_callF hc hf hargs (by rintro v rfl; exact hfl) (by rintro v rfl; exact (St.app_pure σ dst _).symm)
end

/-- The slots at the entry. -/
def argsL : Nat → List PV → List (Nat × V)
  | _, [] => []
  | k, p :: ps => (k, .pv p) :: argsL (k + 1) ps

/-- What a result is, read off the slots. -/
def resV (n : Nat) (σ : St) : List ResultVar → Option (List V)
  | [] => some []
  | .tmp t :: l => match resV n σ l with | some vs => some (σ.ev n (.tmp t) :: vs) | none => none
  | _ :: _ => none
def resOne : List PV → PV
  | [p] => p
  | ps => .tup ps
/-- How a body must end. -/
def retQ (fn : Func) (n : Nat) (Q : PV → Prop) : Exit → St → Prop
  | .ret, σ | .normal, σ => ∃ vs ps, resV n σ fn.results.toList = some vs ∧ V.args σ.ob vs = some ps ∧ Q (resOne ps)
  | _, _ => False

def resU (a : Act) : ResultVar → Value
  | .tmp t => a.eval (.tmp t)
  | .cell _ _ => undef
theorem mapM_run {n : Nat} {σ : St} {a : Act} (w : World) (P : Program) (f : ResultVar → Sem Value) (hf : ∀ t, f (.tmp t) = pure (a.tmps.getD t undef)) : ∀ {l : List ResultVar} {vs : List V}, resV n σ l = some vs →
    Sem.run P (l.mapM f) w = .ok (l.map (resU a)) w
  | [], vs, h => by simp
  | .tmp t :: l, vs, h => by
    simp only [resV] at h
    split at h
    · rename_i vs' h'
      have hr := mapM_run w P f hf h'
      rw [List.mapM_cons, hf]
      simp [hr, resU, Act.eval]
    · cases h
  | .cell _ _ :: _, _, h => by simp [resV] at h
theorem resV_rel {C : Ctx} {n : Nat} {σ : St} {a : Act} {w : World} {m : Gm} {R : Nat → Prop} (hw : SW C n σ a w m R) : ∀ {l : List ResultVar} {vs : List V}, resV n σ l = some vs → RelL w m σ.av R vs (l.map (resU a))
  | [], vs, h => by simp only [resV, Option.some.injEq] at h; subst h; simpa using RelL.nil
  | .tmp t :: l, vs, h => by
    simp only [resV] at h
    split at h
    · rename_i vs' h'
      simp at h
      subst h
      simpa [resU] using RelL.cons (hw.ev (.tmp t)) (resV_rel hw h')
    · cases h
  | .cell _ _ :: _, _, h => by simp [resV] at h

theorem FnP.of {P : Program} {f : FuncId} {fn : Func} {c : Code} {n : Nat} {args : List PV} {Q : PV → Prop} (hf : P.funcs[f]? = some fn) (hb : fn.body = some c) (hn : fn.ntmps = n) (hna : args.length ≤ n)
    (h : ∀ m0 w0 F R0, AW ⟨P, m0, w0, F, R0⟩ n c (retQ fn n Q) (mkS (argsL 0 args) [] 0)) : FnP P f args Q := by
  intro w R us hR hrel
  refine calls_of_wp hf hb ?_
  let C : Ctx := ⟨P, fun _ => none, w, fun _ => False, R⟩
  have hl := hrel.length
  have init : SJ C n (mkS (argsL 0 args) [] 0) { tmps := us.toArray ++ Array.replicate (fn.ntmps - us.toArray.size) undef, defers := [] } w := by
    refine ⟨fun _ => none, R, ⟨⟨fun _ => rfl, fun _ _ => rfl, fun _ _ _ _ h => (by cases h), fun _ _ _ _ _ h => (by cases h), fun _ _ _ h => (by cases h), hR, fun b h => .inl h, fun b h => h, Fr.refl _ _, fun _ _ _ h => (by cases h), fun id hi => avK_big (k := 0) hi⟩, rfl, by simp; omega, ?_⟩⟩
    intro t ht
    show Rel w _ (avK 0) R (look (argsL 0 args) t) ((us.toArray ++ Array.replicate (fn.ntmps - us.toArray.size) undef).getD t undef)
    have key : ∀ (ps : List PV) (vs : List Value) (k : Nat), RelPL w R ps vs → k ≤ t → ∀ z : Value, vs[t - k]?.getD z = z ∨ True → Rel w (fun _ => none) (avK 0) R (look (argsL k ps) t) (vs[t - k]?.getD z) := by
      intro ps
      induction ps with
      | nil => intro vs k _ _ z _; simp only [argsL, look, Rel, RelP]
      | cons p ps ih =>
        intro vs k hr hk z _
        simp only [RelPL] at hr
        obtain ⟨u, vs', rfl, h1, h2⟩ := hr
        simp only [argsL, look]
        by_cases e : t = k
        · subst e
          simp only [Nat.beq_eq_true_eq, Nat.beq_refl, cond_true, Nat.sub_self]
          simpa [Rel] using h1
        · have hb : Nat.beq t k = false := by cases hb : Nat.beq t k; rfl; exact absurd (Nat.eq_of_beq_eq_true hb) e
          rw [hb]
          have := ih vs' (k + 1) h2 (by omega) z (.inr trivial)
          have e2 : t - k = (t - (k + 1)) + 1 := by omega
          rw [e2]
          simpa using this
    have := key args us 0 hrel (Nat.zero_le _) undef (.inr trivial)
    simp only [Nat.sub_zero] at this
    rw [Array.getD_eq_getD_getElem?, Array.getElem?_append]
    by_cases e : t < us.length
    · simpa [e] using this
    · rw [List.getElem?_eq_none (by omega)] at this
      simp only [List.size_toArray, e, if_false, Array.getElem?_replicate]
      split <;> simpa using this
  have hbody := (h (fun _ => none) w (fun _ => False) R).go _ w init
  refine wp_mono hbody ?_
  rintro ex a' w' ⟨σ', hq, m, R', hw⟩
  have fin : ∀ vs ps, resV n σ' fn.results.toList = some vs → V.args σ'.ob vs = some ps → Q (resOne ps) → a'.defers = [] ∧ ∃ v, (results fn a'.tmps).run P w' = .ok v w' ∧
      ∃ u v_1, Ending.returned v = .returned u ∧ Q v_1 ∧ Below w.heap.size w w' ∧ RelP w' (fun b => R b ∨ (w.heap.size ≤ b ∧ b < w'.heap.size)) v_1 u := by
    intro vs ps h1 h2 h3
    have hrl := resV_rel hw h1
    have hrun := fun f hf => mapM_run (a := a') w' P f hf h1
    generalize fn.results.toList.map (resU a') = us' at hrl hrun
    have hp := hw.args hrl h2
    have hp2 : RelPL w' (fun b => R b ∨ (w.heap.size ≤ b ∧ b < w'.heap.size)) ps us' := hp.mono fun b hb => ⟨by
      rcases hb with hb | ⟨id, N, hb⟩
      · rcases hw.hr.rfr b hb with h | h | h
        · exact .inl h
        · exact .inr ⟨h, hw.hr.rsz b hb⟩
        · exact h.elim
      · rcases (hw.hr.own id b N hb).2.2 with h | h
        · exact h.elim
        · exact .inr ⟨h, (hw.hr.own id b N hb).1⟩, rfl⟩
    have hbel : Below w.heap.size w w' := ⟨hw.hr.frame.os, hw.hr.frame.tape, hw.hr.frame.output, hw.hr.frame.size, fun k hk => hw.hr.frame.block k hk id⟩
    have hlen := hp2.length
    refine ⟨hw.df, (if h : us'.toArray.size = 1 then us'.toArray[0] else .tuple us'.toArray), ?_, ?_⟩
    · unfold results
      rw [Array.mapM_eq_mapM_toList]
      simp only [Sem.run_bind, Sem.run_map]
      rw [hrun _ (fun t => rfl)]
      rfl
    · refine ⟨_, _, rfl, h3, hbel, ?_⟩
      cases ps with
      | nil =>
        simp only [RelPL] at hp2
        subst hp2
        simp only [resOne, RelP]
        exact ⟨[], by simp, RelPL.nil⟩
      | cons p ps =>
        cases ps with
        | nil =>
          simp only [RelPL] at hp2
          obtain ⟨u, vs', rfl, h5, rfl⟩ := hp2
          simpa [resOne] using h5
        | cons p2 ps =>
          simp only [resOne, RelP]
          refine ⟨us', ?_, hp2⟩
          rw [dif_neg (by simp at hlen ⊢; omega)]
  cases ex with
  | normal => obtain ⟨vs, ps, h1, h2, h3⟩ := hq; exact fin vs ps h1 h2 h3
  | ret => obtain ⟨vs, ps, h1, h2, h3⟩ := hq; exact fin vs ps h1 h2 h3
  | _ => exact hq.elim

end Go.Proofs.Ytkalgjnhaicabaa
