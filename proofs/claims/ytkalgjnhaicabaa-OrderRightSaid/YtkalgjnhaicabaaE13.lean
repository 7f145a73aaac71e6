/-
  Our own step logic: results that lie in a variable (structs). No statement of the program is proved here.
-/
import Derived.Test.YtkalgjnhaicabaaE12
namespace Go.Proofs.Ytkalgjnhaicabaa
open Go.RowKit

mutual
theorem V.ren_id : ∀ v : V, v.ren (fun i => i) = v
  | .pv _ => rfl
  | .ptr _ _ => rfl
  | .osl _ _ _ => rfl
  | .gsl _ _ _ => rfl
  | .map _ => rfl
  | .agg cs => by simp only [V.ren, V.renL_id cs]
  | .tup cs => by simp only [V.ren, V.renL_id cs]
  | .fn _ a b => by simp only [V.ren, V.renL_id a, V.renL_id b]
theorem V.renL_id : ∀ vs : List V, V.renL (fun i => i) vs = vs
  | [] => rfl
  | c :: cs => by simp only [V.renL, V.ren_id c, V.renL_id cs]
end
theorem Ob.ren_id (o : Ob) : o.ren (fun i => i) = o := by
  cases o with
  | cells _ _ => rfl
  | gro _ _ => rfl
  | mix _ cs => simp only [Ob.ren, V.renL_id cs]

/-- What the results are, read off slots and variables. -/
def resC (n : Nat) (σ : St) : List ResultVar → Option (List V)
  | [] => some []
  | .tmp t :: l => match resC n σ l with | some vs => some (σ.ev n (.tmp t) :: vs) | none => none
  | .cell a _ :: l => match σ.ev n (.tmp a), resC n σ l with
    | .ptr id 0, some vs => match σ.ob id with
      | some (.mix _ cs) => some (.agg cs :: vs)
      | _ => none
    | _, _ => none
/-- The sizes of the results that lie in variables. -/
def cellOk (P : Program) (n : Nat) (σ : St) : List ResultVar → Prop
  | [] => True
  | .tmp _ :: l => cellOk P n σ l
  | .cell a t :: l => (isRow P t ∧ ∃ k, szIs P t k ∧ ∀ id T cs, σ.ev n (.tmp a) = .ptr id 0 → σ.ob id = some (.mix T cs) → cs.length = k) ∧ cellOk P n σ l
/-- One result in a variable. -/
theorem cellOk1 {P : Program} {n : Nat} {σ : St} {a : Nat} {t : TypeId} {id k : Nat} {T : TypeId} {cs : List V} (h1 : isRow P t) (h2 : szIs P t k) (he : σ.ev n (.tmp a) = .ptr id 0) (ho : σ.ob id = some (.mix T cs)) (hk : cs.length = k) :
    isRow P t ∧ ∃ k, szIs P t k ∧ ∀ id T cs, σ.ev n (.tmp a) = .ptr id 0 → σ.ob id = some (.mix T cs) → cs.length = k :=
  ⟨h1, k, h2, fun id' T' cs' e1 e2 => by rw [he] at e1; cases e1; rw [ho] at e2; cases e2; exact hk⟩

theorem resC_run {C : Ctx} {n : Nat} {σ : St} {a : Act} {w : World} {m : Gm} {R : Nat → Prop} (hw : SW C n σ a w m R) (f : ResultVar → Sem Value) (hf : ∀ t, f (.tmp t) = pure (a.tmps.getD t undef)) (hf2 : ∀ ad t, f (.cell ad t) = do loadVar t (← asAddr (a.tmps.getD ad undef))) :
    ∀ {l : List ResultVar} {vs : List V}, resC n σ l = some vs → cellOk C.P n σ l → ∃ us, Sem.run C.P (l.mapM f) w = .ok us w ∧ RelL w m σ.av R vs us
  | [], vs, h, _ => by simp only [resC, Option.some.injEq] at h; subst h; exact ⟨[], by simp, RelL.nil⟩
  | .tmp t :: l, vs, h, hc => by
    simp only [resC] at h
    split at h
    · rename_i vs' h'
      simp at h
      subst h
      obtain ⟨us, hr, hl⟩ := resC_run hw f hf hf2 h' hc
      refine ⟨a.eval (.tmp t) :: us, ?_, RelL.cons (hw.ev (.tmp t)) hl⟩
      rw [List.mapM_cons, hf]
      simp [hr, Act.eval]
    · cases h
  | .cell ad t :: l, vs, h, hc => by
    simp only [resC] at h
    split at h
    · rename_i id vs' he h'
      split at h
      · rename_i T cs ho
        simp at h
        subst h
        obtain ⟨us, hr, hl⟩ := resC_run hw f hf hf2 h' hc.2
        obtain ⟨hrow, k, hk, hlen⟩ := hc.1
        have hlen := hlen id T cs he ho
        obtain ⟨b, N, hev, hm, arr, hb, hN, hle, hrl⟩ := hw.ptr he ho
        obtain ⟨d, hu, hd⟩ := hrow
        have hload := run_loadVar_mid (P := C.P) w b 0 t (arr.toList.take cs.length) d (fun j u hu => by
          rw [Nat.zero_add, cell_of_row w b j arr T (0, 0) hb]
          rw [List.getElem?_take] at hu
          split at hu
          · simpa using hu
          · cases hu) hu hd (by unfold szIs at hk; rw [hk, hrl.length, hlen])
        refine ⟨.agg (arr.toList.take cs.length).toArray :: us, ?_, RelL.cons (by simp only [Rel]; exact ⟨_, rfl, hrl⟩) hl⟩
        have hev' : a.tmps.getD ad undef = .pointer (some ⟨b, 0, none⟩) := hev
        rw [List.mapM_cons, hf2, hev']
        simp only [Sem.run_bind, asAddr, Sem.run_pure, Result.andThen_ok, hload, hr]
      · cases h
    · cases h

theorem results_run {C : Ctx} {n : Nat} {σ : St} {a : Act} {w : World} {m : Gm} {R : Nat → Prop} (hw : SW C n σ a w m R) {fn : Func} {vs : List V} (h : resC n σ fn.results.toList = some vs) (hc : cellOk C.P n σ fn.results.toList) :
    ∃ us : List Value, (results fn a.tmps).run C.P w = .ok (if h : us.toArray.size = 1 then us.toArray[0] else .tuple us.toArray) w ∧ RelL w m σ.av R vs us := by
  have key := fun f hf hf2 => resC_run hw f hf hf2 h hc
  have hx : ∃ us, Sem.run C.P (fn.results.toList.mapM fun
      | .tmp t => pure (a.tmps.getD t undef)
      | .cell ad t => do loadVar t (← asAddr (a.tmps.getD ad undef))) w = .ok us w ∧ RelL w m σ.av R vs us := key _ (fun _ => rfl) (fun _ _ => rfl)
  obtain ⟨us, hr, hl⟩ := hx
  refine ⟨us, ?_, hl⟩
  unfold results
  rw [Array.mapM_eq_mapM_toList]
  simp only [Sem.run_bind, Sem.run_map]
  erw [hr]
  rfl

def retQC (P : Program) (fn : Func) (n : Nat) (Q : PV → Prop) : Exit → St → Prop
  | .ret, σ | .normal, σ => ∃ vs ps, resC n σ fn.results.toList = some vs ∧ V.args σ.ob vs = some ps ∧ cellOk P n σ fn.results.toList ∧ Q (resOne ps)
  | _, _ => False
theorem FnP.ofC {P : Program} {f : FuncId} {fn : Func} {c : Code} {n : Nat} {args : List PV} {Q : PV → Prop} (hf : P.funcs[f]? = some fn) (hb : fn.body = some c) (hn : fn.ntmps = n) (hna : args.length ≤ n)
    (h : ∀ m0 w0 F R0, AW ⟨P, m0, w0, F, R0⟩ n c (retQC P fn n Q) (mkS (argsL 0 args) [] 0)) : FnP P f args Q := by
  intro w R us hR hrel
  refine calls_of_wp hf hb ?_
  let C : Ctx := ⟨P, fun _ => none, w, fun _ => False, R⟩
  have hl := hrel.length
  have init : SJ C n (mkS (argsL 0 args) [] 0) { tmps := us.toArray ++ Array.replicate (fn.ntmps - us.toArray.size) undef, defers := [] } w := by
    refine ⟨fun _ => none, R, ⟨⟨fun _ => rfl, fun _ _ => rfl, fun _ _ _ _ h => (by cases h), fun _ _ _ _ _ h => (by cases h), fun _ _ _ h => (by cases h), hR, fun b h => .inl h, fun b h => h, Fr.refl _ _, fun _ _ _ h => (by cases h), fun id hi => avK_big (k := 0) hi⟩, rfl, by simp; omega, ?_⟩⟩
    intro t ht
    show Rel w _ (avK 0) R (look (argsL 0 args) t) ((us.toArray ++ Array.replicate (fn.ntmps - us.toArray.size) undef).getD t undef)
    have key : ∀ (ps : List PV) (vs : List Value) (k : Nat), RelPL w R ps vs → k ≤ t → ∀ z : Value, Rel w (fun _ => none) (avK 0) R (look (argsL k ps) t) (vs[t - k]?.getD z) := by
      intro ps
      induction ps with
      | nil => intro vs k _ _ z; simp only [argsL, look, Rel, RelP]
      | cons p ps ih =>
        intro vs k hr hk z
        simp only [RelPL] at hr
        obtain ⟨u, vs', rfl, h1, h2⟩ := hr
        simp only [argsL, look]
        by_cases e : t = k
        · subst e
          simp only [Nat.beq_refl, cond_true, Nat.sub_self]
          simpa [Rel] using h1
        · have hb : Nat.beq t k = false := by cases hb : Nat.beq t k; rfl; exact absurd (Nat.eq_of_beq_eq_true hb) e
          rw [hb]
          have := ih vs' (k + 1) h2 (by omega) z
          have e2 : t - k = (t - (k + 1)) + 1 := by omega
          rw [e2]
          simpa using this
    have := key args us 0 hrel (Nat.zero_le _) undef
    simp only [Nat.sub_zero] at this
    rw [Array.getD_eq_getD_getElem?, Array.getElem?_append]
    by_cases e : t < us.length
    · simpa [e] using this
    · rw [List.getElem?_eq_none (by omega)] at this
      simp only [List.size_toArray, e, if_false, Array.getElem?_replicate]
      split <;> simpa using this
  refine wp_mono ((h (fun _ => none) w (fun _ => False) R).go _ w init) ?_
  rintro ex a' w' ⟨σ', hq, m, R', hw⟩
  have fin : ∀ vs ps, resC n σ' fn.results.toList = some vs → V.args σ'.ob vs = some ps → cellOk P n σ' fn.results.toList → Q (resOne ps) → a'.defers = [] ∧ ∃ v, (results fn a'.tmps).run P w' = .ok v w' ∧
      ∃ u v_1, Ending.returned v = .returned u ∧ Q v_1 ∧ Below w.heap.size w w' ∧ RelP w' (fun b => R b ∨ (w.heap.size ≤ b ∧ b < w'.heap.size)) v_1 u := by
    intro vs ps h1 h2 hc h3
    obtain ⟨us', hrun, hrl⟩ := results_run hw h1 hc
    have hp := hw.args hrl h2
    have hp2 : RelPL w' (fun b => R b ∨ (w.heap.size ≤ b ∧ b < w'.heap.size)) ps us' := hp.mono fun b hb => ⟨by
      rcases hb with hb | ⟨id, N, hb⟩
      · rcases hw.hr.rfr b hb with h | h | h
        · exact .inl h
        · exact .inr ⟨h, hw.hr.rsz b hb⟩
        · exact h.elim
      · rcases (hw.hr.own id b N hb).2.2 with h | h
        · exact h.elim
        · exact .inr ⟨h, (hw.hr.own id b N hb).1⟩, rfl⟩
    have hbel : Below w.heap.size w w' := ⟨hw.hr.frame.os, hw.hr.frame.tape, hw.hr.frame.output, hw.hr.frame.size, fun k hk => hw.hr.frame.block k hk id⟩
    have hlen := hp2.length
    refine ⟨hw.df, _, hrun, _, _, rfl, h3, hbel, ?_⟩
    cases ps with
    | nil =>
      simp only [RelPL] at hp2
      subst hp2
      simp only [resOne, RelP]
      exact ⟨[], by simp, RelPL.nil⟩
    | cons p ps =>
      cases ps with
      | nil =>
        simp only [RelPL] at hp2
        obtain ⟨u, vs', rfl, h5, rfl⟩ := hp2
        simpa [resOne] using h5
      | cons p2 ps =>
        simp only [resOne, RelP]
        refine ⟨us', ?_, hp2⟩
        rw [dif_neg (by simp at hlen ⊢; omega)]
  cases ex with
  | normal => obtain ⟨vs, ps, h1, h2, h3, h4⟩ := hq; exact fin vs ps h1 h2 h3 h4
  | ret => obtain ⟨vs, ps, h1, h2, h3, h4⟩ := hq; exact fin vs ps h1 h2 h3 h4
  | _ => exact hq.elim

def retOC (P : Program) (fn : Func) (n k k' : Nat) (Q : V → (Nat → Option Ob) → Prop) : Exit → St → Prop
  | .ret, σ | .normal, σ => ∃ l os' vs os2 k2, σ.le (mkS l os' k2) ∧ resC n (mkS l os' k2) fn.results.toList = some vs ∧ cellOk P n (mkS l os' k2) fn.results.toList ∧ V.allL (okR k k') vs = true ∧ os2.all (fun p => okR k k' p.1 && p.2.all (okR k k')) = true ∧
      (∀ i o, lookO os2 i = some o → lookO os' i = some o) ∧ k' ≤ k2 ∧ Q (resOneV vs) (lookO os2)
  | _, _ => False
theorem FnO.ofC {P : Program} {f : FuncId} {fn : Func} {c : Code} {n k k' : Nat} {args : List V} {os : List (Nat × Ob)} {Q : V → (Nat → Option Ob) → Prop} (hf : P.funcs[f]? = some fn) (hb : fn.body = some c) (hn : fn.ntmps = n) (hna : args.length ≤ n)
    (h : ∀ m0 w0 F R0, AW ⟨P, m0, w0, F, R0⟩ n c (retOC P fn n k k' Q) (mkS (argsV 0 args) os 0)) : FnO P f k k' args os Q := by
  intro w m R us hHR hrel
  refine calls_of_wp hf hb ?_
  have hl := hrel.length
  have init : SJ ⟨P, m, w, OwnB m, R⟩ n (mkS (argsV 0 args) os 0) { tmps := us.toArray ++ Array.replicate (fn.ntmps - us.toArray.size) undef, defers := [] } w := by
    refine ⟨m, R, ⟨hHR, rfl, by simp; omega, ?_⟩⟩
    intro t ht
    show Rel w m (avK 0) R (look (argsV 0 args) t) ((us.toArray ++ Array.replicate (fn.ntmps - us.toArray.size) undef).getD t undef)
    have key : ∀ (ps : List V) (vs : List Value) (k : Nat), RelL w m (avK 0) R ps vs → k ≤ t → ∀ z : Value, Rel w m (avK 0) R (look (argsV k ps) t) (vs[t - k]?.getD z) := by
      intro ps
      induction ps with
      | nil => intro vs k _ _ z; simp only [argsV, look, Rel, RelP]
      | cons p ps ih =>
        intro vs k hr hk z
        simp only [RelL] at hr
        obtain ⟨u, vs', rfl, h1, h2⟩ := hr
        simp only [argsV, look]
        by_cases e : t = k
        · subst e
          simp only [Nat.beq_refl, cond_true, Nat.sub_self]
          simpa using h1
        · have hb : Nat.beq t k = false := by cases hb : Nat.beq t k; rfl; exact absurd (Nat.eq_of_beq_eq_true hb) e
          rw [hb]
          have := ih vs' (k + 1) h2 (by omega) z
          have e2 : t - k = (t - (k + 1)) + 1 := by omega
          rw [e2]
          simpa using this
    have := key args us 0 hrel (Nat.zero_le _) undef
    simp only [Nat.sub_zero] at this
    rw [Array.getD_eq_getD_getElem?, Array.getElem?_append]
    by_cases e : t < us.length
    · simpa [e] using this
    · rw [List.getElem?_eq_none (by omega)] at this
      simp only [List.size_toArray, e, if_false, Array.getElem?_replicate]
      split <;> simpa using this
  refine wp_mono ((h m w (OwnB m) R).go _ w init) ?_
  rintro ex a' w' ⟨σ', hq, hsj⟩
  have fin : ∀ l os' vs os2 k2, σ'.le (mkS l os' k2) → resC n (mkS l os' k2) fn.results.toList = some vs → cellOk P n (mkS l os' k2) fn.results.toList → V.allL (okR k k') vs = true → os2.all (fun p => okR k k' p.1 && p.2.all (okR k k')) = true → (∀ i o, lookO os2 i = some o → lookO os' i = some o) → k' ≤ k2 → Q (resOneV vs) (lookO os2) →
      a'.defers = [] ∧ ∃ v, (results fn a'.tmps).run P w' = .ok v w' ∧ ∃ u v_1 ob' m' R', Ending.returned v = .returned u ∧ Q v_1 ob' ∧ v_1.all (okR k k') = true ∧ (∀ i o, ob' i = some o → okR k k' i = true ∧ o.all (okR k k') = true) ∧ HR ⟨P, m, w, OwnB m, R⟩ m' R' ob' (avK k') w' ∧ Rel w' m' (avK k') R' v_1 u := by
    intro l os' vs os2 k2 h1 h2 hc h3 h4 h5 h6 h7
    obtain ⟨m2, R2, hw⟩ := h1 _ _ _ _ hsj
    obtain ⟨us', hrun, hrl⟩ := results_run hw h2 hc
    have hob : ∀ i o, lookO os2 i = some o → okR k k' i = true ∧ o.all (okR k k') = true := by
      intro i o hio
      have := List.all_eq_true.1 h4 (i, o) (lookO_mem hio)
      simpa using this
    let m3 : Gm := fun i => if (lookO os2 i).isSome then m2 i else none
    have sub : ∀ i x, m3 i = some x → m2 i = some x := fun i x h => by
      simp only [m3] at h
      split at h
      · exact h
      · cases h
    have okav : ∀ i, okR k k' i = true → avK k' i = false := by
      intro i hi
      simp only [okR, Bool.or_eq_true, Bool.and_eq_true] at hi
      apply ble_of
      rcases hi with h | h
      · rw [h]; rfl
      · rw [h.1]; simp
    have um : ∀ (i : Nat) (x : Nat × Nat), okR k k' i = true → m3 i = some x → m2 i = some x := fun i x _ h => sub i x h
    refine ⟨hw.df, _, hrun, _, resOneV vs, lookO os2, m3, R2, rfl, h7, resOneV_all h3, hob, ?_, ?_⟩
    · refine ⟨?_, ?_, ?_, ?_, ?_, hw.hr.rsz, hw.hr.rfr, hw.hr.r0, hw.hr.frame, fun i x hi h => hw.hr.keep i x hi (sub i x h), fun i hi => avK_big hi⟩
      · intro i
        simp only [m3]
        cases e : lookO os2 i with
        | none => rfl
        | some o =>
          have := hw.hr.dom i
          have e2 : (mkS l os' k2).ob i = some o := h5 i o e
          rw [e2] at this
          simpa using this
      · intro i hi
        cases e : lookO os2 i with
        | none => rfl
        | some o =>
          have := okav i (hob i o e).1
          rw [hi] at this
          cases this
      · intro i o b N e1 e2
        have h8 := hw.hr.obj i o b N (h5 i o e1) (sub _ _ e2)
        have h9 : ORel w' m2 (mkS l os' k2).av R2 b N (o.ren (fun i => i)) := by rw [Ob.ren_id]; exact h8
        exact h9.unren (fun i => i) (okR k k') um okav (hob i o e1).2
      · exact fun i j b N N' e1 e2 => hw.hr.inj i j b N N' (sub _ _ e1) (sub _ _ e2)
      · exact fun i b N e => hw.hr.own i b N (sub _ _ e)
    · have h9 : Rel w' m2 (mkS l os' k2).av R2 ((resOneV vs).ren (fun i => i)) (if h : us'.toArray.size = 1 then us'.toArray[0] else .tuple us'.toArray) := by rw [V.ren_id]; exact resOneV_rel hrl
      exact h9.unren (fun i => i) (okR k k') um okav _ _ (resOneV_all h3)
  cases ex with
  | normal => obtain ⟨l, os', vs, os2, k2, h1, h2, h3, h4, h5, h6, h7, h8⟩ := hq; exact fin l os' vs os2 k2 h1 h2 h3 h4 h5 h6 h7 h8
  | ret => obtain ⟨l, os', vs, os2, k2, h1, h2, h3, h4, h5, h6, h7, h8⟩ := hq; exact fin l os' vs os2 k2 h1 h2 h3 h4 h5 h6 h7 h8
  | _ => exact hq.elim

end Go.Proofs.Ytkalgjnhaicabaa
