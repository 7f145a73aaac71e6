/-
  Our own step logic: methods whose result lies in a variable. No statement of the program is proved here.
-/
import Derived.Test.YtkalgjnhaicabaaE14
namespace Go.Proofs.Ytkalgjnhaicabaa
open Go.RowKit

/-- How the body of such a method must end: the result's cells are plain. -/
def retMC (n t k : Nat) (T : TypeId) (Q : PV → List PV → Prop) : Exit → St → Prop
  | .ret, σ | .normal, σ => ∃ id T2 ps cs', σ.ev n (.tmp t) = .ptr id 0 ∧ Nat.blt id big = true ∧ σ.ob id = some (.mix T2 (ps.map .pv)) ∧ ps.length = k ∧ σ.ob big = some (.mix T (cs'.map .pv)) ∧ Q (.agg ps) cs'
  | _, _ => False

theorem FnM.ofC {P : Program} {f : FuncId} {fn : Func} {c : Code} {n t k : Nat} {rt T : TypeId} {cs args : List PV} {Q : PV → List PV → Prop} (hf : P.funcs[f]? = some fn) (hb : fn.body = some c) (hn : fn.ntmps = n) (hna : args.length + 1 ≤ n) (hres : fn.results.toList = [.cell t rt]) (ht : t < n) (hrow : isRow P rt) (hsz : szIs P rt k)
    (h : ∀ m0 w0 F R0, AW ⟨P, m0, w0, F, R0⟩ n c (retMC n t k T Q) (mkS ((0, .ptr big 0) :: argsV 1 (args.map .pv)) [(big, .mix T (cs.map .pv))] 0)) : FnM P f T cs args Q := by
  have hO : FnO P f 1 0 (.ptr big 0 :: args.map .pv) [(big, .mix T (cs.map .pv))] fun v ob' => ∃ ps cs', v = .agg (ps.map .pv) ∧ ob' = lookO [(big, .mix T (cs'.map .pv))] ∧ Q (.agg ps) cs' := by
    refine FnO.ofC hf hb hn (by simpa using hna) fun m0 w0 F R0 => ?_
    refine (h m0 w0 F R0).mono ?_
    have hlt : Nat.blt t n = true := by simpa [Nat.blt_eq] using ht
    have key : ∀ s : St, (∃ id T2 ps cs', s.ev n (.tmp t) = .ptr id 0 ∧ Nat.blt id big = true ∧ s.ob id = some (.mix T2 (ps.map .pv)) ∧ ps.length = k ∧ s.ob big = some (.mix T (cs'.map .pv)) ∧ Q (.agg ps) cs') →
        ∃ l os' vs os2 k2, s.le (mkS l os' k2) ∧ resC n (mkS l os' k2) fn.results.toList = some vs ∧ cellOk P n (mkS l os' k2) fn.results.toList ∧ V.allL (okR 1 0) vs = true ∧ os2.all (fun p => okR 1 0 p.1 && p.2.all (okR 1 0)) = true ∧
          (∀ i o, lookO os2 i = some o → lookO os' i = some o) ∧ 0 ≤ k2 ∧ ∃ ps cs', resOneV vs = .agg (ps.map .pv) ∧ lookO os2 = lookO [(big, .mix T (cs'.map .pv))] ∧ Q (.agg ps) cs' := by
      rintro s ⟨id, T2, ps, cs', h1, h2, h3, h4, h5, h6⟩
      simp only [St.ev, hlt, cond_true] at h1
      have hid : id < big := by simpa [Nat.blt_eq] using h2
      have e1 : Nat.beq id big = false := by cases hb : Nat.beq id big; rfl; have := Nat.eq_of_beq_eq_true hb; omega
      have ev : (mkS [(t, .ptr id 0)] [(big, .mix T (cs'.map .pv)), (id, .mix T2 (ps.map .pv))] (id + 1)).ev n (.tmp t) = .ptr id 0 := by
        simp only [St.ev, hlt, cond_true, mkS, look, Nat.beq_refl]
      have ob : (mkS [(t, .ptr id 0)] [(big, .mix T (cs'.map .pv)), (id, .mix T2 (ps.map .pv))] (id + 1)).ob id = some (.mix T2 (ps.map .pv)) := by
        simp only [mkS, lookO, e1, cond_false, Nat.beq_refl, cond_true]
      have hb1 : Nat.blt id (id + 1) = true := by simp [Nat.blt_eq]
      refine ⟨[(t, .ptr id 0)], [(big, .mix T (cs'.map .pv)), (id, .mix T2 (ps.map .pv))], [.agg (ps.map .pv)], [(big, .mix T (cs'.map .pv))], id + 1, St.le_mk ⟨h1, trivial⟩ ⟨h5, h3, trivial⟩ ?_ ?_, ?_, ?_, ?_, ?_, ?_, Nat.zero_le _, ps, cs', rfl, rfl, h6⟩
      · simp only [List.all_cons, List.all_nil, V.okA, hb1]; rfl
      · simp only [List.all_cons, List.all_nil, Bool.and_true, Ob.okA, okL_pv, hb1]
        simp
      · rw [hres]
        simp only [resC, ev, ob]
      · rw [hres]
        exact ⟨cellOk1 hrow hsz ev ob (by simpa using h4), trivial⟩
      · simp only [V.allL, V.all, allL_pv]; rfl
      · simp only [List.all_cons, List.all_nil, Bool.and_true, Ob.all, allL_pv]
        rfl
      · intro i o hi
        simp only [lookO] at hi ⊢
        cases hb : Nat.beq i big with
        | true => rw [hb] at hi; simpa using hi
        | false => rw [hb] at hi; simp at hi
    intro ex s hq
    cases ex with
    | normal => exact key s hq
    | ret => exact key s hq
    | _ => exact hq.elim
  intro w m R us h1 h2
  refine (hO w m R us h1 h2).mono ?_
  rintro e w' ⟨u, v, ob', m', R', rfl, ⟨ps, cs', rfl, rfl, hq⟩, h3, h4, h5, h6⟩
  refine ⟨u, .pv (.agg ps), _, m', R', rfl, ⟨_, cs', rfl, rfl, hq⟩, rfl, h4, h5, ?_⟩
  simp only [Rel, RelP] at h6 ⊢
  obtain ⟨us, e, hr⟩ := h6
  exact ⟨us, e, hr.toP⟩

end Go.Proofs.Ytkalgjnhaicabaa
