/-
  Our own step logic: methods of one variable of plain cells that the caller hands over. No statement of the program is proved here.
-/
import Derived.Test.YtkalgjnhaicabaaE11
namespace Go.Proofs.Ytkalgjnhaicabaa
open Go.RowKit

/-- The contract of a method of a variable of type T with plain cells. -/
def FnM (P : Program) (f : FuncId) (T : TypeId) (cs : List PV) (args : List PV) (Q : PV → List PV → Prop) : Prop :=
  FnO P f 1 0 (.ptr big 0 :: args.map .pv) [(big, .mix T (cs.map .pv))] fun v ob' => ∃ r cs', v = .pv r ∧ ob' = lookO [(big, .mix T (cs'.map .pv))] ∧ Q r cs'
theorem FnM.mono {P : Program} {f : FuncId} {T : TypeId} {cs args : List PV} {Q Q' : PV → List PV → Prop} (h : FnM P f T cs args Q) (hq : ∀ v c, Q v c → Q' v c) : FnM P f T cs args Q' :=
  FnO.mono h fun _ _ ⟨r, c, e1, e2, q⟩ => ⟨r, c, e1, e2, hq r c q⟩

theorem renL_pv (ρ : Nat → Nat) : ∀ ps : List PV, V.renL ρ (ps.map V.pv) = ps.map V.pv
  | [] => rfl
  | p :: ps => by simp [V.renL, V.ren, renL_pv ρ ps]
theorem allL_pv (q : Nat → Bool) : ∀ ps : List PV, V.allL q (ps.map V.pv) = true
  | [] => rfl
  | p :: ps => by simp [V.allL, V.all, allL_pv q ps]
theorem okL_pv (k : Nat) : ∀ ps : List PV, V.okL k (ps.map V.pv) = true
  | [] => rfl
  | p :: ps => by simp [V.okL, V.okA, okL_pv k ps]

/-- How the body of such a method must end. -/
def retM (n t : Nat) (T : TypeId) (Q : PV → List PV → Prop) : Exit → St → Prop
  | .ret, σ | .normal, σ => ∃ r cs', σ.ev n (.tmp t) = .pv r ∧ σ.ob big = some (.mix T (cs'.map .pv)) ∧ Q r cs'
  | _, _ => False

theorem FnM.of {P : Program} {f : FuncId} {fn : Func} {c : Code} {n t : Nat} {T : TypeId} {cs args : List PV} {Q : PV → List PV → Prop} (hf : P.funcs[f]? = some fn) (hb : fn.body = some c) (hn : fn.ntmps = n) (hna : args.length + 1 ≤ n) (hres : fn.results.toList = [.tmp t]) (ht : t < n)
    (h : ∀ m0 w0 F R0, AW ⟨P, m0, w0, F, R0⟩ n c (retM n t T Q) (mkS ((0, .ptr big 0) :: argsV 1 (args.map .pv)) [(big, .mix T (cs.map .pv))] 0)) : FnM P f T cs args Q := by
  refine FnO.of hf hb hn (by simpa using hna) fun m0 w0 F R0 => ?_
  refine (h m0 w0 F R0).mono ?_
  have hlt : Nat.blt t n = true := by simpa [Nat.blt_eq] using ht
  have key : ∀ s : St, (∃ r cs', s.ev n (.tmp t) = .pv r ∧ s.ob big = some (.mix T (cs'.map .pv)) ∧ Q r cs') → ∃ l os' vs, s.le (mkS l os' 0) ∧ resV n (mkS l os' 0) fn.results.toList = some vs ∧ V.allL (okR 1 0) vs = true ∧ os'.all (fun p => okR 1 0 p.1 && p.2.all (okR 1 0)) = true ∧ ∃ r cs', resOneV vs = .pv r ∧ lookO os' = lookO [(big, .mix T (cs'.map .pv))] ∧ Q r cs' := by
    rintro s ⟨r, cs', h1, h2, h3⟩
    simp only [St.ev, hlt, cond_true] at h1
    refine ⟨[(t, .pv r)], [(big, .mix T (cs'.map .pv))], [.pv r], St.le_mk ⟨h1, trivial⟩ ⟨h2, trivial⟩ rfl ?_, ?_, rfl, ?_, r, cs', rfl, rfl, h3⟩
    · simp only [List.all_cons, List.all_nil, Bool.and_true, Ob.okA, okL_pv]
      rfl
    · rw [hres]
      simp only [resV, St.ev, hlt, cond_true, mkS, look, Nat.beq_refl]
    · simp only [List.all_cons, List.all_nil, Bool.and_true, Ob.all, allL_pv]
      rfl
  intro ex s hq
  cases ex with
  | normal => exact key s hq
  | ret => exact key s hq
  | _ => exact hq.elim

section
variable {C : Ctx} {n : Nat} {σ : St} {dst : Option Tmp} {ty : TypeId} {ts : Array TypeId} {pos : String} {after : Array Edge} {gd : Option (Nat × Bool)}
theorem oj_callM {f : FuncId} {xs : Array Operand} {ps : List PV} {T : TypeId} {id : Nat} {cs : List PV} {Q : PV → List PV → Prop} {K : St → Prop} (hc : CallOk C.P f) (hf : FnM C.P f T cs ps Q) (hargs : xs.toList.map (σ.ev n) = .ptr id 0 :: ps.map .pv) (ho : σ.ob id = some (.mix T (cs.map .pv))) (hk : ∀ r cs', Q r cs' → K (σ.app dst ⟨.pv r, [(id, some (.mix T (cs'.map .pv)))], []⟩)) :
    OJ C n ⟨dst, .call { callee := .value (.func f), args := xs, argTypes := ts }, ty, pos, after, gd⟩ K σ := by
  refine oj_callO (k' := 0) [id] 0 hc (args := .ptr big 0 :: ps.map .pv) (os := [(big, .mix T (cs.map .pv))]) ?_ ?_ rfl ?_ ?_ (by simp) rfl hf ?_
  · rw [hargs]
    simp only [V.renL, V.ren, renL_pv]
    rfl
  · simp only [V.allL, V.all, allL_pv]
    rfl
  · simp only [List.all_cons, List.all_nil, Bool.and_true, Ob.all, allL_pv]
  · refine ⟨?_, trivial⟩
    have : renI [id] 0 big = id := rfl
    rw [this, ho]
    simp only [Ob.ren, renL_pv]
  · rintro v ob' ⟨r, cs', rfl, rfl, hq⟩
    have := hk r cs' hq
    have e : wrO [id] 0 0 (lookO [(big, .mix T (cs'.map .pv))]) = [(id, some (.mix T (cs'.map .pv)))] := by
      have e1 : lookO [(big, Ob.mix T (cs'.map .pv))] (big + 0) = some (.mix T (cs'.map .pv)) := by simp [lookO]
      simp only [wrO, List.zipIdx_cons, List.zipIdx_nil, List.map_cons, List.map_nil, List.range_zero, List.append_nil, e1, Option.map_some, Ob.ren, renL_pv]
    rw [e]
    exact this
theorem xj_callM {f : FuncId} {xs : Array Operand} {ps : List PV} {T : TypeId} {id : Nat} {cs cs' : List PV} {r : PV} (hc : CallOk C.P f) (hf : FnM C.P f T cs ps (fun v c => v = r ∧ c = cs')) (hargs : xs.toList.map (σ.ev n) = .ptr id 0 :: ps.map .pv) (ho : σ.ob id = some (.mix T (cs.map .pv))) : XJ C n ⟨dst, .call { callee := .value (.func f), args := xs, argTypes := ts }, ty, pos, after, gd⟩ σ ⟨.pv r, [(id, some (.mix T (cs'.map .pv)))], []⟩ :=
  oj_callM hc hf hargs ho (by rintro _ _ ⟨rfl, rfl⟩; rfl)
end

section
variable {C : Ctx} {n : Nat} {σ : St} {dst : Option Tmp} {ty t : TypeId} {pos : String} {after : Array Edge} {gd : Option (Nat × Bool)} {x y : Operand}
theorem XJ.cast {o : Oper} {v v' : V} {wr : List (Nat × Option Ob)} {nw : List Nat} (h : XJ C n o σ ⟨v, wr, nw⟩) (e : v = v') : XJ C n o σ ⟨v', wr, nw⟩ := e ▸ h
/-- x[:h], x[l:], x[l:h] of a slice that stands. -/
theorem xj_sliceTo {T e : TypeId} {s k : Nat} {kh : IntKind} {ih : Int} {bn : Option Bool} {cs : List PV} (h : Nat) (hT : C.P.underlying T = some (.slice e)) (hs : szIs C.P e s) (hx : σ.ev n x = .pv (.sl bn k cs)) (hy : σ.ev n y = .pv (.int kh ih)) (hi : ih = (h : Int)) (h2 : h ≤ k) (hcs : cs.length = k * s) :
    XJ C n ⟨dst, .slice T x none (some y) none, ty, pos, after, gd⟩ σ ⟨.pv (.sl bn h (cs.take (h * s))), [], []⟩ := by
  have := xj_slice (C := C) (n := n) (σ := σ) (dst := dst) (ty := ty) (pos := pos) (after := after) (gd := gd) (x := x) (kl := .i64) (il := 0) (kh := kh) (ih := ih) none (some y) 0 h hT hs hx (by simp) (fun _ => rfl) (by rintro _ ⟨⟩; exact ⟨hy, hi⟩) (by simp) (Nat.zero_le _) h2 hcs
  simpa using this
theorem xj_sliceFrom {T e : TypeId} {s k : Nat} {kl : IntKind} {il : Int} {bn : Option Bool} {cs : List PV} (l : Nat) (hT : C.P.underlying T = some (.slice e)) (hs : szIs C.P e s) (hx : σ.ev n x = .pv (.sl bn k cs)) (hy : σ.ev n y = .pv (.int kl il)) (hi : il = (l : Int)) (h2 : l ≤ k) (hcs : cs.length = k * s) :
    XJ C n ⟨dst, .slice T x (some y) none none, ty, pos, after, gd⟩ σ ⟨.pv (.sl bn (k - l) (cs.drop (l * s))), [], []⟩ := by
  have := xj_slice (C := C) (n := n) (σ := σ) (dst := dst) (ty := ty) (pos := pos) (after := after) (gd := gd) (x := x) (kl := kl) (il := il) (kh := .i64) (ih := 0) (some y) none l k hT hs hx (by rintro _ ⟨⟩; exact ⟨hy, hi⟩) (by simp) (by simp) (fun _ => rfl) h2 (Nat.le_refl _) hcs
  have e : (cs.drop (l * s)).take ((k - l) * s) = cs.drop (l * s) := List.take_of_length_le (by simp [hcs, Nat.sub_mul])
  rw [e] at this
  exact this
/-- append of one element that was just built. -/
theorem xj_append1 {e T2 : TypeId} {z : Value} {size bytes k id id2 : Nat} {cs news : List PV} (id' : Nat) (he : ElemIs C.P t e z size bytes) (hs : σ.ev n x = .osl id size k) (ho : σ.ob id = some (.cells e cs)) (hcs : cs.length = k * size)
    (hy : σ.ev n y = .osl id2 size 1) (ho2 : σ.ob id2 = some (.cells T2 news)) (hl : news.length = size) (hlf : news.all PV.leaf = true) (hb : k + 1 ≤ 1000000000) (hid : σ.av id' = true) :
    XJ C n ⟨dst, .call { callee := .builtin .append, args := #[x, y], argTypes := #[t, t] }, ty, pos, after, gd⟩ σ ⟨.osl id' size (k + 1), [(id', some (.cells e (cs ++ news))), (id, none)], [id']⟩ :=
  xj_append id' he hs ho hcs (.inr ⟨id2, size, T2, news, hy, ho2, (List.take_of_length_le (by omega)).symm⟩) (by omega) (by simpa using hlf) hb hid
theorem xj_append01 {e T2 : TypeId} {z : Value} {size bytes id2 : Nat} {news : List PV} (id' : Nat) (he : ElemIs C.P t e z size bytes) (hs : σ.ev n x = .pv (.sl (some true) 0 []))
    (hy : σ.ev n y = .osl id2 size 1) (ho2 : σ.ob id2 = some (.cells T2 news)) (hl : news.length = size) (hlf : news.all PV.leaf = true) (hid : σ.av id' = true) :
    XJ C n ⟨dst, .call { callee := .builtin .append, args := #[x, y], argTypes := #[t, t] }, ty, pos, after, gd⟩ σ ⟨.osl id' size 1, [(id', some (.cells e news))], [id']⟩ :=
  xj_append0 id' he hs (.inr ⟨id2, size, T2, news, hy, ho2, (List.take_of_length_le (by omega)).symm⟩) (by omega) (by simpa using hlf) (by omega) (by omega) hid
end

/-- New names for the places of the call's own. -/
def renS (ids : List Nat) (i : Nat) : Nat := bif Nat.ble big i then i else ids.getD i 0
def allSlR (σ : St) (ρ : Nat → Nat) : List (Nat × V) → Prop
  | [] => True
  | (t, v) :: l => σ.sl t = v.ren ρ ∧ allSlR σ ρ l
theorem look_specR {σ : St} {ρ : Nat → Nat} : ∀ {l : List (Nat × V)}, allSlR σ ρ l → ∀ t, look l t = .pv .any ∨ σ.sl t = (look l t).ren ρ
  | [], _, _ => .inl rfl
  | (d, v) :: l, h, t => by
    simp only [look]
    cases hb : Nat.beq t d with
    | true => have := Nat.eq_of_beq_eq_true hb; subst this; exact .inr h.1
    | false => simpa using look_specR h.2 t
mutual
theorem V.okA_all (k : Nat) : ∀ v : V, v.okA k = true → v.all (fun i => Nat.blt i k || Nat.ble big i) = true
  | .pv _, _ => rfl
  | .ptr _ _, h => by simpa only [V.okA, V.all] using h
  | .osl _ _ _, h => by simpa only [V.okA, V.all] using h
  | .gsl _ _ _, h => by simpa only [V.okA, V.all] using h
  | .map _, h => by simpa only [V.okA, V.all] using h
  | .agg cs, h => by simp only [V.okA] at h; simp only [V.all]; exact V.okL_all k cs h
  | .tup cs, h => by simp only [V.okA] at h; simp only [V.all]; exact V.okL_all k cs h
  | .fn _ a b, h => by simp only [V.okA, Bool.and_eq_true] at h; simp only [V.all, Bool.and_eq_true]; exact ⟨V.okL_all k a h.1, V.okL_all k b h.2⟩
theorem V.okL_all (k : Nat) : ∀ vs : List V, V.okL k vs = true → V.allL (fun i => Nat.blt i k || Nat.ble big i) vs = true
  | [], _ => rfl
  | c :: cs, h => by simp only [V.okL, Bool.and_eq_true] at h; simp only [V.allL, Bool.and_eq_true]; exact ⟨V.okA_all k c h.1, V.okL_all k cs h.2⟩
end
theorem Ob.okA_all (k : Nat) {o : Ob} (h : o.okA k = true) : o.all (fun i => Nat.blt i k || Nat.ble big i) = true := by
  cases o with
  | cells _ _ => rfl
  | gro _ _ => rfl
  | mix _ cs => exact V.okL_all k cs h

theorem St.le_mkR {σ : St} {l : List (Nat × V)} {os : List (Nat × Ob)} (ids : List Nat) (hl : allSlR σ (renS ids) l) (ho : allObR σ (renS ids) os) (h1 : l.all (fun p => p.2.okA ids.length) = true) (h2 : os.all (fun p => (Nat.blt p.1 ids.length || Nat.ble big p.1) && p.2.okA ids.length) = true)
    (hnd : ids.Nodup) (hbg : ids.all (fun i => Nat.blt i big) = true) : σ.le (mkS l os ids.length) := by
  rintro C n a w ⟨m, R, hw⟩
  have key : ∀ i o, lookO os i = some o → σ.ob (renS ids i) = some (o.ren (renS ids)) ∧ (Nat.blt i ids.length || Nat.ble big i) = true ∧ o.okA ids.length = true := by
    intro i o h
    have hm := lookO_mem h
    have := List.all_eq_true.1 h2 _ hm
    simp only [Bool.and_eq_true] at this
    exact ⟨allObR_mem ho i o hm, this.1, this.2⟩
  let m2 : Gm := fun i => if (lookO os i).isSome then m (renS ids i) else none
  have sub : ∀ i x, m2 i = some x → m (renS ids i) = some x ∧ (Nat.blt i ids.length || Nat.ble big i) = true := fun i x h => by
    simp only [m2] at h
    split at h
    · rename_i hs
      obtain ⟨o, hoo⟩ := Option.isSome_iff_exists.1 hs
      exact ⟨h, (key i o hoo).2.1⟩
    · cases h
  have ρinj : ∀ i j, (Nat.blt i ids.length || Nat.ble big i) = true → (Nat.blt j ids.length || Nat.ble big j) = true → renS ids i = renS ids j → i = j := by
    intro i j hi hj e
    have small : ∀ q, Nat.blt q ids.length = true → Nat.ble big q = false → ∃ h : q < ids.length, renS ids q = ids[q] ∧ ids[q] < big := by
      intro q hq hb
      have h : q < ids.length := by simpa [Nat.blt_eq] using hq
      refine ⟨h, by simp [renS, hb, List.getD_eq_getElem?_getD, h], ?_⟩
      have := List.all_eq_true.1 hbg ids[q] (List.getElem_mem h)
      simpa [Nat.blt_eq] using this
    have large : ∀ q, Nat.ble big q = true → renS ids q = q := fun q hq => by simp [renS, hq]
    cases hbi : Nat.ble big i with
    | true =>
      cases hbj : Nat.ble big j with
      | true => rw [large i hbi, large j hbj] at e; exact e
      | false =>
        rw [hbj, Bool.or_false] at hj
        obtain ⟨h, e2, h3⟩ := small j hj hbj
        rw [large i hbi, e2] at e
        have := Nat.le_of_ble_eq_true hbi
        omega
    | false =>
      rw [hbi, Bool.or_false] at hi
      obtain ⟨h, e1, h3⟩ := small i hi hbi
      cases hbj : Nat.ble big j with
      | true =>
        rw [large j hbj, e1] at e
        have := Nat.le_of_ble_eq_true hbj
        omega
      | false =>
        rw [hbj, Bool.or_false] at hj
        obtain ⟨h', e2, h4⟩ := small j hj hbj
        rw [e1, e2] at e
        exact (List.getElem_inj hnd).1 e
  have um : ∀ i x, (Nat.blt i ids.length || Nat.ble big i) = true → m2 i = some x → m (renS ids i) = some x := fun i x _ h => (sub i x h).1
  have ua : ∀ i, (Nat.blt i ids.length || Nat.ble big i) = true → avK ids.length i = false := fun i h => ble_of h
  refine ⟨m2, R, ⟨?_, ?_, ?_, ?_, ?_, hw.hr.rsz, hw.hr.rfr, hw.hr.r0, hw.hr.frame, ?_, fun i hi => avK_big hi⟩, hw.df, hw.sz, ?_⟩
  · intro i
    show (m2 i).isSome = liveO (lookO os i)
    simp only [m2]
    cases e : lookO os i with
    | none => rfl
    | some o =>
      have := hw.hr.dom (renS ids i)
      rw [(key i o e).1] at this
      simpa [liveO, Ob.real_ren] using this
  · intro i hi
    show lookO os i = none
    cases e : lookO os i with
    | none => rfl
    | some o =>
      have h3 := ble_of (key i o e).2.1
      have hi' : avK ids.length i = true := hi
      rw [hi'] at h3
      cases h3
  · intro i o b N h3 h4
    have h5 := key i o h3
    exact (hw.hr.obj _ _ b N h5.1 (sub _ _ h4).1).unren (renS ids) _ um ua (Ob.okA_all _ h5.2.2)
  · intro i j b N N' e1 e2
    exact ρinj i j (sub _ _ e1).2 (sub _ _ e2).2 (hw.hr.inj _ _ b N N' (sub _ _ e1).1 (sub _ _ e2).1)
  · exact fun i b N e => hw.hr.own _ b N (sub _ _ e).1
  · intro i x hi e
    have hb : Nat.ble big i = true := Nat.ble_eq_true_of_le hi
    have e2 := (sub i x e).1
    have : renS ids i = i := by simp [renS, hb]
    rw [this] at e2
    exact hw.hr.keep i x hi e2
  · intro t ht
    show Rel w m2 (avK ids.length) R (look l t) _
    rcases look_specR hl t with e | e
    · rw [e]; simp only [Rel, RelP]
    · have h3 := hw.sl t ht
      rw [e] at h3
      exact h3.unren (renS ids) _ um ua _ _ (V.okA_all _ _ (look_ok h1 t))
end Go.Proofs.Ytkalgjnhaicabaa
