/-
  Texts of ours, joined: E22, B5, B6, W1, LA, R10, W2, LO. No statement of the program is proved here.
-/
import Derived.MapKept
import Derived.Carry
import Derived.Test.YtkalgjnhaicabaaGo4
namespace Go.Proofs.Ytkalgjnhaicabaa
open Go.RowKit Go.MapKept
/-- Are two keys the same? None: not of one kind. -/
def keq : PV → PV → Option Bool
  | .int k a, .int k' b => bif kEq k k' then some (a == b) else none
  | .str a, .str b => some (a == b)
  | .bool a, .bool b => some (a == b)
  | _, _ => none
/-- Where a key stands. -/
def kfind (k : PV) : List PV → Nat → Option (Option Nat)
  | [], _ => some none
  | x :: l, i => match keq k x with
    | some true => some (some i)
    | some false => kfind k l (i + 1)
    | none => none
def keyD : TypeDesc → PV → Bool
  | .int k, .int k' _ => kEq k' k
  | .string, .str _ => true
  | .bool, .bool _ => true
  | _, _ => false
section
variable {w : World} {R : Nat → Prop}
theorem same_of {d : TypeDesc} {k x : PV} {u y : Value} (hd : keyD d k = true) (hk : RelP w R k u) (hx : RelP w R x y) {b : Bool} (h : keq k x = some b) : Instr.sameNow d u y = some b := by
  cases k <;> cases d <;> simp only [keyD, Bool.false_eq_true] at hd <;> cases x <;> simp only [keq, reduceCtorEq] at h <;> simp only [RelP] at hk hx <;> subst hk hx
  · replace h := bif_some h
    have := kEq_eq h.1
    subst this
    simpa [Instr.sameNow] using h.2
  · simpa [Instr.sameNow] using h
  · simpa [Instr.sameNow] using h
theorem find_of {d : TypeDesc} {k : PV} {u : Value} (hd : keyD d k = true) (hk : RelP w R k u) : ∀ {ks : List PV} {es : List MapEntry} {i : Nat} {r : Option Nat}, RelPL w R ks (es.map (·.key)) → kfind k ks i = some r →
    match r with
    | none => Instr.findNow d u es i = some none
    | some j => ∃ q e, j = i + q ∧ es[q]? = some e ∧ Instr.findNow d u es i = some (some (j, e.val))
  | [], [], i, r, _, h => by simp only [kfind, Option.some.injEq] at h; subst h; rfl
  | [], _ :: _, _, _, hr, _ => by simp [RelPL] at hr
  | x :: ks, [], _, _, hr, _ => by simp [RelPL] at hr
  | x :: ks, e :: es, i, r, hr, h => by
    simp only [List.map_cons, RelPL, List.cons.injEq] at hr
    obtain ⟨y, ys, ⟨rfl, rfl⟩, h1, h2⟩ := hr
    simp only [kfind] at h
    split at h
    · rename_i hb
      cases h
      have := same_of hd hk h1 hb
      exact ⟨0, e, rfl, rfl, by simp [Instr.findNow, this]⟩
    · rename_i hb
      have hs := same_of hd hk h1 hb
      have ih := find_of hd hk h2 h
      cases r with
      | none => simpa [Instr.findNow, hs] using ih
      | some j =>
        obtain ⟨q, e', hj, he, hf⟩ := ih
        exact ⟨q + 1, e', by omega, by simpa using he, by simpa [Instr.findNow, hs] using hf⟩
    · cases h
theorem keyD_isKey {d : TypeDesc} {k : PV} {u : Value} (hd : keyD d k = true) (hk : RelP w R k u) : IsKey d u := by
  cases k <;> cases d <;> simp only [keyD, Bool.false_eq_true] at hd <;> simp only [RelP] at hk <;> subst hk <;> first | exact kEq_eq hd | trivial
theorem kfind_at {k : PV} : ∀ {ks : List PV} {i j : Nat}, kfind k ks i = some (some j) → ∃ q x, j = i + q ∧ ks[q]? = some x ∧ keq k x = some true
  | [], _, _, h => by simp [kfind] at h
  | x :: ks, i, j, h => by
    simp only [kfind] at h
    split at h
    · rename_i hb; cases h; exact ⟨0, x, rfl, rfl, hb⟩
    · obtain ⟨q, y, e, h1, h2⟩ := kfind_at h
      exact ⟨q + 1, y, by omega, by simpa using h1, h2⟩
    · cases h
theorem bytes_eq {a b : ByteArray} (h : (a == b) = true) : a = b := by
  have : (a.data == b.data) = true := h
  exact ByteArray.ext (eq_of_beq this)
theorem bytes_self (a : ByteArray) : (a == a) = true := by
  have : (a.data == a.data) = true := beq_self_eq_true a.data
  exact this
theorem keq_same {k x : PV} {u y : Value} (h : keq k x = some true) (hk : RelP w R k u) (hx : RelP w R x y) : u = y ∧ Instr.sameBits 10000 y u = true := by
  cases k <;> cases x <;> simp only [keq, reduceCtorEq, Option.some.injEq] at h <;> simp only [RelP] at hk hx <;> subst hk hx
  · replace h := bif_some h
    have h1 := kEq_eq h.1
    have h2 := h.2
    simp only [Option.some.injEq, beq_iff_eq] at h2
    subst h1 h2
    simp [Instr.sameBits]
  · simp at h; subst h; simp [Instr.sameBits]
  · have := bytes_eq h; subst this; exact ⟨rfl, by show (_ == _) = true; exact bytes_self _⟩
end
/-- Which map an operand names: one of the call's own, one that stands, or none. -/
def MapSrc (n : Nat) (σ : St) (x : Operand) (ks vs : List PV) : Prop :=
  (∃ id, σ.ev n x = .map id ∧ σ.ob id = some (.mp ks vs)) ∨ σ.ev n x = .pv (.mp ks vs) ∨ (σ.ev n x = .pv .nilmap ∧ ks = [] ∧ vs = [])
section
variable {C : Ctx} {n : Nat} {σ : St} {a : Act} {w : World} {m : Gm} {R : Nat → Prop} {x y z : Operand} {dst : Option Tmp} {ty t kt et : TypeId} {pos : String} {after : Array Edge} {gd : Option (Nat × Bool)} {ks vs : List PV}
theorem MapSrc.at (hw : SW C n σ a w m R) (h : MapSrc n σ x ks vs) : (∃ b es clock, a.eval x = .map (some b) ∧ w.heap[b]? = some (.map es clock) ∧ RelPL w R ks (es.toList.map (·.key)) ∧ RelPL w R vs (es.toList.map (·.val))) ∨ (a.eval x = .map none ∧ ks = [] ∧ vs = []) := by
  rcases h with ⟨id, hx, ho⟩ | hx | ⟨hx, h1, h2⟩
  · obtain ⟨b, N, hm, hr⟩ := hw.live ho
    have := hw.ev x
    rw [hx] at this
    simp only [Rel] at this
    obtain ⟨es, clock, q1, q2, q3, _⟩ := hr
    exact .inl ⟨b, es, clock, this.2 b N hm, q1, q2, q3⟩
  · have := hw.pv hx
    simp only [RelP] at this
    obtain ⟨b, e, _, es, clock, q1, q2, q3, _⟩ := this
    exact .inl ⟨b, es, clock, e, q1, q2, q3⟩
  · have := hw.pv hx
    simp only [RelP] at this
    exact .inr ⟨this, h1, h2⟩
theorem run_map {P : Program} {w : World} {r : Nat} {es : Array MapEntry} {clock : Nat} (hb : w.heap[r]? = some (.map es clock)) : (getObj r).run P w = .ok (.map es clock) w := by
  simp [getObj, Sem.run, hb]
theorem run_setMap {P : Program} {w : World} {r : Nat} {es : Array MapEntry} {clock : Nat} (o : Obj) (hb : w.heap[r]? = some (.map es clock)) : (setObj r o).run P w = .ok () { w with heap := w.heap.setIfInBounds r o } := by
  simp [setObj, Sem.run, hb]
/-- What a look-up finds: the value, and whether there is one. -/
def mlook (k : PV) (ks vs : List PV) : Option (Option PV) :=
  match kfind k ks 0 with
  | some none => some none
  | some (some j) => (vs[j]?).map some
  | none => none
theorem RelPL.at {ps : List PV} {us : List Value} (h : RelPL w R ps us) {i : Nat} {p : PV} {u : Value} (hp : ps[i]? = some p) (hu : us[i]? = some u) : RelP w R p u := by
  obtain ⟨u', h1, h2⟩ := h.get hp
  rw [hu] at h1
  cases h1
  exact h2
theorem run_look (hw : SW C n σ a w m R) {d : TypeDesc} {key zp : PV} {zv : Value} {r : Option PV} (ht : C.P.underlying t = some (.map kt et)) (hk : C.P.underlying kt = some d) (hd : keyD d key = true) (hx : MapSrc n σ x ks vs) (hy : σ.ev n y = .pv key) (hz : (C.P.info? et).map (·.zero) = some (some zv)) (hzp : ofC zv = zp) (hl : mlook key ks vs = some r) (ok : Bool) :
    ∃ u, RelP w R (r.getD zp) u ∧ (Instr.lookup t (a.eval x) (a.eval y) ok).run C.P w = .ok (if ok then .tuple #[u, .bool r.isSome] else u) w := by
  have hkey := hw.pv hy
  have hzr : (zeroValue et).run C.P w = .ok zv w := by
    cases hq : C.P.info? et with
    | none => simp [hq] at hz
    | some i => simp [hq] at hz; simp [zeroValue, typeInfo, hq, hz]
  have hzrel : RelP w R zp zv := hzp ▸ ofC_rel w R zv
  have hIs := keyD_isKey hd hkey
  rcases hx.at hw with ⟨b, es, clock, e, hb, q2, q3⟩ | ⟨e, rfl, rfl⟩
  · unfold mlook at hl
    split at hl
    · rename_i hf
      cases hl
      have := find_of hd hkey q2 hf
      simp only at this
      refine ⟨zv, hzrel, ?_⟩
      simp [Instr.lookup, e, run_underlying ht, run_map hb, run_checkKey hk hIs, run_findKey hk this, hzr, Result.andThen]
    · rename_i j hf
      obtain ⟨q, e', hj, he, hfn⟩ := find_of hd hkey q2 hf
      simp only [Nat.zero_add] at hj
      subst hj
      cases hv : vs[j]? with
      | none => rw [hv] at hl; cases hl
      | some p =>
        rw [hv] at hl
        simp at hl
        subst hl
        refine ⟨e'.val, RelPL.at q3 hv (by simp [he]), ?_⟩
        simp [Instr.lookup, e, run_underlying ht, run_map hb, run_checkKey hk hIs, run_findKey hk hfn, Result.andThen]
    · cases hl
  · simp only [mlook, kfind, Option.some.injEq] at hl
    subst hl
    refine ⟨zv, hzrel, ?_⟩
    have hf : Instr.findNow d (a.eval y) (#[] : Array MapEntry).toList 0 = some none := rfl
    simp [Instr.lookup, e, run_underlying ht, run_checkKey hk hIs, run_findKey hk hf, hzr, Result.andThen]
theorem xj_lookup {d : TypeDesc} {key zp p : PV} {zv : Value} {r : Option PV} {b : Bool} (ht : C.P.underlying t = some (.map kt et)) (hk : C.P.underlying kt = some d) (hx : MapSrc n σ x ks vs) (hy : σ.ev n y = .pv key) (hd : keyD d key = true) (hz : (C.P.info? et).map (·.zero) = some (some zv)) (hzp : ofC zv = zp) (hl : mlook key ks vs = some r) (hp : r.getD zp = p) (hb : r.isSome = b) :
    XJ C n ⟨dst, .lookup t x y true, ty, pos, after, gd⟩ σ ⟨.pv (.tup [p, .bool b]), [], []⟩ :=
  .val fun a w m R hw => by
    obtain ⟨u, hr, hrun⟩ := run_look hw ht hk hd hx hy hz hzp hl true
    subst hp hb
    refine ⟨_, by simp only [execOp, Sem.run_bind, hrun, Result.andThen_ok]; rfl, ?_⟩
    simp only [Rel, RelP]
    exact ⟨[u, .bool r.isSome], rfl, RelPL.cons hr (RelPL.cons (by simp only [RelP]) RelPL.nil)⟩
/-- A new block of any kind becomes a place of the call's own. -/
theorem SW.allocO (h : SW C n σ a w m R) {id : Nat} (hid : σ.av id = true) (obj : Obj) (N : Nat) (o : Ob)
    (ho : ∀ (w' : World) (m' : Gm) (av' : Av), (∀ b, R b → R b ∧ w'.heap[b]? = w.heap[b]?) → w'.heap[w.heap.size]? = some obj → ORel w' m' av' R w.heap.size N o) (hre : o.real = true := by rfl) :
    SW C n ⟨σ.sl, obL [(id, some o)] σ.ob, avL [id] σ.av⟩ a (w.alloc obj) (upd m id (some (w.heap.size, N))) R := by
  have hR : ∀ b, R b → R b ∧ (w.alloc obj).heap[b]? = w.heap[b]? := fun b hb => ⟨hb, Below.heap_alloc w _ b (h.hr.rsz b hb)⟩
  have hne : ∀ i, σ.av i = false → i ≠ id := fun i hi e => by rw [e, hid] at hi; cases hi
  have hm : ∀ i x, σ.av i = false → upd m id (some (w.heap.size, N)) i = some x → m i = some x := fun i x hi e => by rwa [upd_ne _ _ (hne i hi)] at e
  have ha : ∀ i, σ.av i = false → avL [id] σ.av i = false := fun i hi => by
    simp only [avL]
    cases Nat.beq i id <;> simp [hi]
  have hsz : (w.alloc obj).heap.size = w.heap.size + 1 := by simp
  have obe : ∀ i, i ≠ id → obL [(id, some o)] σ.ob i = σ.ob i := fun i hi => by
    have : Nat.beq i id = false := by cases hb : Nat.beq i id; rfl; exact absurd (Nat.eq_of_beq_eq_true hb) hi
    simp [obL, this]
  have obs : obL [(id, some o)] σ.ob id = some o := by simp [obL]
  refine h.world ⟨?_, ?_, ?_, ?_, ?_, ?_, h.hr.rfr, h.hr.r0, ?_, ?_, fun i hi => ha i (h.hr.res i hi)⟩ hR hm ha
  · intro i
    by_cases e : i = id
    · subst e; rw [upd_same, obs]; exact hre.symm
    · rw [upd_ne _ _ e, obe i e]; exact h.hr.dom i
  · intro i hi
    simp only [avL] at hi
    cases hb : Nat.beq i id with
    | true => rw [hb] at hi; simp at hi
    | false =>
      rw [hb] at hi
      rw [obe i (fun e => by subst e; simp at hb)]
      exact h.hr.free i (by simpa using hi)
  · intro i o' b N h1 h2
    by_cases e : i = id
    · subst e
      rw [obs] at h1
      rw [upd_same] at h2
      cases h1; cases h2
      exact ho _ _ _ hR (heap_alloc_new w _)
    · rw [obe i e] at h1
      rw [upd_ne _ _ e] at h2
      exact (h.hr.obj i o' b N h1 h2).mono hR hm ha (Below.heap_alloc w _ b (h.hr.own i b N h2).1)
  · intro i j b N N' h1 h2
    by_cases e1 : i = id <;> by_cases e2 : j = id
    · rw [e1, e2]
    · subst e1
      rw [upd_same] at h1
      rw [upd_ne _ _ e2] at h2
      cases h1
      have := (h.hr.own j _ _ h2).1
      omega
    · subst e2
      rw [upd_same] at h2
      rw [upd_ne _ _ e1] at h1
      cases h2
      have := (h.hr.own i _ _ h1).1
      omega
    · rw [upd_ne _ _ e1] at h1
      rw [upd_ne _ _ e2] at h2
      exact h.hr.inj i j b N N' h1 h2
  · intro i b N h1
    by_cases e : i = id
    · subst e
      rw [upd_same] at h1
      cases h1
      exact ⟨by omega, fun hb => by have := h.hr.rsz _ hb; omega, .inr h.hr.frame.size⟩
    · rw [upd_ne _ _ e] at h1
      obtain ⟨h2, h3, h4⟩ := h.hr.own i b N h1
      exact ⟨by omega, h3, h4⟩
  · intro b hb
    have := h.hr.rsz b hb
    omega
  · refine ⟨h.hr.frame.os, h.hr.frame.tape, h.hr.frame.output, ?_, ?_⟩
    · have := h.hr.frame.size; omega
    · intro k hk hF
      rw [Below.heap_alloc w _ k (by have := h.hr.frame.size; omega)]
      exact h.hr.frame.block k hk hF
  · intro i x hi e
    have hne' : i ≠ id := fun e' => by subst e'; rw [h.hr.res i hi] at hid; cases hid
    rw [upd_ne _ _ hne'] at e
    exact h.hr.keep i x hi e
/-- One block of the call's own turns. -/
theorem SW.turn (h : SW C n σ a w m R) {id b N : Nat} (hm0 : m id = some (b, N)) (w' : World) (hs : w'.heap.size = w.heap.size) (hoth : ∀ k, k ≠ b → w'.heap[k]? = w.heap[k]?) (e1 : w'.os = w.os) (e2 : w'.tape = w.tape) (e3 : w'.output = w.output) (o : Ob)
    (ho : (∀ b, R b → R b ∧ w'.heap[b]? = w.heap[b]?) → ORel w' m σ.av R b N o) (hre : o.real = true := by rfl) :
    SW C n ⟨σ.sl, obL [(id, some o)] σ.ob, avL [] σ.av⟩ a w' m R := by
  have own := h.hr.own id b N hm0
  have hR : ∀ k, R k → R k ∧ w'.heap[k]? = w.heap[k]? := fun k hk => ⟨hk, hoth k (fun e => own.2.1 (e ▸ hk))⟩
  have obe : ∀ i, i ≠ id → obL [(id, some o)] σ.ob i = σ.ob i := fun i hi => by
    have : Nat.beq i id = false := by cases hb : Nat.beq i id; rfl; exact absurd (Nat.eq_of_beq_eq_true hb) hi
    simp [obL, this]
  have obs : obL [(id, some o)] σ.ob id = some o := by simp [obL]
  have hm : ∀ i x, σ.av i = false → m i = some x → m i = some x := fun _ _ _ e => e
  have ha : ∀ i, σ.av i = false → avL [] σ.av i = false := fun _ hi => hi
  refine h.world ⟨?_, ?_, ?_, h.hr.inj, ?_, ?_, h.hr.rfr, h.hr.r0, ?_, h.hr.keep, h.hr.res⟩ hR hm ha
  · intro i
    by_cases e : i = id
    · subst e; rw [hm0, obs]; exact hre.symm
    · rw [obe i e]; exact h.hr.dom i
  · intro i hi
    have e : i ≠ id := fun e => by
      subst e
      have := h.hr.dom i
      rw [h.hr.free i hi, hm0] at this
      cases this
    rw [obe i e]
    exact h.hr.free i hi
  · intro i o' b' N' h1 h2
    by_cases e : i = id
    · subst e
      rw [obs] at h1
      rw [hm0] at h2
      cases h1; cases h2
      exact ho hR
    · rw [obe i e] at h1
      exact (h.hr.obj i o' b' N' h1 h2).mono hR hm ha (hoth b' (fun e' => e (h.hr.inj i id b N' N (e' ▸ h2) hm0)))
  · intro i b' N' h1
    obtain ⟨h2, h3, h4⟩ := h.hr.own i b' N' h1
    exact ⟨by omega, h3, h4⟩
  · intro b' hb'
    have := h.hr.rsz b' hb'
    omega
  · refine ⟨e1.trans h.hr.frame.os, e2.trans h.hr.frame.tape, e3.trans h.hr.frame.output, ?_, ?_⟩
    · have := h.hr.frame.size; omega
    · intro k hk hF
      rw [hoth k (fun e => by subst e; rcases own.2.2 with h' | h'; exact hF h'; omega)]
      exact h.hr.frame.block k hk hF
theorem xj_makeMap (id : Nat) (hid : σ.av id = true) : XJ C n ⟨dst, .makeMap t none, ty, pos, after, gd⟩ σ ⟨.map id, [(id, some (.mp [] []))], [id]⟩ := by
  rintro a w Q ⟨m, R, hw⟩
  unfold Oper.wp
  have hrun : (execOp a.eval ⟨dst, .makeMap t none, ty, pos, after, gd⟩).run C.P w = .ok (.value (.map (some w.heap.size))) (w.alloc (.map #[] 0)) := by
    simp only [execOp, Option.map_none, Sem.run_bind, run_makeMap, Result.andThen_ok]
    rfl
  rw [hrun]
  refine ⟨_, rfl, upd m id (some (w.heap.size, 0)), R, ?_⟩
  rw [St.app_new]
  refine SW.put (hw.allocO hid (.map #[] 0) 0 (.mp [] []) ?_) dst ?_
  · intro w' m' av' hR hb
    exact ⟨#[], 0, hb, RelPL.nil, RelPL.nil, by simp [Stamps]⟩
  · simp only [Rel]
    refine ⟨by simp [avL], fun b N e => ?_⟩
    rw [upd_same] at e
    cases e
    rfl
/-- What a map holds behind a store. -/
def mputK (k : PV) (ks : List PV) : List PV := match kfind k ks 0 with
  | some (some j) => ks.set j k
  | _ => ks ++ [k]
def mputV (k v : PV) (ks vs : List PV) : List PV := match kfind k ks 0 with
  | some (some j) => vs.set j v
  | _ => vs ++ [v]
theorem xj_mapUpdate {d : TypeDesc} {key v : PV} {id : Nat} {r : Option Nat} {ks' vs' : List PV} (ht : C.P.underlying t = some (.map kt et)) (hk : C.P.underlying kt = some d) (hx : σ.ev n x = .map id) (ho : σ.ob id = some (.mp ks vs)) (hy : σ.ev n y = .pv key) (hz : σ.ev n z = .pv v) (hd : keyD d key = true) (hf : kfind key ks 0 = some r)
    (hks : mputK key ks = ks') (hvs : mputV key v ks vs = vs') : XJ C n ⟨none, .mapUpdate t x y z, ty, pos, after, gd⟩ σ ⟨.pv .any, [(id, some (.mp ks' vs'))], []⟩ := by
  rintro a w Q ⟨m, R, hw⟩
  obtain ⟨b, N, hm, es, clock, hb, q2, q3, q4⟩ := hw.live ho
  have hxv := hw.ev x
  rw [hx] at hxv
  simp only [Rel] at hxv
  have hx := hxv.2 b N hm
  have hkey := hw.pv hy
  have hval := hw.pv hz
  have hIs := keyD_isKey hd hkey
  have hlt : b < w.heap.size := (Array.getElem?_eq_some_iff.1 hb).1
  have fin : ∀ (es' : Array MapEntry) (clock' : Nat), (Instr.mapUpdate t (a.eval x) (a.eval y) (a.eval z)).run C.P w = .ok () { w with heap := w.heap.setIfInBounds b (.map es' clock') } →
      RelPL w R ks' (es'.toList.map (·.key)) → RelPL w R vs' (es'.toList.map (·.val)) → Stamps es'.toList clock' → Oper.wp C.P ⟨none, .mapUpdate t x y z, ty, pos, after, gd⟩ a w (fun a' w' => ∃ σ', σ' = σ.app none ⟨.pv .any, [(id, some (.mp ks' vs'))], []⟩ ∧ SJ C n σ' a' w') Q := by
    intro es' clock' hrun h1 h2 h3
    unfold Oper.wp
    have hrun' : (execOp a.eval ⟨none, .mapUpdate t x y z, ty, pos, after, gd⟩).run C.P w = .ok .skip { w with heap := w.heap.setIfInBounds b (.map es' clock') } := by
      simp only [execOp, Sem.run_bind, hrun, Result.andThen_ok, Sem.run_pure]
    rw [hrun']
    refine ⟨_, rfl, m, R, hw.turn hm { w with heap := w.heap.setIfInBounds b (.map es' clock') } (by simp) (fun k hk => by simp only; rw [Array.getElem?_setIfInBounds_ne (fun e => hk e.symm)]) rfl rfl rfl (.mp ks' vs') fun hR => ?_⟩
    exact ⟨es', clock', by simp only; rw [Array.getElem?_setIfInBounds]; simp [hlt], h1.mono hR, h2.mono hR, h3⟩
  have hl := q2.length
  have hl2 := q3.length
  simp only [List.length_map] at hl hl2
  cases r with
  | none =>
    have hfn := find_of hd hkey q2 hf
    simp only at hfn
    refine fin (es.push ⟨a.eval y, a.eval z, clock⟩) (clock + 1) ?_ ?_ ?_ ?_
    · simp [Instr.mapUpdate, hx, run_underlying ht, run_map hb, run_checkKey hk hIs, run_findKey hk hfn, run_setMap _ hb, Result.andThen]
    · rw [← hks]
      simp only [mputK, hf, Array.toList_push, List.map_append, List.map_cons, List.map_nil]
      exact q2.append (RelPL.cons hkey RelPL.nil)
    · rw [← hvs]
      simp only [mputV, hf, Array.toList_push, List.map_append, List.map_cons, List.map_nil]
      exact q3.append (RelPL.cons hval RelPL.nil)
    · simp only [Stamps, Array.toList_push, List.map_append, List.map_cons, List.map_nil]
      refine ⟨List.nodup_append.2 ⟨q4.1, by simp, fun x hx y hy e => ?_⟩, fun e he => ?_⟩
      · obtain ⟨e', he', rfl⟩ := List.mem_map.1 hx
        have := q4.2 e' he'
        simp at hy
        omega
      · rcases List.mem_append.1 he with h | h
        · exact Nat.lt_succ_of_lt (q4.2 e h)
        · simp at h; subst h; exact Nat.lt_succ_self _
  | some j =>
    obtain ⟨q, e', hj, he, hfn⟩ := find_of hd hkey q2 hf
    obtain ⟨q', x', hj', hx', hkq⟩ := kfind_at hf
    simp only [Nat.zero_add] at hj hj'
    subst hj'
    subst hj
    have hrel := RelPL.at q2 hx' (by simp [he] : (es.toList.map (·.key))[j]? = some e'.key)
    have hsame := keq_same hkq hkey hrel
    have hjl : j < es.size := (List.getElem?_eq_some_iff.1 he).1 |> fun h => by simpa using h
    have hek : es[j]? = some e' := by simpa using he
    have hge : es[j] = e' := by have := Array.getElem?_eq_getElem hjl; rw [hek] at this; exact (Option.some.inj this).symm
    have hmod : (es.modify j fun e => { e with key := a.eval y, val := a.eval z }).toList = es.toList.set j ⟨a.eval y, a.eval z, e'.born⟩ := by
      apply List.ext_getElem?
      intro i
      rw [Array.getElem?_toList, Array.getElem?_modify, List.getElem?_set]
      by_cases e : j = i
      · subst e; simp [hjl, hge]
      · simp [e]
    refine fin (es.modify j fun e => { e with key := a.eval y, val := a.eval z }) clock ?_ ?_ ?_ ?_
    · simp [Instr.mapUpdate, hx, run_underlying ht, run_map hb, run_checkKey hk hIs, run_findKey hk hfn, run_setMap _ hb, Result.andThen, Instr.keyThatStays, hek, hsame.2]
    · rw [hmod, ← hks]
      simp only [mputK, hf, List.map_set]
      exact q2.set j hkey
    · rw [hmod, ← hvs]
      simp only [mputV, hf, List.map_set]
      exact q3.set j hval
    · rw [hmod]
      have hborn : (es.toList.set j ⟨a.eval y, a.eval z, e'.born⟩).map (·.born) = es.toList.map (·.born) := by
        rw [List.map_set]
        apply List.ext_getElem?
        intro i
        rw [List.getElem?_set]
        by_cases e : j = i
        · subst e; simp [hjl, hge]
        · simp [e]
      refine ⟨by rw [hborn]; exact q4.1, fun e hm => ?_⟩
      have : e.born ∈ es.toList.map (·.born) := by rw [← hborn]; exact List.mem_map.2 ⟨e, hm, rfl⟩
      obtain ⟨e2, h2, h3⟩ := List.mem_map.1 this
      rw [← h3]
      exact q4.2 e2 h2
/-- What a call that is handed places leaves, if it isn't told by a function: for DL.rel. -/
def RO (ids : List Nat) (base k' : Nat) (Q : V → (Nat → Option Ob) → Prop) (s : OS) : Prop := ∃ v ob', Q v ob' ∧ s = ⟨v.ren (renI ids base), wrO ids base k' ob', nwO base k'⟩
theorem wrO_keys (ids : List Nat) (base k' : Nat) (ob' : Nat → Option Ob) : (wrO ids base k' ob').map (·.1) = ids ++ nwO base k' := by
  have h : ∀ (l : List Nat) (j : Nat), (l.zipIdx j).map (fun p => p.1) = l := by
    intro l
    induction l with
    | nil => intro j; rfl
    | cons x l ih => intro j; rw [List.zipIdx_cons, List.map_cons, ih]
  unfold wrO nwO
  rw [List.map_append, List.map_map, List.map_map]
  exact congr (congrArg _ (h ids 0)) rfl
theorem relO {f : FuncId} {xs : Array Operand} {ts : Array TypeId} {args : List V} {os : List (Nat × Ob)} {k' : Nat} {Q : V → (Nat → Option Ob) → Prop} (ids : List Nat) (base : Nat) (hc : CallOk C.P f) (hf : FnO C.P f ids.length k' args os Q) (hargs : xs.toList.map (σ.ev n) = V.renL (renI ids base) args)
    (ha : V.allL (okR ids.length 0) args = true) (hos : os.map (·.1) = (List.range ids.length).map (big + ·)) (hob : os.all (fun p => p.2.all (okR ids.length 0)) = true) (hobs : allObR σ (renI ids base) os) (hnd : ids.Nodup) (hav : (nwO base k').all σ.av = true) :
    OJ C n ⟨dst, .call { callee := .value (.func f), args := xs, argTypes := ts }, ty, pos, after, gd⟩ (fun τ' => ∃ s, RO ids base k' Q s ∧ s.wr.map (·.1) = ids ++ nwO base k' ∧ s.nw = nwO base k' ∧ τ' = σ.app dst s) σ :=
  oj_callO ids base hc hargs ha hos hob hobs hnd hav hf fun v ob' h => ⟨_, ⟨v, ob', h, rfl⟩, wrO_keys _ _ _ _, rfl, rfl⟩
end
end Go.Proofs.Ytkalgjnhaicabaa
namespace Go.Proofs.Ytkalgjnhaicabaa
open Go.RowKit Mk
set_option maxRecDepth 100000
set_option maxHeartbeats 4000000
theorem size_spec (x : B64) : FnP Try.prog 99 [setP x] (· = .int .i64 (popB x)) := by
  refine FnP.of Try.func99 rfl Try.ntmps99 (by simp) fun m0 w0 F R0 => ?_
  repeat refine AW.seq ?_
  refine AW.region ?_
  refine A1 rfl ?_
  repeat refine AW.seq ?_
  refine AW.region ?_
  refine A1 rfl ?_
  repeat refine AW.seq ?_
  refine AW.block ?_
  repeat refine AW.seq ?_
  refine AW.loop (st := fun x_0 : B64 × Nat => mkS [(0, .pv (setP x_0.1)), (3, .pv (.int .i64 x_0.2))] [] 0)
    (I := fun x_0 => x_0.2 + popB x_0.1 = popB x) (μ := fun x_0 => popB x_0.1) (x0 := (x, 0)) (St.le_mk ⟨rfl, rfl, trivial⟩ trivial rfl rfl) (by simp) ?_
  rintro ⟨y, k⟩ hk
  try simp only at hk ⊢
  have h64 := pop_le x
  repeat refine AW.seq ?_
  refine AW.region ?_
  refine A1 rfl ?_
  refine RL.step (d := some 5) rfl rfl (xj_neqV (Y := 0#64) rfl rfl) ?_
  repeat refine AW.seq ?_
  refine AW.condP rfl (fun hc5 => ?_) (fun hc5 => ?_)
  · have hp := pop_pred hc5
    refine AW.skip ?_
    repeat refine AW.seq ?_
    refine AW.block ?_
    repeat refine AW.seq ?_
    refine AW.region ?_
    iterate 3 refine A1 rfl ?_
    repeat refine AW.seq ?_
    refine AW.region ?_
    iterate 2 refine A1 rfl ?_
    refine RL.step (d := some 8) rfl rfl (xj_subV (Y := 1#64) rfl rfl) ?_
    refine RL.step (d := some 9) rfl rfl (xj_andV rfl rfl) ?_
    refine A1 rfl ?_
    exact ⟨(y &&& (y - 1#64), k + 1), St.le_mk ⟨rfl, rfl, trivial⟩ trivial rfl rfl, by simp only; omega, by simp only; omega⟩
  · have hz : y = 0#64 := Classical.byContradiction hc5
    subst hz
    repeat refine AW.seq ?_
    refine AW.exit ?_
    repeat refine AW.seq ?_
    refine AW.region ?_
    iterate 2 refine A1 rfl ?_
    repeat refine AW.seq ?_
    refine AW.ret ?_
    exact ⟨_, _, rfl, rfl, by rw [← hk]; rfl⟩
theorem gkey_spec (G : List B64) (hG : GOk G) (c : B64) : FnP Try.prog 91 [psets G, setP c] (· = .int .i64 (keyN G c)) := by
  refine FnP.of Try.func91 rfl Try.ntmps91 (by simp) fun m0 w0 F R0 => ?_
  have h12 := hG.n
  repeat refine AW.seq ?_
  refine AW.region ?_
  refine A1 rfl ?_
  repeat refine AW.seq ?_
  refine AW.region ?_
  refine A1 rfl ?_
  repeat refine AW.seq ?_
  refine AW.region ?_
  iterate 3 refine A1 rfl ?_
  repeat refine AW.seq ?_
  refine AW.block ?_
  repeat refine AW.seq ?_
  refine AW.loop (st := fun x_0 : Nat × B64 => mkS [(1, .pv (setP c)), (5, .pv (setP x_0.2)), (8, .pv (psets G)), (9, .pv (.int .i64 G.length)), (10, .pv (.int .i64 x_0.1))] [] 0)
    (I := fun x_0 => x_0.1 ≤ G.length ∧ ∀ i, x_0.2.getLsbD i = (List.range x_0.1).any fun b => c.getLsbD b && (G.getD b 0#64).getLsbD i) (μ := fun x_0 => G.length - x_0.1) (x0 := (0, 0#64)) (St.le_mk ⟨rfl, rfl, rfl, rfl, rfl, trivial⟩ trivial rfl rfl) (⟨Nat.zero_le _, fun c => by simp⟩) ?_
  rintro ⟨k, near⟩ ⟨hk, hnear⟩
  try simp only at hk hnear ⊢
  repeat refine AW.seq ?_
  refine AW.region ?_
  refine A1 rfl ?_
  repeat refine AW.seq ?_
  refine AW.condP rfl (fun hc11 => ?_) (fun hc11 => ?_)
  · have hlt : k < G.length := by omega
    have hv := psets_at hlt
    have hne := psets_ne hlt
    refine AW.skip ?_
    repeat refine AW.seq ?_
    refine AW.block ?_
    repeat refine AW.seq ?_
    refine AW.region ?_
    iterate 2 refine A1 rfl ?_
    first | refine A2 rfl (by assumption) ?_ | refine A1 rfl ?_
    iterate 2 refine A1 rfl ?_
    repeat refine AW.seq ?_
    refine AW.region ?_
    iterate 2 refine A1 rfl ?_
    refine RL.step (d := some 17) rfl rfl (xj_call Try.call51 (has_sp c k (by omega)) rfl) ?_
    repeat refine AW.seq ?_
    refine AW.cond rfl (fun hc17 => ?_) (fun hc17 => ?_)
    · repeat refine AW.seq ?_
      refine AW.region ?_
      iterate 2 refine A1 rfl ?_
      refine RL.step (d := some 20) rfl rfl (xj_orV rfl rfl) ?_
      refine A1 rfl ?_
      repeat refine AW.seq ?_
      refine AW.region ?_
      iterate 2 refine A1 rfl ?_
      exact ⟨(k + 1, near ||| G[k]), St.le_mk ⟨rfl, rfl, rfl, rfl, rfl, trivial⟩ trivial rfl rfl, ⟨by simp only; omega, fun i => (near_next (hnear i) hlt).1 hc17⟩, by simp only; omega⟩
    · refine AW.skip ?_
      repeat refine AW.seq ?_
      refine AW.region ?_
      iterate 2 refine A1 rfl ?_
      exact ⟨(k + 1, near), St.le_mk ⟨rfl, rfl, rfl, rfl, rfl, trivial⟩ trivial rfl rfl, ⟨by simp only; omega, fun i => (near_next (hnear i) hlt).2 hc17⟩, by simp only; omega⟩
  · have hkG : k = G.length := by omega
    rw [hkG] at hnear
    have hnb : near = nearB G c := by apply BitVec.eq_of_getLsbD_eq; intro i hi; unfold nearB; rw [bitsOf_bit _ hi, hnear]
    subst hnb
    repeat refine AW.seq ?_
    refine AW.exit ?_
    repeat refine AW.seq ?_
    refine AW.region ?_
    iterate 2 refine A1 rfl ?_
    refine RL.step (d := some 24) rfl rfl (xj_andNotV rfl rfl) ?_
    refine RL.step (d := some 25) rfl rfl (xj_call Try.call99 (size_spec _) rfl) ?_
    refine A1 rfl ?_
    repeat refine AW.seq ?_
    refine AW.ret ?_
    exact ⟨_, _, rfl, rfl, rfl⟩
/-- What the finder knows. -/
abbrev mapO (M : List (B64 × Nat)) : Ob := .mp (M.map fun p => setP p.1) (M.map fun p => .int .i64 (p.2 : Int))
def MemOk (G : List B64) (M : List (B64 × Nat)) : Prop := ∀ p ∈ M, p.2 = partV G p.1
abbrev finV (G : List B64) : V := .agg [.pv (psets G), .map big]
theorem keq_sets (x y : B64) : keq (setP x) (setP y) = some (decide (x = y)) := by
  simp only [keq, setP]
  show some (_ == _) = _
  rw [setP_beq]
theorem find_sets (c : B64) : ∀ (M : List (B64 × Nat)) (i : Nat), (∃ r, kfind (setP c) (M.map fun p => setP p.1) i = some r) ∧ (kfind (setP c) (M.map fun p => setP p.1) i = some none → ∀ p ∈ M, p.1 ≠ c) ∧ (∀ j, kfind (setP c) (M.map fun p => setP p.1) i = some (some j) → i ≤ j ∧ ∃ w, M[j - i]? = some (c, w))
  | [], i => ⟨⟨none, rfl⟩, fun _ => by simp, fun j h => by simp [kfind] at h⟩
  | p :: M, i => by
    obtain ⟨h1, h2, h3⟩ := find_sets c M (i + 1)
    simp only [List.map_cons, kfind, keq_sets]
    by_cases e : c = p.1
    · rw [decide_eq_true e]
      refine ⟨⟨_, rfl⟩, fun h => by simp at h, fun j h => ?_⟩
      simp at h
      subst h
      exact ⟨Nat.le_refl _, p.2, by simp [e]⟩
    · rw [decide_eq_false e]
      refine ⟨h1, fun h q hq => ?_, fun j h => ?_⟩
      · rcases List.mem_cons.1 hq with rfl | hq
        · exact fun e' => e e'.symm
        · exact h2 h q hq
      · obtain ⟨h4, w, h5⟩ := h3 j h
        exact ⟨by omega, w, by rw [show j - i = (j - (i + 1)) + 1 by omega]; simpa using h5⟩
theorem look_sets {G : List B64} {M : List (B64 × Nat)} (hM : MemOk G M) (c : B64) : mlook (setP c) (M.map fun p => setP p.1) (M.map fun p => .int .i64 (p.2 : Int)) = some (if ∃ p ∈ M, p.1 = c then some (.int .i64 (partV G c)) else none) := by
  obtain ⟨⟨r, h1⟩, h2, h3⟩ := find_sets c M 0
  unfold mlook
  rw [h1]
  cases r with
  | none =>
    have := h2 h1
    rw [if_neg (fun ⟨p, hp, e⟩ => this p hp e)]
  | some j =>
    obtain ⟨_, w, h4⟩ := h3 j h1
    simp only [Nat.sub_zero] at h4
    have hm := List.mem_of_getElem? h4
    rw [if_pos ⟨_, hm, rfl⟩]
    have hw : w = partV G c := hM _ hm
    simp [h4, hw]
theorem put_sets {G : List B64} {M : List (B64 × Nat)} (hM : MemOk G M) (c : B64) : ∃ M', MemOk G M' ∧ mputK (setP c) (M.map fun p => setP p.1) = M'.map (fun p => setP p.1) ∧ mputV (setP c) (.int .i64 (partV G c : Nat)) (M.map fun p => setP p.1) (M.map fun p => .int .i64 (p.2 : Int)) = M'.map fun p => .int .i64 (p.2 : Int) := by
  obtain ⟨⟨r, h1⟩, _, _⟩ := find_sets c M 0
  unfold mputK mputV
  rw [h1]
  cases r with
  | none =>
    refine ⟨M ++ [(c, partV G c)], fun p hp => ?_, by simp, by simp⟩
    rcases List.mem_append.1 hp with h | h
    · exact hM p h
    · rw [List.mem_singleton.1 h]
  | some j =>
    refine ⟨M.set j (c, partV G c), fun p hp => ?_, by simp [List.map_set], by simp [List.map_set]⟩
    rcases List.mem_or_eq_of_mem_set hp with h | h
    · exact hM p h
    · rw [h]
theorem max_int (a b : Nat) : (if (b : Int) > (a : Int) then (b : Int) else (a : Int)) = ((max a b : Nat) : Int) := by split <;> omega
theorem min_int (a b : Nat) : (if (b : Int) < (a : Int) then (b : Int) else (a : Int)) = ((min a b : Nat) : Int) := by split <;> omega
def QW (G : List B64) (x : Nat) (v : V) (ob' : Nat → Option Ob) : Prop := ∃ M', MemOk G M' ∧ v = .pv (.int .i64 (x : Int)) ∧ ob' = lookO [(big, mapO M')]
def WidOk (P : Program) (f : FuncId) (G : List B64) (rest : B64) (x : Nat) : Prop := ∀ M, MemOk G M → FnO P f 1 0 [finV G, .pv (setP rest)] [(big, mapO M)] (QW G x)
theorem wid_step (G : List B64) (hG : GOk G) (rest : B64) (hr : InB G.length rest) (hp : ∀ d, Comp (adjG G) rest d → WidOk Try.prog 74 G d (partV G d)) : WidOk Try.prog 61 G rest (widV G rest) := by
  intro M hM
  refine FnO.of Try.func61 rfl Try.ntmps61 (by simp) fun m0 w0 F R0 => ?_
  have h12 := hG.n
  have hcs := comps_spec G h12 rest
  have hmem := fun d => mem_comps hG hr (d := d)
  have hwd : widV G rest = (compsN G rest G.length).1.foldl (fun z c => max z (partV G c)) 0 := rfl
  have hcl := comps_len G rest G.length
  generalize (compsN G rest G.length).1 = cs at *
  have hbd : ∀ d ∈ cs, partV G d ≤ 12 := fun d hd => Nat.le_trans (part_le hG _ d (Nat.le_refl _) (fun i hi => hr i (((hmem d).1 hd).sub i hi)) ((hmem d).1 hd).ne) h12
  repeat refine AW.seq ?_
  refine AW.region ?_
  iterate 2 refine A1 rfl ?_
  repeat refine AW.seq ?_
  refine AW.region ?_
  refine A1 rfl ?_
  repeat refine AW.seq ?_
  refine AW.region ?_
  iterate 3 refine A1 rfl ?_
  refine RL.step (d := some 11) rfl rfl (xj_call Try.call50 hcs rfl) ?_
  iterate 2 refine A1 rfl ?_
  repeat refine AW.seq ?_
  refine AW.block ?_
  repeat refine AW.seq ?_
  refine AW.loop (st := fun x_0 : Nat × Nat × List (B64 × Nat) => mkS [(2, .ptr 0 0), (5, .pv (.int .i64 x_0.2.1)), (11, .pv (psets cs)), (12, .pv (.int .i64 cs.length)), (13, .pv (.int .i64 x_0.1))] [(big, mapO x_0.2.2), (0, .mix 95 [.pv (psets G), .map big])] 1)
    (I := fun x_0 => x_0.1 ≤ cs.length ∧ x_0.2.1 = (cs.take x_0.1).foldl (fun z c => max z (partV G c)) 0 ∧ MemOk G x_0.2.2) (μ := fun x_0 => cs.length - x_0.1) (x0 := (0, 0, M)) (St.le_mk ⟨rfl, rfl, rfl, rfl, rfl, trivial⟩ ⟨rfl, rfl, trivial⟩ rfl rfl) (⟨Nat.zero_le _, rfl, hM⟩) ?_
  rintro ⟨k, m, M2⟩ ⟨hk, hm, hM2⟩
  try simp only at hk hm hM2 ⊢
  repeat refine AW.seq ?_
  refine AW.region ?_
  refine A1 rfl ?_
  repeat refine AW.seq ?_
  refine AW.condP rfl (fun hc14 => ?_) (fun hc14 => ?_)
  · have hlt : k < cs.length := by omega
    have hv := psets_at hlt
    have hne := psets_ne hlt
    have hpk := hp cs[k] ((hmem _).1 (List.getElem_mem hlt)) M2 hM2
    have hfd : (cs.take (k + 1)).foldl (fun z c => max z (partV G c)) 0 = max m (partV G cs[k]) := by rw [take_snoc hlt, List.foldl_append, ← hm]; rfl
    refine AW.skip ?_
    repeat refine AW.seq ?_
    refine AW.block ?_
    repeat refine AW.seq ?_
    refine AW.region ?_
    refine A1 rfl ?_
    first | refine A2 rfl (by assumption) ?_ | refine A1 rfl ?_
    refine A1 rfl ?_
    repeat refine AW.seq ?_
    refine AW.region ?_
    iterate 3 refine A1 rfl ?_
    refine RL.call rfl (oj_callF1 [big] 0 Try.call74 hpk rfl rfl rfl rfl ⟨rfl, trivial⟩ (by decide) rfl ?_)
    rintro _ _ ⟨M3, hM3, rfl, rfl⟩
    iterate 2 refine A1 rfl ?_
    repeat refine AW.seq ?_
    refine AW.region ?_
    iterate 2 refine A1 rfl ?_
    exact ⟨(k + 1, max m (partV G cs[k]), M3), St.le_mk ⟨rfl, congrArg (fun z => V.pv (.int .i64 z)) (max_int _ _), rfl, rfl, rfl, trivial⟩ ⟨rfl, rfl, trivial⟩ rfl rfl, ⟨by simp only; omega, hfd.symm, hM3⟩, by simp only; omega⟩
  · rw [List.take_of_length_le (by omega), ← hwd] at hm
    subst hm
    repeat refine AW.seq ?_
    refine AW.exit ?_
    repeat refine AW.seq ?_
    refine AW.region ?_
    iterate 2 refine A1 rfl ?_
    repeat refine AW.seq ?_
    refine AW.ret ?_
    exact ⟨[(4, .pv (.int .i64 (widV G rest : Nat)))], [(big, mapO M2)], [.pv (.int .i64 (widV G rest : Nat))], St.le_mk ⟨rfl, trivial⟩ ⟨rfl, trivial⟩ rfl rfl, rfl, rfl, rfl, M2, hM2, rfl, rfl⟩
theorem par_step (G : List B64) (hG : GOk G) (c : B64) (hc : InB G.length c) (hne : ∃ i, c.getLsbD i = true) (hw : ∀ a, a < G.length → c.getLsbD a = true → WidOk Try.prog 61 G (c &&& ~~~(BitVec.twoPow 64 a)) (widV G (c &&& ~~~(BitVec.twoPow 64 a)))) : WidOk Try.prog 74 G c (partV G c) := by
  intro M hM
  refine FnO.of Try.func74 rfl Try.ntmps74 (by simp) fun m0 w0 F R0 => ?_
  have h12 := hG.n
  have hlk := look_sets hM c
  have hpe := part_eq hG hc hne
  have hmb : ∀ k, minW (widV G) G c k ≤ G.length + 1 := fun k => minW_le.2 (.inl (Nat.le_refl _))
  have hkb : keyN G c ≤ 64 := pop_le _
  repeat refine AW.seq ?_
  refine AW.region ?_
  iterate 2 refine A1 rfl ?_
  by_cases hm : ∃ p ∈ M, p.1 = c
  · rw [if_pos hm] at hlk
    repeat refine AW.seq ?_
    refine AW.region ?_
    iterate 3 refine A1 rfl ?_
    refine RL.step (d := some 13) rfl rfl (xj_lookup (zp := .int .i64 0) Try.underlying93 Try.underlying84 (.inl ⟨big, rfl, rfl⟩) rfl rfl zero3 rfl hlk rfl rfl) ?_
    iterate 5 refine A1 rfl ?_
    repeat refine AW.seq ?_
    refine AW.region ?_
    refine A1 rfl ?_
    repeat refine AW.seq ?_
    refine AW.cond rfl (fun hc16 => ?_) (fun hc16 => absurd hc16 (by simp))
    repeat refine AW.seq ?_
    refine AW.region ?_
    iterate 2 refine A1 rfl ?_
    repeat refine AW.seq ?_
    refine AW.ret ?_
    exact ⟨[(4, .pv (.int .i64 (partV G c : Nat)))], [(big, mapO M)], [.pv (.int .i64 (partV G c : Nat))], St.le_mk ⟨rfl, trivial⟩ ⟨rfl, trivial⟩ rfl rfl, rfl, rfl, rfl, M, hM, rfl, rfl⟩
  · rw [if_neg hm] at hlk
    repeat refine AW.seq ?_
    refine AW.region ?_
    iterate 3 refine A1 rfl ?_
    refine RL.step (d := some 13) rfl rfl (xj_lookup (zp := .int .i64 0) Try.underlying93 Try.underlying84 (.inl ⟨big, rfl, rfl⟩) rfl rfl zero3 rfl hlk rfl rfl) ?_
    iterate 5 refine A1 rfl ?_
    repeat refine AW.seq ?_
    refine AW.region ?_
    refine A1 rfl ?_
    repeat refine AW.seq ?_
    refine AW.cond rfl (fun hc16 => absurd hc16 (by simp)) (fun hc16 => ?_)
    refine AW.skip ?_
    repeat refine AW.seq ?_
    refine AW.region ?_
    iterate 5 refine A1 rfl ?_
    repeat refine AW.seq ?_
    refine AW.region ?_
    iterate 4 refine A1 rfl ?_
    repeat refine AW.seq ?_
    refine AW.block ?_
    repeat refine AW.seq ?_
    refine AW.loop (st := fun x_0 : Nat × List (B64 × Nat) => mkS [(1, .pv (setP c)), (2, .ptr 0 0), (7, .pv (.int .i64 (minW (widV G) G c x_0.1 : Nat))), (24, .pv (.int .i64 G.length)), (25, .pv (.int .i64 x_0.1))] [(big, mapO x_0.2), (0, .mix 95 [.pv (psets G), .map big])] 1)
      (I := fun x_0 => x_0.1 ≤ G.length ∧ MemOk G x_0.2) (μ := fun x_0 => G.length - x_0.1) (x0 := (0, M)) (St.le_mk ⟨rfl, rfl, rfl, rfl, rfl, trivial⟩ ⟨rfl, rfl, trivial⟩ rfl rfl) (⟨Nat.zero_le _, hM⟩) ?_
    rintro ⟨k, M2⟩ ⟨hk, hM2⟩
    try simp only at hk hM2 ⊢
    repeat refine AW.seq ?_
    refine AW.region ?_
    refine A1 rfl ?_
    repeat refine AW.seq ?_
    refine AW.condP rfl (fun hc26 => ?_) (fun hc26 => ?_)
    · have hlt : k < G.length := by omega
      have hms := minW_succ (widV G) G c k
      refine AW.skip ?_
      repeat refine AW.seq ?_
      refine AW.block ?_
      repeat refine AW.seq ?_
      refine AW.region ?_
      iterate 2 refine A1 rfl ?_
      repeat refine AW.seq ?_
      refine AW.region ?_
      iterate 2 refine A1 rfl ?_
      refine RL.step (d := some 30) rfl rfl (xj_call Try.call51 (has_sp c k (by omega)) rfl) ?_
      repeat refine AW.seq ?_
      refine AW.cond rfl (fun hc30 => ?_) (fun hc30 => ?_)
      · rw [if_pos hc30] at hms
        have hwk := hw k hlt hc30 M2 hM2
        repeat refine AW.seq ?_
        refine AW.draw follows [[], [], [], [], [3], [4, 2, 3], [5, 1, 4, 2, 3], [6, 0, 5, 1, 4, 2, 3], [7, 6, 0, 5, 1, 4, 2, 3]] [0, 1, 2, 3, 4, 5, 6, 7, 8] (by kernel_rfl) (by kernel_rfl) ?_
        iterate 4 refine D1 rfl rfl ?_
        refine DL.step (d := some 35) [] rfl rfl rfl (fun τ h => xj_call Try.call52 (of_spec k (by omega)) (h.argsP rfl)) rfl (by kernel_rfl) ?_
        refine DL.step (d := some 36) [] rfl rfl rfl (fun τ h => xj_andNotV ((h.e 0 _ rfl).trans rfl) ((h.e 1 _ rfl).trans rfl)) rfl (by kernel_rfl) ?_
        refine DL.rel (RO [big] 0 0 (QW G (widV G (c &&& ~~~(BitVec.twoPow 64 k))))) [big] [] [big] rfl rfl rfl (fun τ h => relO [big] 0 Try.call61 hwk (h.args.trans rfl) rfl rfl rfl ⟨(h.o 0 _ rfl).trans rfl, trivial⟩ (by decide) rfl) rfl (by kernel_rfl) (by kernel_rfl) (by kernel_rfl) ?_
        rintro _ ⟨_, _, ⟨M3, hM3, rfl, rfl⟩, rfl⟩ _ _
        iterate 2 refine D1 rfl rfl ?_
        refine ⟨by kernel_rfl, ?_⟩
        repeat refine AW.seq ?_
        refine AW.region ?_
        iterate 2 refine A1 rfl ?_
        exact ⟨(k + 1, M3), St.le_mk ⟨rfl, rfl, congrArg (fun z => V.pv (.int .i64 z)) ((min_int _ _).trans (by rw [hms])), rfl, rfl, trivial⟩ ⟨rfl, rfl, trivial⟩ rfl rfl, ⟨by simp only; omega, hM3⟩, by simp only; omega⟩
      · rw [if_neg (by rw [hc30]; decide)] at hms
        refine AW.skip ?_
        repeat refine AW.seq ?_
        refine AW.region ?_
        iterate 2 refine A1 rfl ?_
        exact ⟨(k + 1, M2), St.le_mk ⟨rfl, rfl, by simp only [hms]; rfl, rfl, rfl, trivial⟩ ⟨rfl, rfl, trivial⟩ rfl rfl, ⟨by simp only; omega, hM2⟩, by simp only; omega⟩
    · have hkG : k = G.length := by omega
      subst hkG
      obtain ⟨M4, hM4, hpk, hpv⟩ := put_sets hM2 c
      obtain ⟨⟨r, hkf⟩, _, _⟩ := find_sets c M2 0
      have hmk := hmb G.length
      repeat refine AW.seq ?_
      refine AW.exit ?_
      repeat refine AW.seq ?_
      refine AW.region ?_
      iterate 4 refine A1 rfl ?_
      refine RL.step (d := some 44) rfl rfl (xj_call Try.call91 (gkey_spec G hG c) rfl) ?_
      refine A1 rfl ?_
      refine RL.step (d := some 46) rfl rfl (XJ.cast (v' := .pv (.int .i64 (partV G c : Nat))) (xj_max rfl rfl) (congrArg (fun z => V.pv (.int .i64 z)) ((max_int _ (keyN G c + 1)).trans (by rw [hpe])))) ?_
      refine A1 rfl ?_
      repeat refine AW.seq ?_
      refine AW.region ?_
      iterate 4 refine A1 rfl ?_
      refine RL.step (d := none) rfl rfl (xj_mapUpdate Try.underlying93 Try.underlying84 rfl rfl rfl rfl rfl hkf hpk hpv) ?_
      repeat refine AW.seq ?_
      refine AW.region ?_
      iterate 2 refine A1 rfl ?_
      repeat refine AW.seq ?_
      refine AW.ret ?_
      exact ⟨[(4, .pv (.int .i64 (partV G c : Nat)))], [(big, mapO M4)], [.pv (.int .i64 (partV G c : Nat))], St.le_mk ⟨rfl, trivial⟩ ⟨rfl, trivial⟩ rfl rfl, rfl, rfl, rfl, M4, hM4, rfl, rfl⟩
theorem wid_all (G : List B64) (hG : GOk G) : ∀ (k : Nat) (rest : B64), popB rest ≤ k → InB G.length rest → WidOk Try.prog 61 G rest (widV G rest)
  | 0, rest, h, hr => wid_step G hG rest hr fun d hd => by
    obtain ⟨i, hi⟩ := hd.ne
    have := pop_pos (hd.sub i hi)
    omega
  | k + 1, rest, h, hr => wid_step G hG rest hr fun d hd => par_step G hG d (fun i hi => hr i (hd.sub i hi)) hd.ne fun a ha hda => wid_all G hG k _ (by
    have h1 := pop_diff hda
    have h2 := pop_mono hd.sub
    omega) (InB.diff (fun i hi => hr i (hd.sub i hi)) a)
end Go.Proofs.Ytkalgjnhaicabaa
namespace Go.Proofs.Ytkalgjnhaicabaa
open Go.RowKit Mk
set_option maxRecDepth 100000
set_option maxHeartbeats 4000000
theorem gok_of {S : Sch} {G : List B64} (hV : Valid S) (h : IsG S G) : GOk G := by
  have h1 : G = gr S := isG_eq hV h
  subst h1
  have h2 := hV.n2
  have e := adjG_eq hV
  exact ⟨by rw [gr_len]; omega, by rw [e]; exact adjS_symm S, by rw [e, gr_len]; intro a b h; have := (link_lt hV h.2).2; omega⟩
theorem all_in (n : Nat) (hn : n ≤ 63) : InB n (allB n) := fun i hi => by rw [allB_bit (by omega), decide_eq_true_iff] at hi; exact hi
/-- What the loop of Least keeps. -/
structure LInv (G : List B64) (most : Nat) (L : List Int) (rest : B64) : Prop where
  inb : InB G.length rest
  wid : widV G rest ≤ most
  len : L.length + popB rest = G.length
  lst : L ++ leastF G most (popB rest) rest = leastL G
  nd : L.Nodup
  mem : ∀ x ∈ L, ∃ a : Nat, a < G.length ∧ x = (a : Int) ∧ rest.getLsbD a = false
  cov : ∀ a, a < G.length → (a : Int) ∈ L ∨ rest.getLsbD a = true
theorem LInv.first {G : List B64} (hG : GOk G) : LInv G (widV G (allB G.length)) [] (allB G.length) := by
  have h12 := hG.n
  have hp := pop_all (n := G.length) (by omega)
  exact ⟨all_in _ (by omega), Nat.le_refl _, by simp [hp], by rw [hp]; rfl, by simp, by simp, fun a ha => .inr (by rw [allB_bit (by omega)]; simpa using ha)⟩
theorem LInv.next {G : List B64} (hG : GOk G) {most : Nat} {L : List Int} {rest : B64} (h : LInv G most L rest) {k : Nat} (hk : k < G.length) (hno : ∀ b, b < k → ¬ (rest.getLsbD b = true ∧ widV G (compB G rest b &&& ~~~(BitVec.twoPow 64 b)) ≤ most))
    (h1 : rest.getLsbD k = true) (h2 : widV G (compB G rest k &&& ~~~(BitVec.twoPow 64 k)) ≤ most) : LInv G most (L ++ [(k : Int)]) (rest &&& ~~~(BitVec.twoPow 64 k)) := by
  have hp := pop_diff h1
  have hfind : (List.range G.length).find? (fun a => rest.getLsbD a && decide (widV G (compB G rest a &&& ~~~(BitVec.twoPow 64 a)) ≤ most)) = some k := by
    rw [List.find?_range_eq_some]
    refine ⟨by rw [h1]; simpa using h2, by simpa using hk, fun j hj => ?_⟩
    have := hno j hj
    cases e : rest.getLsbD j with
    | false => rfl
    | true => simp; exact Nat.lt_of_not_le fun h => this ⟨e, h⟩
  refine ⟨h.inb.diff k, next_le hG h.inb h1 h.wid h2, by have := h.len; simp; omega, ?_, ?_, fun x hx => ?_, fun a ha => ?_⟩
  · rw [← h.lst, ← hp]
    simp only [leastF, hfind, List.append_assoc, List.singleton_append]
  · rw [List.nodup_append]
    refine ⟨h.nd, by simp, fun x hx y hy e => ?_⟩
    rw [List.mem_singleton] at hy
    subst hy e
    obtain ⟨a, _, e, hr⟩ := h.mem _ hx
    have : k = a := by omega
    subst this
    rw [h1] at hr
    cases hr
  · rcases List.mem_append.1 hx with hx | hx
    · obtain ⟨a, ha, e, hr⟩ := h.mem x hx
      exact ⟨a, ha, e, by rw [diff_bit, hr]; rfl⟩
    · exact ⟨k, hk, List.mem_singleton.1 hx, by rw [diff_bit]; simp⟩
  · rcases h.cov a ha with h3 | h3
    · exact .inl (List.mem_append_left _ h3)
    · by_cases e : a = k
      · subst e; exact .inl (by simp)
      · exact .inr (by rw [diff_bit, h3]; simpa using fun e' => e e'.symm)
theorem LInv.last {G : List B64} {most : Nat} {L : List Int} (h : LInv G most L 0#64) : L = leastL G ∧ L.Perm (upZ G.length) := by
  have h0 : popB 0#64 = 0 := by unfold popB; simp
  have h1 := h.lst
  rw [h0] at h1
  simp only [leastF, List.append_nil] at h1
  refine ⟨h1, nodup_perm h.nd (upZ_nodup _) fun x => ?_⟩
  rw [upZ_mem]
  constructor
  · intro hx
    obtain ⟨a, ha, e, _⟩ := h.mem x hx
    exact ⟨a, ha, e⟩
  · rintro ⟨a, ha, rfl⟩
    rcases h.cov a ha with h2 | h2
    · exact h2
    · simp at h2
theorem ouLeast_spec (S : Sch) (hS : SB S) (hV : Valid S) : FnP Try.prog 42 [schP S] (fun v => ∃ G, IsG S G ∧ v = pints (leastL G) ∧ (leastL G).Perm (upZ G.length)) := by
  refine FnP.of Try.func42 rfl Try.ntmps42 (by simp) fun m0 w0 F R0 => ?_
  have hn12 := hV.n2
  repeat refine AW.seq ?_
  refine AW.region ?_
  iterate 2 refine A1 rfl ?_
  repeat refine AW.seq ?_
  refine AW.region ?_
  refine A1 rfl ?_
  refine RL.call rfl (oj_call Try.call48 (ounew_spec S hS hV) rfl ?_)
  rintro _ ⟨G, rfl, hIG⟩
  have hGl := hIG.len
  have hG := gok_of hV hIG
  have hw0 := wid_all G hG 64 (allB G.length) (pop_le _) (all_in _ (by omega)) [] (by intro p hp; cases hp)
  refine RL.step (d := some 10) rfl rfl (xj_makeMap 1 rfl) ?_
  iterate 3 refine A1 rfl ?_
  repeat refine AW.seq ?_
  refine AW.region ?_
  iterate 2 refine A1 rfl ?_
  refine RL.step (d := some 14) rfl rfl (xj_call Try.call53 (allB_spec G (by omega)) rfl) ?_
  refine A1 rfl ?_
  repeat refine AW.seq ?_
  refine AW.region ?_
  iterate 2 refine A1 rfl ?_
  refine RL.call rfl (oj_callF1 [1] 3 Try.call61 hw0 rfl rfl rfl rfl ⟨rfl, trivial⟩ (by decide) rfl ?_)
  rintro _ _ ⟨M0, hM0, rfl, rfl⟩
  refine A1 rfl ?_
  repeat refine AW.seq ?_
  refine AW.region ?_
  refine A1 rfl ?_
  refine AW.weaken (St.le_gro 6 3 1 3 rfl rfl) ?_
  repeat refine AW.seq ?_
  refine AW.block ?_
  repeat refine AW.seq ?_
  refine AW.loop (st := fun x_0 : List Int × B64 × List (B64 × Nat) => mkS [(3, .ptr 2 0), (4, .pv (setP x_0.2.1)), (5, .pv (.int .i64 (widV G (allB G.length) : Nat))), (6, .gsl 3 1 x_0.1.length)] [(1, mapO x_0.2.2), (2, .mix 95 [.pv (psets G), .map 1]), (3, .gro 3 (intsP x_0.1))] 4)
    (I := fun x_0 => LInv G (widV G (allB G.length)) x_0.1 x_0.2.1 ∧ MemOk G x_0.2.2) (μ := fun x_0 => popB x_0.2.1) (x0 := ([], allB G.length, M0)) (St.le_mk ⟨rfl, rfl, rfl, rfl, trivial⟩ ⟨rfl, rfl, rfl, trivial⟩ rfl rfl) (⟨LInv.first hG, hM0⟩) ?_
  rintro ⟨L, rest, M1⟩ ⟨hI, hM1⟩
  try simp only at hI hM1 ⊢
  repeat refine AW.seq ?_
  refine AW.region ?_
  refine A1 rfl ?_
  refine RL.step (d := some 19) rfl rfl (xj_neqV (Y := 0#64) rfl rfl) ?_
  repeat refine AW.seq ?_
  refine AW.condP rfl (fun hc19 => ?_) (fun hc19 => ?_)
  · obtain ⟨a0, ha0, hra0, hwa0⟩ := next_ex hG hI.inb (ne_bit hc19) hI.wid
    have hLl := hI.len
    have hsl : (intsP L).length = L.length * 1 := by simp
    refine AW.skip ?_
    repeat refine AW.seq ?_
    refine AW.block ?_
    repeat refine AW.seq ?_
    refine AW.region ?_
    iterate 4 refine A1 rfl ?_
    repeat refine AW.seq ?_
    refine AW.block ?_
    repeat refine AW.seq ?_
    refine AW.loop (st := fun x_1 : Nat × List (B64 × Nat) => mkS [(3, .ptr 2 0), (4, .pv (setP rest)), (5, .pv (.int .i64 (widV G (allB G.length) : Nat))), (6, .gsl 3 1 L.length), (22, .pv (.int .i64 G.length)), (23, .pv (.int .i64 x_1.1))] [(1, mapO x_1.2), (2, .mix 95 [.pv (psets G), .map 1]), (3, .gro 3 (intsP L))] 4)
      (I := fun x_1 => x_1.1 ≤ a0 ∧ MemOk G x_1.2 ∧ ∀ b, b < x_1.1 → ¬ (rest.getLsbD b = true ∧ widV G (compB G rest b &&& ~~~(BitVec.twoPow 64 b)) ≤ widV G (allB G.length))) (μ := fun x_1 => G.length - x_1.1) (x0 := (0, M1)) (St.le_mk ⟨rfl, rfl, rfl, rfl, rfl, rfl, trivial⟩ ⟨rfl, rfl, rfl, trivial⟩ rfl rfl) (⟨Nat.zero_le _, hM1, fun b hb => absurd hb (Nat.not_lt_zero _)⟩) ?_
    rintro ⟨k, M2⟩ ⟨hk, hM2, hno⟩
    try simp only at hk hM2 hno ⊢
    repeat refine AW.seq ?_
    refine AW.region ?_
    refine A1 rfl ?_
    repeat refine AW.seq ?_
    refine AW.condP rfl (fun hc24 => ?_) (fun hc24 => absurd hc24 (by omega))
    have hlt : k < G.length := by omega
    have hhas := has_sp rest k (by omega)
    have hof := of_spec k (by omega)
    have hcs := comp_spec G (by omega) rest k (by omega)
    refine AW.skip ?_
    repeat refine AW.seq ?_
    refine AW.block ?_
    repeat refine AW.seq ?_
    refine AW.region ?_
    iterate 2 refine A1 rfl ?_
    by_cases hb : rest.getLsbD k = true
    · rw [hb] at hhas
      have hcomp := comp_of hG rest hb
      have hin : InB G.length (compB G rest k &&& ~~~(BitVec.twoPow 64 k)) := InB.diff (fun i hi => hI.inb i (hcomp.1.sub i hi)) k
      have hwk := wid_all G hG 64 _ (pop_le _) hin M2 hM2
      have hnx := fun h2 => hI.next hG hlt hno hb h2
      repeat refine AW.seq ?_
      refine AW.draw follows [[], [], [1, 0], [2, 1, 0], [3, 2, 1, 0], [3, 2, 1, 0], [5, 3, 2, 1, 0], [3, 2, 1, 0], [3, 2, 1, 0], [8, 7, 6, 5, 3, 2, 1, 0], [3, 2, 1, 0], [9, 10, 3, 2, 1, 0, 8, 7, 6, 5], [11, 9, 8, 7, 6, 5, 3, 2, 1, 0, 10], [12, 4, 3, 2, 1, 0, 11, 9, 8, 7, 6, 5, 10], [3, 2, 1, 0], [14, 13, 12, 4, 3, 2, 1, 0, 11, 9, 8, 7, 6, 5, 10], [15, 3, 2, 1, 0, 14, 13, 12, 4, 11, 9, 8, 7, 6, 5, 10]] [0, 1, 2, 3, 4, 5, 6, 7, 8, 9, 10, 11, 12, 14, 13, 15, 16] (by kernel_rfl) (by kernel_rfl) ?_
      iterate 2 refine D1 rfl rfl ?_
      refine DL.step (d := some 28) [] rfl rfl rfl (fun τ h => xj_call Try.call51 hhas (h.argsP rfl)) rfl (by kernel_rfl) ?_
      iterate 6 refine D1 rfl rfl ?_
      refine DL.stepG (d := some 35) [] rfl rfl rfl rfl (fun τ h => xj_call Try.call62 hcs (h.argsP rfl)) rfl (by kernel_rfl) ?_
      refine D1 rfl rfl ?_
      refine DL.stepG (d := some 37) [] rfl rfl rfl rfl (fun τ h => xj_call Try.call52 hof (h.argsP rfl)) rfl (by kernel_rfl) ?_
      refine DL.stepG (d := some 38) [] rfl rfl rfl rfl (fun τ h => xj_andNotV ((h.e 0 _ rfl).trans rfl) ((h.e 1 _ rfl).trans rfl)) rfl (by kernel_rfl) ?_
      refine D1 rfl rfl ?_
      refine DL.relG (RO [1] 4 0 (QW G (widV G (compB G rest k &&& ~~~(BitVec.twoPow 64 k))))) [1] [] [1] rfl rfl rfl rfl (fun τ h => relO [1] 4 Try.call61 hwk (h.args.trans rfl) rfl rfl rfl ⟨(h.o 0 _ rfl).trans rfl, trivial⟩ (by decide) rfl) rfl (by kernel_rfl) (by kernel_rfl) (by kernel_rfl) ?_
      rintro _ ⟨_, _, ⟨M3, hM3, rfl, rfl⟩, rfl⟩ _ _
      iterate 2 refine D1 rfl rfl ?_
      refine ⟨by kernel_rfl, ?_⟩
      repeat refine AW.seq ?_
      refine AW.condP rfl (fun hc42 => ?_) (fun hc42 => ?_)
      · repeat refine AW.seq ?_
        refine AW.region ?_
        iterate 5 refine A1 rfl ?_
        repeat refine AW.seq ?_
        refine AW.region ?_
        iterate 2 refine A1 rfl ?_
        refine RL.step (d := some 49) rfl rfl (xj_call Try.call52 hof rfl) ?_
        refine RL.step (d := some 50) rfl rfl (xj_andNotV rfl rfl) ?_
        refine A1 rfl ?_
        repeat refine AW.seq ?_
        refine AW.exit ?_
        exact ⟨(L ++ [(k : Int)], rest &&& ~~~(BitVec.twoPow 64 k), M3), St.le_mkR [0, 1, 2, 5] ⟨rfl, rfl, rfl, by simp only [List.length_append, List.length_singleton]; rfl, trivial⟩ ⟨Eq.trans (b := some (mapO M3)) rfl rfl, rfl, congrArg (fun c => some (Ob.gro 3 c)) (ints_snoc L k).symm, trivial⟩ rfl rfl (by decide) rfl, ⟨hnx (by omega), hM3⟩, by have := pop_diff hb; simp only; omega⟩
      · refine AW.skip ?_
        repeat refine AW.seq ?_
        refine AW.region ?_
        iterate 2 refine A1 rfl ?_
        exact ⟨(k + 1, M3), St.le_mk ⟨rfl, rfl, rfl, rfl, rfl, rfl, trivial⟩ ⟨rfl, rfl, rfl, trivial⟩ rfl rfl, ⟨by simp only; by_cases e : k = a0; subst e; exact absurd hwa0 (by omega); omega, hM3, fun b hb2 => by rcases Nat.lt_succ_iff_lt_or_eq.1 hb2 with h1 | rfl; exact hno b h1; exact fun h => by have := h.2; omega⟩, by simp only; omega⟩
    · have hb' : rest.getLsbD k = false := by simpa using hb
      rw [hb'] at hhas
      repeat refine AW.seq ?_
      refine AW.draw follows [[], [], [1, 0], [2, 1, 0], [3, 2, 1, 0], [3, 2, 1, 0], [5, 3, 2, 1, 0], [3, 2, 1, 0], [3, 2, 1, 0], [8, 7, 6, 5, 3, 2, 1, 0], [3, 2, 1, 0], [9, 10, 3, 2, 1, 0, 8, 7, 6, 5], [11, 9, 8, 7, 6, 5, 3, 2, 1, 0, 10], [12, 4, 3, 2, 1, 0, 11, 9, 8, 7, 6, 5, 10], [3, 2, 1, 0], [14, 13, 12, 4, 3, 2, 1, 0, 11, 9, 8, 7, 6, 5, 10], [15, 3, 2, 1, 0, 14, 13, 12, 4, 11, 9, 8, 7, 6, 5, 10]] [0, 1, 2, 3, 4, 5, 6, 7, 8, 9, 10, 11, 12, 13, 14, 15, 16] (by kernel_rfl) (by kernel_rfl) ?_
      iterate 2 refine D1 rfl rfl ?_
      refine DL.step (d := some 28) [] rfl rfl rfl (fun τ h => xj_call Try.call51 hhas (h.argsP rfl)) rfl (by kernel_rfl) ?_
      iterate 14 refine D1 rfl rfl ?_
      refine ⟨by kernel_rfl, ?_⟩
      repeat refine AW.seq ?_
      refine AW.cond rfl (fun hc42 => absurd hc42 (by decide)) (fun hc42 => ?_)
      refine AW.skip ?_
      repeat refine AW.seq ?_
      refine AW.region ?_
      iterate 2 refine A1 rfl ?_
      exact ⟨(k + 1, M2), St.le_mk ⟨rfl, rfl, rfl, rfl, rfl, rfl, trivial⟩ ⟨rfl, rfl, rfl, trivial⟩ rfl rfl, ⟨by simp only; by_cases e : k = a0; subst e; exact absurd hra0 hb; omega, hM2, fun b hb2 => by rcases Nat.lt_succ_iff_lt_or_eq.1 hb2 with h1 | rfl; exact hno b h1; exact fun h => hb h.1⟩, by simp only; omega⟩
  · have hz : rest = 0#64 := Classical.byContradiction hc19
    subst hz
    obtain ⟨hLe, hperm⟩ := hI.last
    repeat refine AW.seq ?_
    refine AW.exit ?_
    refine AW.weaken (St.le_pubA 3 rfl rfl) ?_
    repeat refine AW.seq ?_
    refine AW.region ?_
    iterate 2 refine A1 rfl ?_
    repeat refine AW.seq ?_
    refine AW.ret ?_
    exact ⟨_, _, rfl, rfl, G, hIG, by rw [← hLe]; rfl, by rw [← hLe]; exact hperm⟩
/-- The least permutation of a schema. -/
noncomputable def lstL (S : Sch) : List Int := leastL (gr S)
theorem ouLeast_sp (S : Sch) (hS : SB S) (hV : Valid S) : (lstL S).Perm (upZ S.attrs.length) ∧ FnP Try.prog 42 [schP S] (· = pints (lstL S)) := by
  have h := ouLeast_spec S hS hV
  have key : ∀ {v : PV}, (∃ G, IsG S G ∧ v = pints (leastL G) ∧ (leastL G).Perm (upZ G.length)) → v = pints (lstL S) ∧ (lstL S).Perm (upZ S.attrs.length) := fun {v} ⟨G, hG, e, hp⟩ => by
    have := isG_eq hV hG
    subst this
    rw [gr_len] at hp
    exact ⟨e, hp⟩
  refine ⟨?_, h.mono fun v hv => (key hv).1⟩
  have hG : IsG S (gr S) := ⟨gr_len S, fun a ha b => gr_bit hV (by rwa [gr_len] at ha) b⟩
  have hI : LInv (gr S) (widV (gr S) (allB (gr S).length)) [] (allB (gr S).length) := LInv.first (gok_of hV hG)
  have fin : ∀ (k : Nat) (L : List Int) (rest : B64), popB rest = k → LInv (gr S) (widV (gr S) (allB (gr S).length)) L rest → (leastL (gr S)).Perm (upZ (gr S).length) := by
    intro k
    induction k with
    | zero =>
      intro L rest hk hI
      have hz : rest = 0#64 := by apply BitVec.eq_of_getLsbD_eq; intro i _; rw [pop_zero hk i]; simp
      subst hz
      have := hI.last
      rw [← this.1]; exact this.2
    | succ k ih =>
      intro L rest hk hI
      have hne : ∃ i, rest.getLsbD i = true := Classical.byContradiction fun hn => by
        have : popB rest = 0 := by unfold popB; rw [List.countP_eq_zero]; intro i _ hi; exact hn ⟨i, hi⟩
        omega
      obtain ⟨a, ha, h1, h2⟩ := next_ex (gok_of hV hG) hI.inb hne hI.wid
      obtain ⟨b, hb⟩ : ∃ b, (List.range (gr S).length).find? (fun a => rest.getLsbD a && decide (widV (gr S) (compB (gr S) rest a &&& ~~~(BitVec.twoPow 64 a)) ≤ widV (gr S) (allB (gr S).length))) = some b := by
        cases hf : (List.range (gr S).length).find? (fun a => rest.getLsbD a && decide (widV (gr S) (compB (gr S) rest a &&& ~~~(BitVec.twoPow 64 a)) ≤ widV (gr S) (allB (gr S).length))) with
        | some b => exact ⟨b, rfl⟩
        | none =>
          have := List.find?_eq_none.1 hf a (List.mem_range.2 ha)
          simp [h1, h2] at this
      have hb2 := hb
      rw [List.find?_range_eq_some] at hb2
      obtain ⟨hb3, hb4, hb5⟩ := hb2
      rw [Bool.and_eq_true, decide_eq_true_iff] at hb3
      refine ih (L ++ [(b : Int)]) (rest &&& ~~~(BitVec.twoPow 64 b)) (by have := pop_diff hb3.1; omega) (hI.next (gok_of hV hG) (by simpa using hb4) (fun j hj h => ?_) hb3.1 hb3.2)
      have := hb5 j hj
      simp [h.1, h.2] at this
  have := fin _ [] _ rfl hI
  rw [gr_len] at this
  exact this
theorem oleast_spec (S : Sch) (hS : SB S) : FnP Try.prog 20 [schP S] (· = if checkE S = 0 then .tup [ordP (ordL S (lstL S)), pints (lstL S), .int .i64 0] else .tup [ordP [], pints [], .int .i64 (checkE S)]) := by
  refine FnP.fg2 (FnP.ofC Try.func20 rfl Try.ntmps20 (by simp) fun m0 w0 F R0 => ?_)
  repeat refine AW.seq ?_
  refine AW.region ?_
  iterate 4 refine A1 rfl ?_
  repeat refine AW.seq ?_
  refine AW.region ?_
  refine A1 rfl ?_
  refine RL.step (d := some 8) rfl rfl (xj_call Try.call28 (chk_spec S hS) rfl) ?_
  refine A1 rfl ?_
  repeat refine AW.seq ?_
  refine AW.region ?_
  iterate 2 refine A1 rfl ?_
  repeat refine AW.seq ?_
  refine AW.cond rfl (fun hc10 => ?_) (fun hc10 => ?_)
  · repeat refine AW.seq ?_
    refine AW.region ?_
    iterate 5 refine A1 rfl ?_
    repeat refine AW.seq ?_
    refine AW.ret ?_
    exact ⟨_, _, rfl, rfl, ⟨cellOk1 ⟨_, Try.underlying33, rfl⟩ sz33 rfl rfl rfl, trivial⟩, by rw [if_neg (inT hc10)]; rfl⟩
  · have h0 : checkE S = 0 := inF hc10
    have hV := valid_of h0
    obtain ⟨hperm, hls⟩ := ouLeast_sp S hS hV
    have hq : ∀ a ∈ lstL S, 0 ≤ a ∧ a < S.attrs.length := fun a ha => by obtain ⟨x, hx, e⟩ := upZ_mem.1 (hperm.mem_iff.1 ha); omega
    have hql : (lstL S).length ≤ 1000 := by rw [hperm.length_eq, upZ_len]; have := hV.n2; omega
    refine AW.skip ?_
    repeat refine AW.seq ?_
    refine AW.region ?_
    refine A1 rfl ?_
    refine RL.step (d := some 14) rfl rfl (xj_call Try.call42 hls rfl) ?_
    refine A1 rfl ?_
    repeat refine AW.seq ?_
    refine AW.region ?_
    iterate 2 refine A1 rfl ?_
    refine RL.step (d := some 17) rfl rfl (xj_call Try.call30 (ouOf_sp S hS hV (lstL S) hq hql) rfl) ?_
    iterate 4 refine A1 rfl ?_
    repeat refine AW.seq ?_
    refine AW.ret ?_
    exact ⟨_, _, rfl, rfl, ⟨cellOk1 ⟨_, Try.underlying33, rfl⟩ sz33 rfl rfl rfl, trivial⟩, by rw [if_pos h0]; rfl⟩
end Go.Proofs.Ytkalgjnhaicabaa
namespace Go.Proofs.Ytkalgjnhaicabaa
open Go.RowKit Mk
set_option maxRecDepth 100000
set_option maxHeartbeats 1000000
theorem walk_all (P : List Int) (hP : UpOk P) (hn : P.length ≤ 1000000) : ∀ (f : Nat) (v : Int) (L : List Int), (∀ a (ha : a < P.length), P[a] = v → P.length + 1 ≤ (abvL P a).length + f) → L.length + (walkF P f v).length ≤ 1000000 →
    FnO Try.prog 39 3 1 (visA P v) (visO P 1000002 L) (fun r ob' => r = .tup [] ∧ ob' = lookO (visO P 0 (L ++ walkF P f v)))
  | 0, v, L, hf, hL => by
    have hno : ∀ a (ha : a < P.length), P[a] ≠ v := fun a ha e => by have := hf a ha e; have := abvL_len P a; omega
    have hz : walkG P (fun _ => []) v P.length = [] := by
      unfold walkG
      rw [List.flatMap_eq_nil_iff]
      intro x hx
      obtain ⟨a, ha, rfl⟩ := upZ_mem.1 hx
      rw [if_neg]
      simp only [Int.toNat_natCast, getD_eq ha]
      exact hno a ha
    have := walk1_step P hn (fun _ => []) v (fun a ha L e _ => absurd e (hno a ha)) L (by rw [hz]; simpa [walkF] using hL)
    rw [hz] at this
    exact this
  | f + 1, v, L, hf, hL => walk1_step P hn (walkF P f) v (fun a ha L' e hL' => walk_all P hP hn f a L' (fun b hb e2 => by
      have h1 := hf a ha e
      rw [abvL_cons hP hb ha e2]; simp; omega) hL') L hL
theorem walkL_len {P : List Int} (hP : UpOk P) : (walkL P).length = P.length := by rw [(walk_perm hP).length_eq, upZ_len]
theorem owalk_spec (S : Sch) (hS : SB S) (P : List Int) (hn : P.length ≤ 1000000) : FnP Try.prog 15 [schP S, ordP P] (· = pints (if ordE S P = 0 then walkL P else [])) := by
  refine FnP.of Try.func15 rfl Try.ntmps15 (by simp) fun m0 w0 F R0 => ?_
  repeat refine AW.seq ?_
  refine AW.region ?_
  iterate 3 refine A1 rfl ?_
  repeat refine AW.seq ?_
  refine AW.region ?_
  iterate 2 refine A1 rfl ?_
  refine RL.step (d := some 9) rfl rfl (xj_call Try.call11 (ocheck_spec S hS P hn) rfl) ?_
  refine A1 rfl ?_
  repeat refine AW.seq ?_
  refine AW.cond rfl (fun hc10 => ?_) (fun hc10 => ?_)
  · repeat refine AW.seq ?_
    refine AW.region ?_
    refine A1 rfl ?_
    refine AW.weaken (St.le_fgS [4]) ?_
    repeat refine AW.seq ?_
    refine AW.ret ?_
    exact ⟨_, _, rfl, rfl, by rw [if_neg (inT hc10)]; rfl⟩
  · have h0 : ordE S P = 0 := inF hc10
    have hU := (ordE_zero.1 h0).2.upOk
    have hwl := walkL_len hU
    have hgo := walk_all P hU hn (P.length + 1) (-1) [] (fun a ha e => by omega) (by show 0 + (walkL P).length ≤ 1000000; omega)
    refine AW.skip ?_
    refine AW.weaken (St.le_ppA 1 rfl rfl) ?_
    repeat refine AW.seq ?_
    refine AW.region ?_
    refine A1 rfl ?_
    refine AW.weaken (St.le_groC 2 0 3 1 3 rfl rfl rfl) ?_
    repeat refine AW.seq ?_
    refine AW.region ?_
    refine A1 rfl ?_
    repeat refine AW.seq ?_
    refine AW.region ?_
    iterate 2 refine A1 rfl ?_
    repeat refine AW.seq ?_
    refine AW.region ?_
    refine A1 rfl ?_
    refine RL.call rfl (oj_callVF [2, 4, 3] 5 Try.call39 hgo rfl rfl rfl rfl rfl ⟨rfl, rfl, rfl, trivial⟩ (by decide) rfl ?_)
    rintro _ _ ⟨rfl, rfl⟩
    refine AW.weaken (St.le_pubA (o := .gro 3 (intsP (walkL P))) 5 (by kernel_rfl) rfl) ?_
    repeat refine AW.seq ?_
    refine AW.region ?_
    iterate 2 refine A1 rfl ?_
    repeat refine AW.seq ?_
    refine AW.ret ?_
    exact ⟨_, _, rfl, rfl, by rw [if_pos h0]; rfl⟩
def pathS : Sch := ⟨[(⟨#[97]⟩, 1), (⟨#[98]⟩, 1), (⟨#[99]⟩, 1)], [(⟨#[114]⟩, [0, 1]), (⟨#[113]⟩, [1, 2])], [], -1⟩
theorem path_spec : FnP Try.prog 21 [] (· = schP pathS) := by
  refine FnP.fg2 (FnP.ofC Try.func21 rfl Try.ntmps21 (by simp) fun m0 w0 F R0 => ?_)
  repeat refine AW.seq ?_
  refine AW.region ?_
  refine A1 rfl ?_
  repeat refine AW.seq ?_
  refine AW.region ?_
  iterate 3 refine A1 rfl ?_
  refine RL.step (d := some 4) rfl rfl (xj_buildSliceP none (by simp) el26 rfl (by decide) (by decide) rfl rfl) ?_
  refine RL.step (d := some 5) rfl rfl (xj_buildSliceP none (by simp) el22 rfl (by decide) (by decide) rfl rfl) ?_
  refine A1 rfl ?_
  refine RL.step (d := some 7) rfl rfl (xj_buildSliceP none (by simp) el22 rfl (by decide) (by decide) rfl rfl) ?_
  refine A1 rfl ?_
  refine RL.step (d := some 9) rfl rfl (xj_buildSliceP none (by simp) el27 rfl (by decide) (by decide) rfl rfl) ?_
  iterate 2 refine A1 rfl ?_
  repeat refine AW.seq ?_
  refine AW.ret ?_
  exact ⟨_, _, rfl, rfl, ⟨cellOk1 ⟨_, Try.underlying30, rfl⟩ sz30 rfl rfl rfl, trivial⟩, rfl⟩
theorem path_sb : SB pathS := ⟨by decide, by decide, by decide, by decide, by decide, by decide⟩
theorem path_ok : checkE pathS = 0 := by decide
abbrev pathP : List Int := [1, -1, 1]
theorem path_ord : ordE pathS pathP = 0 := by decide
theorem path_val : Valid pathS := valid_of path_ok
abbrev pathQ : List Int := [1, 0, 2]
theorem path_perm : pathQ.Perm (upZ pathS.attrs.length) := by
  show [1, 0, 2].Perm [(0 : Int), 1, 2]
  exact List.Perm.swap 0 1 [2]
theorem path_is : IsOrd 3 (adjS pathS) (posQ pathQ) pathP := by
  have p0 : posQ pathQ 0 = 1 := by decide
  have p1 : posQ pathQ 1 = 0 := by decide
  have p2 : posQ pathQ 2 = 2 := by decide
  refine ⟨rfl, fun b hb => ?_⟩
  match b, hb with
  | 0, _ =>
    refine .inr ⟨1, by decide, rfl, ⟨by rw [p0, p1]; decide, .one ⟨by decide, by decide⟩ (by rw [p0, p1]; decide)⟩, fun a ha h => ?_⟩
    have h1 := h.1
    rw [p0] at h1
    match a, ha with
    | 0, _ => rw [p0] at h1; omega
    | 1, _ => exact .inl rfl
    | 2, _ => rw [p2] at h1; omega
  | 1, _ =>
    refine .inl ⟨rfl, fun a ha h => ?_⟩
    have h1 := h.1
    rw [p1] at h1; omega
  | 2, _ =>
    refine .inr ⟨1, by decide, rfl, ⟨by rw [p1, p2]; decide, .one ⟨by decide, by decide⟩ (by rw [p1, p2]; decide)⟩, fun a ha h => ?_⟩
    match a, ha with
    | 0, _ =>
      exfalso
      have hst := (h.2.stay (inn := fun x => x = 0) rfl (fun x y hx hxy hy => by
        subst hx
        have hy3 := (link_lt path_val hxy.2).2.2
        have hy3 : y < 3 := by have : (y : Int) < 3 := hy3; omega
        match y, hy3 with
        | 0, _ => rfl
        | 1, _ => rw [p0, p1] at hy; omega
        | 2, _ => exact absurd hxy.2 (by decide))).2
      omega
    | 1, _ => exact .inl rfl
    | 2, _ => have h1 := h.1; omega
theorem path_ordL : ordL pathS pathQ = pathP := (ordL_ord path_val path_perm).unique path_is
theorem of_path : FnP Try.prog 9 [schP pathS, pints pathQ] (· = .tup [ordP pathP, .int .i64 0]) := by
  have h := oof_spec pathS path_sb pathQ (by decide)
  have e : ofV pathS pathQ = .tup [ordP pathP, .int .i64 0] := by
    unfold ofV
    rw [perm_ofE path_ok path_perm, if_pos rfl, path_ordL]
  rw [e] at h
  exact h
theorem sort_one (a : Int) : sortI [a] = [a] := (sortI_eq (List.Perm.refl [a]) (by simp)).symm
theorem sort_nil : sortI [] = [] := (sortI_eq (List.Perm.refl []) (by simp)).symm
theorem key_p0 : keyL pathS pathP 0 = [1] := by unfold keyL; rw [show keyU pathS pathP 0 = [1] by decide, sort_one]
theorem key_p1 : keyL pathS pathP 1 = [] := by unfold keyL; rw [show keyU pathS pathP 1 = [] by decide, sort_nil]
theorem key_p2 : keyL pathS pathP 2 = [1] := by unfold keyL; rw [show keyU pathS pathP 2 = [1] by decide, sort_one]
theorem width_path : FnP Try.prog 19 [schP pathS, ordP pathP] (· = .tup [.int .i64 2, .int .i64 0]) := by
  have h := width_spec pathS path_sb pathP (by decide)
  rw [path_ord, if_pos rfl] at h
  have e : widN pathS pathP 3 = 1 := by
    have e0 : ((keyL pathS pathP ((0 : Nat) : Int)).length : Int) = 1 := by rw [show ((0 : Nat) : Int) = 0 from rfl, key_p0]; rfl
    have e1 : ((keyL pathS pathP ((1 : Nat) : Int)).length : Int) = 0 := by rw [show ((1 : Nat) : Int) = 1 from rfl, key_p1]; rfl
    have e2 : ((keyL pathS pathP ((2 : Nat) : Int)).length : Int) = 1 := by rw [show ((2 : Nat) : Int) = 2 from rfl, key_p2]; rfl
    simp only [widN, e0, e1, e2]
    decide
  rw [show pathP.length = 3 from rfl, e] at h
  exact h
theorem key_path : FnP Try.prog 13 [schP pathS, ordP pathP, .int .i64 0] (· = pints [1]) := by
  have h := keyU_spec pathS path_sb pathP (by decide) 0
  rw [if_pos (isB_iff.2 ⟨path_ord, by decide, by decide⟩), key_p0] at h
  exact h
theorem chi_path : FnP Try.prog 23 [schP pathS, ordP pathP, .int .i64 1] (· = pints [0, 2]) := by
  have h := children_spec pathS path_sb pathP (by decide) 1
  rw [if_neg (by unfold badB; rw [isB_iff.2 ⟨path_ord, by decide, by decide⟩, path_ord]; decide), show childL pathP 1 = [0, 2] by decide] at h
  exact h
theorem home_path : FnP Try.prog 12 [schP pathS, ordP pathP, .int .i64 1] (· = .int .i64 2) := by
  have h := home_spec pathS path_sb pathP (by decide) 1
  rw [if_neg (by unfold noRel; rw [path_ord]; decide), show homeL pathP (pathS.rels.getD (1 : Int).toNat default).2 = 2 by decide] at h
  exact h
theorem walk_path : FnP Try.prog 15 [schP pathS, ordP pathP] (· = pints [1, 0, 2]) := by
  have h := owalk_spec pathS path_sb pathP (by decide)
  rw [if_pos path_ord, show walkL pathP = [1, 0, 2] by decide] at h
  exact h
theorem below_path : FnP Try.prog 18 [schP pathS, ordP pathP, .int .i64 1] (· = pints [0, 1, 2]) := by
  have h := belowU_spec pathS path_sb pathP (by decide) 1
  rw [if_pos (isB_iff.2 ⟨path_ord, by decide, by decide⟩), show belowL pathP 1 = [0, 1, 2] by decide] at h
  exact h
theorem chk_path : FnP Try.prog 11 [schP pathS, ordP pathP] (· = .int .i64 0) := by
  have h := ocheck_spec pathS path_sb pathP (by decide)
  rw [path_ord] at h
  exact h
theorem ints_same (l : List Int) (hl : l.length ≤ 1000000000) : FnP Try.prog 22 [pints l, pints l] (· = .bool true) := by
  have h := ints_spec l l hl hl
  rw [decide_eq_true rfl] at h
  exact h
end Go.Proofs.Ytkalgjnhaicabaa
namespace Go.Proofs.Ytkalgjnhaicabaa
open Go.RowKit Mk
set_option maxHeartbeats 1000000
theorem asc_len {n : Nat} : ∀ {l : List Int}, l.Pairwise (· < ·) → (∀ a ∈ l, 0 ≤ a ∧ a < n) → l.length ≤ n := by
  intro l hp hr
  have hnd : l.Nodup := hp.imp (fun h e => by omega)
  have hsub : ∀ a ∈ l, a ∈ upZ n := fun a ha => by
    obtain ⟨x, hx⟩ := Int.eq_ofNat_of_zero_le (hr a ha).1
    exact upZ_mem.2 ⟨x, by have := (hr a ha).2; omega, hx⟩
  have : (((upZ n).filter fun a => decide (a ∈ l))).Perm l := nodup_perm (List.Pairwise.sublist List.filter_sublist (upZ_nodup _)) hnd fun a => by
    rw [List.mem_filter, decide_eq_true_iff]
    exact ⟨fun h => h.2, fun h => ⟨hsub a h, h⟩⟩
  rw [← this.length_eq]
  exact Nat.le_trans (List.length_filter_le _ _) (by rw [upZ_len]; exact Nat.le_refl _)
theorem nm_size (p : UInt8) (i : Nat) : (nm p i).size = 2 := by
  unfold nm chr
  simp [ByteArray.size_append]
  rfl
theorem made_SB {S : Sch} {most : Nat} (h : Made S most) (hm : most ≤ 8) : SB S := by
  have h1 := h.a2
  have h2 := h.r2
  have h3 := featsOk_len h.fs
  refine ⟨by omega, by omega, by omega, fun x hx => ?_, fun x hx => ?_, fun x hx => ?_⟩
  · obtain ⟨i, hi, rfl⟩ := List.getElem_of_mem hx
    rw [(h.at' i hi).1, nm_size]; decide
  · obtain ⟨i, hi, rfl⟩ := List.getElem_of_mem hx
    rw [(h.rs i hi).1, nm_size]; decide
  · obtain ⟨i, hi, rfl⟩ := List.getElem_of_mem hx
    have := asc_len (h.rs i hi).2.2.1 (h.rs i hi).2.2.2
    omega
section
variable {C : Ctx} {n : Nat} {σ : St} {dst : Option Tmp} {ty : TypeId} {ts : Array TypeId} {pos : String} {after : Array Edge} {gd : Option (Nat × Bool)}
/-- What a method leaves, if it isn't a function: for DL.rel. -/
def RM (T : TypeId) (id : Nat) (Q : PV → List PV → Prop) (s : OS) : Prop := ∃ r cs', Q r cs' ∧ s = ⟨.pv r, [(id, some (.mix T (cs'.map .pv)))], []⟩
theorem relM {f : FuncId} {xs : Array Operand} {ps : List PV} {T : TypeId} {id : Nat} {cs : List PV} {Q : PV → List PV → Prop} (hc : CallOk C.P f) (hf : FnM C.P f T cs ps Q) (hargs : xs.toList.map (σ.ev n) = .ptr id 0 :: ps.map .pv) (ho : σ.ob id = some (.mix T (cs.map .pv))) :
    OJ C n ⟨dst, .call { callee := .value (.func f), args := xs, argTypes := ts }, ty, pos, after, gd⟩ (fun τ' => ∃ s, RM T id Q s ∧ s.wr.map (·.1) = [id] ∧ s.nw = [] ∧ τ' = σ.app dst s) σ :=
  oj_callM hc hf hargs ho fun r cs' h => ⟨_, ⟨r, cs', h, rfl⟩, rfl, rfl, rfl⟩
end
/-- From a contract on plain values to a call. -/
theorem fn_calls {P : Program} {f : FuncId} {args : List PV} {us : List Value} (h : FnP P f args (· = .bool true)) (w : World) (hrel : RelPL w (fun b => b < w.heap.size) args us) :
    Calls P f us.toArray w fun e w' => e = .returned (.bool true) ∧ Below w.heap.size w w' :=
  (h w _ us (fun _ hb => hb) hrel).mono fun _ _ ⟨u, v, e, hv, hb, hr⟩ => by
    subst hv
    simp only [RelP] at hr
    subst hr
    exact ⟨e, hb⟩
/-- A slice of integers as the reading of the arguments gives it. -/
theorem rel_ints {w : World} {a : Option Addr} {len cap : Nat} {zs : List Int}
    (h : (a = none ∧ len = 0 ∧ cap = 0 ∧ zs = []) ∨ ∃ x, a = some x ∧ len ≤ cap ∧ cap ≤ maxLen ∧ zs.length = cap ∧ (∀ i, i < zs.length → w.cell? (x.add i) = some (.int .i64 (zs.getD i 0))) ∧ ∀ n ∈ zs, (Lit.int .i64 n).wf = true) :
    RelP w (fun b => b < w.heap.size) (pints (zs.take len)) (.slice a len cap) ∧ (zs.take len).length = len ∧ len ≤ maxLen := by
  rcases h with ⟨rfl, rfl, rfl, rfl⟩ | ⟨x, rfl, hl, hm, hz, hc, _⟩
  · refine ⟨?_, rfl, by simp [maxLen]⟩
    simp only [pints, RelP]
    exact ⟨none, 0, rfl, Nat.le_refl _, by simp [maxLen], (fun _ e => by cases e), (fun e => by cases e), fun e => absurd rfl e⟩
  · have hlen : (zs.take len).length = len := by simp; omega
    refine ⟨?_, hlen, by omega⟩
    simp only [pints, RelP]
    refine ⟨some x, cap, by rw [hlen], by omega, hm, (fun _ e => by cases e), (fun e => by cases e), fun hne => ?_⟩
    have hpos : 0 < zs.length := by
      rcases Nat.eq_zero_or_pos zs.length with h0 | h0
      · exfalso; apply hne; rw [List.eq_nil_of_length_eq_zero h0]; simp
      · exact h0
    obtain ⟨b, off, sp⟩ := x
    have hsp : sp = none := by
      have h0 := hc 0 hpos
      cases sp with
      | none => rfl
      | some s =>
        exfalso
        have e : (⟨b, off, some s⟩ : Addr).add 0 = ⟨b, off, some s⟩ := rfl
        rw [e] at h0
        unfold World.cell? at h0
        split at h0
        · simp at h0
        · cases h0
    subst hsp
    have h0 := hc 0 hpos
    rw [Addr.add_lit] at h0
    refine ⟨b, off, (zs.take len).map (Value.int .i64), rfl, ?_, World.block_lt_of_cell? w _ h0, fun j hj => ?_⟩
    · generalize zs.take len = l
      induction l with
      | nil => exact RelPL.nil
      | cons y l ih => exact RelPL.cons (by simp only [RelP]) ih
    · have hj2 : j < len ∧ j < zs.length := by simp at hj; omega
      have hcj := hc j hj2.2
      rw [Addr.add_lit] at hcj
      rw [hcj, List.getElem?_map, List.getElem?_take, if_pos hj2.1, List.getElem?_eq_getElem hj2.2]
      simp [List.getD, hj2.2]
end Go.Proofs.Ytkalgjnhaicabaa
namespace Go.Proofs.Ytkalgjnhaicabaa
open Go.RowKit Mk
set_option maxRecDepth 100000
set_option maxHeartbeats 4000000
theorem FnM.fg2 {P : Program} {f : FuncId} {T : TypeId} {cs args : List PV} {Q : PV → List PV → Prop} (h : FnM P f T cs args (fun v c => Q v.fg2 c)) : FnM P f T cs args Q :=
  fun w m R us h1 h2 => (h w m R us h1 h2).mono fun _ _ ⟨u, v, ob', m', R', e, ⟨r, cs', hv, ho, q⟩, _, hob, hr, hrel⟩ => ⟨u, .pv r.fg2, ob', m', R', e, ⟨r.fg2, cs', rfl, ho, q⟩, rfl, hob, hr, by subst hv; simp only [Rel] at hrel ⊢; exact hrel.fg2⟩
theorem mkOrder_spec (L : List Int) (k : Nat) (hL : L.length ≤ 600) (hk : k ≤ L.length) (S : Sch) (hS : SB S) (h0 : checkE S = 0) :
    FnM Try.prog 16 55 (srcC L k) [schP S] (fun v c => (∃ q : List Int, q.Perm (upZ S.attrs.length) ∧ v = ordP (ordL S q)) ∧ ∃ k', k' ≤ L.length ∧ c = srcC L k') := by
  refine FnM.ofC (rt := 33) (k := 1) Try.func16 rfl Try.ntmps16 (by simp) rfl (by simp) ⟨_, Try.underlying33, rfl⟩ sz33 fun m0 w0 F R0 => ?_
  have hV := valid_of h0
  have hn12 := hV.n2
  have hn1 := hV.n1
  repeat refine AW.seq ?_
  refine AW.region ?_
  iterate 2 refine A1 rfl ?_
  repeat refine AW.seq ?_
  refine AW.draw follows [[], [], [], [2], [3, 2], [4, 1, 3, 2], [5, 0, 4, 1, 3, 2], [6, 5, 0, 4, 1, 3, 2], [7, 6, 5, 0, 4, 1, 3, 2], [7, 6, 5, 0, 4, 1, 3, 2], [], [8, 10, 7, 6, 5, 0, 4, 1, 3, 2], [11, 9, 7, 6, 5, 0, 4, 1, 3, 2, 8, 10]] [0, 1, 2, 3, 4, 10, 5, 6, 7, 8, 9, 11, 12] (by kernel_rfl) (by kernel_rfl) ?_
  iterate 6 refine D1 rfl rfl ?_
  refine DL.rel (RM 55 big (fun v c => (∃ q : List Int, q.Perm (upZ S.attrs.length) ∧ v = pints q) ∧ ∃ k', k' ≤ L.length ∧ c = srcC L k')) [big] [] [big] rfl rfl rfl (fun τ h => relM Try.call10 (shuffle_spec L k S.attrs.length hL hk hn1 (by omega)) (h.args.trans rfl) ((h.o 0 _ rfl).trans rfl)) rfl (by kernel_rfl) (by kernel_rfl) (by kernel_rfl) ?_
  rintro _ ⟨_, _, ⟨⟨q, hq, rfl⟩, k2, hk2, rfl⟩, rfl⟩ _ _
  have hql : q.length = S.attrs.length := by rw [hq.length_eq, upZ_len]
  have hofv : ofV S q = .tup [ordP (ordL S q), .int .i64 0] := by unfold ofV; rw [perm_ofE h0 hq, if_pos rfl]
  have hof := rOf_spec S hS q (by omega)
  rw [hofv] at hof
  refine DL.step (d := some 14) [] rfl rfl rfl (fun τ h => xj_call Try.call40 hof (h.argsP rfl)) rfl (by kernel_rfl) ?_
  iterate 5 refine D1 rfl rfl ?_
  refine ⟨by kernel_rfl, ?_⟩
  repeat refine AW.seq ?_
  refine AW.region ?_
  iterate 2 refine A1 rfl ?_
  repeat refine AW.seq ?_
  refine AW.ret ?_
  exact ⟨1, _, [pints (ordL S q)], srcC L k2, rfl, rfl, rfl, rfl, rfl, ⟨q, hq, rfl⟩, k2, hk2, rfl⟩
theorem mkChain_spec (L : List Int) (k : Nat) (hL : L.length ≤ 600) (hk : k ≤ L.length) (S : Sch) (hn1 : 1 ≤ S.attrs.length) (hn2 : S.attrs.length ≤ 1000) :
    FnM Try.prog 17 55 (srcC L k) [schP S] (fun v c => (∃ q P : List Int, IsChain S.attrs.length q P ∧ v = ordP P) ∧ ∃ k', k' ≤ L.length ∧ c = srcC L k') := by
  refine FnM.fg2 (FnM.ofC (rt := 33) (k := 1) Try.func17 rfl Try.ntmps17 (by simp) rfl (by simp) ⟨_, Try.underlying33, rfl⟩ sz33 fun m0 w0 F R0 => ?_)
  repeat refine AW.seq ?_
  refine AW.region ?_
  iterate 2 refine A1 rfl ?_
  repeat refine AW.seq ?_
  refine AW.region ?_
  iterate 4 refine A1 rfl ?_
  refine RL.call rfl (oj_callM Try.call10 (shuffle_spec L k S.attrs.length hL hk hn1 hn2) rfl rfl ?_)
  rintro _ _ ⟨⟨q, hq, rfl⟩, k1, hk1, rfl⟩
  have hql : q.length = S.attrs.length := by rw [hq.length_eq, upZ_len]
  refine A1 rfl ?_
  repeat refine AW.seq ?_
  refine AW.region ?_
  iterate 2 refine A1 rfl ?_
  refine RL.step (d := some 16) rfl rfl (xj_make (zs := [.int .i64 0]) 2 q.length el22 rfl rfl rfl rfl rfl (by omega) rfl) ?_
  iterate 3 refine A1 rfl ?_
  repeat refine AW.seq ?_
  refine AW.region ?_
  iterate 3 refine A1 rfl ?_
  repeat refine AW.seq ?_
  refine AW.block ?_
  repeat refine AW.seq ?_
  refine AW.loop (st := fun x_0 : Nat × List Int => mkS [(4, .ptr 1 0), (5, .pv (pints q)), (6, .ptr 3 0), (18, .pv (pints q)), (19, .pv (.int .i64 q.length)), (20, .pv (.int .i64 x_0.1))] [(big, srcO L k1), (1, .mix 33 [.pv (.sl (some true) 0 [])]), (2, intsO x_0.2), (3, .mix 33 [.osl 2 1 q.length])] 4)
    (I := fun x_0 => x_0.1 ≤ q.length ∧ ChInv q x_0.2 S.attrs.length x_0.1) (μ := fun x_0 => q.length - x_0.1) (x0 := (0, List.replicate q.length 0)) (St.le_mk ⟨rfl, rfl, rfl, rfl, rfl, rfl, trivial⟩ ⟨rfl, rfl, congrArg (fun c => some (Ob.cells 3 c)) ((mkZ_one (.int .i64 0) (q.length * 1)).trans (by simp)), rfl, trivial⟩ rfl rfl) (⟨Nat.zero_le _, by simp [hql], fun j _ h => absurd h (Nat.not_lt_zero _)⟩) ?_
  rintro ⟨i, P⟩ ⟨hi, hC⟩
  try simp only at hi hC ⊢
  repeat refine AW.seq ?_
  refine AW.region ?_
  refine A1 rfl ?_
  repeat refine AW.seq ?_
  refine AW.condP rfl (fun hc21 => ?_) (fun hc21 => ?_)
  · have hil : i < q.length := by omega
    have hv := pints_at hil
    have hne := pints_ne hil
    obtain ⟨a, ha, hqa⟩ := upZ_mem.1 (hq.mem_iff.1 (List.getElem_mem hil))
    have hPl := hC.1
    refine AW.skip ?_
    repeat refine AW.seq ?_
    refine AW.block ?_
    repeat refine AW.seq ?_
    refine AW.region ?_
    iterate 2 refine A1 rfl ?_
    first | refine A2 rfl (by assumption) ?_ | refine A1 rfl ?_
    iterate 2 refine A1 rfl ?_
    repeat refine AW.seq ?_
    refine AW.region ?_
    iterate 3 refine A1 rfl ?_
    refine RL.step (d := some 28) rfl rfl (xj_indexAddrO a Try.underlying22 sz3 rfl rfl rfl hqa (by omega)) ?_
    refine A1 rfl ?_
    repeat refine AW.seq ?_
    refine AW.region ?_
    iterate 2 refine A1 rfl ?_
    repeat refine AW.seq ?_
    refine AW.condP rfl (fun hc30 => ?_) (fun hc30 => ?_)
    · have hi1 : i - 1 < q.length := by omega
      have hv1 : (intsP q)[(i - 1) * 1]? = some (.int .i64 q[i - 1]) := pints_at hi1
      repeat refine AW.seq ?_
      refine AW.draw follows [[], [0], [], [], [], [4], [5, 3, 4], [6, 5, 3, 4], [7, 6, 5, 4, 3, 2, 1, 0], [8, 7, 6, 5, 4, 3, 2, 1, 0]] [0, 1, 2, 3, 4, 5, 6, 7, 8, 9] (by kernel_rfl) (by kernel_rfl) ?_
      iterate 6 refine D1 rfl rfl ?_
      refine DL.step (d := some 37) [] rfl rfl rfl (fun τ h => xj_indexAddr (i - 1) Try.underlying22 sz3 ((h.e 0 _ rfl).trans rfl) ((h.e 1 _ rfl).trans rfl) (by omega) hi1 (pints_ne hi1)) rfl (by kernel_rfl) ?_
      first | refine D2 rfl rfl (by assumption) ?_ | refine D1 rfl rfl ?_
      refine DL.step (d := some 39) [_] rfl rfl rfl (fun τ h => xj_indexAddrO a Try.underlying22 sz3 ((h.e 0 _ rfl).trans rfl) ((h.o 0 _ rfl).trans rfl) ((h.e 1 _ rfl).trans rfl) hqa (by omega)) rfl (by kernel_rfl) ?_
      refine D1 rfl rfl ?_
      refine ⟨by kernel_rfl, ?_⟩
      repeat refine AW.seq ?_
      refine AW.region ?_
      iterate 2 refine A1 rfl ?_
      exact ⟨(i + 1, P.set a q[i - 1]), St.le_mk ⟨rfl, rfl, rfl, rfl, rfl, rfl, trivial⟩ ⟨rfl, rfl, congrArg (fun c => some (Ob.cells 3 c)) (by rw [Nat.mul_one]; simp [List.map_set]), rfl, trivial⟩ rfl rfl, ⟨by simp only; omega, hC.next hq hil ha hqa (by rw [if_neg (by omega), getD_eq hi1])⟩, by simp only; omega⟩
    · refine AW.skip ?_
      repeat refine AW.seq ?_
      refine AW.region ?_
      iterate 2 refine A1 rfl ?_
      exact ⟨(i + 1, P.set a (-1)), St.le_mk ⟨rfl, rfl, rfl, rfl, rfl, rfl, trivial⟩ ⟨rfl, rfl, congrArg (fun c => some (Ob.cells 3 c)) (by rw [Nat.mul_one]; simp [List.map_set]), rfl, trivial⟩ rfl rfl, ⟨by simp only; omega, hC.next hq hil ha hqa (by rw [if_pos (by omega)])⟩, by simp only; omega⟩
  · have hch := hC.last hq (by omega)
    repeat refine AW.seq ?_
    refine AW.exit ?_
    refine AW.weaken (St.le_pubA 2 rfl rfl) ?_
    repeat refine AW.seq ?_
    refine AW.region ?_
    iterate 2 refine A1 rfl ?_
    repeat refine AW.seq ?_
    refine AW.ret ?_
    exact ⟨1, _, [.sl (some false) q.length (intsP P)], srcC L k1, rfl, rfl, rfl, rfl, rfl, ⟨q, P, hch, by show PV.agg [.sl none q.length (intsP P)] = _; rw [ordP, pints, hch.len, hql]⟩, k1, hk1, rfl⟩
end Go.Proofs.Ytkalgjnhaicabaa
namespace Go.Proofs.Ytkalgjnhaicabaa
open Go.RowKit Mk
set_option maxRecDepth 100000
set_option maxHeartbeats 20000000
theorem sane_spec : FnP Try.prog 6 [] (· = .bool true) := by
  refine FnP.of Try.func6 rfl Try.ntmps6 (by simp) fun m0 w0 F R0 => ?_
  repeat refine AW.seq ?_
  refine AW.region ?_
  refine A1 rfl ?_
  repeat refine AW.seq ?_
  refine AW.region ?_
  refine RL.step (d := some 6) rfl rfl (xj_call Try.call21 path_spec rfl) ?_
  refine RL.step (d := some 7) rfl rfl (xj_buildSliceP none (by simp) el22 rfl (by decide) (by decide) rfl rfl) ?_
  refine RL.step (d := some 8) rfl rfl (xj_call Try.call9 of_path rfl) ?_
  iterate 6 refine A1 rfl ?_
  repeat refine AW.seq ?_
  refine AW.draw follows [[], [], [1, 0], [2, 1, 0], [3, 2, 1, 0], [3, 2, 1, 0], [4, 3, 2, 1, 0], [6, 5, 3, 2, 1, 0, 4]] [0, 1, 2, 3, 4, 5, 6, 7] (by kernel_rfl) (by kernel_rfl) ?_
  refine DL.step (d := some 12) [] rfl rfl rfl (fun τ h => xj_call Try.call21 path_spec (h.argsP rfl)) rfl (by kernel_rfl) ?_
  refine D1 rfl rfl ?_
  refine DL.step (d := some 14) [] rfl rfl rfl (fun τ h => xj_call Try.call19 width_path (h.argsP rfl)) rfl (by kernel_rfl) ?_
  iterate 5 refine D1 rfl rfl ?_
  refine ⟨by kernel_rfl, ?_⟩
  refine AW.weaken (τ := mkS [(2, .pv (.int .i64 0)), (3, .pv (.int .i64 2)), (4, .pv (.int .i64 0)), (1, .ptr 0 0)] [(0, .mix 33 [.pv (pints pathP)])] 1) (St.le_mk ⟨rfl, rfl, rfl, rfl, trivial⟩ ⟨rfl, trivial⟩ rfl rfl) ?_
  repeat refine AW.seq ?_
  refine AW.draw follows [[], [0], [1, 0], [2, 1, 0], [3, 2, 1, 0], [4, 2, 1, 0, 3], [5, 4, 2, 1, 0, 3], [6, 5, 4, 2, 1, 0, 3], [7, 6, 5, 4, 2, 1, 0, 3], [8, 6, 5, 4, 2, 1, 0, 3, 7], [9, 8, 6, 5, 4, 2, 1, 0, 3, 7], [10, 9, 8, 6, 5, 4, 2, 1, 0, 3, 7], [11, 10, 9, 8, 6, 5, 4, 2, 1, 0, 3, 7], [10, 9, 8, 6, 5, 4, 2, 1, 0, 3, 7], [13, 12, 11, 10, 9, 8, 6, 5, 4, 2, 1, 0, 3, 7], [14, 10, 9, 8, 6, 5, 4, 2, 1, 0, 3, 7, 13, 12, 11], [15, 14, 10, 9, 8, 6, 5, 4, 2, 1, 0, 3, 7, 13, 12, 11], [16, 15, 14, 10, 9, 8, 6, 5, 4, 2, 1, 0, 3, 7, 13, 12, 11], [16, 15, 14, 10, 9, 8, 6, 5, 4, 2, 1, 0, 3, 7, 13, 12, 11], [18, 17, 16, 15, 14, 10, 9, 8, 6, 5, 4, 2, 1, 0, 3, 7, 13, 12, 11], [16, 15, 14, 10, 9, 8, 6, 5, 4, 2, 1, 0, 3, 7, 13, 12, 11], [20, 19, 18, 17, 16, 15, 14, 10, 9, 8, 6, 5, 4, 2, 1, 0, 3, 7, 13, 12, 11], [21, 16, 15, 14, 10, 9, 8, 6, 5, 4, 2, 1, 0, 3, 7, 13, 12, 11, 20, 19, 18, 17], [22, 21, 16, 15, 14, 10, 9, 8, 6, 5, 4, 2, 1, 0, 3, 7, 13, 12, 11, 20, 19, 18, 17], [23, 22, 21, 16, 15, 14, 10, 9, 8, 6, 5, 4, 2, 1, 0, 3, 7, 13, 12, 11, 20, 19, 18, 17], [23, 22, 21, 16, 15, 14, 10, 9, 8, 6, 5, 4, 2, 1, 0, 3, 7, 13, 12, 11, 20, 19, 18, 17], [25, 24, 23, 22, 21, 16, 15, 14, 10, 9, 8, 6, 5, 4, 2, 1, 0, 3, 7, 13, 12, 11, 20, 19, 18, 17], [23, 22, 21, 16, 15, 14, 10, 9, 8, 6, 5, 4, 2, 1, 0, 3, 7, 13, 12, 11, 20, 19, 18, 17], [27, 26, 25, 24, 23, 22, 21, 16, 15, 14, 10, 9, 8, 6, 5, 4, 2, 1, 0, 3, 7, 13, 12, 11, 20, 19, 18, 17], [28, 23, 22, 21, 16, 15, 14, 10, 9, 8, 6, 5, 4, 2, 1, 0, 3, 7, 13, 12, 11, 20, 19, 18, 17, 27, 26, 25, 24], [29, 28, 23, 22, 21, 16, 15, 14, 10, 9, 8, 6, 5, 4, 2, 1, 0, 3, 7, 13, 12, 11, 20, 19, 18, 17, 27, 26, 25, 24], [30, 29, 28, 23, 22, 21, 16, 15, 14, 10, 9, 8, 6, 5, 4, 2, 1, 0, 3, 7, 13, 12, 11, 20, 19, 18, 17, 27, 26, 25, 24], [30, 29, 28, 23, 22, 21, 16, 15, 14, 10, 9, 8, 6, 5, 4, 2, 1, 0, 3, 7, 13, 12, 11, 20, 19, 18, 17, 27, 26, 25, 24], [32, 31, 30, 29, 28, 23, 22, 21, 16, 15, 14, 10, 9, 8, 6, 5, 4, 2, 1, 0, 3, 7, 13, 12, 11, 20, 19, 18, 17, 27, 26, 25, 24], [33, 32, 31, 30, 29, 28, 23, 22, 21, 16, 15, 14, 10, 9, 8, 6, 5, 4, 2, 1, 0, 3, 7, 13, 12, 11, 20, 19, 18, 17, 27, 26, 25, 24], [34, 30, 29, 28, 23, 22, 21, 16, 15, 14, 10, 9, 8, 6, 5, 4, 2, 1, 0, 3, 7, 13, 12, 11, 20, 19, 18, 17, 27, 26, 25, 24, 33, 32, 31], [35, 34, 30, 29, 28, 23, 22, 21, 16, 15, 14, 10, 9, 8, 6, 5, 4, 2, 1, 0, 3, 7, 13, 12, 11, 20, 19, 18, 17, 27, 26, 25, 24, 33, 32, 31], [36, 35, 34, 30, 29, 28, 23, 22, 21, 16, 15, 14, 10, 9, 8, 6, 5, 4, 2, 1, 0, 3, 7, 13, 12, 11, 20, 19, 18, 17, 27, 26, 25, 24, 33, 32, 31], [36, 35, 34, 30, 29, 28, 23, 22, 21, 16, 15, 14, 10, 9, 8, 6, 5, 4, 2, 1, 0, 3, 7, 13, 12, 11, 20, 19, 18, 17, 27, 26, 25, 24, 33, 32, 31], [38, 37, 36, 35, 34, 30, 29, 28, 23, 22, 21, 16, 15, 14, 10, 9, 8, 6, 5, 4, 2, 1, 0, 3, 7, 13, 12, 11, 20, 19, 18, 17, 27, 26, 25, 24, 33, 32, 31], [36, 35, 34, 30, 29, 28, 23, 22, 21, 16, 15, 14, 10, 9, 8, 6, 5, 4, 2, 1, 0, 3, 7, 13, 12, 11, 20, 19, 18, 17, 27, 26, 25, 24, 33, 32, 31], [40, 39, 38, 37, 36, 35, 34, 30, 29, 28, 23, 22, 21, 16, 15, 14, 10, 9, 8, 6, 5, 4, 2, 1, 0, 3, 7, 13, 12, 11, 20, 19, 18, 17, 27, 26, 25, 24, 33, 32, 31], [41, 36, 35, 34, 30, 29, 28, 23, 22, 21, 16, 15, 14, 10, 9, 8, 6, 5, 4, 2, 1, 0, 3, 7, 13, 12, 11, 20, 19, 18, 17, 27, 26, 25, 24, 33, 32, 31, 40, 39, 38, 37], [42, 41, 36, 35, 34, 30, 29, 28, 23, 22, 21, 16, 15, 14, 10, 9, 8, 6, 5, 4, 2, 1, 0, 3, 7, 13, 12, 11, 20, 19, 18, 17, 27, 26, 25, 24, 33, 32, 31, 40, 39, 38, 37], [43, 42, 41, 36, 35, 34, 30, 29, 28, 23, 22, 21, 16, 15, 14, 10, 9, 8, 6, 5, 4, 2, 1, 0, 3, 7, 13, 12, 11, 20, 19, 18, 17, 27, 26, 25, 24, 33, 32, 31, 40, 39, 38, 37], [43, 42, 41, 36, 35, 34, 30, 29, 28, 23, 22, 21, 16, 15, 14, 10, 9, 8, 6, 5, 4, 2, 1, 0, 3, 7, 13, 12, 11, 20, 19, 18, 17, 27, 26, 25, 24, 33, 32, 31, 40, 39, 38, 37], [45, 44, 43, 42, 41, 36, 35, 34, 30, 29, 28, 23, 22, 21, 16, 15, 14, 10, 9, 8, 6, 5, 4, 2, 1, 0, 3, 7, 13, 12, 11, 20, 19, 18, 17, 27, 26, 25, 24, 33, 32, 31, 40, 39, 38, 37], [43, 42, 41, 36, 35, 34, 30, 29, 28, 23, 22, 21, 16, 15, 14, 10, 9, 8, 6, 5, 4, 2, 1, 0, 3, 7, 13, 12, 11, 20, 19, 18, 17, 27, 26, 25, 24, 33, 32, 31, 40, 39, 38, 37], [47, 46, 45, 44, 43, 42, 41, 36, 35, 34, 30, 29, 28, 23, 22, 21, 16, 15, 14, 10, 9, 8, 6, 5, 4, 2, 1, 0, 3, 7, 13, 12, 11, 20, 19, 18, 17, 27, 26, 25, 24, 33, 32, 31, 40, 39, 38, 37], [48, 43, 42, 41, 36, 35, 34, 30, 29, 28, 23, 22, 21, 16, 15, 14, 10, 9, 8, 6, 5, 4, 2, 1, 0, 3, 7, 13, 12, 11, 20, 19, 18, 17, 27, 26, 25, 24, 33, 32, 31, 40, 39, 38, 37, 47, 46, 45, 44], [49, 48, 43, 42, 41, 36, 35, 34, 30, 29, 28, 23, 22, 21, 16, 15, 14, 10, 9, 8, 6, 5, 4, 2, 1, 0, 3, 7, 13, 12, 11, 20, 19, 18, 17, 27, 26, 25, 24, 33, 32, 31, 40, 39, 38, 37, 47, 46, 45, 44], [50, 49, 48, 43, 42, 41, 36, 35, 34, 30, 29, 28, 23, 22, 21, 16, 15, 14, 10, 9, 8, 6, 5, 4, 2, 1, 0, 3, 7, 13, 12, 11, 20, 19, 18, 17, 27, 26, 25, 24, 33, 32, 31, 40, 39, 38, 37, 47, 46, 45, 44], [50, 49, 48, 43, 42, 41, 36, 35, 34, 30, 29, 28, 23, 22, 21, 16, 15, 14, 10, 9, 8, 6, 5, 4, 2, 1, 0, 3, 7, 13, 12, 11, 20, 19, 18, 17, 27, 26, 25, 24, 33, 32, 31, 40, 39, 38, 37, 47, 46, 45, 44], [52, 51, 50, 49, 48, 43, 42, 41, 36, 35, 34, 30, 29, 28, 23, 22, 21, 16, 15, 14, 10, 9, 8, 6, 5, 4, 2, 1, 0, 3, 7, 13, 12, 11, 20, 19, 18, 17, 27, 26, 25, 24, 33, 32, 31, 40, 39, 38, 37, 47, 46, 45, 44], [53, 52, 51, 50, 49, 48, 43, 42, 41, 36, 35, 34, 30, 29, 28, 23, 22, 21, 16, 15, 14, 10, 9, 8, 6, 5, 4, 2, 1, 0, 3, 7, 13, 12, 11, 20, 19, 18, 17, 27, 26, 25, 24, 33, 32, 31, 40, 39, 38, 37, 47, 46, 45, 44], [54, 50, 49, 48, 43, 42, 41, 36, 35, 34, 30, 29, 28, 23, 22, 21, 16, 15, 14, 10, 9, 8, 6, 5, 4, 2, 1, 0, 3, 7, 13, 12, 11, 20, 19, 18, 17, 27, 26, 25, 24, 33, 32, 31, 40, 39, 38, 37, 47, 46, 45, 44, 53, 52, 51], [55, 54, 50, 49, 48, 43, 42, 41, 36, 35, 34, 30, 29, 28, 23, 22, 21, 16, 15, 14, 10, 9, 8, 6, 5, 4, 2, 1, 0, 3, 7, 13, 12, 11, 20, 19, 18, 17, 27, 26, 25, 24, 33, 32, 31, 40, 39, 38, 37, 47, 46, 45, 44, 53, 52, 51]] [0, 1, 2, 3, 4, 5, 6, 7, 8, 9, 10, 11, 12, 13, 14, 15, 16, 17, 18, 19, 20, 21, 22, 23, 24, 25, 26, 27, 28, 29, 30, 31, 32, 33, 34, 35, 36, 37, 38, 39, 40, 41, 42, 43, 44, 45, 46, 47, 48, 49, 50, 51, 52, 53, 54, 55, 56] (by kernel_rfl) (by kernel_rfl) ?_
  refine DL.step (d := some 17) [] rfl rfl rfl (fun τ h => xj_moveE (v := .pv (.int .i64 0)) ((h.e 0 _ rfl).trans rfl)) rfl (by kernel_rfl) ?_
  refine DL.step (d := some 18) [] rfl rfl rfl (fun τ h => (xj_bin ((h.e 0 _ rfl).trans rfl) ((h.e 1 _ rfl).trans rfl) rfl).cast (v' := .pv (.bool true)) rfl) rfl (by kernel_rfl) ?_
  refine DL.step (d := some 19) [] rfl rfl rfl (fun τ h => xj_moveE (v := .pv (.bool true)) ((h.e 0 _ rfl).trans rfl)) rfl (by kernel_rfl) ?_
  refine DL.stepG (d := some 20) [] rfl rfl rfl rfl (fun τ h => xj_moveE (v := .pv (.int .i64 0)) ((h.e 0 _ rfl).trans rfl)) rfl (by kernel_rfl) ?_
  refine DL.stepG (d := some 21) [] rfl rfl rfl rfl (fun τ h => (xj_bin ((h.e 0 _ rfl).trans rfl) ((h.e 1 _ rfl).trans rfl) rfl).cast (v' := .pv (.bool true)) rfl) rfl (by kernel_rfl) ?_
  refine DL.step (d := some 22) [] rfl rfl rfl (fun τ h => xj_pickT ((h.e 0 _ rfl).trans rfl) ((h.e 1 _ rfl).trans rfl)) rfl (by kernel_rfl) ?_
  refine DL.step (d := some 23) [] rfl rfl rfl (fun τ h => xj_moveE (v := .pv (.bool true)) ((h.e 0 _ rfl).trans rfl)) rfl (by kernel_rfl) ?_
  refine DL.stepG (d := some 24) [] rfl rfl rfl rfl (fun τ h => xj_moveE (v := .pv (.int .i64 2)) ((h.e 0 _ rfl).trans rfl)) rfl (by kernel_rfl) ?_
  refine DL.stepG (d := some 25) [] rfl rfl rfl rfl (fun τ h => (xj_bin ((h.e 0 _ rfl).trans rfl) ((h.e 1 _ rfl).trans rfl) rfl).cast (v' := .pv (.bool true)) rfl) rfl (by kernel_rfl) ?_
  refine DL.step (d := some 26) [] rfl rfl rfl (fun τ h => xj_pickT ((h.e 0 _ rfl).trans rfl) ((h.e 1 _ rfl).trans rfl)) rfl (by kernel_rfl) ?_
  refine DL.step (d := some 27) [] rfl rfl rfl (fun τ h => xj_moveE (v := .pv (.bool true)) ((h.e 0 _ rfl).trans rfl)) rfl (by kernel_rfl) ?_
  refine D1 rfl rfl ?_
  refine DL.stepG (d := some 29) [_] rfl rfl rfl rfl (fun τ h => xj_load1 ⟨_, Try.underlying22, rfl⟩ (v := .pv (pints pathP)) ((h.e 0 _ rfl).trans rfl) ((h.o 0 _ rfl).trans rfl) rfl) rfl (by kernel_rfl) ?_
  refine DL.stepG (d := some 30) [] rfl rfl rfl rfl (fun τ h => xj_buildSliceP none (by simp) el22 rfl (by decide) (by decide) (h.fillS rfl rfl) rfl) rfl (by kernel_rfl) ?_
  refine DL.stepG (d := some 31) [] rfl rfl rfl rfl (fun τ h => xj_call Try.call22 (ints_same pathP (by decide)) (h.argsP rfl)) rfl (by kernel_rfl) ?_
  refine DL.step (d := some 32) [] rfl rfl rfl (fun τ h => xj_pickT ((h.e 0 _ rfl).trans rfl) ((h.e 1 _ rfl).trans rfl)) rfl (by kernel_rfl) ?_
  refine DL.step (d := some 33) [] rfl rfl rfl (fun τ h => xj_moveE (v := .pv (.bool true)) ((h.e 0 _ rfl).trans rfl)) rfl (by kernel_rfl) ?_
  refine DL.stepG (d := some 34) [] rfl rfl rfl rfl (fun τ h => xj_call Try.call21 path_spec (h.argsP rfl)) rfl (by kernel_rfl) ?_
  refine DL.stepG (d := some 35) [_] rfl rfl rfl rfl (fun τ h => xj_loadA ⟨_, Try.underlying33, rfl⟩ sz33 (vs := [.pv (pints pathP)]) ((h.e 0 _ rfl).trans rfl) ((h.o 0 _ rfl).trans rfl) rfl rfl) rfl (by kernel_rfl) ?_
  refine DL.stepG (d := some 36) [] rfl rfl rfl rfl (fun τ h => xj_call Try.call13 key_path (h.argsP rfl)) rfl (by kernel_rfl) ?_
  refine DL.stepG (d := some 37) [] rfl rfl rfl rfl (fun τ h => xj_buildSliceP none (by simp) el22 rfl (by decide) (by decide) (h.fillS rfl rfl) rfl) rfl (by kernel_rfl) ?_
  refine DL.stepG (d := some 38) [] rfl rfl rfl rfl (fun τ h => xj_call Try.call22 (ints_same [1] (by decide)) (h.argsP rfl)) rfl (by kernel_rfl) ?_
  refine DL.step (d := some 39) [] rfl rfl rfl (fun τ h => xj_pickT ((h.e 0 _ rfl).trans rfl) ((h.e 1 _ rfl).trans rfl)) rfl (by kernel_rfl) ?_
  refine DL.step (d := some 40) [] rfl rfl rfl (fun τ h => xj_moveE (v := .pv (.bool true)) ((h.e 0 _ rfl).trans rfl)) rfl (by kernel_rfl) ?_
  refine DL.stepG (d := some 41) [] rfl rfl rfl rfl (fun τ h => xj_call Try.call21 path_spec (h.argsP rfl)) rfl (by kernel_rfl) ?_
  refine DL.stepG (d := some 42) [_] rfl rfl rfl rfl (fun τ h => xj_loadA ⟨_, Try.underlying33, rfl⟩ sz33 (vs := [.pv (pints pathP)]) ((h.e 0 _ rfl).trans rfl) ((h.o 0 _ rfl).trans rfl) rfl rfl) rfl (by kernel_rfl) ?_
  refine DL.stepG (d := some 43) [] rfl rfl rfl rfl (fun τ h => xj_call Try.call23 chi_path (h.argsP rfl)) rfl (by kernel_rfl) ?_
  refine DL.stepG (d := some 44) [] rfl rfl rfl rfl (fun τ h => xj_buildSliceP none (by simp) el22 rfl (by decide) (by decide) (h.fillS rfl rfl) rfl) rfl (by kernel_rfl) ?_
  refine DL.stepG (d := some 45) [] rfl rfl rfl rfl (fun τ h => xj_call Try.call22 (ints_same [0, 2] (by decide)) (h.argsP rfl)) rfl (by kernel_rfl) ?_
  refine DL.step (d := some 46) [] rfl rfl rfl (fun τ h => xj_pickT ((h.e 0 _ rfl).trans rfl) ((h.e 1 _ rfl).trans rfl)) rfl (by kernel_rfl) ?_
  refine DL.step (d := some 47) [] rfl rfl rfl (fun τ h => xj_moveE (v := .pv (.bool true)) ((h.e 0 _ rfl).trans rfl)) rfl (by kernel_rfl) ?_
  refine DL.stepG (d := some 48) [] rfl rfl rfl rfl (fun τ h => xj_call Try.call21 path_spec (h.argsP rfl)) rfl (by kernel_rfl) ?_
  refine DL.stepG (d := some 49) [_] rfl rfl rfl rfl (fun τ h => xj_loadA ⟨_, Try.underlying33, rfl⟩ sz33 (vs := [.pv (pints pathP)]) ((h.e 0 _ rfl).trans rfl) ((h.o 0 _ rfl).trans rfl) rfl rfl) rfl (by kernel_rfl) ?_
  refine DL.stepG (d := some 50) [] rfl rfl rfl rfl (fun τ h => xj_call Try.call12 home_path (h.argsP rfl)) rfl (by kernel_rfl) ?_
  refine DL.stepG (d := some 51) [] rfl rfl rfl rfl (fun τ h => (xj_bin ((h.e 0 _ rfl).trans rfl) ((h.e 1 _ rfl).trans rfl) rfl).cast (v' := .pv (.bool true)) rfl) rfl (by kernel_rfl) ?_
  refine DL.step (d := some 52) [] rfl rfl rfl (fun τ h => xj_pickT ((h.e 0 _ rfl).trans rfl) ((h.e 1 _ rfl).trans rfl)) rfl (by kernel_rfl) ?_
  refine DL.step (d := some 53) [] rfl rfl rfl (fun τ h => xj_moveE (v := .pv (.bool true)) ((h.e 0 _ rfl).trans rfl)) rfl (by kernel_rfl) ?_
  refine DL.stepG (d := some 54) [] rfl rfl rfl rfl (fun τ h => xj_call Try.call21 path_spec (h.argsP rfl)) rfl (by kernel_rfl) ?_
  refine DL.stepG (d := some 55) [_] rfl rfl rfl rfl (fun τ h => xj_loadA ⟨_, Try.underlying33, rfl⟩ sz33 (vs := [.pv (pints pathP)]) ((h.e 0 _ rfl).trans rfl) ((h.o 0 _ rfl).trans rfl) rfl rfl) rfl (by kernel_rfl) ?_
  refine DL.stepG (d := some 56) [] rfl rfl rfl rfl (fun τ h => xj_call Try.call15 walk_path (h.argsP rfl)) rfl (by kernel_rfl) ?_
  refine DL.stepG (d := some 57) [] rfl rfl rfl rfl (fun τ h => xj_buildSliceP none (by simp) el22 rfl (by decide) (by decide) (h.fillS rfl rfl) rfl) rfl (by kernel_rfl) ?_
  refine DL.stepG (d := some 58) [] rfl rfl rfl rfl (fun τ h => xj_call Try.call22 (ints_same [1, 0, 2] (by decide)) (h.argsP rfl)) rfl (by kernel_rfl) ?_
  refine DL.step (d := some 59) [] rfl rfl rfl (fun τ h => xj_pickT ((h.e 0 _ rfl).trans rfl) ((h.e 1 _ rfl).trans rfl)) rfl (by kernel_rfl) ?_
  refine DL.step (d := some 60) [] rfl rfl rfl (fun τ h => xj_moveE (v := .pv (.bool true)) ((h.e 0 _ rfl).trans rfl)) rfl (by kernel_rfl) ?_
  refine DL.stepG (d := some 61) [] rfl rfl rfl rfl (fun τ h => xj_call Try.call21 path_spec (h.argsP rfl)) rfl (by kernel_rfl) ?_
  refine DL.stepG (d := some 62) [_] rfl rfl rfl rfl (fun τ h => xj_loadA ⟨_, Try.underlying33, rfl⟩ sz33 (vs := [.pv (pints pathP)]) ((h.e 0 _ rfl).trans rfl) ((h.o 0 _ rfl).trans rfl) rfl rfl) rfl (by kernel_rfl) ?_
  refine DL.stepG (d := some 63) [] rfl rfl rfl rfl (fun τ h => xj_call Try.call18 below_path (h.argsP rfl)) rfl (by kernel_rfl) ?_
  refine DL.stepG (d := some 64) [] rfl rfl rfl rfl (fun τ h => xj_buildSliceP none (by simp) el22 rfl (by decide) (by decide) (h.fillS rfl rfl) rfl) rfl (by kernel_rfl) ?_
  refine DL.stepG (d := some 65) [] rfl rfl rfl rfl (fun τ h => xj_call Try.call22 (ints_same [0, 1, 2] (by decide)) (h.argsP rfl)) rfl (by kernel_rfl) ?_
  refine DL.step (d := some 66) [] rfl rfl rfl (fun τ h => xj_pickT ((h.e 0 _ rfl).trans rfl) ((h.e 1 _ rfl).trans rfl)) rfl (by kernel_rfl) ?_
  refine DL.step (d := some 67) [] rfl rfl rfl (fun τ h => xj_moveE (v := .pv (.bool true)) ((h.e 0 _ rfl).trans rfl)) rfl (by kernel_rfl) ?_
  refine DL.stepG (d := some 68) [] rfl rfl rfl rfl (fun τ h => xj_call Try.call21 path_spec (h.argsP rfl)) rfl (by kernel_rfl) ?_
  refine DL.stepG (d := some 69) [_] rfl rfl rfl rfl (fun τ h => xj_loadA ⟨_, Try.underlying33, rfl⟩ sz33 (vs := [.pv (pints pathP)]) ((h.e 0 _ rfl).trans rfl) ((h.o 0 _ rfl).trans rfl) rfl rfl) rfl (by kernel_rfl) ?_
  refine DL.stepG (d := some 70) [] rfl rfl rfl rfl (fun τ h => xj_call Try.call11 chk_path (h.argsP rfl)) rfl (by kernel_rfl) ?_
  refine DL.stepG (d := some 71) [] rfl rfl rfl rfl (fun τ h => (xj_bin ((h.e 0 _ rfl).trans rfl) ((h.e 1 _ rfl).trans rfl) rfl).cast (v' := .pv (.bool true)) rfl) rfl (by kernel_rfl) ?_
  refine DL.step (d := some 72) [] rfl rfl rfl (fun τ h => xj_pickT ((h.e 0 _ rfl).trans rfl) ((h.e 1 _ rfl).trans rfl)) rfl (by kernel_rfl) ?_
  refine D1 rfl rfl ?_
  refine ⟨by kernel_rfl, ?_⟩
  repeat refine AW.seq ?_
  refine AW.ret ?_
  exact ⟨_, _, rfl, rfl, rfl⟩
end Go.Proofs.Ytkalgjnhaicabaa
namespace Go.Proofs.Ytkalgjnhaicabaa
open Go.RowKit Mk
set_option maxRecDepth 100000
set_option maxHeartbeats 4000000
theorem widN_le {S : Sch} {P : List Int} {m : Int} : ∀ {k : Nat}, widN S P k ≤ m ↔ 0 ≤ m ∧ ∀ a : Nat, a < k → ((keyL S P a).length : Int) ≤ m
  | 0 => by simp [widN]
  | k + 1 => by
    have ih := widN_le (S := S) (P := P) (m := m) (k := k)
    simp only [widN]
    constructor
    · intro h
      have h1 : widN S P k ≤ m ∧ ((keyL S P k).length : Int) ≤ m := by split at h <;> omega
      refine ⟨(ih.1 h1.1).1, fun a ha => ?_⟩
      by_cases e : a = k
      · subst e; exact h1.2
      · exact (ih.1 h1.1).2 a (by omega)
    · rintro ⟨h1, h2⟩
      have h3 := ih.2 ⟨h1, fun a ha => h2 a (by omega)⟩
      have h4 := h2 k (by omega)
      split <;> omega
theorem keyL_nodup {S : Sch} {P : List Int} (hP : UpOk P) {v : Nat} (hv : v < P.length) : (keyL S P v).Nodup := by
  unfold keyL
  rw [(sortI_perm _).nodup_iff]
  unfold keyU
  exact List.Pairwise.sublist List.filter_sublist (List.nodup_cons.1 (abvL_nodup hP v hv)).2
/-- No relation has more attributes than the width. -/
theorem rel_width {S : Sch} {P : List Int} (h : OrdOk S P) {r : ByteArray × List Int} (hr : r ∈ S.rels) : (r.2.length : Int) ≤ widN S P P.length + 1 := by
  obtain ⟨h1, h2⟩ := home_key h hr
  have hrng := h.val.rng r hr
  obtain ⟨v, hv⟩ := Int.eq_ofNat_of_zero_le (hrng _ h1).1
  have hvl : v < P.length := by have := (hrng _ h1).2; have := h.len; omega
  rw [hv] at h1 h2
  have hnd : r.2.Nodup := (asc_pair (h.val.asc r hr)).imp fun h e => by omega
  have hkn := keyL_nodup (S := S) h.upOk hvl
  have hsub : ∀ a ∈ r.2.erase (v : Int), a ∈ keyL S P v := fun a ha => by
    have := (hnd.mem_erase_iff.1 ha)
    rcases h2 a this.2 with e | e
    · exact absurd e this.1
    · exact e
  have hp : ((keyL S P v).filter fun a => decide (a ∈ r.2.erase (v : Int))).Perm (r.2.erase (v : Int)) := nodup_perm (List.Pairwise.sublist List.filter_sublist hkn) (hnd.erase _) fun a => by
    rw [List.mem_filter, decide_eq_true_iff]
    exact ⟨fun h => h.2, fun h => ⟨hsub a h, h⟩⟩
  have hl := hp.length_eq
  have hle := List.length_filter_le (fun a => decide (a ∈ r.2.erase (v : Int))) (keyL S P v)
  rw [List.length_erase_of_mem h1] at hl
  have := (widN_le (S := S) (P := P) (m := widN S P P.length) (k := P.length)).1 (Int.le_refl _)
  have := this.2 v hvl
  omega
def oneS (S : Sch) : Sch := ⟨S.attrs, [(⟨#[97, 108, 108]⟩, upZ S.attrs.length)], S.feats, S.label⟩
theorem upZ_pw (n : Nat) : (upZ n).Pairwise (· < ·) := by
  unfold upZ
  exact List.Pairwise.map _ (fun a b h => by simpa using h) List.pairwise_lt_range
theorem one_check {S : Sch} (h : checkE S = 0) : checkE (oneS S) = 0 := by
  have hn := (valid_of h).n1
  have hr : relsE (oneS S) = 0 := by
    unfold relsE
    have hs : scanE (relE (oneS S)) (oneS S).rels.length = 0 := by
      rw [scanE_zero]
      intro k hk
      have : k = 0 := by simp [oneS] at hk; exact hk
      subst this
      unfold relE
      have hnm : namedE ((oneS S).rels.map (·.1)) 0 = 0 := by show namedE [⟨#[97, 108, 108]⟩] 0 = 0; decide
      rw [if_neg (fun e => e hnm), if_neg (fun e => by have := upZ_len S.attrs.length; simp [oneS] at e; rw [e] at this; simp at this; omega), if_neg, if_neg]
      · simp only [oneS]
        rw [show ([((⟨#[97, 108, 108]⟩ : ByteArray), upZ S.attrs.length)].getD 0 default).2 = upZ S.attrs.length from rfl, asc_of (upZ_pw _)]
        decide
      · rw [Bool.not_eq_false, List.all_eq_true]
        intro a ha
        obtain ⟨x, hx, rfl⟩ := upZ_mem.1 ha
        simp [oneS]; omega
    rw [if_neg (fun e => e hs), if_neg]
    rw [Bool.not_eq_false, List.all_eq_true]
    intro a ha
    have := List.mem_range.1 ha
    simp only [usedB, oneS, List.any_cons, List.any_nil, Bool.or_false, inB]
    rw [List.contains_iff_mem]
    exact upZ_mem.2 ⟨a, this, rfl⟩
  unfold checkE at h ⊢
  split at h
  · cases h
  · rename_i h1
    split at h
    · rename_i h2; exact absurd h h2
    · rename_i h2
      split at h
      · rename_i h3; exact absurd h h3
      · split at h
        · rename_i h4; exact absurd h h4
        · rename_i h4
          split at h
          · cases h
          · rename_i h5
            split at h
            · cases h
            · rename_i h6
              have h2' : ¬ scanE (attrE (oneS S)) (oneS S).attrs.length ≠ 0 := h2
              have h4' : ¬ scanE (featE (oneS S)) (oneS S).feats.length ≠ 0 := h4
              have h5' : ¬ ((oneS S).label < -1 ∨ ((oneS S).attrs.length : Int) ≤ (oneS S).label) := h5
              have h6' : ¬ (0 ≤ (oneS S).label ∧ ((oneS S).attrs.getD (oneS S).label.toNat default).2 ≠ 2) := h6
              rw [if_neg (by simp only [oneS, List.length_singleton]; omega), if_neg h2', if_neg (fun e => e hr), if_neg h4', if_neg h5', if_neg h6']
theorem one_link (S : Sch) {a b : Nat} (ha : a < S.attrs.length) (hb : b < S.attrs.length) : linkB (oneS S) a b = true := by
  simp only [linkB, oneS, List.any_cons, List.any_nil, Bool.or_false, Bool.and_eq_true, decide_eq_true_iff]
  exact ⟨upZ_mem.2 ⟨a, ha, rfl⟩, upZ_mem.2 ⟨b, hb, rfl⟩⟩
/-- Along a chain the width is the number of attributes. -/
theorem one_width {S : Sch} (hn : 1 ≤ S.attrs.length) {q P : List Int} (h : IsChain S.attrs.length q P) : widN (oneS S) P P.length + 1 = S.attrs.length := by
  have hq := h.perm
  have hql : q.length = S.attrs.length := by rw [hq.length_eq, upZ_len]
  have ho := h.ord
  have hp : ∀ b, b < S.attrs.length → posQ q b < S.attrs.length := fun b hb => posQ_lt hq hb
  have hU := ho.upOk hp
  have hPl := h.len
  have hqn : q.Nodup := hq.nodup_iff.2 (upZ_nodup _)
  have habv : ∀ v, v < P.length → (abvL P v).length = posQ q v := by
    intro v hv
    have hpv := hp v (by omega)
    have hperm : (abvL P v).Perm (q.take (posQ q v)) := nodup_perm (List.nodup_cons.1 (abvL_nodup hU v hv)).2 (List.Pairwise.sublist (List.take_sublist _ _) hqn) fun x => by
      constructor
      · intro hx
        obtain ⟨a, ha, rfl, _⟩ := abvL_mem hU v hv x hx
        have h1 := ((ho.mem hp v hv a).1 hx).2.1
        rw [List.mem_take_iff_getElem]
        exact ⟨posQ q a, by omega, List.getElem_idxOf (by show posQ q a < _; omega)⟩
      · intro hx
        rw [List.mem_take_iff_getElem] at hx
        obtain ⟨i, hi, rfl⟩ := hx
        have hi' : i < q.length := by omega
        obtain ⟨a, ha, hqa⟩ := upZ_mem.1 (hq.mem_iff.1 (List.getElem_mem hi'))
        rw [hqa]
        have := pos_at hq hi' hqa
        exact (ho.mem hp v hv a).2 ⟨ha, by omega, .one trivial (by omega)⟩
    rw [hperm.length_eq, List.length_take]; omega
  have hkey : ∀ v, v < P.length → (keyL (oneS S) P v).length = posQ q v := by
    intro v hv
    rw [← habv v hv]
    unfold keyL
    rw [(sortI_perm _).length_eq]
    unfold keyU
    rw [List.filter_eq_self.2]
    intro x hx
    obtain ⟨a, ha, rfl, _⟩ := abvL_mem hU v hv x hx
    rw [List.any_eq_true]
    exact ⟨v, below_mem.2 ⟨⟨v, hv, rfl⟩, .inl rfl⟩, one_link S (by omega) (by omega)⟩
  have h1 : widN (oneS S) P P.length ≤ S.attrs.length - 1 := widN_le.2 ⟨by omega, fun a ha => by rw [hkey a ha]; have := hp a (by omega); omega⟩
  have h2 : (S.attrs.length : Int) - 1 ≤ widN (oneS S) P P.length := by
    have hi : S.attrs.length - 1 < q.length := by omega
    obtain ⟨a, ha, hqa⟩ := upZ_mem.1 (hq.mem_iff.1 (List.getElem_mem hi))
    have := pos_at hq hi hqa
    have h3 := (widN_le (S := oneS S) (P := P) (m := widN (oneS S) P P.length) (k := P.length)).1 (Int.le_refl _)
    have h4 := h3.2 a (by omega)
    rw [hkey a (by omega), this] at h4
    omega
  omega
theorem one_SB {S : Sch} (h : SB S) (hV : Valid S) : SB (oneS S) := ⟨h.a, by simp [oneS], h.f, h.an, fun x hx => by
  simp only [oneS, List.mem_singleton] at hx
  subst hx
  show (⟨#[97, 108, 108]⟩ : ByteArray).size ≤ 1000000000
  decide, fun x hx => by
  simp only [oneS, List.mem_singleton] at hx
  subst hx
  have := hV.n2
  simp only [upZ_len]
  omega⟩
theorem one_rel (S : Sch) : V.pv (PV.sl none 1 [.str ⟨#[97, 108, 108]⟩, .sl none S.attrs.length (intsP (upZ S.attrs.length))]) = .pv (.sl none 1 (relsC (oneS S).rels)) := by
  show _ = V.pv (PV.sl none 1 [.str ⟨#[97, 108, 108]⟩, .sl none (upZ S.attrs.length).length (intsP (upZ S.attrs.length))])
  rw [upZ_len]
theorem orderOne_spec (t : List Int) : FnP Try.prog 5 [pints t] (· = .bool true) := by
  refine FnP.of Try.func5 rfl Try.ntmps5 (by simp) fun m0 w0 F R0 => ?_
  repeat refine AW.seq ?_
  refine AW.region ?_
  refine A1 rfl ?_
  repeat refine AW.seq ?_
  refine AW.region ?_
  iterate 3 refine A1 rfl ?_
  repeat refine AW.seq ?_
  refine AW.condP rfl (fun hc20 => ?_) (fun hc20 => ?_)
  · repeat refine AW.seq ?_
    refine AW.region ?_
    refine RL.step (d := some 21) rfl rfl (xj_call Try.call6 sane_spec rfl) ?_
    refine A1 rfl ?_
    repeat refine AW.seq ?_
    refine AW.ret ?_
    exact ⟨_, _, rfl, rfl, rfl⟩
  · have hL : t.length ≤ 400 := by omega
    refine AW.skip ?_
    repeat refine AW.seq ?_
    refine AW.region ?_
    refine A1 rfl ?_
    refine RL.call rfl (oj_callF1 [] 0 Try.call7 (new_spec t (by omega)) rfl rfl rfl rfl trivial (by decide) rfl ?_)
    rintro _ _ ⟨rfl, rfl⟩
    refine A1 rfl ?_
    repeat refine AW.seq ?_
    refine AW.region ?_
    refine A1 rfl ?_
    refine RL.call rfl (oj_callM Try.call8 (schema_spec t 0 5 (by omega) (by omega) (by omega) (by omega)) rfl rfl ?_)
    rintro _ _ ⟨⟨S, hM, rfl⟩, k1, hk1, rfl⟩
    have h0 := made_check hM (by omega)
    have hV := valid_of h0
    have hSB := made_SB hM (by omega)
    have hn12 := hV.n2
    have hn1 := hV.n1
    have hr6 := hV.r2
    have h01 := one_check h0
    have hV1 := valid_of h01
    have hSB1 := one_SB hSB hV
    iterate 2 refine A1 rfl ?_
    repeat refine AW.seq ?_
    refine AW.region ?_
    iterate 2 refine A1 rfl ?_
    refine RL.call rfl (oj_callM Try.call16 (mkOrder_spec t k1 (by omega) hk1 S hSB h0) rfl rfl ?_)
    rintro _ _ ⟨⟨q, hq, rfl⟩, k2, hk2, rfl⟩
    have hok : OrdOk S (ordL S q) := (ordL_ord hV hq).ok hV hq
    generalize ordL S q = P at *
    have hPl := hok.len
    have hP0 := ordE_zero.2 ⟨h0, hok⟩
    have hwd := width_spec S hSB P (by omega)
    rw [hP0, if_pos rfl] at hwd
    have hwb := widN_bd S P P.length
    iterate 2 refine A1 rfl ?_
    repeat refine AW.seq ?_
    refine AW.region ?_
    iterate 2 refine A1 rfl ?_
    refine RL.step (d := some 32) rfl rfl (xj_call Try.call19 hwd rfl) ?_
    iterate 5 refine A1 rfl ?_
    repeat refine AW.seq ?_
    refine AW.region ?_
    iterate 4 refine A1 rfl ?_
    repeat refine AW.seq ?_
    refine AW.block ?_
    repeat refine AW.seq ?_
    refine AW.loop (st := fun x_0 : Nat => mkS [(3, .ptr 0 0), (4, .ptr 1 0), (6, .pv (.int .i64 (widN S P P.length + 1))), (7, .pv (.int .i64 0)), (36, .pv (.sl none S.rels.length (relsC S.rels))), (37, .pv (.int .i64 S.rels.length)), (38, .pv (.int .i64 x_0))] [(0, srcO t k2), (1, .mix 30 [.pv (.sl none S.attrs.length (attrsC S.attrs)), .pv (.sl none S.rels.length (relsC S.rels)), .pv (.sl none S.feats.length (featsC S.feats)), .pv (.int .i64 S.label)])] 3)
      (I := fun x_0 => x_0 ≤ S.rels.length) (μ := fun x_0 => S.rels.length - x_0) (x0 := (0)) (St.le_mk ⟨rfl, rfl, rfl, rfl, rfl, rfl, rfl, trivial⟩ ⟨rfl, rfl, trivial⟩ rfl rfl) (Nat.zero_le _) ?_
    rintro k hk
    repeat refine AW.seq ?_
    refine AW.region ?_
    refine A1 rfl ?_
    repeat refine AW.seq ?_
    refine AW.condP rfl (fun hc39 => ?_) (fun hc39 => ?_)
    · have hlt : k < S.rels.length := by omega
      have hrow := rel_row hlt
      have hne := rel_ne hlt
      have hrw := rel_width hok (List.getElem_mem hlt)
      refine AW.skip ?_
      repeat refine AW.seq ?_
      refine AW.block ?_
      repeat refine AW.seq ?_
      refine AW.region ?_
      refine A1 rfl ?_
      first | refine A3 rfl (by assumption) ?_ | refine A1 rfl ?_
      iterate 2 refine A1 rfl ?_
      repeat refine AW.seq ?_
      refine AW.region ?_
      iterate 5 refine A1 rfl ?_
      repeat refine AW.seq ?_
      refine AW.condP rfl (fun hc46 => absurd hc46 (by omega)) (fun hc46 => ?_)
      refine AW.skip ?_
      repeat refine AW.seq ?_
      refine AW.region ?_
      iterate 2 refine A1 rfl ?_
      exact ⟨(k + 1), St.le_mk ⟨rfl, rfl, rfl, rfl, rfl, rfl, rfl, trivial⟩ ⟨rfl, rfl, trivial⟩ rfl rfl, by omega, by omega⟩
    · repeat refine AW.seq ?_
      refine AW.exit ?_
      repeat refine AW.seq ?_
      refine AW.region ?_
      iterate 3 refine A1 rfl ?_
      repeat refine AW.seq ?_
      refine AW.region ?_
      iterate 3 refine A1 rfl ?_
      refine AW.weaken (St.le_groC 4 1 5 1 3 rfl rfl rfl) ?_
      repeat refine AW.seq ?_
      refine AW.region ?_
      iterate 4 refine A1 rfl ?_
      repeat refine AW.seq ?_
      refine AW.block ?_
      repeat refine AW.seq ?_
      refine AW.loop (st := fun x_1 : Nat => mkS [(3, .ptr 0 0), (4, .ptr 1 0), (7, .pv (.int .i64 0)), (10, .ptr 3 0), (11, .ptr 4 0), (52, .pv (.int .i64 S.attrs.length)), (53, .pv (.int .i64 x_1))] [(0, srcO t k2), (1, .mix 30 [.pv (.sl none S.attrs.length (attrsC S.attrs)), .pv (.sl none S.rels.length (relsC S.rels)), .pv (.sl none S.feats.length (featsC S.feats)), .pv (.int .i64 S.label)]), (3, .mix 30 [.pv (.sl none S.attrs.length (attrsC S.attrs)), .pv (.sl none S.rels.length (relsC S.rels)), .pv (.sl none S.feats.length (featsC S.feats)), .pv (.int .i64 S.label)]), (4, .mix 40 [.pv (.str ⟨#[97, 108, 108]⟩), .gsl 5 1 x_1]), (5, .gro 3 (intsP (upZ x_1)))] 6)
        (I := fun x_1 => x_1 ≤ S.attrs.length) (μ := fun x_1 => S.attrs.length - x_1) (x0 := (0)) (St.le_mk ⟨rfl, rfl, rfl, rfl, rfl, rfl, rfl, trivial⟩ ⟨rfl, rfl, rfl, rfl, rfl, trivial⟩ rfl rfl) (Nat.zero_le _) ?_
      rintro i hi
      repeat refine AW.seq ?_
      refine AW.region ?_
      refine A1 rfl ?_
      repeat refine AW.seq ?_
      refine AW.condP rfl (fun hc54 => ?_) (fun hc54 => ?_)
      · have hil : i < S.attrs.length := by omega
        have hsl : (intsP (upZ i)).length = i * 1 := by simp [upZ_len]
        refine AW.skip ?_
        repeat refine AW.seq ?_
        refine AW.block ?_
        repeat refine AW.seq ?_
        refine AW.region ?_
        iterate 2 refine A1 rfl ?_
        repeat refine AW.seq ?_
        refine AW.region ?_
        iterate 7 refine A1 rfl ?_
        repeat refine AW.seq ?_
        refine AW.region ?_
        iterate 2 refine A1 rfl ?_
        exact ⟨(i + 1), St.le_mkR [0, 1, 2, 3, 4, 7] ⟨rfl, rfl, rfl, rfl, rfl, rfl, rfl, trivial⟩ ⟨rfl, rfl, rfl, rfl, congrArg (fun c => some (Ob.gro 3 c)) (by rw [upZ_succ]; exact (ints_snoc _ _).symm), trivial⟩ rfl rfl (by decide) rfl, by omega, by omega⟩
      · have hin : i = S.attrs.length := by omega
        subst hin
        refine AW.weaken (St.le_pubA 5 rfl rfl) ?_
        repeat refine AW.seq ?_
        refine AW.exit ?_
        repeat refine AW.seq ?_
        refine AW.region ?_
        refine A1 rfl ?_
        refine RL.step (d := some 64) rfl rfl (XJ.cast (v' := .pv (.sl none 1 (relsC (oneS S).rels))) (xj_buildSliceP none (by simp) el27 rfl (by decide) (by decide) rfl rfl) (one_rel S)) ?_
        iterate 2 refine A1 rfl ?_
        repeat refine AW.seq ?_
        refine AW.draw follows [[], [], [], [2, 1], [3, 0, 2, 1], [4, 3, 0, 2, 1], [5, 4, 3, 0, 2, 1], [5, 4, 3, 0, 2, 1], [6, 5, 4, 3, 0, 2, 1], [8, 7, 5, 4, 3, 0, 2, 1, 6]] [0, 1, 2, 3, 4, 5, 6, 7, 8, 9] (by kernel_rfl) (by kernel_rfl) ?_
        iterate 3 refine D1 rfl rfl ?_
        refine DL.rel (RM 55 0 (fun v c => (∃ q P : List Int, IsChain S.attrs.length q P ∧ v = ordP P) ∧ ∃ k', k' ≤ t.length ∧ c = srcC t k')) [0] [] [0] rfl rfl rfl (fun τ h => relM Try.call17 (mkChain_spec t k2 (by omega) hk2 (oneS S) hn1 (by show S.attrs.length ≤ 1000; omega)) (h.args.trans rfl) ((h.o 0 _ rfl).trans rfl)) rfl (by kernel_rfl) (by kernel_rfl) (by kernel_rfl) ?_
        rintro _ ⟨_, _, ⟨⟨q2, P2, hch, rfl⟩, k3, hk3, rfl⟩, rfl⟩ _ _
        have hok2 : OrdOk (oneS S) P2 := IsChain.ok hV1 hch
        have hP20 := ordE_zero.2 ⟨h01, hok2⟩
        have hl2 := hok2.len
        have hwd2 := width_spec (oneS S) hSB1 P2 (by rw [hl2]; show S.attrs.length ≤ _; omega)
        rw [hP20, if_pos rfl, one_width hn1 hch] at hwd2
        refine DL.step (d := some 71) [] rfl rfl rfl (fun τ h => xj_call Try.call19 hwd2 (h.argsP rfl)) rfl (by kernel_rfl) ?_
        iterate 5 refine D1 rfl rfl ?_
        refine ⟨by kernel_rfl, ?_⟩
        have hle := oleast_spec (oneS S) hSB1
        rw [if_pos h01] at hle
        repeat refine AW.seq ?_
        refine AW.region ?_
        refine A1 rfl ?_
        refine RL.step (d := some 76) rfl rfl (xj_call Try.call20 hle rfl) ?_
        iterate 8 refine A1 rfl ?_
        repeat refine AW.seq ?_
        refine AW.region ?_
        iterate 3 refine A1 rfl ?_
        apply RL.andB 3 82 85 [83, 84] rfl (by first | exact MonoK.le | exact MonoK.aw | exact MonoK.back)
        · intro hb2
          iterate 3 refine A1 rfl ?_
          exact St.le_fg (fEq.upd (fEq.upd (fEq.upd (fEq.upd (fEq.refl) rfl) rfl) rfl) rfl) rfl rfl rfl
        · intro hb2
          iterate 3 refine A1 rfl ?_
          exact St.le_fg (fEq.upd (fEq.upd (fEq.upd (fEq.upd (fEq.refl) rfl) rfl) rfl) rfl) rfl rfl rfl
        refine A1 rfl ?_
        apply RL.andB 3 86 89 [87, 88] rfl (by first | exact MonoK.le | exact MonoK.aw | exact MonoK.back)
        · intro hb6
          iterate 3 refine A1 rfl ?_
          exact St.le_fg (fEq.upd (fEq.upd (fEq.upd (fEq.upd (fEq.refl) rfl) rfl) rfl) rfl) rfl rfl rfl
        · intro hb6
          iterate 3 refine A1 rfl ?_
          exact St.le_fg (fEq.upd (fEq.upd (fEq.upd (fEq.upd (fEq.refl) rfl) rfl) rfl) rfl) rfl rfl rfl
        refine A1 rfl ?_
        apply RL.andB 6 90 96 [91, 92, 93, 94, 95] rfl (by first | exact MonoK.le | exact MonoK.aw | exact MonoK.back)
        · intro hb10
          iterate 6 refine A1 rfl ?_
          exact St.le_fg (fEq.upd (fEq.upd (fEq.upd (fEq.upd (fEq.upd (fEq.upd (fEq.upd (fEq.refl) rfl) rfl) rfl) rfl) rfl) rfl) rfl) rfl rfl rfl
        · intro hb10
          iterate 6 refine A1 rfl ?_
          exact St.le_fg (fEq.upd (fEq.upd (fEq.upd (fEq.upd (fEq.upd (fEq.upd (fEq.upd (fEq.refl) rfl) rfl) rfl) rfl) rfl) rfl) rfl) rfl rfl rfl
        refine A1 rfl ?_
        apply RL.andB 2 97 99 [98] rfl (by first | exact MonoK.le | exact MonoK.aw | exact MonoK.back)
        · intro hb17
          refine RL.stepG (d := some 98) rfl rfl rfl (xj_call Try.call6 sane_spec rfl) ?_
          refine A1 rfl ?_
          exact St.le_fg (fEq.upd (fEq.upd (fEq.upd (fEq.refl) rfl) rfl) rfl) rfl rfl rfl
        · intro hb17
          iterate 2 refine A1 rfl ?_
          exact St.le_fg (fEq.upd (fEq.upd (fEq.upd (fEq.refl) rfl) rfl) rfl) rfl rfl rfl
        refine A1 rfl ?_
        repeat refine AW.seq ?_
        refine AW.ret ?_
        exact ⟨_, _, rfl, rfl, by show PV.bool _ = PV.bool true; simp⟩
end Go.Proofs.Ytkalgjnhaicabaa
