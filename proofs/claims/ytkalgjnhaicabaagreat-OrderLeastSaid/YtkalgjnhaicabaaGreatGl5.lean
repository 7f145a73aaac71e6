/-
  Texts of ours, joined: E22, B5, B6, Lz, R11, R12, W1, LA, R10, W2, LL. No statement of the program is proved here.
-/
import Derived.MapKept
import Derived.Carry
import Derived.Test.YtkalgjnhaicabaaGreatGl4
namespace Go.Proofs.YtkalgjnhaicabaaGreat
open Go.RowKit Go.MapKept
/-- Are two keys the same? None: not of one kind. -/
def keq : PV → PV → Option Bool
  | .int k a, .int k' b => bif kEq k k' then some (a == b) else none
  | .str a, .str b => some (a == b)
  | .bool a, .bool b => some (a == b)
  | _, _ => none
/-- Where a key stands. -/
def kfind (k : PV) : List PV → Nat → Option (Option Nat)
  | [], _ => some none
  | x :: l, i => match keq k x with
    | some true => some (some i)
    | some false => kfind k l (i + 1)
    | none => none
def keyD : TypeDesc → PV → Bool
  | .int k, .int k' _ => kEq k' k
  | .string, .str _ => true
  | .bool, .bool _ => true
  | _, _ => false
section
variable {w : World} {R : Nat → Prop}
theorem same_of {d : TypeDesc} {k x : PV} {u y : Value} (hd : keyD d k = true) (hk : RelP w R k u) (hx : RelP w R x y) {b : Bool} (h : keq k x = some b) : Instr.sameNow d u y = some b := by
  cases k <;> cases d <;> simp only [keyD, Bool.false_eq_true] at hd <;> cases x <;> simp only [keq, reduceCtorEq] at h <;> simp only [RelP] at hk hx <;> subst hk hx
  · replace h := bif_some h
    have := kEq_eq h.1
    subst this
    simpa [Instr.sameNow] using h.2
  · simpa [Instr.sameNow] using h
  · simpa [Instr.sameNow] using h
theorem find_of {d : TypeDesc} {k : PV} {u : Value} (hd : keyD d k = true) (hk : RelP w R k u) : ∀ {ks : List PV} {es : List MapEntry} {i : Nat} {r : Option Nat}, RelPL w R ks (es.map (·.key)) → kfind k ks i = some r →
    match r with
    | none => Instr.findNow d u es i = some none
    | some j => ∃ q e, j = i + q ∧ es[q]? = some e ∧ Instr.findNow d u es i = some (some (j, e.val))
  | [], [], i, r, _, h => by simp only [kfind, Option.some.injEq] at h; subst h; rfl
  | [], _ :: _, _, _, hr, _ => by simp [RelPL] at hr
  | x :: ks, [], _, _, hr, _ => by simp [RelPL] at hr
  | x :: ks, e :: es, i, r, hr, h => by
    simp only [List.map_cons, RelPL, List.cons.injEq] at hr
    obtain ⟨y, ys, ⟨rfl, rfl⟩, h1, h2⟩ := hr
    simp only [kfind] at h
    split at h
    · rename_i hb
      cases h
      have := same_of hd hk h1 hb
      exact ⟨0, e, rfl, rfl, by simp [Instr.findNow, this]⟩
    · rename_i hb
      have hs := same_of hd hk h1 hb
      have ih := find_of hd hk h2 h
      cases r with
      | none => simpa [Instr.findNow, hs] using ih
      | some j =>
        obtain ⟨q, e', hj, he, hf⟩ := ih
        exact ⟨q + 1, e', by omega, by simpa using he, by simpa [Instr.findNow, hs] using hf⟩
    · cases h
theorem keyD_isKey {d : TypeDesc} {k : PV} {u : Value} (hd : keyD d k = true) (hk : RelP w R k u) : IsKey d u := by
  cases k <;> cases d <;> simp only [keyD, Bool.false_eq_true] at hd <;> simp only [RelP] at hk <;> subst hk <;> first | exact kEq_eq hd | trivial
theorem kfind_at {k : PV} : ∀ {ks : List PV} {i j : Nat}, kfind k ks i = some (some j) → ∃ q x, j = i + q ∧ ks[q]? = some x ∧ keq k x = some true
  | [], _, _, h => by simp [kfind] at h
  | x :: ks, i, j, h => by
    simp only [kfind] at h
    split at h
    · rename_i hb; cases h; exact ⟨0, x, rfl, rfl, hb⟩
    · obtain ⟨q, y, e, h1, h2⟩ := kfind_at h
      exact ⟨q + 1, y, by omega, by simpa using h1, h2⟩
    · cases h
theorem bytes_eq {a b : ByteArray} (h : (a == b) = true) : a = b := by
  have : (a.data == b.data) = true := h
  exact ByteArray.ext (eq_of_beq this)
theorem bytes_self (a : ByteArray) : (a == a) = true := by
  have : (a.data == a.data) = true := beq_self_eq_true a.data
  exact this
theorem keq_same {k x : PV} {u y : Value} (h : keq k x = some true) (hk : RelP w R k u) (hx : RelP w R x y) : u = y ∧ Instr.sameBits 10000 y u = true := by
  cases k <;> cases x <;> simp only [keq, reduceCtorEq, Option.some.injEq] at h <;> simp only [RelP] at hk hx <;> subst hk hx
  · replace h := bif_some h
    have h1 := kEq_eq h.1
    have h2 := h.2
    simp only [Option.some.injEq, beq_iff_eq] at h2
    subst h1 h2
    simp [Instr.sameBits]
  · simp at h; subst h; simp [Instr.sameBits]
  · have := bytes_eq h; subst this; exact ⟨rfl, by show (_ == _) = true; exact bytes_self _⟩
end
/-- Which map an operand names: one of the call's own, one that stands, or none. -/
def MapSrc (n : Nat) (σ : St) (x : Operand) (ks vs : List PV) : Prop :=
  (∃ id, σ.ev n x = .map id ∧ σ.ob id = some (.mp ks vs)) ∨ σ.ev n x = .pv (.mp ks vs) ∨ (σ.ev n x = .pv .nilmap ∧ ks = [] ∧ vs = [])
section
variable {C : Ctx} {n : Nat} {σ : St} {a : Act} {w : World} {m : Gm} {R : Nat → Prop} {x y z : Operand} {dst : Option Tmp} {ty t kt et : TypeId} {pos : String} {after : Array Edge} {gd : Option (Nat × Bool)} {ks vs : List PV}
theorem MapSrc.at (hw : SW C n σ a w m R) (h : MapSrc n σ x ks vs) : (∃ b es clock, a.eval x = .map (some b) ∧ w.heap[b]? = some (.map es clock) ∧ RelPL w R ks (es.toList.map (·.key)) ∧ RelPL w R vs (es.toList.map (·.val))) ∨ (a.eval x = .map none ∧ ks = [] ∧ vs = []) := by
  rcases h with ⟨id, hx, ho⟩ | hx | ⟨hx, h1, h2⟩
  · obtain ⟨b, N, hm, hr⟩ := hw.live ho
    have := hw.ev x
    rw [hx] at this
    simp only [Rel] at this
    obtain ⟨es, clock, q1, q2, q3, _⟩ := hr
    exact .inl ⟨b, es, clock, this.2 b N hm, q1, q2, q3⟩
  · have := hw.pv hx
    simp only [RelP] at this
    obtain ⟨b, e, _, es, clock, q1, q2, q3, _⟩ := this
    exact .inl ⟨b, es, clock, e, q1, q2, q3⟩
  · have := hw.pv hx
    simp only [RelP] at this
    exact .inr ⟨this, h1, h2⟩
theorem run_map {P : Program} {w : World} {r : Nat} {es : Array MapEntry} {clock : Nat} (hb : w.heap[r]? = some (.map es clock)) : (getObj r).run P w = .ok (.map es clock) w := by
  simp [getObj, Sem.run, hb]
theorem run_setMap {P : Program} {w : World} {r : Nat} {es : Array MapEntry} {clock : Nat} (o : Obj) (hb : w.heap[r]? = some (.map es clock)) : (setObj r o).run P w = .ok () { w with heap := w.heap.setIfInBounds r o } := by
  simp [setObj, Sem.run, hb]
/-- What a look-up finds: the value, and whether there is one. -/
def mlook (k : PV) (ks vs : List PV) : Option (Option PV) :=
  match kfind k ks 0 with
  | some none => some none
  | some (some j) => (vs[j]?).map some
  | none => none
theorem RelPL.at {ps : List PV} {us : List Value} (h : RelPL w R ps us) {i : Nat} {p : PV} {u : Value} (hp : ps[i]? = some p) (hu : us[i]? = some u) : RelP w R p u := by
  obtain ⟨u', h1, h2⟩ := h.get hp
  rw [hu] at h1
  cases h1
  exact h2
theorem run_look (hw : SW C n σ a w m R) {d : TypeDesc} {key zp : PV} {zv : Value} {r : Option PV} (ht : C.P.underlying t = some (.map kt et)) (hk : C.P.underlying kt = some d) (hd : keyD d key = true) (hx : MapSrc n σ x ks vs) (hy : σ.ev n y = .pv key) (hz : (C.P.info? et).map (·.zero) = some (some zv)) (hzp : ofC zv = zp) (hl : mlook key ks vs = some r) (ok : Bool) :
    ∃ u, RelP w R (r.getD zp) u ∧ (Instr.lookup t (a.eval x) (a.eval y) ok).run C.P w = .ok (if ok then .tuple #[u, .bool r.isSome] else u) w := by
  have hkey := hw.pv hy
  have hzr : (zeroValue et).run C.P w = .ok zv w := by
    cases hq : C.P.info? et with
    | none => simp [hq] at hz
    | some i => simp [hq] at hz; simp [zeroValue, typeInfo, hq, hz]
  have hzrel : RelP w R zp zv := hzp ▸ ofC_rel w R zv
  have hIs := keyD_isKey hd hkey
  rcases hx.at hw with ⟨b, es, clock, e, hb, q2, q3⟩ | ⟨e, rfl, rfl⟩
  · unfold mlook at hl
    split at hl
    · rename_i hf
      cases hl
      have := find_of hd hkey q2 hf
      simp only at this
      refine ⟨zv, hzrel, ?_⟩
      simp [Instr.lookup, e, run_underlying ht, run_map hb, run_checkKey hk hIs, run_findKey hk this, hzr, Result.andThen]
    · rename_i j hf
      obtain ⟨q, e', hj, he, hfn⟩ := find_of hd hkey q2 hf
      simp only [Nat.zero_add] at hj
      subst hj
      cases hv : vs[j]? with
      | none => rw [hv] at hl; cases hl
      | some p =>
        rw [hv] at hl
        simp at hl
        subst hl
        refine ⟨e'.val, RelPL.at q3 hv (by simp [he]), ?_⟩
        simp [Instr.lookup, e, run_underlying ht, run_map hb, run_checkKey hk hIs, run_findKey hk hfn, Result.andThen]
    · cases hl
  · simp only [mlook, kfind, Option.some.injEq] at hl
    subst hl
    refine ⟨zv, hzrel, ?_⟩
    have hf : Instr.findNow d (a.eval y) (#[] : Array MapEntry).toList 0 = some none := rfl
    simp [Instr.lookup, e, run_underlying ht, run_checkKey hk hIs, run_findKey hk hf, hzr, Result.andThen]
theorem xj_lookup {d : TypeDesc} {key zp p : PV} {zv : Value} {r : Option PV} {b : Bool} (ht : C.P.underlying t = some (.map kt et)) (hk : C.P.underlying kt = some d) (hx : MapSrc n σ x ks vs) (hy : σ.ev n y = .pv key) (hd : keyD d key = true) (hz : (C.P.info? et).map (·.zero) = some (some zv)) (hzp : ofC zv = zp) (hl : mlook key ks vs = some r) (hp : r.getD zp = p) (hb : r.isSome = b) :
    XJ C n ⟨dst, .lookup t x y true, ty, pos, after, gd⟩ σ ⟨.pv (.tup [p, .bool b]), [], []⟩ :=
  .val fun a w m R hw => by
    obtain ⟨u, hr, hrun⟩ := run_look hw ht hk hd hx hy hz hzp hl true
    subst hp hb
    refine ⟨_, by simp only [execOp, Sem.run_bind, hrun, Result.andThen_ok]; rfl, ?_⟩
    simp only [Rel, RelP]
    exact ⟨[u, .bool r.isSome], rfl, RelPL.cons hr (RelPL.cons (by simp only [RelP]) RelPL.nil)⟩
/-- A new block of any kind becomes a place of the call's own. -/
theorem SW.allocO (h : SW C n σ a w m R) {id : Nat} (hid : σ.av id = true) (obj : Obj) (N : Nat) (o : Ob)
    (ho : ∀ (w' : World) (m' : Gm) (av' : Av), (∀ b, R b → R b ∧ w'.heap[b]? = w.heap[b]?) → w'.heap[w.heap.size]? = some obj → ORel w' m' av' R w.heap.size N o) (hre : o.real = true := by rfl) :
    SW C n ⟨σ.sl, obL [(id, some o)] σ.ob, avL [id] σ.av⟩ a (w.alloc obj) (upd m id (some (w.heap.size, N))) R := by
  have hR : ∀ b, R b → R b ∧ (w.alloc obj).heap[b]? = w.heap[b]? := fun b hb => ⟨hb, Below.heap_alloc w _ b (h.hr.rsz b hb)⟩
  have hne : ∀ i, σ.av i = false → i ≠ id := fun i hi e => by rw [e, hid] at hi; cases hi
  have hm : ∀ i x, σ.av i = false → upd m id (some (w.heap.size, N)) i = some x → m i = some x := fun i x hi e => by rwa [upd_ne _ _ (hne i hi)] at e
  have ha : ∀ i, σ.av i = false → avL [id] σ.av i = false := fun i hi => by
    simp only [avL]
    cases Nat.beq i id <;> simp [hi]
  have hsz : (w.alloc obj).heap.size = w.heap.size + 1 := by simp
  have obe : ∀ i, i ≠ id → obL [(id, some o)] σ.ob i = σ.ob i := fun i hi => by
    have : Nat.beq i id = false := by cases hb : Nat.beq i id; rfl; exact absurd (Nat.eq_of_beq_eq_true hb) hi
    simp [obL, this]
  have obs : obL [(id, some o)] σ.ob id = some o := by simp [obL]
  refine h.world ⟨?_, ?_, ?_, ?_, ?_, ?_, h.hr.rfr, h.hr.r0, ?_, ?_, fun i hi => ha i (h.hr.res i hi)⟩ hR hm ha
  · intro i
    by_cases e : i = id
    · subst e; rw [upd_same, obs]; exact hre.symm
    · rw [upd_ne _ _ e, obe i e]; exact h.hr.dom i
  · intro i hi
    simp only [avL] at hi
    cases hb : Nat.beq i id with
    | true => rw [hb] at hi; simp at hi
    | false =>
      rw [hb] at hi
      rw [obe i (fun e => by subst e; simp at hb)]
      exact h.hr.free i (by simpa using hi)
  · intro i o' b N h1 h2
    by_cases e : i = id
    · subst e
      rw [obs] at h1
      rw [upd_same] at h2
      cases h1; cases h2
      exact ho _ _ _ hR (heap_alloc_new w _)
    · rw [obe i e] at h1
      rw [upd_ne _ _ e] at h2
      exact (h.hr.obj i o' b N h1 h2).mono hR hm ha (Below.heap_alloc w _ b (h.hr.own i b N h2).1)
  · intro i j b N N' h1 h2
    by_cases e1 : i = id <;> by_cases e2 : j = id
    · rw [e1, e2]
    · subst e1
      rw [upd_same] at h1
      rw [upd_ne _ _ e2] at h2
      cases h1
      have := (h.hr.own j _ _ h2).1
      omega
    · subst e2
      rw [upd_same] at h2
      rw [upd_ne _ _ e1] at h1
      cases h2
      have := (h.hr.own i _ _ h1).1
      omega
    · rw [upd_ne _ _ e1] at h1
      rw [upd_ne _ _ e2] at h2
      exact h.hr.inj i j b N N' h1 h2
  · intro i b N h1
    by_cases e : i = id
    · subst e
      rw [upd_same] at h1
      cases h1
      exact ⟨by omega, fun hb => by have := h.hr.rsz _ hb; omega, .inr h.hr.frame.size⟩
    · rw [upd_ne _ _ e] at h1
      obtain ⟨h2, h3, h4⟩ := h.hr.own i b N h1
      exact ⟨by omega, h3, h4⟩
  · intro b hb
    have := h.hr.rsz b hb
    omega
  · refine ⟨h.hr.frame.os, h.hr.frame.tape, h.hr.frame.output, ?_, ?_⟩
    · have := h.hr.frame.size; omega
    · intro k hk hF
      rw [Below.heap_alloc w _ k (by have := h.hr.frame.size; omega)]
      exact h.hr.frame.block k hk hF
  · intro i x hi e
    have hne' : i ≠ id := fun e' => by subst e'; rw [h.hr.res i hi] at hid; cases hid
    rw [upd_ne _ _ hne'] at e
    exact h.hr.keep i x hi e
/-- One block of the call's own turns. -/
theorem SW.turn (h : SW C n σ a w m R) {id b N : Nat} (hm0 : m id = some (b, N)) (w' : World) (hs : w'.heap.size = w.heap.size) (hoth : ∀ k, k ≠ b → w'.heap[k]? = w.heap[k]?) (e1 : w'.os = w.os) (e2 : w'.tape = w.tape) (e3 : w'.output = w.output) (o : Ob)
    (ho : (∀ b, R b → R b ∧ w'.heap[b]? = w.heap[b]?) → ORel w' m σ.av R b N o) (hre : o.real = true := by rfl) :
    SW C n ⟨σ.sl, obL [(id, some o)] σ.ob, avL [] σ.av⟩ a w' m R := by
  have own := h.hr.own id b N hm0
  have hR : ∀ k, R k → R k ∧ w'.heap[k]? = w.heap[k]? := fun k hk => ⟨hk, hoth k (fun e => own.2.1 (e ▸ hk))⟩
  have obe : ∀ i, i ≠ id → obL [(id, some o)] σ.ob i = σ.ob i := fun i hi => by
    have : Nat.beq i id = false := by cases hb : Nat.beq i id; rfl; exact absurd (Nat.eq_of_beq_eq_true hb) hi
    simp [obL, this]
  have obs : obL [(id, some o)] σ.ob id = some o := by simp [obL]
  have hm : ∀ i x, σ.av i = false → m i = some x → m i = some x := fun _ _ _ e => e
  have ha : ∀ i, σ.av i = false → avL [] σ.av i = false := fun _ hi => hi
  refine h.world ⟨?_, ?_, ?_, h.hr.inj, ?_, ?_, h.hr.rfr, h.hr.r0, ?_, h.hr.keep, h.hr.res⟩ hR hm ha
  · intro i
    by_cases e : i = id
    · subst e; rw [hm0, obs]; exact hre.symm
    · rw [obe i e]; exact h.hr.dom i
  · intro i hi
    have e : i ≠ id := fun e => by
      subst e
      have := h.hr.dom i
      rw [h.hr.free i hi, hm0] at this
      cases this
    rw [obe i e]
    exact h.hr.free i hi
  · intro i o' b' N' h1 h2
    by_cases e : i = id
    · subst e
      rw [obs] at h1
      rw [hm0] at h2
      cases h1; cases h2
      exact ho hR
    · rw [obe i e] at h1
      exact (h.hr.obj i o' b' N' h1 h2).mono hR hm ha (hoth b' (fun e' => e (h.hr.inj i id b N' N (e' ▸ h2) hm0)))
  · intro i b' N' h1
    obtain ⟨h2, h3, h4⟩ := h.hr.own i b' N' h1
    exact ⟨by omega, h3, h4⟩
  · intro b' hb'
    have := h.hr.rsz b' hb'
    omega
  · refine ⟨e1.trans h.hr.frame.os, e2.trans h.hr.frame.tape, e3.trans h.hr.frame.output, ?_, ?_⟩
    · have := h.hr.frame.size; omega
    · intro k hk hF
      rw [hoth k (fun e => by subst e; rcases own.2.2 with h' | h'; exact hF h'; omega)]
      exact h.hr.frame.block k hk hF
theorem xj_makeMap (id : Nat) (hid : σ.av id = true) : XJ C n ⟨dst, .makeMap t none, ty, pos, after, gd⟩ σ ⟨.map id, [(id, some (.mp [] []))], [id]⟩ := by
  rintro a w Q ⟨m, R, hw⟩
  unfold Oper.wp
  have hrun : (execOp a.eval ⟨dst, .makeMap t none, ty, pos, after, gd⟩).run C.P w = .ok (.value (.map (some w.heap.size))) (w.alloc (.map #[] 0)) := by
    simp only [execOp, Option.map_none, Sem.run_bind, run_makeMap, Result.andThen_ok]
    rfl
  rw [hrun]
  refine ⟨_, rfl, upd m id (some (w.heap.size, 0)), R, ?_⟩
  rw [St.app_new]
  refine SW.put (hw.allocO hid (.map #[] 0) 0 (.mp [] []) ?_) dst ?_
  · intro w' m' av' hR hb
    exact ⟨#[], 0, hb, RelPL.nil, RelPL.nil, by simp [Stamps]⟩
  · simp only [Rel]
    refine ⟨by simp [avL], fun b N e => ?_⟩
    rw [upd_same] at e
    cases e
    rfl
/-- What a map holds behind a store. -/
def mputK (k : PV) (ks : List PV) : List PV := match kfind k ks 0 with
  | some (some j) => ks.set j k
  | _ => ks ++ [k]
def mputV (k v : PV) (ks vs : List PV) : List PV := match kfind k ks 0 with
  | some (some j) => vs.set j v
  | _ => vs ++ [v]
theorem xj_mapUpdate {d : TypeDesc} {key v : PV} {id : Nat} {r : Option Nat} {ks' vs' : List PV} (ht : C.P.underlying t = some (.map kt et)) (hk : C.P.underlying kt = some d) (hx : σ.ev n x = .map id) (ho : σ.ob id = some (.mp ks vs)) (hy : σ.ev n y = .pv key) (hz : σ.ev n z = .pv v) (hd : keyD d key = true) (hf : kfind key ks 0 = some r)
    (hks : mputK key ks = ks') (hvs : mputV key v ks vs = vs') : XJ C n ⟨none, .mapUpdate t x y z, ty, pos, after, gd⟩ σ ⟨.pv .any, [(id, some (.mp ks' vs'))], []⟩ := by
  rintro a w Q ⟨m, R, hw⟩
  obtain ⟨b, N, hm, es, clock, hb, q2, q3, q4⟩ := hw.live ho
  have hxv := hw.ev x
  rw [hx] at hxv
  simp only [Rel] at hxv
  have hx := hxv.2 b N hm
  have hkey := hw.pv hy
  have hval := hw.pv hz
  have hIs := keyD_isKey hd hkey
  have hlt : b < w.heap.size := (Array.getElem?_eq_some_iff.1 hb).1
  have fin : ∀ (es' : Array MapEntry) (clock' : Nat), (Instr.mapUpdate t (a.eval x) (a.eval y) (a.eval z)).run C.P w = .ok () { w with heap := w.heap.setIfInBounds b (.map es' clock') } →
      RelPL w R ks' (es'.toList.map (·.key)) → RelPL w R vs' (es'.toList.map (·.val)) → Stamps es'.toList clock' → Oper.wp C.P ⟨none, .mapUpdate t x y z, ty, pos, after, gd⟩ a w (fun a' w' => ∃ σ', σ' = σ.app none ⟨.pv .any, [(id, some (.mp ks' vs'))], []⟩ ∧ SJ C n σ' a' w') Q := by
    intro es' clock' hrun h1 h2 h3
    unfold Oper.wp
    have hrun' : (execOp a.eval ⟨none, .mapUpdate t x y z, ty, pos, after, gd⟩).run C.P w = .ok .skip { w with heap := w.heap.setIfInBounds b (.map es' clock') } := by
      simp only [execOp, Sem.run_bind, hrun, Result.andThen_ok, Sem.run_pure]
    rw [hrun']
    refine ⟨_, rfl, m, R, hw.turn hm { w with heap := w.heap.setIfInBounds b (.map es' clock') } (by simp) (fun k hk => by simp only; rw [Array.getElem?_setIfInBounds_ne (fun e => hk e.symm)]) rfl rfl rfl (.mp ks' vs') fun hR => ?_⟩
    exact ⟨es', clock', by simp only; rw [Array.getElem?_setIfInBounds]; simp [hlt], h1.mono hR, h2.mono hR, h3⟩
  have hl := q2.length
  have hl2 := q3.length
  simp only [List.length_map] at hl hl2
  cases r with
  | none =>
    have hfn := find_of hd hkey q2 hf
    simp only at hfn
    refine fin (es.push ⟨a.eval y, a.eval z, clock⟩) (clock + 1) ?_ ?_ ?_ ?_
    · simp [Instr.mapUpdate, hx, run_underlying ht, run_map hb, run_checkKey hk hIs, run_findKey hk hfn, run_setMap _ hb, Result.andThen]
    · rw [← hks]
      simp only [mputK, hf, Array.toList_push, List.map_append, List.map_cons, List.map_nil]
      exact q2.append (RelPL.cons hkey RelPL.nil)
    · rw [← hvs]
      simp only [mputV, hf, Array.toList_push, List.map_append, List.map_cons, List.map_nil]
      exact q3.append (RelPL.cons hval RelPL.nil)
    · simp only [Stamps, Array.toList_push, List.map_append, List.map_cons, List.map_nil]
      refine ⟨List.nodup_append.2 ⟨q4.1, by simp, fun x hx y hy e => ?_⟩, fun e he => ?_⟩
      · obtain ⟨e', he', rfl⟩ := List.mem_map.1 hx
        have := q4.2 e' he'
        simp at hy
        omega
      · rcases List.mem_append.1 he with h | h
        · exact Nat.lt_succ_of_lt (q4.2 e h)
        · simp at h; subst h; exact Nat.lt_succ_self _
  | some j =>
    obtain ⟨q, e', hj, he, hfn⟩ := find_of hd hkey q2 hf
    obtain ⟨q', x', hj', hx', hkq⟩ := kfind_at hf
    simp only [Nat.zero_add] at hj hj'
    subst hj'
    subst hj
    have hrel := RelPL.at q2 hx' (by simp [he] : (es.toList.map (·.key))[j]? = some e'.key)
    have hsame := keq_same hkq hkey hrel
    have hjl : j < es.size := (List.getElem?_eq_some_iff.1 he).1 |> fun h => by simpa using h
    have hek : es[j]? = some e' := by simpa using he
    have hge : es[j] = e' := by have := Array.getElem?_eq_getElem hjl; rw [hek] at this; exact (Option.some.inj this).symm
    have hmod : (es.modify j fun e => { e with key := a.eval y, val := a.eval z }).toList = es.toList.set j ⟨a.eval y, a.eval z, e'.born⟩ := by
      apply List.ext_getElem?
      intro i
      rw [Array.getElem?_toList, Array.getElem?_modify, List.getElem?_set]
      by_cases e : j = i
      · subst e; simp [hjl, hge]
      · simp [e]
    refine fin (es.modify j fun e => { e with key := a.eval y, val := a.eval z }) clock ?_ ?_ ?_ ?_
    · simp [Instr.mapUpdate, hx, run_underlying ht, run_map hb, run_checkKey hk hIs, run_findKey hk hfn, run_setMap _ hb, Result.andThen, Instr.keyThatStays, hek, hsame.2]
    · rw [hmod, ← hks]
      simp only [mputK, hf, List.map_set]
      exact q2.set j hkey
    · rw [hmod, ← hvs]
      simp only [mputV, hf, List.map_set]
      exact q3.set j hval
    · rw [hmod]
      have hborn : (es.toList.set j ⟨a.eval y, a.eval z, e'.born⟩).map (·.born) = es.toList.map (·.born) := by
        rw [List.map_set]
        apply List.ext_getElem?
        intro i
        rw [List.getElem?_set]
        by_cases e : j = i
        · subst e; simp [hjl, hge]
        · simp [e]
      refine ⟨by rw [hborn]; exact q4.1, fun e hm => ?_⟩
      have : e.born ∈ es.toList.map (·.born) := by rw [← hborn]; exact List.mem_map.2 ⟨e, hm, rfl⟩
      obtain ⟨e2, h2, h3⟩ := List.mem_map.1 this
      rw [← h3]
      exact q4.2 e2 h2
/-- What a call that is handed places leaves, if it isn't told by a function: for DL.rel. -/
def RO (ids : List Nat) (base k' : Nat) (Q : V → (Nat → Option Ob) → Prop) (s : OS) : Prop := ∃ v ob', Q v ob' ∧ s = ⟨v.ren (renI ids base), wrO ids base k' ob', nwO base k'⟩
theorem wrO_keys (ids : List Nat) (base k' : Nat) (ob' : Nat → Option Ob) : (wrO ids base k' ob').map (·.1) = ids ++ nwO base k' := by
  have h : ∀ (l : List Nat) (j : Nat), (l.zipIdx j).map (fun p => p.1) = l := by
    intro l
    induction l with
    | nil => intro j; rfl
    | cons x l ih => intro j; rw [List.zipIdx_cons, List.map_cons, ih]
  unfold wrO nwO
  rw [List.map_append, List.map_map, List.map_map]
  exact congr (congrArg _ (h ids 0)) rfl
theorem relO {f : FuncId} {xs : Array Operand} {ts : Array TypeId} {args : List V} {os : List (Nat × Ob)} {k' : Nat} {Q : V → (Nat → Option Ob) → Prop} (ids : List Nat) (base : Nat) (hc : CallOk C.P f) (hf : FnO C.P f ids.length k' args os Q) (hargs : xs.toList.map (σ.ev n) = V.renL (renI ids base) args)
    (ha : V.allL (okR ids.length 0) args = true) (hos : os.map (·.1) = (List.range ids.length).map (big + ·)) (hob : os.all (fun p => p.2.all (okR ids.length 0)) = true) (hobs : allObR σ (renI ids base) os) (hnd : ids.Nodup) (hav : (nwO base k').all σ.av = true) :
    OJ C n ⟨dst, .call { callee := .value (.func f), args := xs, argTypes := ts }, ty, pos, after, gd⟩ (fun τ' => ∃ s, RO ids base k' Q s ∧ s.wr.map (·.1) = ids ++ nwO base k' ∧ s.nw = nwO base k' ∧ τ' = σ.app dst s) σ :=
  oj_callO ids base hc hargs ha hos hob hobs hnd hav hf fun v ob' h => ⟨_, ⟨v, ob', h, rfl⟩, wrO_keys _ _ _ _, rfl, rfl⟩
end
end Go.Proofs.YtkalgjnhaicabaaGreat
namespace Go.Proofs.YtkalgjnhaicabaaGreat
open Go.RowKit Mk
set_option maxRecDepth 100000
set_option maxHeartbeats 4000000
theorem size_spec (x : B64) : FnP Tryz.prog 109 [setP x] (· = .int .i64 (popB x)) := by
  refine FnP.of Tryz.func109 rfl Tryz.ntmps109 (by simp) fun m0 w0 F R0 => ?_
  repeat refine AW.seq ?_
  refine AW.region ?_
  refine A1 rfl ?_
  repeat refine AW.seq ?_
  refine AW.region ?_
  refine A1 rfl ?_
  repeat refine AW.seq ?_
  refine AW.block ?_
  repeat refine AW.seq ?_
  refine AW.loop (st := fun x_0 : B64 × Nat => mkS [(0, .pv (setP x_0.1)), (3, .pv (.int .i64 x_0.2))] [] 0)
    (I := fun x_0 => x_0.2 + popB x_0.1 = popB x) (μ := fun x_0 => popB x_0.1) (x0 := (x, 0)) (St.le_mk ⟨rfl, rfl, trivial⟩ trivial rfl rfl) (by simp) ?_
  rintro ⟨y, k⟩ hk
  try simp only at hk ⊢
  have h64 := pop_le x
  repeat refine AW.seq ?_
  refine AW.region ?_
  refine A1 rfl ?_
  refine RL.step (d := some 5) rfl rfl (xj_neqV (Y := 0#64) rfl rfl) ?_
  repeat refine AW.seq ?_
  refine AW.condP rfl (fun hc5 => ?_) (fun hc5 => ?_)
  · have hp := pop_pred hc5
    refine AW.skip ?_
    repeat refine AW.seq ?_
    refine AW.block ?_
    repeat refine AW.seq ?_
    refine AW.region ?_
    iterate 3 refine A1 rfl ?_
    repeat refine AW.seq ?_
    refine AW.region ?_
    iterate 2 refine A1 rfl ?_
    refine RL.step (d := some 8) rfl rfl (xj_subV (Y := 1#64) rfl rfl) ?_
    refine RL.step (d := some 9) rfl rfl (xj_andV rfl rfl) ?_
    refine A1 rfl ?_
    exact ⟨(y &&& (y - 1#64), k + 1), St.le_mk ⟨rfl, rfl, trivial⟩ trivial rfl rfl, by simp only; omega, by simp only; omega⟩
  · have hz : y = 0#64 := Classical.byContradiction hc5
    subst hz
    repeat refine AW.seq ?_
    refine AW.exit ?_
    repeat refine AW.seq ?_
    refine AW.region ?_
    iterate 2 refine A1 rfl ?_
    repeat refine AW.seq ?_
    refine AW.ret ?_
    exact ⟨_, _, rfl, rfl, by rw [← hk]; rfl⟩
theorem gkey_spec (G : List B64) (hG : GOk G) (c : B64) : FnP Tryz.prog 96 [psets G, setP c] (· = .int .i64 (keyN G c)) := by
  refine FnP.of Tryz.func96 rfl Tryz.ntmps96 (by simp) fun m0 w0 F R0 => ?_
  have h12 := hG.n
  repeat refine AW.seq ?_
  refine AW.region ?_
  refine A1 rfl ?_
  repeat refine AW.seq ?_
  refine AW.region ?_
  refine A1 rfl ?_
  repeat refine AW.seq ?_
  refine AW.region ?_
  iterate 3 refine A1 rfl ?_
  repeat refine AW.seq ?_
  refine AW.block ?_
  repeat refine AW.seq ?_
  refine AW.loop (st := fun x_0 : Nat × B64 => mkS [(1, .pv (setP c)), (5, .pv (setP x_0.2)), (8, .pv (psets G)), (9, .pv (.int .i64 G.length)), (10, .pv (.int .i64 x_0.1))] [] 0)
    (I := fun x_0 => x_0.1 ≤ G.length ∧ ∀ i, x_0.2.getLsbD i = (List.range x_0.1).any fun b => c.getLsbD b && (G.getD b 0#64).getLsbD i) (μ := fun x_0 => G.length - x_0.1) (x0 := (0, 0#64)) (St.le_mk ⟨rfl, rfl, rfl, rfl, rfl, trivial⟩ trivial rfl rfl) (⟨Nat.zero_le _, fun c => by simp⟩) ?_
  rintro ⟨k, near⟩ ⟨hk, hnear⟩
  try simp only at hk hnear ⊢
  repeat refine AW.seq ?_
  refine AW.region ?_
  refine A1 rfl ?_
  repeat refine AW.seq ?_
  refine AW.condP rfl (fun hc11 => ?_) (fun hc11 => ?_)
  · have hlt : k < G.length := by omega
    have hv := psets_at hlt
    have hne := psets_ne hlt
    refine AW.skip ?_
    repeat refine AW.seq ?_
    refine AW.block ?_
    repeat refine AW.seq ?_
    refine AW.region ?_
    iterate 2 refine A1 rfl ?_
    first | refine A2 rfl (by assumption) ?_ | refine A1 rfl ?_
    iterate 2 refine A1 rfl ?_
    repeat refine AW.seq ?_
    refine AW.region ?_
    iterate 2 refine A1 rfl ?_
    refine RL.step (d := some 17) rfl rfl (xj_call Tryz.call69 (has_sp c k (by omega)) rfl) ?_
    repeat refine AW.seq ?_
    refine AW.cond rfl (fun hc17 => ?_) (fun hc17 => ?_)
    · repeat refine AW.seq ?_
      refine AW.region ?_
      iterate 2 refine A1 rfl ?_
      refine RL.step (d := some 20) rfl rfl (xj_orV rfl rfl) ?_
      refine A1 rfl ?_
      repeat refine AW.seq ?_
      refine AW.region ?_
      iterate 2 refine A1 rfl ?_
      exact ⟨(k + 1, near ||| G[k]), St.le_mk ⟨rfl, rfl, rfl, rfl, rfl, trivial⟩ trivial rfl rfl, ⟨by simp only; omega, fun i => (near_next (hnear i) hlt).1 hc17⟩, by simp only; omega⟩
    · refine AW.skip ?_
      repeat refine AW.seq ?_
      refine AW.region ?_
      iterate 2 refine A1 rfl ?_
      exact ⟨(k + 1, near), St.le_mk ⟨rfl, rfl, rfl, rfl, rfl, trivial⟩ trivial rfl rfl, ⟨by simp only; omega, fun i => (near_next (hnear i) hlt).2 hc17⟩, by simp only; omega⟩
  · have hkG : k = G.length := by omega
    rw [hkG] at hnear
    have hnb : near = nearB G c := by apply BitVec.eq_of_getLsbD_eq; intro i hi; unfold nearB; rw [bitsOf_bit _ hi, hnear]
    subst hnb
    repeat refine AW.seq ?_
    refine AW.exit ?_
    repeat refine AW.seq ?_
    refine AW.region ?_
    iterate 2 refine A1 rfl ?_
    refine RL.step (d := some 24) rfl rfl (xj_andNotV rfl rfl) ?_
    refine RL.step (d := some 25) rfl rfl (xj_call Tryz.call109 (size_spec _) rfl) ?_
    refine A1 rfl ?_
    repeat refine AW.seq ?_
    refine AW.ret ?_
    exact ⟨_, _, rfl, rfl, rfl⟩
/-- What the finder knows. -/
abbrev mapO (M : List (B64 × Nat)) : Ob := .mp (M.map fun p => setP p.1) (M.map fun p => .int .i64 (p.2 : Int))
def MemOk (G : List B64) (M : List (B64 × Nat)) : Prop := ∀ p ∈ M, p.2 = partV G p.1
abbrev finV (G : List B64) : V := .agg [.pv (psets G), .map big]
theorem keq_sets (x y : B64) : keq (setP x) (setP y) = some (decide (x = y)) := by
  simp only [keq, setP]
  show some (_ == _) = _
  rw [setP_beq]
theorem find_sets (c : B64) : ∀ (M : List (B64 × Nat)) (i : Nat), (∃ r, kfind (setP c) (M.map fun p => setP p.1) i = some r) ∧ (kfind (setP c) (M.map fun p => setP p.1) i = some none → ∀ p ∈ M, p.1 ≠ c) ∧ (∀ j, kfind (setP c) (M.map fun p => setP p.1) i = some (some j) → i ≤ j ∧ ∃ w, M[j - i]? = some (c, w))
  | [], i => ⟨⟨none, rfl⟩, fun _ => by simp, fun j h => by simp [kfind] at h⟩
  | p :: M, i => by
    obtain ⟨h1, h2, h3⟩ := find_sets c M (i + 1)
    simp only [List.map_cons, kfind, keq_sets]
    by_cases e : c = p.1
    · rw [decide_eq_true e]
      refine ⟨⟨_, rfl⟩, fun h => by simp at h, fun j h => ?_⟩
      simp at h
      subst h
      exact ⟨Nat.le_refl _, p.2, by simp [e]⟩
    · rw [decide_eq_false e]
      refine ⟨h1, fun h q hq => ?_, fun j h => ?_⟩
      · rcases List.mem_cons.1 hq with rfl | hq
        · exact fun e' => e e'.symm
        · exact h2 h q hq
      · obtain ⟨h4, w, h5⟩ := h3 j h
        exact ⟨by omega, w, by rw [show j - i = (j - (i + 1)) + 1 by omega]; simpa using h5⟩
theorem look_sets {G : List B64} {M : List (B64 × Nat)} (hM : MemOk G M) (c : B64) : mlook (setP c) (M.map fun p => setP p.1) (M.map fun p => .int .i64 (p.2 : Int)) = some (if ∃ p ∈ M, p.1 = c then some (.int .i64 (partV G c)) else none) := by
  obtain ⟨⟨r, h1⟩, h2, h3⟩ := find_sets c M 0
  unfold mlook
  rw [h1]
  cases r with
  | none =>
    have := h2 h1
    rw [if_neg (fun ⟨p, hp, e⟩ => this p hp e)]
  | some j =>
    obtain ⟨_, w, h4⟩ := h3 j h1
    simp only [Nat.sub_zero] at h4
    have hm := List.mem_of_getElem? h4
    rw [if_pos ⟨_, hm, rfl⟩]
    have hw : w = partV G c := hM _ hm
    simp [h4, hw]
theorem put_sets {G : List B64} {M : List (B64 × Nat)} (hM : MemOk G M) (c : B64) : ∃ M', MemOk G M' ∧ mputK (setP c) (M.map fun p => setP p.1) = M'.map (fun p => setP p.1) ∧ mputV (setP c) (.int .i64 (partV G c : Nat)) (M.map fun p => setP p.1) (M.map fun p => .int .i64 (p.2 : Int)) = M'.map fun p => .int .i64 (p.2 : Int) := by
  obtain ⟨⟨r, h1⟩, _, _⟩ := find_sets c M 0
  unfold mputK mputV
  rw [h1]
  cases r with
  | none =>
    refine ⟨M ++ [(c, partV G c)], fun p hp => ?_, by simp, by simp⟩
    rcases List.mem_append.1 hp with h | h
    · exact hM p h
    · rw [List.mem_singleton.1 h]
  | some j =>
    refine ⟨M.set j (c, partV G c), fun p hp => ?_, by simp [List.map_set], by simp [List.map_set]⟩
    rcases List.mem_or_eq_of_mem_set hp with h | h
    · exact hM p h
    · rw [h]
theorem max_int (a b : Nat) : (if (b : Int) > (a : Int) then (b : Int) else (a : Int)) = ((max a b : Nat) : Int) := by split <;> omega
theorem min_int (a b : Nat) : (if (b : Int) < (a : Int) then (b : Int) else (a : Int)) = ((min a b : Nat) : Int) := by split <;> omega
def QW (G : List B64) (x : Nat) (v : V) (ob' : Nat → Option Ob) : Prop := ∃ M', MemOk G M' ∧ v = .pv (.int .i64 (x : Int)) ∧ ob' = lookO [(big, mapO M')]
def WidOk (P : Program) (f : FuncId) (G : List B64) (rest : B64) (x : Nat) : Prop := ∀ M, MemOk G M → FnO P f 1 0 [finV G, .pv (setP rest)] [(big, mapO M)] (QW G x)
theorem wid_step (G : List B64) (hG : GOk G) (rest : B64) (hr : InB G.length rest) (hp : ∀ d, Comp (adjG G) rest d → WidOk Tryz.prog 86 G d (partV G d)) : WidOk Tryz.prog 68 G rest (widV G rest) := by
  intro M hM
  refine FnO.of Tryz.func68 rfl Tryz.ntmps68 (by simp) fun m0 w0 F R0 => ?_
  have h12 := hG.n
  have hcs := comps_spec G h12 rest
  have hmem := fun d => mem_comps hG hr (d := d)
  have hwd : widV G rest = (compsN G rest G.length).1.foldl (fun z c => max z (partV G c)) 0 := rfl
  have hcl := comps_len G rest G.length
  generalize (compsN G rest G.length).1 = cs at *
  have hbd : ∀ d ∈ cs, partV G d ≤ 12 := fun d hd => Nat.le_trans (part_le hG _ d (Nat.le_refl _) (fun i hi => hr i (((hmem d).1 hd).sub i hi)) ((hmem d).1 hd).ne) h12
  repeat refine AW.seq ?_
  refine AW.region ?_
  iterate 2 refine A1 rfl ?_
  repeat refine AW.seq ?_
  refine AW.region ?_
  refine A1 rfl ?_
  repeat refine AW.seq ?_
  refine AW.region ?_
  iterate 3 refine A1 rfl ?_
  refine RL.step (d := some 11) rfl rfl (xj_call Tryz.call73 hcs rfl) ?_
  iterate 2 refine A1 rfl ?_
  repeat refine AW.seq ?_
  refine AW.block ?_
  repeat refine AW.seq ?_
  refine AW.loop (st := fun x_0 : Nat × Nat × List (B64 × Nat) => mkS [(2, .ptr 0 0), (5, .pv (.int .i64 x_0.2.1)), (11, .pv (psets cs)), (12, .pv (.int .i64 cs.length)), (13, .pv (.int .i64 x_0.1))] [(big, mapO x_0.2.2), (0, .mix 100 [.pv (psets G), .map big])] 1)
    (I := fun x_0 => x_0.1 ≤ cs.length ∧ x_0.2.1 = (cs.take x_0.1).foldl (fun z c => max z (partV G c)) 0 ∧ MemOk G x_0.2.2) (μ := fun x_0 => cs.length - x_0.1) (x0 := (0, 0, M)) (St.le_mk ⟨rfl, rfl, rfl, rfl, rfl, trivial⟩ ⟨rfl, rfl, trivial⟩ rfl rfl) (⟨Nat.zero_le _, rfl, hM⟩) ?_
  rintro ⟨k, m, M2⟩ ⟨hk, hm, hM2⟩
  try simp only at hk hm hM2 ⊢
  repeat refine AW.seq ?_
  refine AW.region ?_
  refine A1 rfl ?_
  repeat refine AW.seq ?_
  refine AW.condP rfl (fun hc14 => ?_) (fun hc14 => ?_)
  · have hlt : k < cs.length := by omega
    have hv := psets_at hlt
    have hne := psets_ne hlt
    have hpk := hp cs[k] ((hmem _).1 (List.getElem_mem hlt)) M2 hM2
    have hfd : (cs.take (k + 1)).foldl (fun z c => max z (partV G c)) 0 = max m (partV G cs[k]) := by rw [take_snoc hlt, List.foldl_append, ← hm]; rfl
    refine AW.skip ?_
    repeat refine AW.seq ?_
    refine AW.block ?_
    repeat refine AW.seq ?_
    refine AW.region ?_
    refine A1 rfl ?_
    first | refine A2 rfl (by assumption) ?_ | refine A1 rfl ?_
    refine A1 rfl ?_
    repeat refine AW.seq ?_
    refine AW.region ?_
    iterate 3 refine A1 rfl ?_
    refine RL.call rfl (oj_callF1 [big] 0 Tryz.call86 hpk rfl rfl rfl rfl ⟨rfl, trivial⟩ (by decide) rfl ?_)
    rintro _ _ ⟨M3, hM3, rfl, rfl⟩
    iterate 2 refine A1 rfl ?_
    repeat refine AW.seq ?_
    refine AW.region ?_
    iterate 2 refine A1 rfl ?_
    exact ⟨(k + 1, max m (partV G cs[k]), M3), St.le_mk ⟨rfl, congrArg (fun z => V.pv (.int .i64 z)) (max_int _ _), rfl, rfl, rfl, trivial⟩ ⟨rfl, rfl, trivial⟩ rfl rfl, ⟨by simp only; omega, hfd.symm, hM3⟩, by simp only; omega⟩
  · rw [List.take_of_length_le (by omega), ← hwd] at hm
    subst hm
    repeat refine AW.seq ?_
    refine AW.exit ?_
    repeat refine AW.seq ?_
    refine AW.region ?_
    iterate 2 refine A1 rfl ?_
    repeat refine AW.seq ?_
    refine AW.ret ?_
    exact ⟨[(4, .pv (.int .i64 (widV G rest : Nat)))], [(big, mapO M2)], [.pv (.int .i64 (widV G rest : Nat))], St.le_mk ⟨rfl, trivial⟩ ⟨rfl, trivial⟩ rfl rfl, rfl, rfl, rfl, M2, hM2, rfl, rfl⟩
theorem par_step (G : List B64) (hG : GOk G) (c : B64) (hc : InB G.length c) (hne : ∃ i, c.getLsbD i = true) (hw : ∀ a, a < G.length → c.getLsbD a = true → WidOk Tryz.prog 68 G (c &&& ~~~(BitVec.twoPow 64 a)) (widV G (c &&& ~~~(BitVec.twoPow 64 a)))) : WidOk Tryz.prog 86 G c (partV G c) := by
  intro M hM
  refine FnO.of Tryz.func86 rfl Tryz.ntmps86 (by simp) fun m0 w0 F R0 => ?_
  have h12 := hG.n
  have hlk := look_sets hM c
  have hpe := part_eq hG hc hne
  have hmb : ∀ k, minW (widV G) G c k ≤ G.length + 1 := fun k => minW_le.2 (.inl (Nat.le_refl _))
  have hkb : keyN G c ≤ 64 := pop_le _
  repeat refine AW.seq ?_
  refine AW.region ?_
  iterate 2 refine A1 rfl ?_
  by_cases hm : ∃ p ∈ M, p.1 = c
  · rw [if_pos hm] at hlk
    repeat refine AW.seq ?_
    refine AW.region ?_
    iterate 3 refine A1 rfl ?_
    refine RL.step (d := some 13) rfl rfl (xj_lookup (zp := .int .i64 0) Tryz.underlying98 Tryz.underlying101 (.inl ⟨big, rfl, rfl⟩) rfl rfl zero3 rfl hlk rfl rfl) ?_
    iterate 5 refine A1 rfl ?_
    repeat refine AW.seq ?_
    refine AW.region ?_
    refine A1 rfl ?_
    repeat refine AW.seq ?_
    refine AW.cond rfl (fun hc16 => ?_) (fun hc16 => absurd hc16 (by simp))
    repeat refine AW.seq ?_
    refine AW.region ?_
    iterate 2 refine A1 rfl ?_
    repeat refine AW.seq ?_
    refine AW.ret ?_
    exact ⟨[(4, .pv (.int .i64 (partV G c : Nat)))], [(big, mapO M)], [.pv (.int .i64 (partV G c : Nat))], St.le_mk ⟨rfl, trivial⟩ ⟨rfl, trivial⟩ rfl rfl, rfl, rfl, rfl, M, hM, rfl, rfl⟩
  · rw [if_neg hm] at hlk
    repeat refine AW.seq ?_
    refine AW.region ?_
    iterate 3 refine A1 rfl ?_
    refine RL.step (d := some 13) rfl rfl (xj_lookup (zp := .int .i64 0) Tryz.underlying98 Tryz.underlying101 (.inl ⟨big, rfl, rfl⟩) rfl rfl zero3 rfl hlk rfl rfl) ?_
    iterate 5 refine A1 rfl ?_
    repeat refine AW.seq ?_
    refine AW.region ?_
    refine A1 rfl ?_
    repeat refine AW.seq ?_
    refine AW.cond rfl (fun hc16 => absurd hc16 (by simp)) (fun hc16 => ?_)
    refine AW.skip ?_
    repeat refine AW.seq ?_
    refine AW.region ?_
    iterate 5 refine A1 rfl ?_
    repeat refine AW.seq ?_
    refine AW.region ?_
    iterate 4 refine A1 rfl ?_
    repeat refine AW.seq ?_
    refine AW.block ?_
    repeat refine AW.seq ?_
    refine AW.loop (st := fun x_0 : Nat × List (B64 × Nat) => mkS [(1, .pv (setP c)), (2, .ptr 0 0), (7, .pv (.int .i64 (minW (widV G) G c x_0.1 : Nat))), (24, .pv (.int .i64 G.length)), (25, .pv (.int .i64 x_0.1))] [(big, mapO x_0.2), (0, .mix 100 [.pv (psets G), .map big])] 1)
      (I := fun x_0 => x_0.1 ≤ G.length ∧ MemOk G x_0.2) (μ := fun x_0 => G.length - x_0.1) (x0 := (0, M)) (St.le_mk ⟨rfl, rfl, rfl, rfl, rfl, trivial⟩ ⟨rfl, rfl, trivial⟩ rfl rfl) (⟨Nat.zero_le _, hM⟩) ?_
    rintro ⟨k, M2⟩ ⟨hk, hM2⟩
    try simp only at hk hM2 ⊢
    repeat refine AW.seq ?_
    refine AW.region ?_
    refine A1 rfl ?_
    repeat refine AW.seq ?_
    refine AW.condP rfl (fun hc26 => ?_) (fun hc26 => ?_)
    · have hlt : k < G.length := by omega
      have hms := minW_succ (widV G) G c k
      refine AW.skip ?_
      repeat refine AW.seq ?_
      refine AW.block ?_
      repeat refine AW.seq ?_
      refine AW.region ?_
      iterate 2 refine A1 rfl ?_
      repeat refine AW.seq ?_
      refine AW.region ?_
      iterate 2 refine A1 rfl ?_
      refine RL.step (d := some 30) rfl rfl (xj_call Tryz.call69 (has_sp c k (by omega)) rfl) ?_
      repeat refine AW.seq ?_
      refine AW.cond rfl (fun hc30 => ?_) (fun hc30 => ?_)
      · rw [if_pos hc30] at hms
        have hwk := hw k hlt hc30 M2 hM2
        repeat refine AW.seq ?_
        refine AW.draw follows [[], [], [], [], [3], [4, 2, 3], [5, 1, 4, 2, 3], [6, 0, 5, 1, 4, 2, 3], [7, 6, 0, 5, 1, 4, 2, 3]] [0, 1, 2, 3, 4, 5, 6, 7, 8] (by kernel_rfl) (by kernel_rfl) ?_
        iterate 4 refine D1 rfl rfl ?_
        refine DL.step (d := some 35) [] rfl rfl rfl (fun τ h => xj_call Tryz.call71 (of_spec k (by omega)) (h.argsP rfl)) rfl (by kernel_rfl) ?_
        refine DL.step (d := some 36) [] rfl rfl rfl (fun τ h => xj_andNotV ((h.e 0 _ rfl).trans rfl) ((h.e 1 _ rfl).trans rfl)) rfl (by kernel_rfl) ?_
        refine DL.rel (RO [big] 0 0 (QW G (widV G (c &&& ~~~(BitVec.twoPow 64 k))))) [big] [] [big] rfl rfl rfl (fun τ h => relO [big] 0 Tryz.call68 hwk (h.args.trans rfl) rfl rfl rfl ⟨(h.o 0 _ rfl).trans rfl, trivial⟩ (by decide) rfl) rfl (by kernel_rfl) (by kernel_rfl) (by kernel_rfl) ?_
        rintro _ ⟨_, _, ⟨M3, hM3, rfl, rfl⟩, rfl⟩ _ _
        iterate 2 refine D1 rfl rfl ?_
        refine ⟨by kernel_rfl, ?_⟩
        repeat refine AW.seq ?_
        refine AW.region ?_
        iterate 2 refine A1 rfl ?_
        exact ⟨(k + 1, M3), St.le_mk ⟨rfl, rfl, congrArg (fun z => V.pv (.int .i64 z)) ((min_int _ _).trans (by rw [hms])), rfl, rfl, trivial⟩ ⟨rfl, rfl, trivial⟩ rfl rfl, ⟨by simp only; omega, hM3⟩, by simp only; omega⟩
      · rw [if_neg (by rw [hc30]; decide)] at hms
        refine AW.skip ?_
        repeat refine AW.seq ?_
        refine AW.region ?_
        iterate 2 refine A1 rfl ?_
        exact ⟨(k + 1, M2), St.le_mk ⟨rfl, rfl, by simp only [hms]; rfl, rfl, rfl, trivial⟩ ⟨rfl, rfl, trivial⟩ rfl rfl, ⟨by simp only; omega, hM2⟩, by simp only; omega⟩
    · have hkG : k = G.length := by omega
      subst hkG
      obtain ⟨M4, hM4, hpk, hpv⟩ := put_sets hM2 c
      obtain ⟨⟨r, hkf⟩, _, _⟩ := find_sets c M2 0
      have hmk := hmb G.length
      repeat refine AW.seq ?_
      refine AW.exit ?_
      repeat refine AW.seq ?_
      refine AW.region ?_
      iterate 4 refine A1 rfl ?_
      refine RL.step (d := some 44) rfl rfl (xj_call Tryz.call96 (gkey_spec G hG c) rfl) ?_
      refine A1 rfl ?_
      refine RL.step (d := some 46) rfl rfl (XJ.cast (v' := .pv (.int .i64 (partV G c : Nat))) (xj_max rfl rfl) (congrArg (fun z => V.pv (.int .i64 z)) ((max_int _ (keyN G c + 1)).trans (by rw [hpe])))) ?_
      refine A1 rfl ?_
      repeat refine AW.seq ?_
      refine AW.region ?_
      iterate 4 refine A1 rfl ?_
      refine RL.step (d := none) rfl rfl (xj_mapUpdate Tryz.underlying98 Tryz.underlying101 rfl rfl rfl rfl rfl hkf hpk hpv) ?_
      repeat refine AW.seq ?_
      refine AW.region ?_
      iterate 2 refine A1 rfl ?_
      repeat refine AW.seq ?_
      refine AW.ret ?_
      exact ⟨[(4, .pv (.int .i64 (partV G c : Nat)))], [(big, mapO M4)], [.pv (.int .i64 (partV G c : Nat))], St.le_mk ⟨rfl, trivial⟩ ⟨rfl, trivial⟩ rfl rfl, rfl, rfl, rfl, M4, hM4, rfl, rfl⟩
theorem wid_all (G : List B64) (hG : GOk G) : ∀ (k : Nat) (rest : B64), popB rest ≤ k → InB G.length rest → WidOk Tryz.prog 68 G rest (widV G rest)
  | 0, rest, h, hr => wid_step G hG rest hr fun d hd => by
    obtain ⟨i, hi⟩ := hd.ne
    have := pop_pos (hd.sub i hi)
    omega
  | k + 1, rest, h, hr => wid_step G hG rest hr fun d hd => par_step G hG d (fun i hi => hr i (hd.sub i hi)) hd.ne fun a ha hda => wid_all G hG k _ (by
    have h1 := pop_diff hda
    have h2 := pop_mono hd.sub
    omega) (InB.diff (fun i hi => hr i (hd.sub i hi)) a)
end Go.Proofs.YtkalgjnhaicabaaGreat
namespace Go.Proofs.YtkalgjnhaicabaaGreat
open Go.RowKit Mk
set_option maxRecDepth 100000
set_option maxHeartbeats 4000000
theorem gok_of {S : Sch} {G : List B64} (hV : Valid S) (h : IsG S G) : GOk G := by
  have h1 : G = gr S := isG_eq hV h
  subst h1
  have h2 := hV.n2
  have e := adjG_eq hV
  exact ⟨by rw [gr_len]; omega, by rw [e]; exact adjS_symm S, by rw [e, gr_len]; intro a b h; have := (link_lt hV h.2).2; omega⟩
theorem all_in (n : Nat) (hn : n ≤ 63) : InB n (allB n) := fun i hi => by rw [allB_bit (by omega), decide_eq_true_iff] at hi; exact hi
/-- What the loop of Least keeps. -/
structure LInv (G : List B64) (most : Nat) (L : List Int) (rest : B64) : Prop where
  inb : InB G.length rest
  wid : widV G rest ≤ most
  len : L.length + popB rest = G.length
  lst : L ++ leastF G most (popB rest) rest = leastL G
  nd : L.Nodup
  mem : ∀ x ∈ L, ∃ a : Nat, a < G.length ∧ x = (a : Int) ∧ rest.getLsbD a = false
  cov : ∀ a, a < G.length → (a : Int) ∈ L ∨ rest.getLsbD a = true
theorem LInv.first {G : List B64} (hG : GOk G) : LInv G (widV G (allB G.length)) [] (allB G.length) := by
  have h12 := hG.n
  have hp := pop_all (n := G.length) (by omega)
  exact ⟨all_in _ (by omega), Nat.le_refl _, by simp [hp], by rw [hp]; rfl, by simp, by simp, fun a ha => .inr (by rw [allB_bit (by omega)]; simpa using ha)⟩
theorem LInv.next {G : List B64} (hG : GOk G) {most : Nat} {L : List Int} {rest : B64} (h : LInv G most L rest) {k : Nat} (hk : k < G.length) (hno : ∀ b, b < k → ¬ (rest.getLsbD b = true ∧ widV G (compB G rest b &&& ~~~(BitVec.twoPow 64 b)) ≤ most))
    (h1 : rest.getLsbD k = true) (h2 : widV G (compB G rest k &&& ~~~(BitVec.twoPow 64 k)) ≤ most) : LInv G most (L ++ [(k : Int)]) (rest &&& ~~~(BitVec.twoPow 64 k)) := by
  have hp := pop_diff h1
  have hfind : (List.range G.length).find? (fun a => rest.getLsbD a && decide (widV G (compB G rest a &&& ~~~(BitVec.twoPow 64 a)) ≤ most)) = some k := by
    rw [List.find?_range_eq_some]
    refine ⟨by rw [h1]; simpa using h2, by simpa using hk, fun j hj => ?_⟩
    have := hno j hj
    cases e : rest.getLsbD j with
    | false => rfl
    | true => simp; exact Nat.lt_of_not_le fun h => this ⟨e, h⟩
  refine ⟨h.inb.diff k, next_le hG h.inb h1 h.wid h2, by have := h.len; simp; omega, ?_, ?_, fun x hx => ?_, fun a ha => ?_⟩
  · rw [← h.lst, ← hp]
    simp only [leastF, hfind, List.append_assoc, List.singleton_append]
  · rw [List.nodup_append]
    refine ⟨h.nd, by simp, fun x hx y hy e => ?_⟩
    rw [List.mem_singleton] at hy
    subst hy e
    obtain ⟨a, _, e, hr⟩ := h.mem _ hx
    have : k = a := by omega
    subst this
    rw [h1] at hr
    cases hr
  · rcases List.mem_append.1 hx with hx | hx
    · obtain ⟨a, ha, e, hr⟩ := h.mem x hx
      exact ⟨a, ha, e, by rw [diff_bit, hr]; rfl⟩
    · exact ⟨k, hk, List.mem_singleton.1 hx, by rw [diff_bit]; simp⟩
  · rcases h.cov a ha with h3 | h3
    · exact .inl (List.mem_append_left _ h3)
    · by_cases e : a = k
      · subst e; exact .inl (by simp)
      · exact .inr (by rw [diff_bit, h3]; simpa using fun e' => e e'.symm)
theorem LInv.last {G : List B64} {most : Nat} {L : List Int} (h : LInv G most L 0#64) : L = leastL G ∧ L.Perm (upZ G.length) := by
  have h0 : popB 0#64 = 0 := by unfold popB; simp
  have h1 := h.lst
  rw [h0] at h1
  simp only [leastF, List.append_nil] at h1
  refine ⟨h1, nodup_perm h.nd (upZ_nodup _) fun x => ?_⟩
  rw [upZ_mem]
  constructor
  · intro hx
    obtain ⟨a, ha, e, _⟩ := h.mem x hx
    exact ⟨a, ha, e⟩
  · rintro ⟨a, ha, rfl⟩
    rcases h.cov a ha with h2 | h2
    · exact h2
    · simp at h2
theorem ouLeast_spec (S : Sch) (hS : SB S) (hV : Valid S) : FnP Tryz.prog 43 [schP S] (fun v => ∃ G, IsG S G ∧ v = pints (leastL G) ∧ (leastL G).Perm (upZ G.length)) := by
  refine FnP.of Tryz.func43 rfl Tryz.ntmps43 (by simp) fun m0 w0 F R0 => ?_
  have hn12 := hV.n2
  repeat refine AW.seq ?_
  refine AW.region ?_
  iterate 2 refine A1 rfl ?_
  repeat refine AW.seq ?_
  refine AW.region ?_
  refine A1 rfl ?_
  refine RL.call rfl (oj_call Tryz.call66 (ounew_spec S hS hV) rfl ?_)
  rintro _ ⟨G, rfl, hIG⟩
  have hGl := hIG.len
  have hG := gok_of hV hIG
  have hw0 := wid_all G hG 64 (allB G.length) (pop_le _) (all_in _ (by omega)) [] (by intro p hp; cases hp)
  refine RL.step (d := some 10) rfl rfl (xj_makeMap 1 rfl) ?_
  iterate 3 refine A1 rfl ?_
  repeat refine AW.seq ?_
  refine AW.region ?_
  iterate 2 refine A1 rfl ?_
  refine RL.step (d := some 14) rfl rfl (xj_call Tryz.call67 (allB_spec G (by omega)) rfl) ?_
  refine A1 rfl ?_
  repeat refine AW.seq ?_
  refine AW.region ?_
  iterate 2 refine A1 rfl ?_
  refine RL.call rfl (oj_callF1 [1] 3 Tryz.call68 hw0 rfl rfl rfl rfl ⟨rfl, trivial⟩ (by decide) rfl ?_)
  rintro _ _ ⟨M0, hM0, rfl, rfl⟩
  refine A1 rfl ?_
  repeat refine AW.seq ?_
  refine AW.region ?_
  refine A1 rfl ?_
  refine AW.weaken (St.le_gro 6 3 1 3 rfl rfl) ?_
  repeat refine AW.seq ?_
  refine AW.block ?_
  repeat refine AW.seq ?_
  refine AW.loop (st := fun x_0 : List Int × B64 × List (B64 × Nat) => mkS [(3, .ptr 2 0), (4, .pv (setP x_0.2.1)), (5, .pv (.int .i64 (widV G (allB G.length) : Nat))), (6, .gsl 3 1 x_0.1.length)] [(1, mapO x_0.2.2), (2, .mix 100 [.pv (psets G), .map 1]), (3, .gro 3 (intsP x_0.1))] 4)
    (I := fun x_0 => LInv G (widV G (allB G.length)) x_0.1 x_0.2.1 ∧ MemOk G x_0.2.2) (μ := fun x_0 => popB x_0.2.1) (x0 := ([], allB G.length, M0)) (St.le_mk ⟨rfl, rfl, rfl, rfl, trivial⟩ ⟨rfl, rfl, rfl, trivial⟩ rfl rfl) (⟨LInv.first hG, hM0⟩) ?_
  rintro ⟨L, rest, M1⟩ ⟨hI, hM1⟩
  try simp only at hI hM1 ⊢
  repeat refine AW.seq ?_
  refine AW.region ?_
  refine A1 rfl ?_
  refine RL.step (d := some 19) rfl rfl (xj_neqV (Y := 0#64) rfl rfl) ?_
  repeat refine AW.seq ?_
  refine AW.condP rfl (fun hc19 => ?_) (fun hc19 => ?_)
  · obtain ⟨a0, ha0, hra0, hwa0⟩ := next_ex hG hI.inb (ne_bit hc19) hI.wid
    have hLl := hI.len
    have hsl : (intsP L).length = L.length * 1 := by simp
    refine AW.skip ?_
    repeat refine AW.seq ?_
    refine AW.block ?_
    repeat refine AW.seq ?_
    refine AW.region ?_
    iterate 4 refine A1 rfl ?_
    repeat refine AW.seq ?_
    refine AW.block ?_
    repeat refine AW.seq ?_
    refine AW.loop (st := fun x_1 : Nat × List (B64 × Nat) => mkS [(3, .ptr 2 0), (4, .pv (setP rest)), (5, .pv (.int .i64 (widV G (allB G.length) : Nat))), (6, .gsl 3 1 L.length), (22, .pv (.int .i64 G.length)), (23, .pv (.int .i64 x_1.1))] [(1, mapO x_1.2), (2, .mix 100 [.pv (psets G), .map 1]), (3, .gro 3 (intsP L))] 4)
      (I := fun x_1 => x_1.1 ≤ a0 ∧ MemOk G x_1.2 ∧ ∀ b, b < x_1.1 → ¬ (rest.getLsbD b = true ∧ widV G (compB G rest b &&& ~~~(BitVec.twoPow 64 b)) ≤ widV G (allB G.length))) (μ := fun x_1 => G.length - x_1.1) (x0 := (0, M1)) (St.le_mk ⟨rfl, rfl, rfl, rfl, rfl, rfl, trivial⟩ ⟨rfl, rfl, rfl, trivial⟩ rfl rfl) (⟨Nat.zero_le _, hM1, fun b hb => absurd hb (Nat.not_lt_zero _)⟩) ?_
    rintro ⟨k, M2⟩ ⟨hk, hM2, hno⟩
    try simp only at hk hM2 hno ⊢
    repeat refine AW.seq ?_
    refine AW.region ?_
    refine A1 rfl ?_
    repeat refine AW.seq ?_
    refine AW.condP rfl (fun hc24 => ?_) (fun hc24 => absurd hc24 (by omega))
    have hlt : k < G.length := by omega
    have hhas := has_sp rest k (by omega)
    have hof := of_spec k (by omega)
    have hcs := comp_spec G (by omega) rest k (by omega)
    refine AW.skip ?_
    repeat refine AW.seq ?_
    refine AW.block ?_
    repeat refine AW.seq ?_
    refine AW.region ?_
    iterate 2 refine A1 rfl ?_
    by_cases hb : rest.getLsbD k = true
    · rw [hb] at hhas
      have hcomp := comp_of hG rest hb
      have hin : InB G.length (compB G rest k &&& ~~~(BitVec.twoPow 64 k)) := InB.diff (fun i hi => hI.inb i (hcomp.1.sub i hi)) k
      have hwk := wid_all G hG 64 _ (pop_le _) hin M2 hM2
      have hnx := fun h2 => hI.next hG hlt hno hb h2
      repeat refine AW.seq ?_
      refine AW.draw follows [[], [], [1, 0], [2, 1, 0], [3, 2, 1, 0], [3, 2, 1, 0], [5, 3, 2, 1, 0], [3, 2, 1, 0], [3, 2, 1, 0], [8, 7, 6, 5, 3, 2, 1, 0], [3, 2, 1, 0], [9, 10, 3, 2, 1, 0, 8, 7, 6, 5], [11, 9, 8, 7, 6, 5, 3, 2, 1, 0, 10], [12, 4, 3, 2, 1, 0, 11, 9, 8, 7, 6, 5, 10], [3, 2, 1, 0], [14, 13, 12, 4, 3, 2, 1, 0, 11, 9, 8, 7, 6, 5, 10], [15, 3, 2, 1, 0, 14, 13, 12, 4, 11, 9, 8, 7, 6, 5, 10]] [0, 1, 2, 3, 4, 5, 6, 7, 8, 9, 10, 11, 12, 14, 13, 15, 16] (by kernel_rfl) (by kernel_rfl) ?_
      iterate 2 refine D1 rfl rfl ?_
      refine DL.step (d := some 28) [] rfl rfl rfl (fun τ h => xj_call Tryz.call69 hhas (h.argsP rfl)) rfl (by kernel_rfl) ?_
      iterate 6 refine D1 rfl rfl ?_
      refine DL.stepG (d := some 35) [] rfl rfl rfl rfl (fun τ h => xj_call Tryz.call70 hcs (h.argsP rfl)) rfl (by kernel_rfl) ?_
      refine D1 rfl rfl ?_
      refine DL.stepG (d := some 37) [] rfl rfl rfl rfl (fun τ h => xj_call Tryz.call71 hof (h.argsP rfl)) rfl (by kernel_rfl) ?_
      refine DL.stepG (d := some 38) [] rfl rfl rfl rfl (fun τ h => xj_andNotV ((h.e 0 _ rfl).trans rfl) ((h.e 1 _ rfl).trans rfl)) rfl (by kernel_rfl) ?_
      refine D1 rfl rfl ?_
      refine DL.relG (RO [1] 4 0 (QW G (widV G (compB G rest k &&& ~~~(BitVec.twoPow 64 k))))) [1] [] [1] rfl rfl rfl rfl (fun τ h => relO [1] 4 Tryz.call68 hwk (h.args.trans rfl) rfl rfl rfl ⟨(h.o 0 _ rfl).trans rfl, trivial⟩ (by decide) rfl) rfl (by kernel_rfl) (by kernel_rfl) (by kernel_rfl) ?_
      rintro _ ⟨_, _, ⟨M3, hM3, rfl, rfl⟩, rfl⟩ _ _
      iterate 2 refine D1 rfl rfl ?_
      refine ⟨by kernel_rfl, ?_⟩
      repeat refine AW.seq ?_
      refine AW.condP rfl (fun hc42 => ?_) (fun hc42 => ?_)
      · repeat refine AW.seq ?_
        refine AW.region ?_
        iterate 5 refine A1 rfl ?_
        repeat refine AW.seq ?_
        refine AW.region ?_
        iterate 2 refine A1 rfl ?_
        refine RL.step (d := some 49) rfl rfl (xj_call Tryz.call71 hof rfl) ?_
        refine RL.step (d := some 50) rfl rfl (xj_andNotV rfl rfl) ?_
        refine A1 rfl ?_
        repeat refine AW.seq ?_
        refine AW.exit ?_
        exact ⟨(L ++ [(k : Int)], rest &&& ~~~(BitVec.twoPow 64 k), M3), St.le_mkR [0, 1, 2, 5] ⟨rfl, rfl, rfl, by simp only [List.length_append, List.length_singleton]; rfl, trivial⟩ ⟨Eq.trans (b := some (mapO M3)) rfl rfl, rfl, congrArg (fun c => some (Ob.gro 3 c)) (ints_snoc L k).symm, trivial⟩ rfl rfl (by decide) rfl, ⟨hnx (by omega), hM3⟩, by have := pop_diff hb; simp only; omega⟩
      · refine AW.skip ?_
        repeat refine AW.seq ?_
        refine AW.region ?_
        iterate 2 refine A1 rfl ?_
        exact ⟨(k + 1, M3), St.le_mk ⟨rfl, rfl, rfl, rfl, rfl, rfl, trivial⟩ ⟨rfl, rfl, rfl, trivial⟩ rfl rfl, ⟨by simp only; by_cases e : k = a0; subst e; exact absurd hwa0 (by omega); omega, hM3, fun b hb2 => by rcases Nat.lt_succ_iff_lt_or_eq.1 hb2 with h1 | rfl; exact hno b h1; exact fun h => by have := h.2; omega⟩, by simp only; omega⟩
    · have hb' : rest.getLsbD k = false := by simpa using hb
      rw [hb'] at hhas
      repeat refine AW.seq ?_
      refine AW.draw follows [[], [], [1, 0], [2, 1, 0], [3, 2, 1, 0], [3, 2, 1, 0], [5, 3, 2, 1, 0], [3, 2, 1, 0], [3, 2, 1, 0], [8, 7, 6, 5, 3, 2, 1, 0], [3, 2, 1, 0], [9, 10, 3, 2, 1, 0, 8, 7, 6, 5], [11, 9, 8, 7, 6, 5, 3, 2, 1, 0, 10], [12, 4, 3, 2, 1, 0, 11, 9, 8, 7, 6, 5, 10], [3, 2, 1, 0], [14, 13, 12, 4, 3, 2, 1, 0, 11, 9, 8, 7, 6, 5, 10], [15, 3, 2, 1, 0, 14, 13, 12, 4, 11, 9, 8, 7, 6, 5, 10]] [0, 1, 2, 3, 4, 5, 6, 7, 8, 9, 10, 11, 12, 13, 14, 15, 16] (by kernel_rfl) (by kernel_rfl) ?_
      iterate 2 refine D1 rfl rfl ?_
      refine DL.step (d := some 28) [] rfl rfl rfl (fun τ h => xj_call Tryz.call69 hhas (h.argsP rfl)) rfl (by kernel_rfl) ?_
      iterate 14 refine D1 rfl rfl ?_
      refine ⟨by kernel_rfl, ?_⟩
      repeat refine AW.seq ?_
      refine AW.cond rfl (fun hc42 => absurd hc42 (by decide)) (fun hc42 => ?_)
      refine AW.skip ?_
      repeat refine AW.seq ?_
      refine AW.region ?_
      iterate 2 refine A1 rfl ?_
      exact ⟨(k + 1, M2), St.le_mk ⟨rfl, rfl, rfl, rfl, rfl, rfl, trivial⟩ ⟨rfl, rfl, rfl, trivial⟩ rfl rfl, ⟨by simp only; by_cases e : k = a0; subst e; exact absurd hra0 hb; omega, hM2, fun b hb2 => by rcases Nat.lt_succ_iff_lt_or_eq.1 hb2 with h1 | rfl; exact hno b h1; exact fun h => hb h.1⟩, by simp only; omega⟩
  · have hz : rest = 0#64 := Classical.byContradiction hc19
    subst hz
    obtain ⟨hLe, hperm⟩ := hI.last
    repeat refine AW.seq ?_
    refine AW.exit ?_
    refine AW.weaken (St.le_pubA 3 rfl rfl) ?_
    repeat refine AW.seq ?_
    refine AW.region ?_
    iterate 2 refine A1 rfl ?_
    repeat refine AW.seq ?_
    refine AW.ret ?_
    exact ⟨_, _, rfl, rfl, G, hIG, by rw [← hLe]; rfl, by rw [← hLe]; exact hperm⟩
/-- The least permutation of a schema. -/
noncomputable def lstL (S : Sch) : List Int := leastL (gr S)
theorem ouLeast_sp (S : Sch) (hS : SB S) (hV : Valid S) : (lstL S).Perm (upZ S.attrs.length) ∧ FnP Tryz.prog 43 [schP S] (· = pints (lstL S)) := by
  have h := ouLeast_spec S hS hV
  have key : ∀ {v : PV}, (∃ G, IsG S G ∧ v = pints (leastL G) ∧ (leastL G).Perm (upZ G.length)) → v = pints (lstL S) ∧ (lstL S).Perm (upZ S.attrs.length) := fun {v} ⟨G, hG, e, hp⟩ => by
    have := isG_eq hV hG
    subst this
    rw [gr_len] at hp
    exact ⟨e, hp⟩
  refine ⟨?_, h.mono fun v hv => (key hv).1⟩
  have hG : IsG S (gr S) := ⟨gr_len S, fun a ha b => gr_bit hV (by rwa [gr_len] at ha) b⟩
  have hI : LInv (gr S) (widV (gr S) (allB (gr S).length)) [] (allB (gr S).length) := LInv.first (gok_of hV hG)
  have fin : ∀ (k : Nat) (L : List Int) (rest : B64), popB rest = k → LInv (gr S) (widV (gr S) (allB (gr S).length)) L rest → (leastL (gr S)).Perm (upZ (gr S).length) := by
    intro k
    induction k with
    | zero =>
      intro L rest hk hI
      have hz : rest = 0#64 := by apply BitVec.eq_of_getLsbD_eq; intro i _; rw [pop_zero hk i]; simp
      subst hz
      have := hI.last
      rw [← this.1]; exact this.2
    | succ k ih =>
      intro L rest hk hI
      have hne : ∃ i, rest.getLsbD i = true := Classical.byContradiction fun hn => by
        have : popB rest = 0 := by unfold popB; rw [List.countP_eq_zero]; intro i _ hi; exact hn ⟨i, hi⟩
        omega
      obtain ⟨a, ha, h1, h2⟩ := next_ex (gok_of hV hG) hI.inb hne hI.wid
      obtain ⟨b, hb⟩ : ∃ b, (List.range (gr S).length).find? (fun a => rest.getLsbD a && decide (widV (gr S) (compB (gr S) rest a &&& ~~~(BitVec.twoPow 64 a)) ≤ widV (gr S) (allB (gr S).length))) = some b := by
        cases hf : (List.range (gr S).length).find? (fun a => rest.getLsbD a && decide (widV (gr S) (compB (gr S) rest a &&& ~~~(BitVec.twoPow 64 a)) ≤ widV (gr S) (allB (gr S).length))) with
        | some b => exact ⟨b, rfl⟩
        | none =>
          have := List.find?_eq_none.1 hf a (List.mem_range.2 ha)
          simp [h1, h2] at this
      have hb2 := hb
      rw [List.find?_range_eq_some] at hb2
      obtain ⟨hb3, hb4, hb5⟩ := hb2
      rw [Bool.and_eq_true, decide_eq_true_iff] at hb3
      refine ih (L ++ [(b : Int)]) (rest &&& ~~~(BitVec.twoPow 64 b)) (by have := pop_diff hb3.1; omega) (hI.next (gok_of hV hG) (by simpa using hb4) (fun j hj h => ?_) hb3.1 hb3.2)
      have := hb5 j hj
      simp [h.1, h.2] at this
  have := fin _ [] _ rfl hI
  rw [gr_len] at this
  exact this
theorem oleast_spec (S : Sch) (hS : SB S) : FnP Tryz.prog 10 [schP S] (· = if checkE S = 0 then .tup [ordP (ordL S (lstL S)), pints (lstL S), .int .i64 0] else .tup [ordP [], pints [], .int .i64 (checkE S)]) := by
  refine FnP.fg2 (FnP.ofC Tryz.func10 rfl Tryz.ntmps10 (by simp) fun m0 w0 F R0 => ?_)
  repeat refine AW.seq ?_
  refine AW.region ?_
  iterate 4 refine A1 rfl ?_
  repeat refine AW.seq ?_
  refine AW.region ?_
  refine A1 rfl ?_
  refine RL.step (d := some 8) rfl rfl (xj_call Tryz.call42 (chk_spec S hS) rfl) ?_
  refine A1 rfl ?_
  repeat refine AW.seq ?_
  refine AW.region ?_
  iterate 2 refine A1 rfl ?_
  repeat refine AW.seq ?_
  refine AW.cond rfl (fun hc10 => ?_) (fun hc10 => ?_)
  · repeat refine AW.seq ?_
    refine AW.region ?_
    iterate 5 refine A1 rfl ?_
    repeat refine AW.seq ?_
    refine AW.ret ?_
    exact ⟨_, _, rfl, rfl, ⟨cellOk1 ⟨_, Tryz.underlying29, rfl⟩ sz29 rfl rfl rfl, trivial⟩, by rw [if_neg (inT hc10)]; rfl⟩
  · have h0 : checkE S = 0 := inF hc10
    have hV := valid_of h0
    obtain ⟨hperm, hls⟩ := ouLeast_sp S hS hV
    have hq : ∀ a ∈ lstL S, 0 ≤ a ∧ a < S.attrs.length := fun a ha => by obtain ⟨x, hx, e⟩ := upZ_mem.1 (hperm.mem_iff.1 ha); omega
    have hql : (lstL S).length ≤ 1000 := by rw [hperm.length_eq, upZ_len]; have := hV.n2; omega
    refine AW.skip ?_
    repeat refine AW.seq ?_
    refine AW.region ?_
    refine A1 rfl ?_
    refine RL.step (d := some 14) rfl rfl (xj_call Tryz.call43 hls rfl) ?_
    refine A1 rfl ?_
    repeat refine AW.seq ?_
    refine AW.region ?_
    iterate 2 refine A1 rfl ?_
    refine RL.step (d := some 17) rfl rfl (xj_call Tryz.call44 (ouOf_sp S hS hV (lstL S) hq hql) rfl) ?_
    iterate 4 refine A1 rfl ?_
    repeat refine AW.seq ?_
    refine AW.ret ?_
    exact ⟨_, _, rfl, rfl, ⟨cellOk1 ⟨_, Tryz.underlying29, rfl⟩ sz29 rfl rfl rfl, trivial⟩, by rw [if_pos h0]; rfl⟩
end Go.Proofs.YtkalgjnhaicabaaGreat
namespace Go.Proofs.YtkalgjnhaicabaaGreat
open Mk
set_option maxHeartbeats 1000000
theorem widN_le {S : Sch} {P : List Int} {m : Int} : ∀ {k : Nat}, widN S P k ≤ m ↔ 0 ≤ m ∧ ∀ a : Nat, a < k → ((keyL S P a).length : Int) ≤ m
  | 0 => by simp [widN]
  | k + 1 => by
    have ih := widN_le (S := S) (P := P) (m := m) (k := k)
    simp only [widN]
    constructor
    · intro h
      have h1 : widN S P k ≤ m ∧ ((keyL S P k).length : Int) ≤ m := by split at h <;> omega
      refine ⟨(ih.1 h1.1).1, fun a ha => ?_⟩
      by_cases e : a = k
      · subst e; exact h1.2
      · exact (ih.1 h1.1).2 a (by omega)
    · rintro ⟨h1, h2⟩
      have h3 := ih.2 ⟨h1, fun a ha => h2 a (by omega)⟩
      have h4 := h2 k (by omega)
      split <;> omega
theorem keyL_nodup {S : Sch} {P : List Int} (hP : UpOk P) {v : Nat} (hv : v < P.length) : (keyL S P v).Nodup := by
  unfold keyL
  rw [(sortI_perm _).nodup_iff]
  unfold keyU
  exact List.Pairwise.sublist List.filter_sublist (List.nodup_cons.1 (abvL_nodup hP v hv)).2
noncomputable def costN (G : List B64) (rest : B64) (a : Nat) : Nat := keyN G (compB G rest a) + 1
/-- Along l no variable has more than m attributes in its key and itself. -/
def goodW (G : List B64) (m : Nat) : List Int → B64 → Prop
  | [], _ => True
  | a :: l, rest => costN G rest a.toNat ≤ m ∧ goodW G m l (rest &&& ~~~(BitVec.twoPow 64 a.toNat))
/-- The list has just the attributes of the set. -/
structure Lists (l : List Int) (rest : B64) : Prop where
  nd : l.Nodup
  nn : ∀ x ∈ l, 0 ≤ x
  mem : ∀ i : Nat, rest.getLsbD i = true ↔ (i : Int) ∈ l
theorem Lists.tail {a : Int} {l : List Int} {rest : B64} (h : Lists (a :: l) rest) : Lists l (rest &&& ~~~(BitVec.twoPow 64 a.toNat)) := by
  obtain ⟨h1, h2⟩ := List.nodup_cons.1 h.nd
  refine ⟨h2, fun x hx => h.nn x (by simp [hx]), fun i => ?_⟩
  rw [diff_bit, Bool.and_eq_true, decide_eq_true_iff, h.mem, List.mem_cons]
  have := h.nn a (by simp)
  constructor
  · rintro ⟨h3 | h3, h4⟩
    · omega
    · exact h3
  · intro h3
    exact ⟨.inr h3, fun e => h1 (by have : a = (i : Int) := by omega
                                    rw [this]; exact h3)⟩
section
variable {G : List B64} (hG : GOk G)
include hG
theorem good_wid {m : Nat} : ∀ {l : List Int} {rest : B64}, InB G.length rest → Lists l rest → goodW G m l rest → widV G rest ≤ m
  | [], rest, hr, hl, _ => (wid_le hG hr).2 fun d hd => by
    obtain ⟨i, hi⟩ := hd.ne
    have := (hl.mem i).1 (hd.sub i hi)
    cases this
  | x :: l, rest, hr, hl, hg => by
    obtain ⟨a, rfl⟩ := Int.eq_ofNat_of_zero_le (hl.nn x (by simp))
    have ha : rest.getLsbD a = true := (hl.mem a).2 (by simp)
    have ih := good_wid (hr.diff a) hl.tail hg.2
    obtain ⟨hc, hca⟩ := comp_of hG rest ha
    have hcn : InB G.length (compB G rest a) := fun i hi => hr i (hc.sub i hi)
    have hcost : keyN G (compB G rest a) + 1 ≤ m := hg.1
    refine (wid_le hG hr).2 fun d hd => ?_
    cases hda : d.getLsbD a with
    | true =>
      rw [comp_eq hd hc hda hca, part_eq hG hcn hc.ne]
      have h1 : minW (widV G) G (compB G rest a) G.length ≤ m := minW_le.2 (.inr ⟨a, hr a ha, hca, (wid_le hG (hcn.diff a)).2 fun e he => (wid_le hG (hr.diff a)).1 ih e ((comp_split hG hc hca).2 (.inr he))⟩)
      omega
    | false => exact (wid_le hG (hr.diff a)).1 ih d ((comp_split hG hc hca).2 (.inl ⟨hd, hda⟩))
theorem least_step {m f : Nat} {rest : B64} (hr : InB G.length rest) (hp : popB rest = f + 1) (hw : widV G rest ≤ m) : ∃ b : Nat, leastF G m (f + 1) rest = (b : Int) :: leastF G m f (rest &&& ~~~(BitVec.twoPow 64 b)) ∧ rest.getLsbD b = true ∧ widV G (compB G rest b &&& ~~~(BitVec.twoPow 64 b)) ≤ m ∧
    ∀ j : Nat, j < b → ¬ (rest.getLsbD j = true ∧ widV G (compB G rest j &&& ~~~(BitVec.twoPow 64 j)) ≤ m) := by
  have hne : ∃ i, rest.getLsbD i = true := Classical.byContradiction fun hn => by
    have : popB rest = 0 := by unfold popB; rw [List.countP_eq_zero]; intro i _ hi; exact hn ⟨i, hi⟩
    omega
  obtain ⟨a, ha, h1, h2⟩ := next_ex hG hr hne hw
  simp only [leastF]
  cases hf : (List.range G.length).find? (fun a => rest.getLsbD a && decide (widV G (compB G rest a &&& ~~~(BitVec.twoPow 64 a)) ≤ m)) with
  | none =>
    have := List.find?_eq_none.1 hf a (List.mem_range.2 ha)
    simp [h1, h2] at this
  | some b =>
    rw [List.find?_range_eq_some] at hf
    obtain ⟨hb3, hb4, hb5⟩ := hf
    rw [Bool.and_eq_true, decide_eq_true_iff] at hb3
    refine ⟨b, rfl, hb3.1, hb3.2, fun j hj h => ?_⟩
    have := hb5 j hj
    simp [h.1, h.2] at this
theorem least_good {m : Nat} : ∀ {f : Nat} {rest : B64}, InB G.length rest → popB rest = f → widV G rest ≤ m → goodW G m (leastF G m f rest) rest
  | 0, _, _, _, _ => trivial
  | f + 1, rest, hr, hp, hw => by
    obtain ⟨b, e, hb, hwb, _⟩ := least_step hG hr hp hw
    rw [e]
    obtain ⟨hc, hcb⟩ := comp_of hG rest hb
    have hcn : InB G.length (compB G rest b) := fun i hi => hr i (hc.sub i hi)
    have hpc := (wid_le hG hr).1 hw _ hc
    rw [part_eq hG hcn hc.ne] at hpc
    refine ⟨?_, least_good (hr.diff b) ?_ (next_le hG hr hb hw hwb)⟩
    · show keyN G (compB G rest b) + 1 ≤ m
      omega
    · have := pop_diff hb
      show popB (rest &&& ~~~(BitVec.twoPow 64 b)) = f
      omega
end
/-- What 'lesser' says of lists of one length. -/
def lessB : List Int → List Int → Bool
  | a :: l, b :: p => if a = b then lessB l p else decide (a < b)
  | _, _ => false
theorem least_less {G : List B64} (hG : GOk G) {m : Nat} : ∀ {l : List Int} {f : Nat} {rest : B64}, InB G.length rest → popB rest = f → Lists l rest → goodW G m l rest → lessB l (leastF G m f rest) = false
  | [], _, _, _, _, _, _ => by simp [lessB]
  | x :: l, 0, rest, _, hp, hl, _ => by
    obtain ⟨a, rfl⟩ := Int.eq_ofNat_of_zero_le (hl.nn x (by simp))
    have := pop_pos ((hl.mem a).2 (by simp))
    omega
  | x :: l, f + 1, rest, hr, hp, hl, hg => by
    obtain ⟨a, rfl⟩ := Int.eq_ofNat_of_zero_le (hl.nn x (by simp))
    have ha : rest.getLsbD a = true := (hl.mem a).2 (by simp)
    have hw := good_wid hG hr hl hg
    obtain ⟨b, e, hb, hwb, hno⟩ := least_step hG hr hp hw
    rw [e]
    simp only [lessB]
    split
    · rename_i he
      have he : a = b := by omega
      subst he
      refine least_less hG (hr.diff a) ?_ hl.tail hg.2
      have := pop_diff ha
      omega
    · rename_i he
      rw [decide_eq_false_iff_not]
      intro hlt
      refine hno a (by omega) ⟨ha, ?_⟩
      have hw2 := good_wid hG (hr.diff a) hl.tail hg.2
      obtain ⟨hc, hca⟩ := comp_of hG rest ha
      have hcn : InB G.length (compB G rest a) := fun i hi => hr i (hc.sub i hi)
      exact (wid_le hG (hcn.diff a)).2 fun d hd => (wid_le hG (hr.diff a)).1 hw2 d ((comp_split hG hc hca).2 (.inr hd))
/-! The widths of orders. -/
def subB (rest : B64) (xs : List Int) : B64 := xs.foldl (fun r x => r &&& ~~~(BitVec.twoPow 64 x.toNat)) rest
theorem sub_bit : ∀ {xs : List Int} {rest : B64} (_ : ∀ x ∈ xs, 0 ≤ x) (i : Nat), (subB rest xs).getLsbD i = true ↔ rest.getLsbD i = true ∧ (i : Int) ∉ xs
  | [], rest, _, i => by simp [subB]
  | x :: xs, rest, h, i => by
    have ih := sub_bit (xs := xs) (rest := rest &&& ~~~(BitVec.twoPow 64 x.toNat)) (fun y hy => h y (by simp [hy])) i
    have e : subB rest (x :: xs) = subB (rest &&& ~~~(BitVec.twoPow 64 x.toNat)) xs := rfl
    rw [e, ih, diff_bit, Bool.and_eq_true, decide_eq_true_iff, List.mem_cons, not_or]
    have := h x (by simp)
    constructor
    · rintro ⟨⟨h1, h2⟩, h3⟩; exact ⟨h1, by omega, h3⟩
    · rintro ⟨h1, h2, h3⟩; exact ⟨⟨h1, by omega⟩, h3⟩
theorem good_iff {G : List B64} {m : Nat} : ∀ {l : List Int} {rest : B64}, goodW G m l rest ↔ ∀ i (h : i < l.length), costN G (subB rest (l.take i)) l[i].toNat ≤ m
  | [], _ => by simp [goodW]
  | a :: l, rest => by
    simp only [goodW]
    rw [good_iff]
    constructor
    · rintro ⟨h1, h2⟩ i hi
      cases i with
      | zero => exact h1
      | succ i => exact h2 i (by simpa using hi)
    · intro h
      exact ⟨h 0 (by simp), fun i hi => h (i + 1) (by simpa using hi)⟩
theorem pop_list {l : List Int} {x : B64} (hnd : l.Nodup) (hnn : ∀ y ∈ l, 0 ≤ y) (hm : ∀ a : Nat, (a : Int) ∈ l ↔ x.getLsbD a = true) : l.length = popB x := by
  have hp : l.Perm (((List.range 64).filter fun i => x.getLsbD i).map Int.ofNat) := nodup_perm hnd (List.Pairwise.map _ (fun a b h e => h (Int.ofNat.inj e)) (List.Pairwise.sublist List.filter_sublist List.nodup_range)) fun y => by
    rw [List.mem_map]
    constructor
    · intro hy
      obtain ⟨a, rfl⟩ := Int.eq_ofNat_of_zero_le (hnn y hy)
      have := (hm a).1 hy
      exact ⟨a, List.mem_filter.2 ⟨List.mem_range.2 (bits_lt this), this⟩, rfl⟩
    · rintro ⟨a, ha, rfl⟩
      exact (hm a).2 (List.mem_filter.1 ha).2
  rw [hp.length_eq, List.length_map]
  unfold popB
  rw [List.countP_eq_length_filter]
theorem Path.more {adj : Nat → Nat → Prop} {ok ok' : Nat → Prop} {a b : Nat} (h : Path adj ok a b) (hm : ∀ x y, adj x y → ok y → ok' y) : Path adj ok' a b := by
  induction h with
  | refl => exact .refl
  | step _ h1 h2 ih => exact .step ih h1 (hm _ _ h1 h2)
section
variable {S : Sch} (hV : Valid S) {q : List Int} (hq : q.Perm (upZ S.attrs.length))
include hV hq
/-- The key of a variable is what its component leaves open. -/
theorem key_cost {R : B64} {b : Nat} (hb : b < S.attrs.length) (hR : ∀ c, R.getLsbD c = true ↔ c < S.attrs.length ∧ posQ q b ≤ posQ q c) : (keyL S (ordL S q) b).length + 1 = costN (gr S) R b := by
  have hn12 := hV.n2
  have hGk : GOk (gr S) := gok_of hV ⟨gr_len S, fun a ha c => gr_bit hV (by rwa [gr_len] at ha) c⟩
  have ho := ordL_ord hV hq
  have hp : ∀ c, c < S.attrs.length → posQ q c < S.attrs.length := fun c hc => posQ_lt hq hc
  have hU := ho.upOk hp
  have hPl := ho.len
  have hadj := adjG_eq hV
  have hbR : R.getLsbD b = true := (hR b).2 ⟨hb, Nat.le_refl _⟩
  obtain ⟨hc, hcb⟩ := comp_of hGk R hbR
  have hlt : ∀ x y, adjS S x y → y < S.attrs.length := fun x y h => by have := (link_lt hV h.2).2; omega
  have hbel : ∀ d : Nat, (compB (gr S) R b).getLsbD d = true ↔ (d : Int) ∈ belowL (ordL S q) b := by
    intro d
    rw [below_mem]
    constructor
    · intro hd
      have hdR := (hR d).1 (hc.sub d hd)
      refine ⟨⟨d, by omega, rfl⟩, ?_⟩
      by_cases e : d = b
      · left; omega
      · right
        refine (ho.mem hp d (by omega) b).2 ⟨hb, ?_, ?_⟩
        · have : posQ q b ≠ posQ q d := fun e' => e (posQ_inj hq hb e').symm
          omega
        · have := hc.con b d hcb hd
          rw [hadj] at this
          exact this.more fun x y _ hy => ((hR y).1 (hc.sub y hy)).2
    · rintro ⟨⟨d', hd', e⟩, h⟩
      have : d = d' := by omega
      subst this
      rcases h with h | h
      · have : d = b := by omega
        subst this; exact hcb
      · obtain ⟨_, h2⟩ := (ho.mem hp d (by omega) b).1 h
        refine path_in hc hcb (ok := fun y => y < S.attrs.length ∧ posQ q b ≤ posQ q y) (fun x hx => (hR x).2 hx) ?_
        rw [hadj]
        exact h2.2.more fun x y hxy hy => ⟨hlt x y hxy, hy⟩
  have hkey : ∀ a : Nat, (a : Int) ∈ keyL S (ordL S q) b ↔ (nearB (gr S) (compB (gr S) R b) &&& ~~~(compB (gr S) R b)).getLsbD a = true := by
    intro a
    rw [key_mem, minus_bit, near_bit hGk, hadj]
    constructor
    · rintro ⟨h1, d, hd, hl⟩
      obtain ⟨ha, h2⟩ := (ho.mem hp b (by omega) a).1 h1
      obtain ⟨⟨d', hd', rfl⟩, _⟩ := below_mem.1 hd
      have hcd := (hbel d').2 hd
      have hdR := ((hR d').1 (hc.sub d' hcd)).2
      have h3 := h2.1
      refine ⟨⟨d', hcd, fun e => by subst e; omega, link_symm hl⟩, fun hca => ?_⟩
      have := ((hR a).1 (hc.sub a hca)).2
      omega
    · rintro ⟨⟨d, hcd, hda⟩, hca⟩
      have han := hlt d a hda
      have hpa : posQ q a < posQ q b := Nat.lt_of_not_le fun h => hca (hc.clo d a hcd (by rw [hadj]; exact hda) ((hR a).2 ⟨han, h⟩))
      have hdR := (hR d).1 (hc.sub d hcd)
      refine ⟨(ho.mem hp b (by omega) a).2 ⟨han, hpa, ?_⟩, d, (hbel d).1 hcd, link_symm hda.2⟩
      have h1 : Path (adjS S) (fun c => posQ q a ≤ posQ q c) a d := .one (adjS_symm S d a hda) (by omega)
      have h2 := hc.con d b hcd hcb
      rw [hadj] at h2
      exact h1.trans (h2.more fun x y _ hy => by have := ((hR y).1 (hc.sub y hy)).2; omega)
  unfold costN keyN
  rw [pop_list (keyL_nodup hU (by omega)) (fun y hy => by
    obtain ⟨x, _, rfl, _⟩ := abvL_mem hU b (by omega) y (key_mem.1 hy).1
    omega) hkey]
theorem wid_good {m : Nat} (hm : 1 ≤ m) : widN S (ordL S q) S.attrs.length + 1 ≤ m ↔ goodW (gr S) m q (allB S.attrs.length) := by
  have hn12 := hV.n2
  have hql : q.length = S.attrs.length := by rw [hq.length_eq, upZ_len]
  have hcost : ∀ i (h : i < q.length), ∃ b : Nat, b < S.attrs.length ∧ q[i] = (b : Int) ∧ posQ q b = i ∧ (keyL S (ordL S q) b).length + 1 = costN (gr S) (subB (allB S.attrs.length) (q.take i)) b := by
    intro i h
    obtain ⟨b, hb, hqb⟩ := upZ_mem.1 (hq.mem_iff.1 (List.getElem_mem h))
    have hpb := pos_at hq h hqb
    refine ⟨b, hb, hqb, hpb, key_cost hV hq hb fun c => ?_⟩
    rw [sub_bit (fun x hx => by obtain ⟨y, _, e⟩ := upZ_mem.1 (hq.mem_iff.1 (List.mem_of_mem_take hx)); omega), allB_bit (by omega), decide_eq_true_iff, hpb]
    constructor
    · rintro ⟨h1, h2⟩
      refine ⟨h1, Nat.le_of_not_lt fun h3 => h2 ?_⟩
      have hpc := posQ_lt hq h1
      rw [List.mem_take_iff_getElem]
      exact ⟨posQ q c, by omega, List.getElem_idxOf (by show posQ q c < _; omega)⟩
    · rintro ⟨h1, h2⟩
      refine ⟨h1, fun h3 => ?_⟩
      obtain ⟨j, hj, e⟩ := List.mem_take_iff_getElem.1 h3
      have := pos_at hq (show j < q.length by omega) e
      omega
  rw [good_iff]
  have hle : widN S (ordL S q) S.attrs.length ≤ (m : Int) - 1 ↔ _ := widN_le (S := S) (P := ordL S q) (m := (m : Int) - 1) (k := S.attrs.length)
  constructor
  · intro h i hi
    obtain ⟨b, hb, hqb, _, hk⟩ := hcost i hi
    have := (hle.1 (by omega)).2 b hb
    have e : q[i].toNat = b := by rw [hqb]; rfl
    rw [e, ← hk]; omega
  · intro h
    have := hle.2 ⟨by omega, fun b hb => by
      have hpb := posQ_lt hq hb
      have hi : posQ q b < q.length := by omega
      obtain ⟨b', hb', hqb, _, hk⟩ := hcost (posQ q b) hi
      have hat : q[posQ q b] = (b : Int) := List.getElem_idxOf (by show posQ q b < _; omega)
      have : b' = b := by rw [hat] at hqb; omega
      subst this
      have h2 := h (posQ q b') hi
      have e : q[posQ q b'].toNat = b' := by rw [hat]; rfl
      rw [e, ← hk] at h2; omega⟩
    omega
/-- A chain has no lesser width. -/
theorem chain_wid {P : List Int} (h : IsChain S.attrs.length q P) : widN S (ordL S q) S.attrs.length ≤ widN S P S.attrs.length := by
  have ho := ordL_ord hV hq
  have hc := h.ord
  have hp : ∀ c, c < S.attrs.length → posQ q c < S.attrs.length := fun c hc => posQ_lt hq hc
  have hU := ho.upOk hp
  have hU2 := hc.upOk hp
  have hPl := ho.len
  have hPl2 := h.len
  have h2 := (widN_le (S := S) (P := P) (m := widN S P S.attrs.length) (k := S.attrs.length)).1 (Int.le_refl _)
  refine widN_le.2 ⟨h2.1, fun b hb => Int.le_trans ?_ (h2.2 b hb)⟩
  have hn1 := keyL_nodup (S := S) hU (show b < (ordL S q).length by omega)
  have hn2 := keyL_nodup (S := S) hU2 (show b < P.length by omega)
  have hsub : ∀ x ∈ keyL S (ordL S q) b, x ∈ keyL S P b := by
    intro x hx
    obtain ⟨h3, d, hd, hl⟩ := key_mem.1 hx
    obtain ⟨a, _, rfl, _⟩ := abvL_mem hU b (by omega) x h3
    obtain ⟨ha, h4⟩ := (ho.mem hp b (by omega) a).1 h3
    obtain ⟨⟨d', hd', rfl⟩, h5⟩ := below_mem.1 hd
    refine key_mem.2 ⟨(hc.mem hp b (by omega) a).2 ⟨ha, h4.1, .one trivial (Nat.le_of_lt h4.1)⟩, d', below_mem.2 ⟨⟨d', by omega, rfl⟩, ?_⟩, hl⟩
    rcases h5 with h5 | h5
    · exact .inl h5
    · obtain ⟨_, h6⟩ := (ho.mem hp d' (by omega) b).1 h5
      exact .inr ((hc.mem hp d' (by omega) b).2 ⟨hb, h6.1, .one trivial (Nat.le_of_lt h6.1)⟩)
  have hp : ((keyL S P b).filter fun a => decide (a ∈ keyL S (ordL S q) b)).Perm (keyL S (ordL S q) b) := nodup_perm (List.Pairwise.sublist List.filter_sublist hn2) hn1 fun a => by
    rw [List.mem_filter, decide_eq_true_iff]
    exact ⟨fun h => h.2, fun h => ⟨hsub a h, h⟩⟩
  rw [← hp.length_eq]
  exact Int.ofNat_le.2 (List.length_filter_le _ _)
end
end Go.Proofs.YtkalgjnhaicabaaGreat
namespace Go.Proofs.YtkalgjnhaicabaaGreat
open Go.RowKit Mk
set_option maxRecDepth 100000
set_option maxHeartbeats 4000000
theorem upF_le {P : List Int} {k k' : Nat} {x : Int} {l : List Int} (h : upF P k x = some l) (hk : k ≤ k') : upF P k' x = some l := by
  induction hk with
  | refl => exact h
  | step _ ih => exact upF_mono ih
theorem upF_cons {P : List Int} {k : Nat} {x : Int} {l : List Int} (h : upF P k x = some l) (hx : ¬ x < 0) : ∃ k' l', k = k' + 1 ∧ l = x :: l' ∧ upF P k' (P.getD x.toNat 0) = some l' := by
  cases k with
  | zero => simp [upF, hx] at h
  | succ k =>
    simp only [upF, if_neg hx, Option.map_eq_some_iff] at h
    obtain ⟨l', h1, h2⟩ := h
    exact ⟨k, l', rfl, h2.symm, h1⟩
theorem upF_drop {P : List Int} : ∀ {k : Nat} {x : Int} {l : List Int}, upF P k x = some l → ∀ i (hi : i < l.length), ∃ k', upF P k' l[i] = some (l.drop i)
  | k, x, l, h, i, hi => by
    by_cases hx : x < 0
    · rw [upF_neg hx] at h; cases h; simp at hi
    · obtain ⟨k', l', rfl, rfl, h2⟩ := upF_cons h hx
      cases i with
      | zero => exact ⟨k' + 1, h⟩
      | succ i => exact upF_drop h2 i (by simpa using hi)
theorem upF_uniq {P : List Int} {k k' : Nat} {x : Int} {l l' : List Int} (h : upF P k x = some l) (h' : upF P k' x = some l') : l = l' := by
  have h1 := upF_le h (Nat.le_max_left k k')
  have h2 := upF_le h' (Nat.le_max_right k k')
  rw [h1] at h2; exact Option.some.inj h2
theorem upF_nodup {P : List Int} {k : Nat} {x : Int} {l : List Int} (h : upF P k x = some l) : l.Nodup := by
  rw [List.Nodup, List.pairwise_iff_getElem]
  intro i j hi hj hij e
  obtain ⟨k1, h1⟩ := upF_drop h i hi
  obtain ⟨k2, h2⟩ := upF_drop h j hj
  rw [e] at h1
  have := congrArg List.length (upF_uniq h1 h2)
  simp at this; omega
theorem upF_mem {P : List Int} (hP : ∀ p ∈ P, p < P.length) : ∀ {k : Nat} {x : Int} {l : List Int}, upF P k x = some l → x < P.length → ∀ y ∈ l, 0 ≤ y ∧ y < P.length
  | k, x, l, h, hx, y, hy => by
    by_cases h0 : x < 0
    · rw [upF_neg h0] at h; cases h; simp at hy
    · obtain ⟨k', l', rfl, rfl, h2⟩ := upF_cons h h0
      rcases List.mem_cons.1 hy with rfl | hy2
      · exact ⟨by omega, hx⟩
      · obtain ⟨a, rfl⟩ := Int.eq_ofNat_of_zero_le (show 0 ≤ x by omega)
        have ha : a < P.length := by omega
        refine upF_mem hP h2 ?_ y hy2
        simp [List.getD, ha]
        exact hP _ (List.getElem_mem ha)
theorem upF_short {P : List Int} (hP : ∀ p ∈ P, p < P.length) {k : Nat} {x : Int} {l : List Int} (h : upF P k x = some l) (hx : x < P.length) : l.length ≤ P.length := by
  have hm := upF_mem hP h hx
  have hp : ((upZ P.length).filter fun a => decide (a ∈ l)).Perm l := nodup_perm (List.Pairwise.sublist List.filter_sublist (upZ_nodup _)) (upF_nodup h) fun a => by
    rw [List.mem_filter, decide_eq_true_iff]
    refine ⟨fun h => h.2, fun h => ⟨?_, h⟩⟩
    obtain ⟨x, hx⟩ := Int.eq_ofNat_of_zero_le (hm a h).1
    exact upZ_mem.2 ⟨x, by have := (hm a h).2; omega, hx⟩
  rw [← hp.length_eq]
  exact Nat.le_trans (List.length_filter_le _ _) (by rw [upZ_len]; exact Nat.le_refl _)
theorem upF_fuel {P : List Int} : ∀ {k : Nat} {x : Int} {l : List Int}, upF P k x = some l → upF P l.length x = some l
  | k, x, l, h => by
    by_cases h0 : x < 0
    · rw [upF_neg h0] at h; cases h; exact upF_neg h0
    · obtain ⟨k', l', rfl, rfl, h2⟩ := upF_cons h h0
      have := upF_fuel h2
      simp only [List.length_cons, upF, if_neg h0, this, Option.map_some]
theorem ranc_spec (P : List Int) (v : Nat) (hv : v < P.length) (hP : ∀ p ∈ P, p < P.length) (hn : P.length ≤ 1000000) : FnP Tryz.prog 56 [ordP P, .int .i64 v] (· = .tup [pints (abvL P v), .bool (abv P v).isSome]) := by
  refine FnP.of Tryz.func56 rfl Tryz.ntmps56 (by simp) fun m0 w0 F R0 => ?_
  have hv0 := pints_at hv
  have hne := pints_ne hv
  have hab := abv_eq hv
  have hpv := hP _ (List.getElem_mem hv)
  repeat refine AW.seq ?_
  refine AW.region ?_
  iterate 3 refine A1 rfl ?_
  repeat refine AW.seq ?_
  refine AW.region ?_
  refine A1 rfl ?_
  refine AW.weaken (St.le_gro 6 1 1 3 rfl rfl) ?_
  repeat refine AW.seq ?_
  refine AW.region ?_
  iterate 4 refine A1 rfl ?_
  first | refine A2 rfl (by assumption) ?_ | refine A1 rfl ?_
  refine A1 rfl ?_
  repeat refine AW.seq ?_
  refine AW.block ?_
  repeat refine AW.seq ?_
  refine AW.loop (st := fun x_0 : List Int × Int => mkS [(2, .ptr 0 0), (6, .gsl 1 1 x_0.1.length), (7, .pv (.int .i64 x_0.2))] [(0, .mix 29 [.pv (pints P)]), (1, .gro 3 (intsP x_0.1))] 2)
    (I := fun x_0 => x_0.1.length ≤ P.length + 1 ∧ x_0.2 < P.length ∧ upF P (P.length + 1) P[v] = (upF P (P.length + 1 - x_0.1.length) x_0.2).map (x_0.1 ++ ·)) (μ := fun x_0 => P.length + 1 - x_0.1.length) (x0 := ([], P[v])) (St.le_mk ⟨rfl, rfl, rfl, trivial⟩ ⟨rfl, rfl, trivial⟩ rfl rfl) (⟨Nat.zero_le _, hpv, by simp⟩) ?_
  rintro ⟨L, x⟩ ⟨hl, hx, hu⟩
  try simp only at hl hx hu ⊢
  repeat refine AW.seq ?_
  refine AW.region ?_
  iterate 2 refine A1 rfl ?_
  repeat refine AW.seq ?_
  refine AW.condP rfl (fun hc14 => ?_) (fun hc14 => ?_)
  · obtain ⟨a, rfl⟩ := Int.eq_ofNat_of_zero_le hc14
    have ha : a < P.length := by omega
    have hva := pints_at ha
    have hsl : (intsP L).length = L.length * 1 := by simp
    refine AW.skip ?_
    repeat refine AW.seq ?_
    refine AW.block ?_
    repeat refine AW.seq ?_
    refine AW.region ?_
    iterate 6 refine A1 rfl ?_
    repeat refine AW.seq ?_
    refine AW.condP rfl (fun hc25 => ?_) (fun hc25 => ?_)
    · have hle : L.length = P.length + 1 := by omega
      have hno : abv P v = none := by
        rw [hle, Nat.sub_self, upF_zero (by omega)] at hu
        rw [hab]
        cases e : upF P P.length P[v] with
        | none => rfl
        | some l => rw [upF_mono e] at hu; cases hu
      refine AW.weaken (St.le_fgS []) ?_
      repeat refine AW.seq ?_
      refine AW.region ?_
      iterate 2 refine A1 rfl ?_
      refine AW.weaken (St.le_fgS [4]) ?_
      repeat refine AW.seq ?_
      refine AW.ret ?_
      exact ⟨_, _, rfl, rfl, by unfold abvL; rw [hno]; rfl⟩
    · have hlt : L.length < P.length + 1 := by omega
      refine AW.skip ?_
      repeat refine AW.seq ?_
      refine AW.region ?_
      iterate 5 refine A1 rfl ?_
      repeat refine AW.seq ?_
      refine AW.region ?_
      iterate 4 refine A1 rfl ?_
      first | refine A2 rfl (by assumption) ?_ | refine A1 rfl ?_
      refine A1 rfl ?_
      exact ⟨(L ++ [(a : Int)], P[a]), St.le_mkR [0, 3] ⟨rfl, by simp; rfl, rfl, trivial⟩ ⟨rfl, congrArg (fun c => some (Ob.gro 3 c)) (ints_snoc L a).symm, trivial⟩ rfl rfl (by decide) rfl, ⟨by simp; omega, hP _ (List.getElem_mem ha), by rw [hu, show P.length + 1 - L.length = P.length + 1 - (L ++ [(a : Int)]).length + 1 by simp; omega, upF_nat ha, Option.map_map]; congr 1; funext l; simp⟩, by simp; omega⟩
  · have hso : abv P v = some L := by rw [upF_neg (show x < 0 by omega)] at hu; simp at hu; rw [hab]; exact upF_le (upF_fuel hu) (upF_short hP hu hpv)
    repeat refine AW.seq ?_
    refine AW.exit ?_
    refine AW.weaken (St.le_pubA 1 rfl rfl) ?_
    repeat refine AW.seq ?_
    refine AW.region ?_
    iterate 3 refine A1 rfl ?_
    repeat refine AW.seq ?_
    refine AW.ret ?_
    exact ⟨_, _, rfl, rfl, by unfold abvL; rw [hso]; simp [tk_all]; rfl⟩
theorem ref_not (a b : Int) (p q : Bool) : ((a != b && !p) && !q) = !(a == b || q || p) := by
  rw [bne]; cases (a == b) <;> cases p <;> cases q <;> rfl
theorem rochk_spec (S : Sch) (hS : SB S) (P : List Int) (hn : P.length ≤ 1000000) : FnP Tryz.prog 23 [schP S, ordP P] (· = .int .i64 (ordE S P)) := by
  refine FnP.of Tryz.func23 rfl Tryz.ntmps23 (by simp) fun m0 w0 F R0 => ?_
  have hb := hS.a
  repeat refine AW.seq ?_
  refine AW.region ?_
  iterate 3 refine A1 rfl ?_
  repeat refine AW.seq ?_
  refine AW.region ?_
  refine A1 rfl ?_
  refine RL.step (d := some 23) rfl rfl (xj_call Tryz.call45 (rchk_spec S hS) rfl) ?_
  refine A1 rfl ?_
  repeat refine AW.seq ?_
  refine AW.region ?_
  iterate 2 refine A1 rfl ?_
  repeat refine AW.seq ?_
  refine AW.cond rfl (fun hc25 => ?_) (fun hc25 => ?_)
  · repeat refine AW.seq ?_
    refine AW.region ?_
    iterate 2 refine A1 rfl ?_
    repeat refine AW.seq ?_
    refine AW.ret ?_
    exact ⟨_, _, rfl, rfl, congrArg (PV.int .i64) (by unfold ordE; rw [if_pos (inT hc25)])⟩
  · have h0 : checkE S = 0 := inF hc25
    have hV := valid_of h0
    have hra := hV.rng
    have hr6 := hV.r2
    refine AW.skip ?_
    repeat refine AW.seq ?_
    refine AW.region ?_
    iterate 4 refine A1 rfl ?_
    repeat refine AW.seq ?_
    refine AW.region ?_
    iterate 5 refine A1 rfl ?_
    repeat refine AW.seq ?_
    refine AW.cond rfl (fun hc34 => ?_) (fun hc34 => ?_)
    · have hne0 : ¬ P.length = S.attrs.length := by have := inT hc34; omega
      repeat refine AW.seq ?_
      refine AW.region ?_
      refine A1 rfl ?_
      repeat refine AW.seq ?_
      refine AW.ret ?_
      exact ⟨_, _, rfl, rfl, congrArg (PV.int .i64) (by unfold ordE; rw [if_neg (fun h => h h0), if_pos hne0])⟩
    · have heq : P.length = S.attrs.length := by have := inF hc34; omega
      refine AW.skip ?_
      repeat refine AW.seq ?_
      refine AW.region ?_
      iterate 4 refine A1 rfl ?_
      repeat refine AW.seq ?_
      refine AW.block ?_
      repeat refine AW.seq ?_
      refine AW.loop (st := fun x_0 : Nat => mkS [(2, .ptr 0 0), (3, .ptr 1 0), (6, .pv (.int .i64 S.attrs.length)), (36, .pv (pints P)), (37, .pv (.int .i64 P.length)), (38, .pv (.int .i64 x_0))] [(0, .mix 27 [.pv (.sl none S.attrs.length (attrsC S.attrs)), .pv (.sl none S.rels.length (relsC S.rels)), .pv (.sl none S.feats.length (featsC S.feats)), .pv (.int .i64 S.label)]), (1, .mix 29 [.pv (pints P)])] 2)
        (I := fun x_0 => x_0 ≤ P.length ∧ ((P.take x_0).any fun p => decide (p < -1) || decide ((P.length : Int) ≤ p)) = false) (μ := fun x_0 => P.length - x_0) (x0 := (0)) (St.le_mk ⟨rfl, rfl, rfl, rfl, rfl, rfl, trivial⟩ ⟨rfl, rfl, trivial⟩ rfl rfl) (⟨Nat.zero_le _, rfl⟩) ?_
      rintro k ⟨hk, hany⟩
      repeat refine AW.seq ?_
      refine AW.region ?_
      refine A1 rfl ?_
      repeat refine AW.seq ?_
      refine AW.condP rfl (fun hc39 => ?_) (fun hc39 => ?_)
      · have hlt : k < P.length := by omega
        have hva := pints_at hlt
        have hne := pints_ne hlt
        refine AW.skip ?_
        repeat refine AW.seq ?_
        refine AW.block ?_
        repeat refine AW.seq ?_
        refine AW.region ?_
        refine A1 rfl ?_
        first | refine A2 rfl (by assumption) ?_ | refine A1 rfl ?_
        refine A1 rfl ?_
        repeat refine AW.seq ?_
        refine AW.region ?_
        iterate 3 refine A1 rfl ?_
        apply RL.orB 4 44 48 [45, 46, 47] rfl (by first | exact MonoK.le | exact MonoK.aw | exact MonoK.back)
        · intro hb2
          iterate 4 refine A1 rfl ?_
          exact St.le_fg (fEq.upd (fEq.upd (fEq.upd (fEq.upd (fEq.upd (fEq.refl) rfl) rfl) rfl) rfl) rfl) rfl rfl rfl
        · intro hb2
          iterate 4 refine A1 rfl ?_
          exact St.le_fg (fEq.upd (fEq.upd (fEq.upd (fEq.upd (fEq.upd (fEq.refl) rfl) rfl) rfl) rfl) rfl) rfl rfl rfl
        repeat refine AW.seq ?_
        refine AW.cond rfl (fun hc48 => ?_) (fun hc48 => ?_)
        · rw [← heq] at hc48
          repeat refine AW.seq ?_
          refine AW.region ?_
          refine A1 rfl ?_
          repeat refine AW.seq ?_
          refine AW.ret ?_
          exact ⟨_, _, rfl, rfl, congrArg (PV.int .i64) (by unfold ordE; rw [if_neg (fun h => h h0), if_neg (fun h => h heq), if_pos (any_at hlt hc48)])⟩
        · rw [← heq] at hc48
          refine AW.skip ?_
          repeat refine AW.seq ?_
          refine AW.region ?_
          iterate 2 refine A1 rfl ?_
          exact ⟨(k + 1), St.le_mk ⟨rfl, rfl, rfl, rfl, rfl, rfl, trivial⟩ ⟨rfl, rfl, trivial⟩ rfl rfl, ⟨by omega, any_take hlt hany hc48⟩, by omega⟩
      · rw [List.take_of_length_le (by omega)] at hany
        have hP : ∀ p ∈ P, p < P.length := fun p hp => by have := List.any_eq_false.1 hany p hp; simp at this; omega
        repeat refine AW.seq ?_
        refine AW.exit ?_
        repeat refine AW.seq ?_
        refine AW.region ?_
        iterate 4 refine A1 rfl ?_
        repeat refine AW.seq ?_
        refine AW.block ?_
        repeat refine AW.seq ?_
        refine AW.loop (st := fun x_1 : Nat => mkS [(2, .ptr 0 0), (3, .ptr 1 0), (52, .pv (.int .i64 P.length)), (53, .pv (.int .i64 x_1))] [(0, .mix 27 [.pv (.sl none S.attrs.length (attrsC S.attrs)), .pv (.sl none S.rels.length (relsC S.rels)), .pv (.sl none S.feats.length (featsC S.feats)), .pv (.int .i64 S.label)]), (1, .mix 29 [.pv (pints P)])] 2)
          (I := fun x_1 => x_1 ≤ P.length ∧ ((List.range x_1).all fun v => (abv P v).isSome) = true) (μ := fun x_1 => P.length - x_1) (x0 := (0)) (St.le_mk ⟨rfl, rfl, rfl, rfl, trivial⟩ ⟨rfl, rfl, trivial⟩ rfl rfl) (⟨Nat.zero_le _, rfl⟩) ?_
        rintro q ⟨hq, hall⟩
        repeat refine AW.seq ?_
        refine AW.region ?_
        refine A1 rfl ?_
        repeat refine AW.seq ?_
        refine AW.condP rfl (fun hc54 => ?_) (fun hc54 => ?_)
        · have hlt : q < P.length := by omega
          refine AW.skip ?_
          repeat refine AW.seq ?_
          refine AW.block ?_
          repeat refine AW.seq ?_
          refine AW.region ?_
          iterate 2 refine A1 rfl ?_
          repeat refine AW.seq ?_
          refine AW.region ?_
          iterate 2 refine A1 rfl ?_
          refine RL.step (d := some 59) rfl rfl (xj_call Tryz.call56 (ranc_spec P q hlt hP hn) rfl) ?_
          iterate 5 refine A1 rfl ?_
          repeat refine AW.seq ?_
          refine AW.region ?_
          iterate 2 refine A1 rfl ?_
          repeat refine AW.seq ?_
          refine AW.cond rfl (fun hc63 => ?_) (fun hc63 => ?_)
          · have hno : ((List.range P.length).all fun v => (abv P v).isSome) = false := List.all_eq_false.2 ⟨q, List.mem_range.2 hlt, by simpa using hc63⟩
            repeat refine AW.seq ?_
            refine AW.region ?_
            refine A1 rfl ?_
            repeat refine AW.seq ?_
            refine AW.ret ?_
            exact ⟨_, _, rfl, rfl, congrArg (PV.int .i64) (by unfold ordE; rw [if_neg (fun h => h h0), if_neg (fun h => h heq), if_neg (by rw [hany]; decide), if_pos hno])⟩
          · refine AW.skip ?_
            repeat refine AW.seq ?_
            refine AW.region ?_
            iterate 2 refine A1 rfl ?_
            exact ⟨(q + 1), St.le_mk ⟨rfl, rfl, rfl, rfl, trivial⟩ ⟨rfl, rfl, trivial⟩ rfl rfl, ⟨by omega, by rw [List.range_succ, List.all_append, hall]; simpa using hc63⟩, by omega⟩
        · obtain rfl : q = P.length := by omega
          repeat refine AW.seq ?_
          refine AW.exit ?_
          repeat refine AW.seq ?_
          refine AW.region ?_
          iterate 4 refine A1 rfl ?_
          repeat refine AW.seq ?_
          refine AW.block ?_
          repeat refine AW.seq ?_
          refine AW.loop (st := fun x_2 : Nat => mkS [(3, .ptr 1 0), (66, .pv (.sl none S.rels.length (relsC S.rels))), (67, .pv (.int .i64 S.rels.length)), (68, .pv (.int .i64 x_2))] [(1, .mix 29 [.pv (pints P)])] 2)
            (I := fun x_2 => x_2 ≤ S.rels.length ∧ ((S.rels.take x_2).all fun r => rightB P r.2) = true) (μ := fun x_2 => S.rels.length - x_2) (x0 := (0)) (St.le_mk ⟨rfl, rfl, rfl, rfl, trivial⟩ ⟨rfl, trivial⟩ rfl rfl) (⟨Nat.zero_le _, rfl⟩) ?_
          rintro k ⟨hk, hrall⟩
          repeat refine AW.seq ?_
          refine AW.region ?_
          refine A1 rfl ?_
          repeat refine AW.seq ?_
          refine AW.condP rfl (fun hc69 => ?_) (fun hc69 => ?_)
          · have hlt : k < S.rels.length := by omega
            have hrow := rel_row hlt
            have hne := rel_ne hlt
            have hrm := List.getElem_mem hlt
            have hrr := hra _ hrm
            have hrl := hS.rl _ hrm
            have hno : rightB P S.rels[k].2 = false → (S.rels.all fun r => rightB P r.2) = false := fun h => all_not hlt h
            refine AW.skip ?_
            repeat refine AW.seq ?_
            refine AW.block ?_
            repeat refine AW.seq ?_
            refine AW.region ?_
            refine A1 rfl ?_
            first | refine A3 rfl (by assumption) ?_ | refine A1 rfl ?_
            iterate 2 refine A1 rfl ?_
            repeat refine AW.seq ?_
            refine AW.region ?_
            iterate 4 refine A1 rfl ?_
            repeat refine AW.seq ?_
            refine AW.block ?_
            repeat refine AW.seq ?_
            refine AW.loop (st := fun x_3 : Nat => mkS [(3, .ptr 1 0), (13, .ptr 2 0), (66, .pv (.sl none S.rels.length (relsC S.rels))), (67, .pv (.int .i64 S.rels.length)), (68, .pv (.int .i64 k)), (73, .pv (pints S.rels[k].2)), (74, .pv (.int .i64 S.rels[k].2.length)), (75, .pv (.int .i64 x_3))] [(1, .mix 29 [.pv (pints P)]), (2, .mix 62 [.pv (.str S.rels[k].1), .pv (pints S.rels[k].2)])] 3)
              (I := fun x_3 => x_3 ≤ S.rels[k].2.length ∧ ((S.rels[k].2.take x_3).all fun a => S.rels[k].2.all fun b => a == b || hiB P a b || hiB P b a) = true) (μ := fun x_3 => S.rels[k].2.length - x_3) (x0 := (0)) (St.le_mk ⟨rfl, rfl, rfl, rfl, rfl, rfl, rfl, rfl, trivial⟩ ⟨rfl, rfl, trivial⟩ rfl rfl) (⟨Nat.zero_le _, rfl⟩) ?_
            rintro i ⟨hi, hia⟩
            repeat refine AW.seq ?_
            refine AW.region ?_
            refine A1 rfl ?_
            repeat refine AW.seq ?_
            refine AW.condP rfl (fun hc76 => ?_) (fun hc76 => ?_)
            · have hil : i < S.rels[k].2.length := by omega
              have hvi := pints_at hil
              have hnei := pints_ne hil
              have hri := hrr _ (List.getElem_mem hil)
              obtain ⟨a, hae⟩ := Int.eq_ofNat_of_zero_le hri.1
              rw [hae] at hvi
              have hal : a < P.length := by omega
              have hla := abvL_len P a
              refine AW.skip ?_
              repeat refine AW.seq ?_
              refine AW.block ?_
              repeat refine AW.seq ?_
              refine AW.region ?_
              refine A1 rfl ?_
              first | refine A2 rfl (by assumption) ?_ | refine A1 rfl ?_
              refine A1 rfl ?_
              repeat refine AW.seq ?_
              refine AW.region ?_
              iterate 4 refine A1 rfl ?_
              repeat refine AW.seq ?_
              refine AW.block ?_
              repeat refine AW.seq ?_
              refine AW.loop (st := fun x_4 : Nat => mkS [(3, .ptr 1 0), (13, .ptr 2 0), (15, .pv (.int .i64 a)), (66, .pv (.sl none S.rels.length (relsC S.rels))), (67, .pv (.int .i64 S.rels.length)), (68, .pv (.int .i64 k)), (73, .pv (pints S.rels[k].2)), (74, .pv (.int .i64 S.rels[k].2.length)), (75, .pv (.int .i64 i)), (80, .pv (pints S.rels[k].2)), (81, .pv (.int .i64 S.rels[k].2.length)), (82, .pv (.int .i64 x_4))] [(1, .mix 29 [.pv (pints P)]), (2, .mix 62 [.pv (.str S.rels[k].1), .pv (pints S.rels[k].2)])] 3)
                (I := fun x_4 => x_4 ≤ S.rels[k].2.length ∧ ((S.rels[k].2.take x_4).all fun b => (a : Int) == b || hiB P a b || hiB P b a) = true) (μ := fun x_4 => S.rels[k].2.length - x_4) (x0 := (0)) (St.le_mk ⟨rfl, rfl, rfl, rfl, rfl, rfl, rfl, rfl, rfl, rfl, rfl, rfl, trivial⟩ ⟨rfl, rfl, trivial⟩ rfl rfl) (⟨Nat.zero_le _, rfl⟩) ?_
              rintro j ⟨hj, hja⟩
              repeat refine AW.seq ?_
              refine AW.region ?_
              refine A1 rfl ?_
              repeat refine AW.seq ?_
              refine AW.condP rfl (fun hc83 => ?_) (fun hc83 => ?_)
              · have hjl : j < S.rels[k].2.length := by omega
                have hvj := pints_at hjl
                have hrj := hrr _ (List.getElem_mem hjl)
                obtain ⟨b, hbe⟩ := Int.eq_ofNat_of_zero_le hrj.1
                rw [hbe] at hvj
                have hbl : b < P.length := by omega
                have hlb := abvL_len P b
                refine AW.skip ?_
                repeat refine AW.seq ?_
                refine AW.block ?_
                repeat refine AW.seq ?_
                refine AW.region ?_
                refine A1 rfl ?_
                first | refine A2 rfl (by assumption) ?_ | refine A1 rfl ?_
                refine A1 rfl ?_
                repeat refine AW.seq ?_
                refine AW.region ?_
                iterate 2 refine A1 rfl ?_
                refine RL.step (d := some 89) rfl rfl (xj_call Tryz.call56 (ranc_spec P a hal hP hn) rfl) ?_
                iterate 5 refine A1 rfl ?_
                repeat refine AW.seq ?_
                refine AW.region ?_
                iterate 2 refine A1 rfl ?_
                refine RL.step (d := some 95) rfl rfl (xj_call Tryz.call56 (ranc_spec P b hbl hP hn) rfl) ?_
                iterate 5 refine A1 rfl ?_
                repeat refine AW.seq ?_
                refine AW.region ?_
                iterate 4 refine A1 rfl ?_
                apply RL.andB 5 101 106 [102, 103, 104, 105] rfl (by first | exact MonoK.le | exact MonoK.aw | exact MonoK.back)
                · intro hb3
                  iterate 2 refine A1 rfl ?_
                  refine RL.stepG (d := some 104) rfl rfl rfl (xj_call Tryz.call50 (in_spec (abvL P a) b (by omega)) rfl) ?_
                  iterate 2 refine A1 rfl ?_
                  exact St.le_fg (fEq.upd (fEq.upd (fEq.upd (fEq.upd (fEq.upd (fEq.upd (fEq.refl) rfl) rfl) rfl) rfl) rfl) rfl) rfl rfl rfl
                · intro hb3
                  iterate 5 refine A1 rfl ?_
                  exact St.le_fg (fEq.upd (fEq.upd (fEq.upd (fEq.upd (fEq.upd (fEq.upd (fEq.refl) rfl) rfl) rfl) rfl) rfl) rfl) rfl rfl rfl
                refine A1 rfl ?_
                apply RL.andB 5 107 112 [108, 109, 110, 111] rfl (by first | exact MonoK.le | exact MonoK.aw | exact MonoK.back)
                · intro hb9
                  iterate 2 refine A1 rfl ?_
                  refine RL.stepG (d := some 110) rfl rfl rfl (xj_call Tryz.call50 (in_spec (abvL P b) a (by omega)) rfl) ?_
                  iterate 2 refine A1 rfl ?_
                  exact St.le_fg (fEq.upd (fEq.upd (fEq.upd (fEq.upd (fEq.upd (fEq.upd (fEq.refl) rfl) rfl) rfl) rfl) rfl) rfl) rfl rfl rfl
                · intro hb9
                  iterate 5 refine A1 rfl ?_
                  exact St.le_fg (fEq.upd (fEq.upd (fEq.upd (fEq.upd (fEq.upd (fEq.upd (fEq.refl) rfl) rfl) rfl) rfl) rfl) rfl) rfl rfl rfl
                repeat refine AW.seq ?_
                refine AW.cond rfl (fun hc112 => ?_) (fun hc112 => ?_)
                · rw [ref_not, Bool.not_eq_true'] at hc112
                  have hbad : rightB P S.rels[k].2 = false := by unfold rightB; rw [all_not hil (all_not hjl (by rw [hae, hbe]; exact hc112))]
                  repeat refine AW.seq ?_
                  refine AW.region ?_
                  refine A1 rfl ?_
                  repeat refine AW.seq ?_
                  refine AW.ret ?_
                  exact ⟨_, _, rfl, rfl, congrArg (PV.int .i64) (by unfold ordE; rw [if_neg (fun h => h h0), if_neg (fun h => h heq), if_neg (by rw [hany]; decide), if_neg (by rw [hall]; decide), if_pos (hno hbad)])⟩
                · rw [ref_not, Bool.not_eq_false'] at hc112
                  refine AW.skip ?_
                  repeat refine AW.seq ?_
                  refine AW.region ?_
                  iterate 2 refine A1 rfl ?_
                  exact ⟨(j + 1), St.le_mk ⟨rfl, rfl, rfl, rfl, rfl, rfl, rfl, rfl, rfl, rfl, rfl, rfl, trivial⟩ ⟨rfl, rfl, trivial⟩ rfl rfl, ⟨by omega, all_take hjl hja (by rw [hbe]; exact hc112)⟩, by omega⟩
              · rw [List.take_of_length_le (by omega)] at hja
                repeat refine AW.seq ?_
                refine AW.exit ?_
                repeat refine AW.seq ?_
                refine AW.region ?_
                iterate 2 refine A1 rfl ?_
                exact ⟨(i + 1), St.le_mk ⟨rfl, rfl, rfl, rfl, rfl, rfl, rfl, rfl, trivial⟩ ⟨rfl, rfl, trivial⟩ rfl rfl, ⟨by omega, all_take hil hia (by rw [hae]; exact hja)⟩, by omega⟩
            · rw [List.take_of_length_le (by omega)] at hia
              repeat refine AW.seq ?_
              refine AW.exit ?_
              repeat refine AW.seq ?_
              refine AW.region ?_
              iterate 2 refine A1 rfl ?_
              exact ⟨(k + 1), St.le_mk ⟨rfl, rfl, rfl, rfl, trivial⟩ ⟨rfl, trivial⟩ rfl rfl, ⟨by omega, all_take hlt hrall hia⟩, by omega⟩
          · rw [List.take_of_length_le (by omega)] at hrall
            repeat refine AW.seq ?_
            refine AW.exit ?_
            repeat refine AW.seq ?_
            refine AW.region ?_
            refine A1 rfl ?_
            repeat refine AW.seq ?_
            refine AW.ret ?_
            exact ⟨_, _, rfl, rfl, congrArg (PV.int .i64) (by unfold ordE; rw [if_neg (fun h => h h0), if_neg (fun h => h heq), if_neg (by rw [hany]; decide), if_neg (by rw [hall]; decide), if_neg (by rw [hrall]; decide)])⟩
end Go.Proofs.YtkalgjnhaicabaaGreat
namespace Go.Proofs.YtkalgjnhaicabaaGreat
open Go.RowKit Mk
set_option maxRecDepth 100000
set_option maxHeartbeats 4000000
theorem isB_not (S : Sch) (P : List Int) (v : Int) : ((ordE S P != 0 || decide (v < 0)) || decide (v ≥ (P.length : Int))) = !isB S P v := by
  have h1 : decide (v < 0) = !decide (v ≥ 0) := by rw [Bool.eq_iff_iff]; simp
  have h2 : decide (v ≥ (P.length : Int)) = !decide (v < P.length) := by rw [Bool.eq_iff_iff]; simp
  unfold isB
  rw [h1, h2, bne]
  cases (ordE S P == 0) <;> cases decide (v ≥ 0) <;> cases decide (v < (P.length : Int)) <;> rfl
theorem below_ne {P : List Int} {v : Nat} (hv : v < P.length) : belowL P v ≠ [] := fun h => by
  have : (v : Int) ∈ belowL P v := below_mem.2 ⟨⟨v, hv, rfl⟩, .inl rfl⟩
  rw [h] at this; cases this
theorem rbelow_spec (S : Sch) (hS : SB S) (P : List Int) (hn : P.length ≤ 1000000) (v : Int) : FnP Tryz.prog 30 [schP S, ordP P, .int .i64 v] (· = if isB S P v = true then .sl (some false) (belowL P v).length (intsP (belowL P v)) else .sl (some true) 0 []) := by
  refine FnP.of Tryz.func30 rfl Tryz.ntmps30 (by simp) fun m0 w0 F R0 => ?_
  repeat refine AW.seq ?_
  refine AW.region ?_
  iterate 3 refine A1 rfl ?_
  repeat refine AW.seq ?_
  refine AW.region ?_
  iterate 2 refine A1 rfl ?_
  refine RL.step (d := some 13) rfl rfl (xj_call Tryz.call23 (rochk_spec S hS P hn) rfl) ?_
  iterate 2 refine A1 rfl ?_
  apply RL.orB 3 15 18 [16, 17] rfl (by first | exact MonoK.le | exact MonoK.aw | exact MonoK.back)
  · intro hb4
    iterate 3 refine A1 rfl ?_
    exact St.le_fg (fEq.upd (fEq.upd (fEq.upd (fEq.upd (fEq.refl) rfl) rfl) rfl) rfl) rfl rfl rfl
  · intro hb4
    iterate 3 refine A1 rfl ?_
    exact St.le_fg (fEq.upd (fEq.upd (fEq.upd (fEq.upd (fEq.refl) rfl) rfl) rfl) rfl) rfl rfl rfl
  refine A1 rfl ?_
  apply RL.orB 6 19 25 [20, 21, 22, 23, 24] rfl (by first | exact MonoK.le | exact MonoK.aw | exact MonoK.back)
  · intro hb8
    iterate 6 refine A1 rfl ?_
    exact St.le_fg (fEq.upd (fEq.upd (fEq.upd (fEq.upd (fEq.upd (fEq.upd (fEq.upd (fEq.refl) rfl) rfl) rfl) rfl) rfl) rfl) rfl) rfl rfl rfl
  · intro hb8
    iterate 6 refine A1 rfl ?_
    exact St.le_fg (fEq.upd (fEq.upd (fEq.upd (fEq.upd (fEq.upd (fEq.upd (fEq.upd (fEq.refl) rfl) rfl) rfl) rfl) rfl) rfl) rfl) rfl rfl rfl
  repeat refine AW.seq ?_
  refine AW.cond rfl (fun hc25 => ?_) (fun hc25 => ?_)
  · rw [isB_not] at hc25
    repeat refine AW.seq ?_
    refine AW.region ?_
    refine A1 rfl ?_
    repeat refine AW.seq ?_
    refine AW.ret ?_
    exact ⟨_, _, rfl, rfl, by rw [if_neg (by simpa using hc25)]; rfl⟩
  · rw [isB_not] at hc25
    have hi : isB S P v = true := by simpa using hc25
    have hi2 := isB_iff.1 hi
    have hok := (ordE_zero.1 hi2.1).2
    have hP : ∀ p ∈ P, p < P.length := fun p hp => (hok.rng p hp).2
    obtain ⟨a, rfl⟩ := Int.eq_ofNat_of_zero_le hi2.2.1
    have hbne := below_ne (show a < P.length by omega)
    refine AW.skip ?_
    repeat refine AW.seq ?_
    refine AW.region ?_
    refine A1 rfl ?_
    refine AW.weaken (St.le_gro 7 2 1 3 rfl rfl) ?_
    repeat refine AW.seq ?_
    refine AW.region ?_
    iterate 4 refine A1 rfl ?_
    repeat refine AW.seq ?_
    refine AW.block ?_
    repeat refine AW.seq ?_
    refine AW.loop (st := fun x_0 : Nat × List Int => mkS [(2, .pv (.int .i64 a)), (4, .ptr 1 0), (7, .gsl 2 1 x_0.2.length), (28, .pv (.int .i64 P.length)), (29, .pv (.int .i64 x_0.1))] [(1, .mix 29 [.pv (pints P)]), (2, .gro 3 (intsP x_0.2))] 3)
      (I := fun x_0 => x_0.1 ≤ P.length ∧ x_0.2 = (upZ x_0.1).filter (fun b => b == (a : Int) || hiB P a b)) (μ := fun x_0 => P.length - x_0.1) (x0 := (0, [])) (St.le_mk ⟨rfl, rfl, rfl, rfl, rfl, trivial⟩ ⟨rfl, rfl, trivial⟩ rfl rfl) (⟨Nat.zero_le _, rfl⟩) ?_
    rintro ⟨k, L⟩ ⟨hk, hL⟩
    try simp only at hk hL ⊢
    repeat refine AW.seq ?_
    refine AW.region ?_
    refine A1 rfl ?_
    repeat refine AW.seq ?_
    refine AW.condP rfl (fun hc30 => ?_) (fun hc30 => ?_)
    · have hlt : k < P.length := by omega
      have hLl : L.length ≤ k := by rw [hL]; exact Nat.le_trans (List.length_filter_le _ _) (by rw [upZ_len]; exact Nat.le_refl _)
      have hsl : (intsP L).length = L.length * 1 := by simp
      have hfs := filter_snoc (fun b => b == (a : Int) || hiB P a b) k
      have hab := abvL_len P k
      refine AW.skip ?_
      repeat refine AW.seq ?_
      refine AW.block ?_
      repeat refine AW.seq ?_
      refine AW.region ?_
      iterate 2 refine A1 rfl ?_
      repeat refine AW.seq ?_
      refine AW.region ?_
      iterate 2 refine A1 rfl ?_
      refine RL.step (d := some 35) rfl rfl (xj_call Tryz.call56 (ranc_spec P k hlt hP hn) rfl) ?_
      iterate 5 refine A1 rfl ?_
      repeat refine AW.seq ?_
      refine AW.region ?_
      iterate 4 refine A1 rfl ?_
      apply RL.orB 4 41 45 [42, 43, 44] rfl (by first | exact MonoK.le | exact MonoK.aw | exact MonoK.back)
      · intro hb3
        iterate 4 refine A1 rfl ?_
        exact St.le_fg (fEq.upd (fEq.upd (fEq.upd (fEq.upd (fEq.upd (fEq.refl) rfl) rfl) rfl) rfl) rfl) rfl rfl rfl
      · intro hb3
        iterate 2 refine A1 rfl ?_
        refine RL.stepG (d := some 44) rfl rfl rfl (xj_call Tryz.call50 (in_spec (abvL P k) a (by omega)) rfl) ?_
        refine A1 rfl ?_
        exact St.le_fg (fEq.upd (fEq.upd (fEq.upd (fEq.upd (fEq.upd (fEq.refl) rfl) rfl) rfl) rfl) rfl) rfl rfl rfl
      repeat refine AW.seq ?_
      refine AW.cond rfl (fun hc45 => ?_) (fun hc45 => ?_)
      · rw [if_pos (show ((k : Int) == (a : Int) || hiB P a k) = true from hc45), ← hL] at hfs
        repeat refine AW.seq ?_
        refine AW.region ?_
        iterate 5 refine A1 rfl ?_
        repeat refine AW.seq ?_
        refine AW.region ?_
        iterate 2 refine A1 rfl ?_
        exact ⟨(k + 1, L ++ [(k : Int)]), St.le_mkR [0, 1, 4] ⟨rfl, rfl, by simp; rfl, rfl, rfl, trivial⟩ ⟨rfl, congrArg (fun c => some (Ob.gro 3 c)) (ints_snoc L k).symm, trivial⟩ rfl rfl (by decide) rfl, ⟨by simp only; omega, hfs.symm⟩, by simp only; omega⟩
      · rw [if_neg (fun e => by have e2 : ((k : Int) == (a : Int) || hiB P a k) = false := hc45; rw [e2] at e; cases e), ← hL, List.append_nil] at hfs
        refine AW.skip ?_
        repeat refine AW.seq ?_
        refine AW.region ?_
        iterate 2 refine A1 rfl ?_
        exact ⟨(k + 1, L), St.le_mk ⟨rfl, rfl, rfl, rfl, rfl, trivial⟩ ⟨rfl, rfl, trivial⟩ rfl rfl, ⟨by simp only; omega, hfs.symm⟩, by simp only; omega⟩
    · have hLe : L = belowL P a := by rw [hL, show k = P.length by omega]; rfl
      subst hLe
      have hpos := List.length_pos_iff.2 hbne
      repeat refine AW.seq ?_
      refine AW.exit ?_
      refine AW.weaken (St.le_own 7 rfl rfl hpos (by simpa using hbne)) ?_
      refine AW.weaken (St.le_pubA 2 rfl rfl) ?_
      repeat refine AW.seq ?_
      refine AW.region ?_
      iterate 2 refine A1 rfl ?_
      repeat refine AW.seq ?_
      refine AW.ret ?_
      exact ⟨_, _, rfl, rfl, by rw [if_pos hi]; rfl⟩
theorem rkey_eq {S : Sch} {P : List Int} (hP : UpOk P) {v : Nat} (hv : v < P.length) : (upZ P.length).filter (fun a => decide (a ∈ abvL P v) && (belowL P v).any fun b => linkB S a b) = keyL S P v := by
  unfold keyL
  refine sortI_eq ?_ (List.Pairwise.sublist List.filter_sublist ((upZ_pw P.length).imp fun h => Int.le_of_lt h))
  have hab := (List.nodup_cons.1 (abvL_nodup hP v hv)).2
  refine nodup_perm (List.Pairwise.sublist List.filter_sublist (upZ_nodup _)) (by unfold keyU; exact List.Pairwise.sublist List.filter_sublist hab) fun a => ?_
  unfold keyU
  rw [List.mem_filter, List.mem_filter, Bool.and_eq_true, decide_eq_true_iff]
  refine ⟨fun h => h.2, fun h => ⟨?_, h⟩⟩
  obtain ⟨x, hx, e, _⟩ := abvL_mem hP v hv a h.1
  exact upZ_mem.2 ⟨x, hx, e⟩
theorem any_snoc {l : List Int} {p : Int → Bool} {k : Nat} (hk : k < l.length) : (l.take (k + 1)).any p = ((l.take k).any p || p l[k]) := by
  rw [take_snoc hk]; simp only [List.any_append, List.any_cons, List.any_nil, Bool.or_false]
theorem rkey_spec (S : Sch) (hS : SB S) (P : List Int) (hn : P.length ≤ 1000000) (v : Int) : FnP Tryz.prog 28 [schP S, ordP P, .int .i64 v] (· = pints (if isB S P v = true then keyL S P v else [])) := by
  refine FnP.of Tryz.func28 rfl Tryz.ntmps28 (by simp) fun m0 w0 F R0 => ?_
  have hbs := rbelow_spec S hS P hn v
  repeat refine AW.seq ?_
  refine AW.region ?_
  iterate 3 refine A1 rfl ?_
  by_cases hB : isB S P v = true
  · rw [if_pos hB] at hbs
    repeat refine AW.seq ?_
    refine AW.region ?_
    iterate 3 refine A1 rfl ?_
    refine RL.step (d := some 18) rfl rfl (xj_call Tryz.call30 hbs rfl) ?_
    refine A1 rfl ?_
    repeat refine AW.seq ?_
    refine AW.region ?_
    iterate 2 refine A1 rfl ?_
    repeat refine AW.seq ?_
    refine AW.cond rfl (fun hc20 => absurd hc20 (by decide)) (fun hc20 => ?_)
    have hi2 := isB_iff.1 hB
    have hok := (ordE_zero.1 hi2.1).2
    have hU := hok.upOk
    have hP : ∀ p ∈ P, p < P.length := fun p hp => (hok.rng p hp).2
    obtain ⟨a, rfl⟩ := Int.eq_ofNat_of_zero_le hi2.2.1
    have hal : a < P.length := by omega
    have hke := rkey_eq (S := S) hU hal
    have hab := abvL_len P a
    have hbl : (belowL P a).length ≤ P.length := by unfold belowL; exact Nat.le_trans (List.length_filter_le _ _) (by simp)
    refine AW.skip ?_
    repeat refine AW.seq ?_
    refine AW.region ?_
    iterate 2 refine A1 rfl ?_
    refine RL.step (d := some 24) rfl rfl (xj_call Tryz.call56 (ranc_spec P a hal hP hn) rfl) ?_
    iterate 5 refine A1 rfl ?_
    repeat refine AW.seq ?_
    refine AW.region ?_
    refine A1 rfl ?_
    refine AW.weaken (St.le_gro 10 2 1 3 rfl rfl) ?_
    repeat refine AW.seq ?_
    refine AW.region ?_
    iterate 4 refine A1 rfl ?_
    repeat refine AW.seq ?_
    refine AW.block ?_
    repeat refine AW.seq ?_
    refine AW.loop (st := fun x_0 : Nat × List Int => mkS [(3, .ptr 0 0), (7, .pv (.sl (some false) (belowL P a).length (intsP (belowL P a)))), (8, .pv (pints (abvL P a))), (10, .gsl 2 1 x_0.2.length), (29, .pv (.int .i64 P.length)), (30, .pv (.int .i64 x_0.1))] [(0, .mix 27 [.pv (.sl none S.attrs.length (attrsC S.attrs)), .pv (.sl none S.rels.length (relsC S.rels)), .pv (.sl none S.feats.length (featsC S.feats)), .pv (.int .i64 S.label)]), (2, .gro 3 (intsP x_0.2))] 3)
      (I := fun x_0 => x_0.1 ≤ P.length ∧ x_0.2 = (upZ x_0.1).filter (fun x => decide (x ∈ abvL P a) && (belowL P a).any fun b => linkB S x b)) (μ := fun x_0 => P.length - x_0.1) (x0 := (0, [])) (St.le_mk ⟨rfl, rfl, rfl, rfl, rfl, rfl, trivial⟩ ⟨rfl, rfl, trivial⟩ rfl rfl) (⟨Nat.zero_le _, rfl⟩) ?_
    rintro ⟨k, L⟩ ⟨hk, hL⟩
    try simp only at hk hL ⊢
    repeat refine AW.seq ?_
    refine AW.region ?_
    refine A1 rfl ?_
    repeat refine AW.seq ?_
    refine AW.condP rfl (fun hc31 => ?_) (fun hc31 => ?_)
    · have hlt : k < P.length := by omega
      have hLl : L.length ≤ k := by rw [hL]; exact Nat.le_trans (List.length_filter_le _ _) (by rw [upZ_len]; exact Nat.le_refl _)
      have hsl : (intsP L).length = L.length * 1 := by simp
      have hfs := filter_snoc (fun x => decide (x ∈ abvL P a) && (belowL P a).any fun b => linkB S x b) k
      refine AW.skip ?_
      repeat refine AW.seq ?_
      refine AW.block ?_
      repeat refine AW.seq ?_
      refine AW.region ?_
      iterate 2 refine A1 rfl ?_
      repeat refine AW.seq ?_
      refine AW.region ?_
      iterate 2 refine A1 rfl ?_
      refine RL.step (d := some 35) rfl rfl (xj_call Tryz.call50 (in_spec (abvL P a) k (by omega)) rfl) ?_
      refine A1 rfl ?_
      repeat refine AW.seq ?_
      refine AW.cond rfl (fun hc36 => ?_) (fun hc36 => ?_)
      · have hnm : decide ((k : Int) ∈ abvL P a) = false := by simpa using hc36
        rw [if_neg (by rw [hnm]; simp), ← hL, List.append_nil] at hfs
        repeat refine AW.seq ?_
        refine AW.exit ?_
        repeat refine AW.seq ?_
        refine AW.region ?_
        iterate 2 refine A1 rfl ?_
        exact ⟨(k + 1, L), St.le_mk ⟨rfl, rfl, rfl, rfl, rfl, rfl, trivial⟩ ⟨rfl, rfl, trivial⟩ rfl rfl, ⟨by simp only; omega, hfs.symm⟩, by simp only; omega⟩
      · have hnm : decide ((k : Int) ∈ abvL P a) = true := by simpa using hc36
        refine AW.skip ?_
        repeat refine AW.seq ?_
        refine AW.region ?_
        refine A1 rfl ?_
        repeat refine AW.seq ?_
        refine AW.region ?_
        iterate 3 refine A1 rfl ?_
        repeat refine AW.seq ?_
        refine AW.block ?_
        repeat refine AW.seq ?_
        refine AW.loop (st := fun x_1 : Nat × Bool => mkS [(3, .ptr 0 0), (7, .pv (.sl (some false) (belowL P a).length (intsP (belowL P a)))), (8, .pv (pints (abvL P a))), (10, .gsl 2 1 L.length), (11, .pv (.int .i64 k)), (12, .pv (.bool x_1.2)), (29, .pv (.int .i64 P.length)), (30, .pv (.int .i64 k)), (37, .pv (.sl (some false) (belowL P a).length (intsP (belowL P a)))), (38, .pv (.int .i64 (belowL P a).length)), (39, .pv (.int .i64 x_1.1))] [(0, .mix 27 [.pv (.sl none S.attrs.length (attrsC S.attrs)), .pv (.sl none S.rels.length (relsC S.rels)), .pv (.sl none S.feats.length (featsC S.feats)), .pv (.int .i64 S.label)]), (2, .gro 3 (intsP L))] 3)
          (I := fun x_1 => x_1.1 ≤ (belowL P a).length ∧ x_1.2 = ((belowL P a).take x_1.1).any fun b => linkB S k b) (μ := fun x_1 => (belowL P a).length - x_1.1) (x0 := (0, false)) (St.le_mk ⟨rfl, rfl, rfl, rfl, rfl, rfl, rfl, rfl, rfl, rfl, rfl, trivial⟩ ⟨rfl, rfl, trivial⟩ rfl rfl) (⟨Nat.zero_le _, rfl⟩) ?_
        rintro ⟨j, fd⟩ ⟨hj, hfd⟩
        try simp only at hj hfd ⊢
        repeat refine AW.seq ?_
        refine AW.region ?_
        refine A1 rfl ?_
        repeat refine AW.seq ?_
        refine AW.condP rfl (fun hc40 => ?_) (fun hc40 => ?_)
        · have hjl : j < (belowL P a).length := by omega
          have hvj := pints_at hjl
          have hnej := pints_ne hjl
          have has := any_snoc (p := fun b => linkB S k b) hjl
          rw [← hfd] at has
          refine AW.skip ?_
          repeat refine AW.seq ?_
          refine AW.block ?_
          repeat refine AW.seq ?_
          refine AW.region ?_
          refine A1 rfl ?_
          first | refine A2 rfl (by assumption) ?_ | refine A1 rfl ?_
          refine A1 rfl ?_
          repeat refine AW.seq ?_
          refine AW.region ?_
          iterate 2 refine A1 rfl ?_
          apply RL.orB 5 44 49 [45, 46, 47, 48] rfl (by first | exact MonoK.le | exact MonoK.aw | exact MonoK.back)
          · intro hb1
            iterate 5 refine A1 rfl ?_
            exact St.le_fg (fEq.upd (fEq.upd (fEq.upd (fEq.upd (fEq.upd (fEq.upd (fEq.refl) rfl) rfl) rfl) rfl) rfl) rfl) rfl rfl rfl
          · intro hb1
            iterate 3 refine A1 rfl ?_
            refine RL.stepG (d := some 48) rfl rfl rfl (xj_call Tryz.call46 (share_spec S hS k (belowL P a)[j]) rfl) ?_
            refine A1 rfl ?_
            exact St.le_fg (fEq.upd (fEq.upd (fEq.upd (fEq.upd (fEq.upd (fEq.upd (fEq.refl) rfl) rfl) rfl) rfl) rfl) rfl) rfl rfl rfl
          refine A1 rfl ?_
          repeat refine AW.seq ?_
          refine AW.region ?_
          iterate 2 refine A1 rfl ?_
          exact ⟨(j + 1, fd || linkB S k (belowL P a)[j]), St.le_mk ⟨rfl, rfl, rfl, rfl, rfl, rfl, rfl, rfl, rfl, rfl, rfl, trivial⟩ ⟨rfl, rfl, trivial⟩ rfl rfl, ⟨by simp only; omega, has.symm⟩, by simp only; omega⟩
        · rw [List.take_of_length_le (by omega)] at hfd
          repeat refine AW.seq ?_
          refine AW.exit ?_
          repeat refine AW.seq ?_
          refine AW.region ?_
          refine A1 rfl ?_
          repeat refine AW.seq ?_
          refine AW.cond rfl (fun hc51 => ?_) (fun hc51 => ?_)
          · rw [if_pos (by rw [hnm, ← hfd, hc51]; rfl), ← hL] at hfs
            repeat refine AW.seq ?_
            refine AW.region ?_
            iterate 5 refine A1 rfl ?_
            repeat refine AW.seq ?_
            refine AW.region ?_
            iterate 2 refine A1 rfl ?_
            exact ⟨(k + 1, L ++ [(k : Int)]), St.le_mkR [0, 1, 4] ⟨rfl, rfl, rfl, by simp; rfl, rfl, rfl, trivial⟩ ⟨rfl, congrArg (fun c => some (Ob.gro 3 c)) (ints_snoc L k).symm, trivial⟩ rfl rfl (by decide) rfl, ⟨by simp only; omega, hfs.symm⟩, by simp only; omega⟩
          · rw [if_neg (by rw [hnm, ← hfd, hc51]; decide), ← hL, List.append_nil] at hfs
            refine AW.skip ?_
            repeat refine AW.seq ?_
            refine AW.region ?_
            iterate 2 refine A1 rfl ?_
            exact ⟨(k + 1, L), St.le_mk ⟨rfl, rfl, rfl, rfl, rfl, rfl, trivial⟩ ⟨rfl, rfl, trivial⟩ rfl rfl, ⟨by simp only; omega, hfs.symm⟩, by simp only; omega⟩
    · have hLe : L = keyL S P a := by rw [hL, show k = P.length by omega]; exact hke
      repeat refine AW.seq ?_
      refine AW.exit ?_
      refine AW.weaken (St.le_pubA 2 rfl rfl) ?_
      repeat refine AW.seq ?_
      refine AW.region ?_
      iterate 2 refine A1 rfl ?_
      repeat refine AW.seq ?_
      refine AW.ret ?_
      exact ⟨_, _, rfl, rfl, by rw [if_pos hB, ← hLe]; simp [tk_all]; rfl⟩
  · rw [if_neg hB] at hbs
    repeat refine AW.seq ?_
    refine AW.region ?_
    iterate 3 refine A1 rfl ?_
    refine RL.step (d := some 18) rfl rfl (xj_call Tryz.call30 hbs rfl) ?_
    refine A1 rfl ?_
    repeat refine AW.seq ?_
    refine AW.region ?_
    iterate 2 refine A1 rfl ?_
    repeat refine AW.seq ?_
    refine AW.cond rfl (fun hc20 => ?_) (fun hc20 => absurd hc20 (by decide))
    repeat refine AW.seq ?_
    refine AW.region ?_
    refine A1 rfl ?_
    refine AW.weaken (St.le_fgS [6]) ?_
    repeat refine AW.seq ?_
    refine AW.ret ?_
    exact ⟨_, _, rfl, rfl, by rw [if_neg hB]; rfl⟩
theorem wmax_next {m w l : Int} {k : Nat} (hm : m = if k = 0 then 0 else w + 1) (hw : k = 0 → w = 0) (h0 : 0 ≤ w) (hl : 0 ≤ l) : (if l + 1 > m then l + 1 else m) = (if l > w then l else w) + 1 := by
  by_cases e : k = 0
  · have := hw e
    rw [if_pos e] at hm
    subst hm
    split <;> split <;> omega
  · rw [if_neg e] at hm
    subst hm
    split <;> split <;> omega
theorem rwidth_spec (S : Sch) (hS : SB S) (P : List Int) (hn : P.length ≤ 1000000) : FnP Tryz.prog 21 [schP S, ordP P] (· = .tup [.int .i64 (if ordE S P = 0 then widN S P P.length + 1 else 0), .int .i64 (ordE S P)]) := by
  refine FnP.of Tryz.func21 rfl Tryz.ntmps21 (by simp) fun m0 w0 F R0 => ?_
  repeat refine AW.seq ?_
  refine AW.region ?_
  iterate 4 refine A1 rfl ?_
  repeat refine AW.seq ?_
  refine AW.region ?_
  iterate 2 refine A1 rfl ?_
  refine RL.step (d := some 11) rfl rfl (xj_call Tryz.call23 (rochk_spec S hS P hn) rfl) ?_
  refine A1 rfl ?_
  repeat refine AW.seq ?_
  refine AW.region ?_
  iterate 2 refine A1 rfl ?_
  repeat refine AW.seq ?_
  refine AW.cond rfl (fun hc13 => ?_) (fun hc13 => ?_)
  · repeat refine AW.seq ?_
    refine AW.region ?_
    iterate 3 refine A1 rfl ?_
    repeat refine AW.seq ?_
    refine AW.ret ?_
    exact ⟨_, _, rfl, rfl, by rw [if_neg (inT hc13)]; rfl⟩
  · have h0 : ordE S P = 0 := inF hc13
    have hok := (ordE_zero.1 h0).2
    have hn1 : 1 ≤ P.length := by rw [hok.len]; exact hok.val.n1
    have hn12 : P.length ≤ 12 := by rw [hok.len]; exact hok.val.n2
    refine AW.skip ?_
    repeat refine AW.seq ?_
    refine AW.region ?_
    refine A1 rfl ?_
    repeat refine AW.seq ?_
    refine AW.region ?_
    iterate 4 refine A1 rfl ?_
    repeat refine AW.seq ?_
    refine AW.block ?_
    repeat refine AW.seq ?_
    refine AW.loop (st := fun x_0 : Nat × Int => mkS [(2, .ptr 0 0), (3, .ptr 1 0), (7, .pv (.int .i64 x_0.2)), (17, .pv (.int .i64 P.length)), (18, .pv (.int .i64 x_0.1))] [(0, .mix 27 [.pv (.sl none S.attrs.length (attrsC S.attrs)), .pv (.sl none S.rels.length (relsC S.rels)), .pv (.sl none S.feats.length (featsC S.feats)), .pv (.int .i64 S.label)]), (1, .mix 29 [.pv (pints P)])] 2)
      (I := fun x_0 => x_0.1 ≤ P.length ∧ x_0.2 = (if x_0.1 = 0 then 0 else widN S P x_0.1 + 1)) (μ := fun x_0 => P.length - x_0.1) (x0 := (0, 0)) (St.le_mk ⟨rfl, rfl, rfl, rfl, rfl, trivial⟩ ⟨rfl, rfl, trivial⟩ rfl rfl) (⟨Nat.zero_le _, rfl⟩) ?_
    rintro ⟨k, m⟩ ⟨hk, hm⟩
    try simp only at hk hm ⊢
    repeat refine AW.seq ?_
    refine AW.region ?_
    refine A1 rfl ?_
    repeat refine AW.seq ?_
    refine AW.condP rfl (fun hc19 => ?_) (fun hc19 => ?_)
    · have hlt : k < P.length := by omega
      have hks := rkey_spec S hS P hn (k : Int)
      rw [if_pos (isB_iff.2 ⟨h0, by omega, by omega⟩)] at hks
      have hwb := widN_bd S P k
      have hkl : (keyL S P k).length ≤ P.length := by unfold keyL; rw [(sortI_perm _).length_eq]; exact Nat.le_trans (List.length_filter_le _ _) (abvL_len P _)
      refine AW.skip ?_
      repeat refine AW.seq ?_
      refine AW.block ?_
      repeat refine AW.seq ?_
      refine AW.region ?_
      iterate 2 refine A1 rfl ?_
      repeat refine AW.seq ?_
      refine AW.region ?_
      iterate 4 refine A1 rfl ?_
      refine RL.step (d := some 25) rfl rfl (xj_call Tryz.call28 hks rfl) ?_
      iterate 4 refine A1 rfl ?_
      repeat refine AW.seq ?_
      refine AW.region ?_
      iterate 2 refine A1 rfl ?_
      exact ⟨(k + 1, (if ((keyL S P k).length : Int) + 1 > m then ((keyL S P k).length : Int) + 1 else m)), St.le_mk ⟨rfl, rfl, rfl, rfl, rfl, trivial⟩ ⟨rfl, rfl, trivial⟩ rfl rfl, ⟨by simp only; omega, (wmax_next hm (fun e => by subst e; rfl) hwb.1 (by omega)).trans (by simp only [widN]; rw [if_neg (show ¬ k + 1 = 0 by omega)])⟩, by simp only; omega⟩
    · have hkn : k = P.length := by omega
      rw [if_neg (by omega)] at hm
      repeat refine AW.seq ?_
      refine AW.exit ?_
      repeat refine AW.seq ?_
      refine AW.region ?_
      iterate 3 refine A1 rfl ?_
      repeat refine AW.seq ?_
      refine AW.ret ?_
      exact ⟨_, _, rfl, rfl, by rw [if_pos h0, h0, ← hkn, hm]; rfl⟩
end Go.Proofs.YtkalgjnhaicabaaGreat
namespace Go.Proofs.YtkalgjnhaicabaaGreat
open Go.RowKit Mk
set_option maxRecDepth 100000
set_option maxHeartbeats 1000000
theorem walk_all (P : List Int) (hP : UpOk P) (hn : P.length ≤ 1000000) : ∀ (f : Nat) (v : Int) (L : List Int), (∀ a (ha : a < P.length), P[a] = v → P.length + 1 ≤ (abvL P a).length + f) → L.length + (walkF P f v).length ≤ 1000000 →
    FnO Tryz.prog 57 3 1 (visA P v) (visO P 1000002 L) (fun r ob' => r = .tup [] ∧ ob' = lookO (visO P 0 (L ++ walkF P f v)))
  | 0, v, L, hf, hL => by
    have hno : ∀ a (ha : a < P.length), P[a] ≠ v := fun a ha e => by have := hf a ha e; have := abvL_len P a; omega
    have hz : walkG P (fun _ => []) v P.length = [] := by
      unfold walkG
      rw [List.flatMap_eq_nil_iff]
      intro x hx
      obtain ⟨a, ha, rfl⟩ := upZ_mem.1 hx
      rw [if_neg]
      simp only [Int.toNat_natCast, getD_eq ha]
      exact hno a ha
    have := walk1_step P hn (fun _ => []) v (fun a ha L e _ => absurd e (hno a ha)) L (by rw [hz]; simpa [walkF] using hL)
    rw [hz] at this
    exact this
  | f + 1, v, L, hf, hL => walk1_step P hn (walkF P f) v (fun a ha L' e hL' => walk_all P hP hn f a L' (fun b hb e2 => by
      have h1 := hf a ha e
      rw [abvL_cons hP hb ha e2]; simp; omega) hL') L hL
theorem walkL_len {P : List Int} (hP : UpOk P) : (walkL P).length = P.length := by rw [(walk_perm hP).length_eq, upZ_len]
theorem owalk_spec (S : Sch) (hS : SB S) (P : List Int) (hn : P.length ≤ 1000000) : FnP Tryz.prog 24 [schP S, ordP P] (· = pints (if ordE S P = 0 then walkL P else [])) := by
  refine FnP.of Tryz.func24 rfl Tryz.ntmps24 (by simp) fun m0 w0 F R0 => ?_
  repeat refine AW.seq ?_
  refine AW.region ?_
  iterate 3 refine A1 rfl ?_
  repeat refine AW.seq ?_
  refine AW.region ?_
  iterate 2 refine A1 rfl ?_
  refine RL.step (d := some 9) rfl rfl (xj_call Tryz.call22 (ocheck_spec S hS P hn) rfl) ?_
  refine A1 rfl ?_
  repeat refine AW.seq ?_
  refine AW.cond rfl (fun hc10 => ?_) (fun hc10 => ?_)
  · repeat refine AW.seq ?_
    refine AW.region ?_
    refine A1 rfl ?_
    refine AW.weaken (St.le_fgS [4]) ?_
    repeat refine AW.seq ?_
    refine AW.ret ?_
    exact ⟨_, _, rfl, rfl, by rw [if_neg (inT hc10)]; rfl⟩
  · have h0 : ordE S P = 0 := inF hc10
    have hU := (ordE_zero.1 h0).2.upOk
    have hwl := walkL_len hU
    have hgo := walk_all P hU hn (P.length + 1) (-1) [] (fun a ha e => by omega) (by show 0 + (walkL P).length ≤ 1000000; omega)
    refine AW.skip ?_
    refine AW.weaken (St.le_ppA 1 rfl rfl) ?_
    repeat refine AW.seq ?_
    refine AW.region ?_
    refine A1 rfl ?_
    refine AW.weaken (St.le_groC 2 0 3 1 3 rfl rfl rfl) ?_
    repeat refine AW.seq ?_
    refine AW.region ?_
    refine A1 rfl ?_
    repeat refine AW.seq ?_
    refine AW.region ?_
    iterate 2 refine A1 rfl ?_
    repeat refine AW.seq ?_
    refine AW.region ?_
    refine A1 rfl ?_
    refine RL.call rfl (oj_callVF [2, 4, 3] 5 Tryz.call57 hgo rfl rfl rfl rfl rfl ⟨rfl, rfl, rfl, trivial⟩ (by decide) rfl ?_)
    rintro _ _ ⟨rfl, rfl⟩
    refine AW.weaken (St.le_pubA (o := .gro 3 (intsP (walkL P))) 5 (by kernel_rfl) rfl) ?_
    repeat refine AW.seq ?_
    refine AW.region ?_
    iterate 2 refine A1 rfl ?_
    repeat refine AW.seq ?_
    refine AW.ret ?_
    exact ⟨_, _, rfl, rfl, by rw [if_pos h0]; rfl⟩
def pathS : Sch := ⟨[(⟨#[97]⟩, 1), (⟨#[98]⟩, 1), (⟨#[99]⟩, 1)], [(⟨#[114]⟩, [0, 1]), (⟨#[113]⟩, [1, 2])], [], -1⟩
theorem path_spec : FnP Tryz.prog 36 [] (· = schP pathS) := by
  refine FnP.fg2 (FnP.ofC Tryz.func36 rfl Tryz.ntmps36 (by simp) fun m0 w0 F R0 => ?_)
  repeat refine AW.seq ?_
  refine AW.region ?_
  refine A1 rfl ?_
  repeat refine AW.seq ?_
  refine AW.region ?_
  iterate 3 refine A1 rfl ?_
  refine RL.step (d := some 4) rfl rfl (xj_buildSliceP none (by simp) el23 rfl (by decide) (by decide) rfl rfl) ?_
  refine RL.step (d := some 5) rfl rfl (xj_buildSliceP none (by simp) el22 rfl (by decide) (by decide) rfl rfl) ?_
  refine A1 rfl ?_
  refine RL.step (d := some 7) rfl rfl (xj_buildSliceP none (by simp) el22 rfl (by decide) (by decide) rfl rfl) ?_
  refine A1 rfl ?_
  refine RL.step (d := some 9) rfl rfl (xj_buildSliceP none (by simp) el24 rfl (by decide) (by decide) rfl rfl) ?_
  iterate 2 refine A1 rfl ?_
  repeat refine AW.seq ?_
  refine AW.ret ?_
  exact ⟨_, _, rfl, rfl, ⟨cellOk1 ⟨_, Tryz.underlying27, rfl⟩ sz27 rfl rfl rfl, trivial⟩, rfl⟩
theorem path_sb : SB pathS := ⟨by decide, by decide, by decide, by decide, by decide, by decide⟩
theorem path_ok : checkE pathS = 0 := by decide
abbrev pathP : List Int := [1, -1, 1]
theorem path_ord : ordE pathS pathP = 0 := by decide
theorem path_val : Valid pathS := valid_of path_ok
abbrev pathQ : List Int := [1, 0, 2]
theorem path_perm : pathQ.Perm (upZ pathS.attrs.length) := by
  show [1, 0, 2].Perm [(0 : Int), 1, 2]
  exact List.Perm.swap 0 1 [2]
theorem path_is : IsOrd 3 (adjS pathS) (posQ pathQ) pathP := by
  have p0 : posQ pathQ 0 = 1 := by decide
  have p1 : posQ pathQ 1 = 0 := by decide
  have p2 : posQ pathQ 2 = 2 := by decide
  refine ⟨rfl, fun b hb => ?_⟩
  match b, hb with
  | 0, _ =>
    refine .inr ⟨1, by decide, rfl, ⟨by rw [p0, p1]; decide, .one ⟨by decide, by decide⟩ (by rw [p0, p1]; decide)⟩, fun a ha h => ?_⟩
    have h1 := h.1
    rw [p0] at h1
    match a, ha with
    | 0, _ => rw [p0] at h1; omega
    | 1, _ => exact .inl rfl
    | 2, _ => rw [p2] at h1; omega
  | 1, _ =>
    refine .inl ⟨rfl, fun a ha h => ?_⟩
    have h1 := h.1
    rw [p1] at h1; omega
  | 2, _ =>
    refine .inr ⟨1, by decide, rfl, ⟨by rw [p1, p2]; decide, .one ⟨by decide, by decide⟩ (by rw [p1, p2]; decide)⟩, fun a ha h => ?_⟩
    match a, ha with
    | 0, _ =>
      exfalso
      have hst := (h.2.stay (inn := fun x => x = 0) rfl (fun x y hx hxy hy => by
        subst hx
        have hy3 := (link_lt path_val hxy.2).2.2
        have hy3 : y < 3 := by have : (y : Int) < 3 := hy3; omega
        match y, hy3 with
        | 0, _ => rfl
        | 1, _ => rw [p0, p1] at hy; omega
        | 2, _ => exact absurd hxy.2 (by decide))).2
      omega
    | 1, _ => exact .inl rfl
    | 2, _ => have h1 := h.1; omega
theorem path_ordL : ordL pathS pathQ = pathP := (ordL_ord path_val path_perm).unique path_is
theorem of_path : FnP Tryz.prog 15 [schP pathS, pints pathQ] (· = .tup [ordP pathP, .int .i64 0]) := by
  have h := oof_spec pathS path_sb pathQ (by decide)
  have e : ofV pathS pathQ = .tup [ordP pathP, .int .i64 0] := by
    unfold ofV
    rw [perm_ofE path_ok path_perm, if_pos rfl, path_ordL]
  rw [e] at h
  exact h
theorem sort_one (a : Int) : sortI [a] = [a] := (sortI_eq (List.Perm.refl [a]) (by simp)).symm
theorem sort_nil : sortI [] = [] := (sortI_eq (List.Perm.refl []) (by simp)).symm
theorem key_p0 : keyL pathS pathP 0 = [1] := by unfold keyL; rw [show keyU pathS pathP 0 = [1] by decide, sort_one]
theorem key_p1 : keyL pathS pathP 1 = [] := by unfold keyL; rw [show keyU pathS pathP 1 = [] by decide, sort_nil]
theorem key_p2 : keyL pathS pathP 2 = [1] := by unfold keyL; rw [show keyU pathS pathP 2 = [1] by decide, sort_one]
theorem width_path : FnP Tryz.prog 20 [schP pathS, ordP pathP] (· = .tup [.int .i64 2, .int .i64 0]) := by
  have h := width_spec pathS path_sb pathP (by decide)
  rw [path_ord, if_pos rfl] at h
  have e : widN pathS pathP 3 = 1 := by
    have e0 : ((keyL pathS pathP ((0 : Nat) : Int)).length : Int) = 1 := by rw [show ((0 : Nat) : Int) = 0 from rfl, key_p0]; rfl
    have e1 : ((keyL pathS pathP ((1 : Nat) : Int)).length : Int) = 0 := by rw [show ((1 : Nat) : Int) = 1 from rfl, key_p1]; rfl
    have e2 : ((keyL pathS pathP ((2 : Nat) : Int)).length : Int) = 1 := by rw [show ((2 : Nat) : Int) = 2 from rfl, key_p2]; rfl
    simp only [widN, e0, e1, e2]
    decide
  rw [show pathP.length = 3 from rfl, e] at h
  exact h
theorem key_path : FnP Tryz.prog 27 [schP pathS, ordP pathP, .int .i64 0] (· = pints [1]) := by
  have h := keyU_spec pathS path_sb pathP (by decide) 0
  rw [if_pos (isB_iff.2 ⟨path_ord, by decide, by decide⟩), key_p0] at h
  exact h
theorem chi_path : FnP Tryz.prog 31 [schP pathS, ordP pathP, .int .i64 1] (· = pints [0, 2]) := by
  have h := children_spec pathS path_sb pathP (by decide) 1
  rw [if_neg (by unfold badB; rw [isB_iff.2 ⟨path_ord, by decide, by decide⟩, path_ord]; decide), show childL pathP 1 = [0, 2] by decide] at h
  exact h
theorem home_path : FnP Tryz.prog 33 [schP pathS, ordP pathP, .int .i64 1] (· = .int .i64 2) := by
  have h := home_spec pathS path_sb pathP (by decide) 1
  rw [if_neg (by unfold noRel; rw [path_ord]; decide), show homeL pathP (pathS.rels.getD (1 : Int).toNat default).2 = 2 by decide] at h
  exact h
theorem walk_path : FnP Tryz.prog 24 [schP pathS, ordP pathP] (· = pints [1, 0, 2]) := by
  have h := owalk_spec pathS path_sb pathP (by decide)
  rw [if_pos path_ord, show walkL pathP = [1, 0, 2] by decide] at h
  exact h
theorem below_path : FnP Tryz.prog 29 [schP pathS, ordP pathP, .int .i64 1] (· = pints [0, 1, 2]) := by
  have h := belowU_spec pathS path_sb pathP (by decide) 1
  rw [if_pos (isB_iff.2 ⟨path_ord, by decide, by decide⟩), show belowL pathP 1 = [0, 1, 2] by decide] at h
  exact h
theorem chk_path : FnP Tryz.prog 22 [schP pathS, ordP pathP] (· = .int .i64 0) := by
  have h := ocheck_spec pathS path_sb pathP (by decide)
  rw [path_ord] at h
  exact h
theorem ints_same (l : List Int) (hl : l.length ≤ 1000000000) : FnP Tryz.prog 13 [pints l, pints l] (· = .bool true) := by
  have h := ints_spec l l hl hl
  rw [decide_eq_true rfl] at h
  exact h
end Go.Proofs.YtkalgjnhaicabaaGreat
namespace Go.Proofs.YtkalgjnhaicabaaGreat
open Go.RowKit Mk
set_option maxHeartbeats 1000000
theorem asc_len {n : Nat} : ∀ {l : List Int}, l.Pairwise (· < ·) → (∀ a ∈ l, 0 ≤ a ∧ a < n) → l.length ≤ n := by
  intro l hp hr
  have hnd : l.Nodup := hp.imp (fun h e => by omega)
  have hsub : ∀ a ∈ l, a ∈ upZ n := fun a ha => by
    obtain ⟨x, hx⟩ := Int.eq_ofNat_of_zero_le (hr a ha).1
    exact upZ_mem.2 ⟨x, by have := (hr a ha).2; omega, hx⟩
  have : (((upZ n).filter fun a => decide (a ∈ l))).Perm l := nodup_perm (List.Pairwise.sublist List.filter_sublist (upZ_nodup _)) hnd fun a => by
    rw [List.mem_filter, decide_eq_true_iff]
    exact ⟨fun h => h.2, fun h => ⟨hsub a h, h⟩⟩
  rw [← this.length_eq]
  exact Nat.le_trans (List.length_filter_le _ _) (by rw [upZ_len]; exact Nat.le_refl _)
theorem nm_size (p : UInt8) (i : Nat) : (nm p i).size = 2 := by
  unfold nm chr
  simp [ByteArray.size_append]
  rfl
theorem made_SB {S : Sch} {most : Nat} (h : Made S most) (hm : most ≤ 8) : SB S := by
  have h1 := h.a2
  have h2 := h.r2
  have h3 := featsOk_len h.fs
  refine ⟨by omega, by omega, by omega, fun x hx => ?_, fun x hx => ?_, fun x hx => ?_⟩
  · obtain ⟨i, hi, rfl⟩ := List.getElem_of_mem hx
    rw [(h.at' i hi).1, nm_size]; decide
  · obtain ⟨i, hi, rfl⟩ := List.getElem_of_mem hx
    rw [(h.rs i hi).1, nm_size]; decide
  · obtain ⟨i, hi, rfl⟩ := List.getElem_of_mem hx
    have := asc_len (h.rs i hi).2.2.1 (h.rs i hi).2.2.2
    omega
section
variable {C : Ctx} {n : Nat} {σ : St} {dst : Option Tmp} {ty : TypeId} {ts : Array TypeId} {pos : String} {after : Array Edge} {gd : Option (Nat × Bool)}
/-- What a method leaves, if it isn't a function: for DL.rel. -/
def RM (T : TypeId) (id : Nat) (Q : PV → List PV → Prop) (s : OS) : Prop := ∃ r cs', Q r cs' ∧ s = ⟨.pv r, [(id, some (.mix T (cs'.map .pv)))], []⟩
theorem relM {f : FuncId} {xs : Array Operand} {ps : List PV} {T : TypeId} {id : Nat} {cs : List PV} {Q : PV → List PV → Prop} (hc : CallOk C.P f) (hf : FnM C.P f T cs ps Q) (hargs : xs.toList.map (σ.ev n) = .ptr id 0 :: ps.map .pv) (ho : σ.ob id = some (.mix T (cs.map .pv))) :
    OJ C n ⟨dst, .call { callee := .value (.func f), args := xs, argTypes := ts }, ty, pos, after, gd⟩ (fun τ' => ∃ s, RM T id Q s ∧ s.wr.map (·.1) = [id] ∧ s.nw = [] ∧ τ' = σ.app dst s) σ :=
  oj_callM hc hf hargs ho fun r cs' h => ⟨_, ⟨r, cs', h, rfl⟩, rfl, rfl, rfl⟩
end
/-- From a contract on plain values to a call. -/
theorem fn_calls {P : Program} {f : FuncId} {args : List PV} {us : List Value} (h : FnP P f args (· = .bool true)) (w : World) (hrel : RelPL w (fun b => b < w.heap.size) args us) :
    Calls P f us.toArray w fun e w' => e = .returned (.bool true) ∧ Below w.heap.size w w' :=
  (h w _ us (fun _ hb => hb) hrel).mono fun _ _ ⟨u, v, e, hv, hb, hr⟩ => by
    subst hv
    simp only [RelP] at hr
    subst hr
    exact ⟨e, hb⟩
/-- A slice of integers as the reading of the arguments gives it. -/
theorem rel_ints {w : World} {a : Option Addr} {len cap : Nat} {zs : List Int}
    (h : (a = none ∧ len = 0 ∧ cap = 0 ∧ zs = []) ∨ ∃ x, a = some x ∧ len ≤ cap ∧ cap ≤ maxLen ∧ zs.length = cap ∧ (∀ i, i < zs.length → w.cell? (x.add i) = some (.int .i64 (zs.getD i 0))) ∧ ∀ n ∈ zs, (Lit.int .i64 n).wf = true) :
    RelP w (fun b => b < w.heap.size) (pints (zs.take len)) (.slice a len cap) ∧ (zs.take len).length = len ∧ len ≤ maxLen := by
  rcases h with ⟨rfl, rfl, rfl, rfl⟩ | ⟨x, rfl, hl, hm, hz, hc, _⟩
  · refine ⟨?_, rfl, by simp [maxLen]⟩
    simp only [pints, RelP]
    exact ⟨none, 0, rfl, Nat.le_refl _, by simp [maxLen], (fun _ e => by cases e), (fun e => by cases e), fun e => absurd rfl e⟩
  · have hlen : (zs.take len).length = len := by simp; omega
    refine ⟨?_, hlen, by omega⟩
    simp only [pints, RelP]
    refine ⟨some x, cap, by rw [hlen], by omega, hm, (fun _ e => by cases e), (fun e => by cases e), fun hne => ?_⟩
    have hpos : 0 < zs.length := by
      rcases Nat.eq_zero_or_pos zs.length with h0 | h0
      · exfalso; apply hne; rw [List.eq_nil_of_length_eq_zero h0]; simp
      · exact h0
    obtain ⟨b, off, sp⟩ := x
    have hsp : sp = none := by
      have h0 := hc 0 hpos
      cases sp with
      | none => rfl
      | some s =>
        exfalso
        have e : (⟨b, off, some s⟩ : Addr).add 0 = ⟨b, off, some s⟩ := rfl
        rw [e] at h0
        unfold World.cell? at h0
        split at h0
        · simp at h0
        · cases h0
    subst hsp
    have h0 := hc 0 hpos
    rw [Addr.add_lit] at h0
    refine ⟨b, off, (zs.take len).map (Value.int .i64), rfl, ?_, World.block_lt_of_cell? w _ h0, fun j hj => ?_⟩
    · generalize zs.take len = l
      induction l with
      | nil => exact RelPL.nil
      | cons y l ih => exact RelPL.cons (by simp only [RelP]) ih
    · have hj2 : j < len ∧ j < zs.length := by simp at hj; omega
      have hcj := hc j hj2.2
      rw [Addr.add_lit] at hcj
      rw [hcj, List.getElem?_map, List.getElem?_take, if_pos hj2.1, List.getElem?_eq_getElem hj2.2]
      simp [List.getD, hj2.2]
end Go.Proofs.YtkalgjnhaicabaaGreat
namespace Go.Proofs.YtkalgjnhaicabaaGreat
open Go.RowKit Mk
set_option maxRecDepth 100000
set_option maxHeartbeats 4000000
theorem FnM.fg2 {P : Program} {f : FuncId} {T : TypeId} {cs args : List PV} {Q : PV → List PV → Prop} (h : FnM P f T cs args (fun v c => Q v.fg2 c)) : FnM P f T cs args Q :=
  fun w m R us h1 h2 => (h w m R us h1 h2).mono fun _ _ ⟨u, v, ob', m', R', e, ⟨r, cs', hv, ho, q⟩, _, hob, hr, hrel⟩ => ⟨u, .pv r.fg2, ob', m', R', e, ⟨r.fg2, cs', rfl, ho, q⟩, rfl, hob, hr, by subst hv; simp only [Rel] at hrel ⊢; exact hrel.fg2⟩
theorem mkChain_spec (L : List Int) (k : Nat) (hL : L.length ≤ 600) (hk : k ≤ L.length) (S : Sch) (hn1 : 1 ≤ S.attrs.length) (hn2 : S.attrs.length ≤ 1000) :
    FnM Tryz.prog 18 66 (srcC L k) [schP S] (fun v c => (∃ q P : List Int, IsChain S.attrs.length q P ∧ v = ordP P) ∧ ∃ k', k' ≤ L.length ∧ c = srcC L k') := by
  refine FnM.fg2 (FnM.ofC (rt := 29) (k := 1) Tryz.func18 rfl Tryz.ntmps18 (by simp) rfl (by simp) ⟨_, Tryz.underlying29, rfl⟩ sz29 fun m0 w0 F R0 => ?_)
  repeat refine AW.seq ?_
  refine AW.region ?_
  iterate 2 refine A1 rfl ?_
  repeat refine AW.seq ?_
  refine AW.region ?_
  iterate 4 refine A1 rfl ?_
  refine RL.call rfl (oj_callM Tryz.call14 (shuffle_spec L k S.attrs.length hL hk hn1 hn2) rfl rfl ?_)
  rintro _ _ ⟨⟨q, hq, rfl⟩, k1, hk1, rfl⟩
  have hql : q.length = S.attrs.length := by rw [hq.length_eq, upZ_len]
  refine A1 rfl ?_
  repeat refine AW.seq ?_
  refine AW.region ?_
  iterate 2 refine A1 rfl ?_
  refine RL.step (d := some 16) rfl rfl (xj_make (zs := [.int .i64 0]) 2 q.length el22 rfl rfl rfl rfl rfl (by omega) rfl) ?_
  iterate 3 refine A1 rfl ?_
  repeat refine AW.seq ?_
  refine AW.region ?_
  iterate 3 refine A1 rfl ?_
  repeat refine AW.seq ?_
  refine AW.block ?_
  repeat refine AW.seq ?_
  refine AW.loop (st := fun x_0 : Nat × List Int => mkS [(4, .ptr 1 0), (5, .pv (pints q)), (6, .ptr 3 0), (18, .pv (pints q)), (19, .pv (.int .i64 q.length)), (20, .pv (.int .i64 x_0.1))] [(big, srcO L k1), (1, .mix 29 [.pv (.sl (some true) 0 [])]), (2, intsO x_0.2), (3, .mix 29 [.osl 2 1 q.length])] 4)
    (I := fun x_0 => x_0.1 ≤ q.length ∧ ChInv q x_0.2 S.attrs.length x_0.1) (μ := fun x_0 => q.length - x_0.1) (x0 := (0, List.replicate q.length 0)) (St.le_mk ⟨rfl, rfl, rfl, rfl, rfl, rfl, trivial⟩ ⟨rfl, rfl, congrArg (fun c => some (Ob.cells 3 c)) ((mkZ_one (.int .i64 0) (q.length * 1)).trans (by simp)), rfl, trivial⟩ rfl rfl) (⟨Nat.zero_le _, by simp [hql], fun j _ h => absurd h (Nat.not_lt_zero _)⟩) ?_
  rintro ⟨i, P⟩ ⟨hi, hC⟩
  try simp only at hi hC ⊢
  repeat refine AW.seq ?_
  refine AW.region ?_
  refine A1 rfl ?_
  repeat refine AW.seq ?_
  refine AW.condP rfl (fun hc21 => ?_) (fun hc21 => ?_)
  · have hil : i < q.length := by omega
    have hv := pints_at hil
    have hne := pints_ne hil
    obtain ⟨a, ha, hqa⟩ := upZ_mem.1 (hq.mem_iff.1 (List.getElem_mem hil))
    have hPl := hC.1
    refine AW.skip ?_
    repeat refine AW.seq ?_
    refine AW.block ?_
    repeat refine AW.seq ?_
    refine AW.region ?_
    iterate 2 refine A1 rfl ?_
    first | refine A2 rfl (by assumption) ?_ | refine A1 rfl ?_
    iterate 2 refine A1 rfl ?_
    repeat refine AW.seq ?_
    refine AW.region ?_
    iterate 3 refine A1 rfl ?_
    refine RL.step (d := some 28) rfl rfl (xj_indexAddrO a Tryz.underlying22 sz3 rfl rfl rfl hqa (by omega)) ?_
    refine A1 rfl ?_
    repeat refine AW.seq ?_
    refine AW.region ?_
    iterate 2 refine A1 rfl ?_
    repeat refine AW.seq ?_
    refine AW.condP rfl (fun hc30 => ?_) (fun hc30 => ?_)
    · have hi1 : i - 1 < q.length := by omega
      have hv1 : (intsP q)[(i - 1) * 1]? = some (.int .i64 q[i - 1]) := pints_at hi1
      repeat refine AW.seq ?_
      refine AW.draw follows [[], [0], [], [], [], [4], [5, 3, 4], [6, 5, 3, 4], [7, 6, 5, 4, 3, 2, 1, 0], [8, 7, 6, 5, 4, 3, 2, 1, 0]] [0, 1, 2, 3, 4, 5, 6, 7, 8, 9] (by kernel_rfl) (by kernel_rfl) ?_
      iterate 6 refine D1 rfl rfl ?_
      refine DL.step (d := some 37) [] rfl rfl rfl (fun τ h => xj_indexAddr (i - 1) Tryz.underlying22 sz3 ((h.e 0 _ rfl).trans rfl) ((h.e 1 _ rfl).trans rfl) (by omega) hi1 (pints_ne hi1)) rfl (by kernel_rfl) ?_
      first | refine D2 rfl rfl (by assumption) ?_ | refine D1 rfl rfl ?_
      refine DL.step (d := some 39) [_] rfl rfl rfl (fun τ h => xj_indexAddrO a Tryz.underlying22 sz3 ((h.e 0 _ rfl).trans rfl) ((h.o 0 _ rfl).trans rfl) ((h.e 1 _ rfl).trans rfl) hqa (by omega)) rfl (by kernel_rfl) ?_
      refine D1 rfl rfl ?_
      refine ⟨by kernel_rfl, ?_⟩
      repeat refine AW.seq ?_
      refine AW.region ?_
      iterate 2 refine A1 rfl ?_
      exact ⟨(i + 1, P.set a q[i - 1]), St.le_mk ⟨rfl, rfl, rfl, rfl, rfl, rfl, trivial⟩ ⟨rfl, rfl, congrArg (fun c => some (Ob.cells 3 c)) (by rw [Nat.mul_one]; simp [List.map_set]), rfl, trivial⟩ rfl rfl, ⟨by simp only; omega, hC.next hq hil ha hqa (by rw [if_neg (by omega), getD_eq hi1])⟩, by simp only; omega⟩
    · refine AW.skip ?_
      repeat refine AW.seq ?_
      refine AW.region ?_
      iterate 2 refine A1 rfl ?_
      exact ⟨(i + 1, P.set a (-1)), St.le_mk ⟨rfl, rfl, rfl, rfl, rfl, rfl, trivial⟩ ⟨rfl, rfl, congrArg (fun c => some (Ob.cells 3 c)) (by rw [Nat.mul_one]; simp [List.map_set]), rfl, trivial⟩ rfl rfl, ⟨by simp only; omega, hC.next hq hil ha hqa (by rw [if_pos (by omega)])⟩, by simp only; omega⟩
  · have hch := hC.last hq (by omega)
    repeat refine AW.seq ?_
    refine AW.exit ?_
    refine AW.weaken (St.le_pubA 2 rfl rfl) ?_
    repeat refine AW.seq ?_
    refine AW.region ?_
    iterate 2 refine A1 rfl ?_
    repeat refine AW.seq ?_
    refine AW.ret ?_
    exact ⟨1, _, [.sl (some false) q.length (intsP P)], srcC L k1, rfl, rfl, rfl, rfl, rfl, ⟨q, P, hch, by show PV.agg [.sl none q.length (intsP P)] = _; rw [ordP, pints, hch.len, hql]⟩, k1, hk1, rfl⟩
end Go.Proofs.YtkalgjnhaicabaaGreat
namespace Go.Proofs.YtkalgjnhaicabaaGreat
open Go.RowKit Mk
set_option maxRecDepth 100000
set_option maxHeartbeats 20000000
theorem sane_spec : FnP Tryz.prog 6 [] (· = .bool true) := by
  refine FnP.of Tryz.func6 rfl Tryz.ntmps6 (by simp) fun m0 w0 F R0 => ?_
  repeat refine AW.seq ?_
  refine AW.region ?_
  refine A1 rfl ?_
  repeat refine AW.seq ?_
  refine AW.region ?_
  refine RL.step (d := some 6) rfl rfl (xj_call Tryz.call36 path_spec rfl) ?_
  refine RL.step (d := some 7) rfl rfl (xj_buildSliceP none (by simp) el22 rfl (by decide) (by decide) rfl rfl) ?_
  refine RL.step (d := some 8) rfl rfl (xj_call Tryz.call15 of_path rfl) ?_
  iterate 6 refine A1 rfl ?_
  repeat refine AW.seq ?_
  refine AW.draw follows [[], [], [1, 0], [2, 1, 0], [3, 2, 1, 0], [3, 2, 1, 0], [4, 3, 2, 1, 0], [6, 5, 3, 2, 1, 0, 4]] [0, 1, 2, 3, 4, 5, 6, 7] (by kernel_rfl) (by kernel_rfl) ?_
  refine DL.step (d := some 12) [] rfl rfl rfl (fun τ h => xj_call Tryz.call36 path_spec (h.argsP rfl)) rfl (by kernel_rfl) ?_
  refine D1 rfl rfl ?_
  refine DL.step (d := some 14) [] rfl rfl rfl (fun τ h => xj_call Tryz.call20 width_path (h.argsP rfl)) rfl (by kernel_rfl) ?_
  iterate 5 refine D1 rfl rfl ?_
  refine ⟨by kernel_rfl, ?_⟩
  refine AW.weaken (τ := mkS [(2, .pv (.int .i64 0)), (3, .pv (.int .i64 2)), (4, .pv (.int .i64 0)), (1, .ptr 0 0)] [(0, .mix 29 [.pv (pints pathP)])] 1) (St.le_mk ⟨rfl, rfl, rfl, rfl, trivial⟩ ⟨rfl, trivial⟩ rfl rfl) ?_
  repeat refine AW.seq ?_
  refine AW.draw follows [[], [0], [1, 0], [2, 1, 0], [3, 2, 1, 0], [4, 2, 1, 0, 3], [5, 4, 2, 1, 0, 3], [6, 5, 4, 2, 1, 0, 3], [7, 6, 5, 4, 2, 1, 0, 3], [8, 6, 5, 4, 2, 1, 0, 3, 7], [9, 8, 6, 5, 4, 2, 1, 0, 3, 7], [10, 9, 8, 6, 5, 4, 2, 1, 0, 3, 7], [11, 10, 9, 8, 6, 5, 4, 2, 1, 0, 3, 7], [10, 9, 8, 6, 5, 4, 2, 1, 0, 3, 7], [13, 12, 11, 10, 9, 8, 6, 5, 4, 2, 1, 0, 3, 7], [14, 10, 9, 8, 6, 5, 4, 2, 1, 0, 3, 7, 13, 12, 11], [15, 14, 10, 9, 8, 6, 5, 4, 2, 1, 0, 3, 7, 13, 12, 11], [16, 15, 14, 10, 9, 8, 6, 5, 4, 2, 1, 0, 3, 7, 13, 12, 11], [16, 15, 14, 10, 9, 8, 6, 5, 4, 2, 1, 0, 3, 7, 13, 12, 11], [18, 17, 16, 15, 14, 10, 9, 8, 6, 5, 4, 2, 1, 0, 3, 7, 13, 12, 11], [16, 15, 14, 10, 9, 8, 6, 5, 4, 2, 1, 0, 3, 7, 13, 12, 11], [20, 19, 18, 17, 16, 15, 14, 10, 9, 8, 6, 5, 4, 2, 1, 0, 3, 7, 13, 12, 11], [21, 16, 15, 14, 10, 9, 8, 6, 5, 4, 2, 1, 0, 3, 7, 13, 12, 11, 20, 19, 18, 17], [22, 21, 16, 15, 14, 10, 9, 8, 6, 5, 4, 2, 1, 0, 3, 7, 13, 12, 11, 20, 19, 18, 17], [23, 22, 21, 16, 15, 14, 10, 9, 8, 6, 5, 4, 2, 1, 0, 3, 7, 13, 12, 11, 20, 19, 18, 17], [23, 22, 21, 16, 15, 14, 10, 9, 8, 6, 5, 4, 2, 1, 0, 3, 7, 13, 12, 11, 20, 19, 18, 17], [25, 24, 23, 22, 21, 16, 15, 14, 10, 9, 8, 6, 5, 4, 2, 1, 0, 3, 7, 13, 12, 11, 20, 19, 18, 17], [23, 22, 21, 16, 15, 14, 10, 9, 8, 6, 5, 4, 2, 1, 0, 3, 7, 13, 12, 11, 20, 19, 18, 17], [27, 26, 25, 24, 23, 22, 21, 16, 15, 14, 10, 9, 8, 6, 5, 4, 2, 1, 0, 3, 7, 13, 12, 11, 20, 19, 18, 17], [28, 23, 22, 21, 16, 15, 14, 10, 9, 8, 6, 5, 4, 2, 1, 0, 3, 7, 13, 12, 11, 20, 19, 18, 17, 27, 26, 25, 24], [29, 28, 23, 22, 21, 16, 15, 14, 10, 9, 8, 6, 5, 4, 2, 1, 0, 3, 7, 13, 12, 11, 20, 19, 18, 17, 27, 26, 25, 24], [30, 29, 28, 23, 22, 21, 16, 15, 14, 10, 9, 8, 6, 5, 4, 2, 1, 0, 3, 7, 13, 12, 11, 20, 19, 18, 17, 27, 26, 25, 24], [30, 29, 28, 23, 22, 21, 16, 15, 14, 10, 9, 8, 6, 5, 4, 2, 1, 0, 3, 7, 13, 12, 11, 20, 19, 18, 17, 27, 26, 25, 24], [32, 31, 30, 29, 28, 23, 22, 21, 16, 15, 14, 10, 9, 8, 6, 5, 4, 2, 1, 0, 3, 7, 13, 12, 11, 20, 19, 18, 17, 27, 26, 25, 24], [33, 32, 31, 30, 29, 28, 23, 22, 21, 16, 15, 14, 10, 9, 8, 6, 5, 4, 2, 1, 0, 3, 7, 13, 12, 11, 20, 19, 18, 17, 27, 26, 25, 24], [34, 30, 29, 28, 23, 22, 21, 16, 15, 14, 10, 9, 8, 6, 5, 4, 2, 1, 0, 3, 7, 13, 12, 11, 20, 19, 18, 17, 27, 26, 25, 24, 33, 32, 31], [35, 34, 30, 29, 28, 23, 22, 21, 16, 15, 14, 10, 9, 8, 6, 5, 4, 2, 1, 0, 3, 7, 13, 12, 11, 20, 19, 18, 17, 27, 26, 25, 24, 33, 32, 31], [36, 35, 34, 30, 29, 28, 23, 22, 21, 16, 15, 14, 10, 9, 8, 6, 5, 4, 2, 1, 0, 3, 7, 13, 12, 11, 20, 19, 18, 17, 27, 26, 25, 24, 33, 32, 31], [36, 35, 34, 30, 29, 28, 23, 22, 21, 16, 15, 14, 10, 9, 8, 6, 5, 4, 2, 1, 0, 3, 7, 13, 12, 11, 20, 19, 18, 17, 27, 26, 25, 24, 33, 32, 31], [38, 37, 36, 35, 34, 30, 29, 28, 23, 22, 21, 16, 15, 14, 10, 9, 8, 6, 5, 4, 2, 1, 0, 3, 7, 13, 12, 11, 20, 19, 18, 17, 27, 26, 25, 24, 33, 32, 31], [36, 35, 34, 30, 29, 28, 23, 22, 21, 16, 15, 14, 10, 9, 8, 6, 5, 4, 2, 1, 0, 3, 7, 13, 12, 11, 20, 19, 18, 17, 27, 26, 25, 24, 33, 32, 31], [40, 39, 38, 37, 36, 35, 34, 30, 29, 28, 23, 22, 21, 16, 15, 14, 10, 9, 8, 6, 5, 4, 2, 1, 0, 3, 7, 13, 12, 11, 20, 19, 18, 17, 27, 26, 25, 24, 33, 32, 31], [41, 36, 35, 34, 30, 29, 28, 23, 22, 21, 16, 15, 14, 10, 9, 8, 6, 5, 4, 2, 1, 0, 3, 7, 13, 12, 11, 20, 19, 18, 17, 27, 26, 25, 24, 33, 32, 31, 40, 39, 38, 37], [42, 41, 36, 35, 34, 30, 29, 28, 23, 22, 21, 16, 15, 14, 10, 9, 8, 6, 5, 4, 2, 1, 0, 3, 7, 13, 12, 11, 20, 19, 18, 17, 27, 26, 25, 24, 33, 32, 31, 40, 39, 38, 37], [43, 42, 41, 36, 35, 34, 30, 29, 28, 23, 22, 21, 16, 15, 14, 10, 9, 8, 6, 5, 4, 2, 1, 0, 3, 7, 13, 12, 11, 20, 19, 18, 17, 27, 26, 25, 24, 33, 32, 31, 40, 39, 38, 37], [43, 42, 41, 36, 35, 34, 30, 29, 28, 23, 22, 21, 16, 15, 14, 10, 9, 8, 6, 5, 4, 2, 1, 0, 3, 7, 13, 12, 11, 20, 19, 18, 17, 27, 26, 25, 24, 33, 32, 31, 40, 39, 38, 37], [45, 44, 43, 42, 41, 36, 35, 34, 30, 29, 28, 23, 22, 21, 16, 15, 14, 10, 9, 8, 6, 5, 4, 2, 1, 0, 3, 7, 13, 12, 11, 20, 19, 18, 17, 27, 26, 25, 24, 33, 32, 31, 40, 39, 38, 37], [43, 42, 41, 36, 35, 34, 30, 29, 28, 23, 22, 21, 16, 15, 14, 10, 9, 8, 6, 5, 4, 2, 1, 0, 3, 7, 13, 12, 11, 20, 19, 18, 17, 27, 26, 25, 24, 33, 32, 31, 40, 39, 38, 37], [47, 46, 45, 44, 43, 42, 41, 36, 35, 34, 30, 29, 28, 23, 22, 21, 16, 15, 14, 10, 9, 8, 6, 5, 4, 2, 1, 0, 3, 7, 13, 12, 11, 20, 19, 18, 17, 27, 26, 25, 24, 33, 32, 31, 40, 39, 38, 37], [48, 43, 42, 41, 36, 35, 34, 30, 29, 28, 23, 22, 21, 16, 15, 14, 10, 9, 8, 6, 5, 4, 2, 1, 0, 3, 7, 13, 12, 11, 20, 19, 18, 17, 27, 26, 25, 24, 33, 32, 31, 40, 39, 38, 37, 47, 46, 45, 44], [49, 48, 43, 42, 41, 36, 35, 34, 30, 29, 28, 23, 22, 21, 16, 15, 14, 10, 9, 8, 6, 5, 4, 2, 1, 0, 3, 7, 13, 12, 11, 20, 19, 18, 17, 27, 26, 25, 24, 33, 32, 31, 40, 39, 38, 37, 47, 46, 45, 44], [50, 49, 48, 43, 42, 41, 36, 35, 34, 30, 29, 28, 23, 22, 21, 16, 15, 14, 10, 9, 8, 6, 5, 4, 2, 1, 0, 3, 7, 13, 12, 11, 20, 19, 18, 17, 27, 26, 25, 24, 33, 32, 31, 40, 39, 38, 37, 47, 46, 45, 44], [50, 49, 48, 43, 42, 41, 36, 35, 34, 30, 29, 28, 23, 22, 21, 16, 15, 14, 10, 9, 8, 6, 5, 4, 2, 1, 0, 3, 7, 13, 12, 11, 20, 19, 18, 17, 27, 26, 25, 24, 33, 32, 31, 40, 39, 38, 37, 47, 46, 45, 44], [52, 51, 50, 49, 48, 43, 42, 41, 36, 35, 34, 30, 29, 28, 23, 22, 21, 16, 15, 14, 10, 9, 8, 6, 5, 4, 2, 1, 0, 3, 7, 13, 12, 11, 20, 19, 18, 17, 27, 26, 25, 24, 33, 32, 31, 40, 39, 38, 37, 47, 46, 45, 44], [53, 52, 51, 50, 49, 48, 43, 42, 41, 36, 35, 34, 30, 29, 28, 23, 22, 21, 16, 15, 14, 10, 9, 8, 6, 5, 4, 2, 1, 0, 3, 7, 13, 12, 11, 20, 19, 18, 17, 27, 26, 25, 24, 33, 32, 31, 40, 39, 38, 37, 47, 46, 45, 44], [54, 50, 49, 48, 43, 42, 41, 36, 35, 34, 30, 29, 28, 23, 22, 21, 16, 15, 14, 10, 9, 8, 6, 5, 4, 2, 1, 0, 3, 7, 13, 12, 11, 20, 19, 18, 17, 27, 26, 25, 24, 33, 32, 31, 40, 39, 38, 37, 47, 46, 45, 44, 53, 52, 51], [55, 54, 50, 49, 48, 43, 42, 41, 36, 35, 34, 30, 29, 28, 23, 22, 21, 16, 15, 14, 10, 9, 8, 6, 5, 4, 2, 1, 0, 3, 7, 13, 12, 11, 20, 19, 18, 17, 27, 26, 25, 24, 33, 32, 31, 40, 39, 38, 37, 47, 46, 45, 44, 53, 52, 51]] [0, 1, 2, 3, 4, 5, 6, 7, 8, 9, 10, 11, 12, 13, 14, 15, 16, 17, 18, 19, 20, 21, 22, 23, 24, 25, 26, 27, 28, 29, 30, 31, 32, 33, 34, 35, 36, 37, 38, 39, 40, 41, 42, 43, 44, 45, 46, 47, 48, 49, 50, 51, 52, 53, 54, 55, 56] (by kernel_rfl) (by kernel_rfl) ?_
  refine DL.step (d := some 17) [] rfl rfl rfl (fun τ h => xj_moveE (v := .pv (.int .i64 0)) ((h.e 0 _ rfl).trans rfl)) rfl (by kernel_rfl) ?_
  refine DL.step (d := some 18) [] rfl rfl rfl (fun τ h => (xj_bin ((h.e 0 _ rfl).trans rfl) ((h.e 1 _ rfl).trans rfl) rfl).cast (v' := .pv (.bool true)) rfl) rfl (by kernel_rfl) ?_
  refine DL.step (d := some 19) [] rfl rfl rfl (fun τ h => xj_moveE (v := .pv (.bool true)) ((h.e 0 _ rfl).trans rfl)) rfl (by kernel_rfl) ?_
  refine DL.stepG (d := some 20) [] rfl rfl rfl rfl (fun τ h => xj_moveE (v := .pv (.int .i64 0)) ((h.e 0 _ rfl).trans rfl)) rfl (by kernel_rfl) ?_
  refine DL.stepG (d := some 21) [] rfl rfl rfl rfl (fun τ h => (xj_bin ((h.e 0 _ rfl).trans rfl) ((h.e 1 _ rfl).trans rfl) rfl).cast (v' := .pv (.bool true)) rfl) rfl (by kernel_rfl) ?_
  refine DL.step (d := some 22) [] rfl rfl rfl (fun τ h => xj_pickT ((h.e 0 _ rfl).trans rfl) ((h.e 1 _ rfl).trans rfl)) rfl (by kernel_rfl) ?_
  refine DL.step (d := some 23) [] rfl rfl rfl (fun τ h => xj_moveE (v := .pv (.bool true)) ((h.e 0 _ rfl).trans rfl)) rfl (by kernel_rfl) ?_
  refine DL.stepG (d := some 24) [] rfl rfl rfl rfl (fun τ h => xj_moveE (v := .pv (.int .i64 2)) ((h.e 0 _ rfl).trans rfl)) rfl (by kernel_rfl) ?_
  refine DL.stepG (d := some 25) [] rfl rfl rfl rfl (fun τ h => (xj_bin ((h.e 0 _ rfl).trans rfl) ((h.e 1 _ rfl).trans rfl) rfl).cast (v' := .pv (.bool true)) rfl) rfl (by kernel_rfl) ?_
  refine DL.step (d := some 26) [] rfl rfl rfl (fun τ h => xj_pickT ((h.e 0 _ rfl).trans rfl) ((h.e 1 _ rfl).trans rfl)) rfl (by kernel_rfl) ?_
  refine DL.step (d := some 27) [] rfl rfl rfl (fun τ h => xj_moveE (v := .pv (.bool true)) ((h.e 0 _ rfl).trans rfl)) rfl (by kernel_rfl) ?_
  refine D1 rfl rfl ?_
  refine DL.stepG (d := some 29) [_] rfl rfl rfl rfl (fun τ h => xj_load1 ⟨_, Tryz.underlying22, rfl⟩ (v := .pv (pints pathP)) ((h.e 0 _ rfl).trans rfl) ((h.o 0 _ rfl).trans rfl) rfl) rfl (by kernel_rfl) ?_
  refine DL.stepG (d := some 30) [] rfl rfl rfl rfl (fun τ h => xj_buildSliceP none (by simp) el22 rfl (by decide) (by decide) (h.fillS rfl rfl) rfl) rfl (by kernel_rfl) ?_
  refine DL.stepG (d := some 31) [] rfl rfl rfl rfl (fun τ h => xj_call Tryz.call13 (ints_same pathP (by decide)) (h.argsP rfl)) rfl (by kernel_rfl) ?_
  refine DL.step (d := some 32) [] rfl rfl rfl (fun τ h => xj_pickT ((h.e 0 _ rfl).trans rfl) ((h.e 1 _ rfl).trans rfl)) rfl (by kernel_rfl) ?_
  refine DL.step (d := some 33) [] rfl rfl rfl (fun τ h => xj_moveE (v := .pv (.bool true)) ((h.e 0 _ rfl).trans rfl)) rfl (by kernel_rfl) ?_
  refine DL.stepG (d := some 34) [] rfl rfl rfl rfl (fun τ h => xj_call Tryz.call36 path_spec (h.argsP rfl)) rfl (by kernel_rfl) ?_
  refine DL.stepG (d := some 35) [_] rfl rfl rfl rfl (fun τ h => xj_loadA ⟨_, Tryz.underlying29, rfl⟩ sz29 (vs := [.pv (pints pathP)]) ((h.e 0 _ rfl).trans rfl) ((h.o 0 _ rfl).trans rfl) rfl rfl) rfl (by kernel_rfl) ?_
  refine DL.stepG (d := some 36) [] rfl rfl rfl rfl (fun τ h => xj_call Tryz.call27 key_path (h.argsP rfl)) rfl (by kernel_rfl) ?_
  refine DL.stepG (d := some 37) [] rfl rfl rfl rfl (fun τ h => xj_buildSliceP none (by simp) el22 rfl (by decide) (by decide) (h.fillS rfl rfl) rfl) rfl (by kernel_rfl) ?_
  refine DL.stepG (d := some 38) [] rfl rfl rfl rfl (fun τ h => xj_call Tryz.call13 (ints_same [1] (by decide)) (h.argsP rfl)) rfl (by kernel_rfl) ?_
  refine DL.step (d := some 39) [] rfl rfl rfl (fun τ h => xj_pickT ((h.e 0 _ rfl).trans rfl) ((h.e 1 _ rfl).trans rfl)) rfl (by kernel_rfl) ?_
  refine DL.step (d := some 40) [] rfl rfl rfl (fun τ h => xj_moveE (v := .pv (.bool true)) ((h.e 0 _ rfl).trans rfl)) rfl (by kernel_rfl) ?_
  refine DL.stepG (d := some 41) [] rfl rfl rfl rfl (fun τ h => xj_call Tryz.call36 path_spec (h.argsP rfl)) rfl (by kernel_rfl) ?_
  refine DL.stepG (d := some 42) [_] rfl rfl rfl rfl (fun τ h => xj_loadA ⟨_, Tryz.underlying29, rfl⟩ sz29 (vs := [.pv (pints pathP)]) ((h.e 0 _ rfl).trans rfl) ((h.o 0 _ rfl).trans rfl) rfl rfl) rfl (by kernel_rfl) ?_
  refine DL.stepG (d := some 43) [] rfl rfl rfl rfl (fun τ h => xj_call Tryz.call31 chi_path (h.argsP rfl)) rfl (by kernel_rfl) ?_
  refine DL.stepG (d := some 44) [] rfl rfl rfl rfl (fun τ h => xj_buildSliceP none (by simp) el22 rfl (by decide) (by decide) (h.fillS rfl rfl) rfl) rfl (by kernel_rfl) ?_
  refine DL.stepG (d := some 45) [] rfl rfl rfl rfl (fun τ h => xj_call Tryz.call13 (ints_same [0, 2] (by decide)) (h.argsP rfl)) rfl (by kernel_rfl) ?_
  refine DL.step (d := some 46) [] rfl rfl rfl (fun τ h => xj_pickT ((h.e 0 _ rfl).trans rfl) ((h.e 1 _ rfl).trans rfl)) rfl (by kernel_rfl) ?_
  refine DL.step (d := some 47) [] rfl rfl rfl (fun τ h => xj_moveE (v := .pv (.bool true)) ((h.e 0 _ rfl).trans rfl)) rfl (by kernel_rfl) ?_
  refine DL.stepG (d := some 48) [] rfl rfl rfl rfl (fun τ h => xj_call Tryz.call36 path_spec (h.argsP rfl)) rfl (by kernel_rfl) ?_
  refine DL.stepG (d := some 49) [_] rfl rfl rfl rfl (fun τ h => xj_loadA ⟨_, Tryz.underlying29, rfl⟩ sz29 (vs := [.pv (pints pathP)]) ((h.e 0 _ rfl).trans rfl) ((h.o 0 _ rfl).trans rfl) rfl rfl) rfl (by kernel_rfl) ?_
  refine DL.stepG (d := some 50) [] rfl rfl rfl rfl (fun τ h => xj_call Tryz.call33 home_path (h.argsP rfl)) rfl (by kernel_rfl) ?_
  refine DL.stepG (d := some 51) [] rfl rfl rfl rfl (fun τ h => (xj_bin ((h.e 0 _ rfl).trans rfl) ((h.e 1 _ rfl).trans rfl) rfl).cast (v' := .pv (.bool true)) rfl) rfl (by kernel_rfl) ?_
  refine DL.step (d := some 52) [] rfl rfl rfl (fun τ h => xj_pickT ((h.e 0 _ rfl).trans rfl) ((h.e 1 _ rfl).trans rfl)) rfl (by kernel_rfl) ?_
  refine DL.step (d := some 53) [] rfl rfl rfl (fun τ h => xj_moveE (v := .pv (.bool true)) ((h.e 0 _ rfl).trans rfl)) rfl (by kernel_rfl) ?_
  refine DL.stepG (d := some 54) [] rfl rfl rfl rfl (fun τ h => xj_call Tryz.call36 path_spec (h.argsP rfl)) rfl (by kernel_rfl) ?_
  refine DL.stepG (d := some 55) [_] rfl rfl rfl rfl (fun τ h => xj_loadA ⟨_, Tryz.underlying29, rfl⟩ sz29 (vs := [.pv (pints pathP)]) ((h.e 0 _ rfl).trans rfl) ((h.o 0 _ rfl).trans rfl) rfl rfl) rfl (by kernel_rfl) ?_
  refine DL.stepG (d := some 56) [] rfl rfl rfl rfl (fun τ h => xj_call Tryz.call24 walk_path (h.argsP rfl)) rfl (by kernel_rfl) ?_
  refine DL.stepG (d := some 57) [] rfl rfl rfl rfl (fun τ h => xj_buildSliceP none (by simp) el22 rfl (by decide) (by decide) (h.fillS rfl rfl) rfl) rfl (by kernel_rfl) ?_
  refine DL.stepG (d := some 58) [] rfl rfl rfl rfl (fun τ h => xj_call Tryz.call13 (ints_same [1, 0, 2] (by decide)) (h.argsP rfl)) rfl (by kernel_rfl) ?_
  refine DL.step (d := some 59) [] rfl rfl rfl (fun τ h => xj_pickT ((h.e 0 _ rfl).trans rfl) ((h.e 1 _ rfl).trans rfl)) rfl (by kernel_rfl) ?_
  refine DL.step (d := some 60) [] rfl rfl rfl (fun τ h => xj_moveE (v := .pv (.bool true)) ((h.e 0 _ rfl).trans rfl)) rfl (by kernel_rfl) ?_
  refine DL.stepG (d := some 61) [] rfl rfl rfl rfl (fun τ h => xj_call Tryz.call36 path_spec (h.argsP rfl)) rfl (by kernel_rfl) ?_
  refine DL.stepG (d := some 62) [_] rfl rfl rfl rfl (fun τ h => xj_loadA ⟨_, Tryz.underlying29, rfl⟩ sz29 (vs := [.pv (pints pathP)]) ((h.e 0 _ rfl).trans rfl) ((h.o 0 _ rfl).trans rfl) rfl rfl) rfl (by kernel_rfl) ?_
  refine DL.stepG (d := some 63) [] rfl rfl rfl rfl (fun τ h => xj_call Tryz.call29 below_path (h.argsP rfl)) rfl (by kernel_rfl) ?_
  refine DL.stepG (d := some 64) [] rfl rfl rfl rfl (fun τ h => xj_buildSliceP none (by simp) el22 rfl (by decide) (by decide) (h.fillS rfl rfl) rfl) rfl (by kernel_rfl) ?_
  refine DL.stepG (d := some 65) [] rfl rfl rfl rfl (fun τ h => xj_call Tryz.call13 (ints_same [0, 1, 2] (by decide)) (h.argsP rfl)) rfl (by kernel_rfl) ?_
  refine DL.step (d := some 66) [] rfl rfl rfl (fun τ h => xj_pickT ((h.e 0 _ rfl).trans rfl) ((h.e 1 _ rfl).trans rfl)) rfl (by kernel_rfl) ?_
  refine DL.step (d := some 67) [] rfl rfl rfl (fun τ h => xj_moveE (v := .pv (.bool true)) ((h.e 0 _ rfl).trans rfl)) rfl (by kernel_rfl) ?_
  refine DL.stepG (d := some 68) [] rfl rfl rfl rfl (fun τ h => xj_call Tryz.call36 path_spec (h.argsP rfl)) rfl (by kernel_rfl) ?_
  refine DL.stepG (d := some 69) [_] rfl rfl rfl rfl (fun τ h => xj_loadA ⟨_, Tryz.underlying29, rfl⟩ sz29 (vs := [.pv (pints pathP)]) ((h.e 0 _ rfl).trans rfl) ((h.o 0 _ rfl).trans rfl) rfl rfl) rfl (by kernel_rfl) ?_
  refine DL.stepG (d := some 70) [] rfl rfl rfl rfl (fun τ h => xj_call Tryz.call22 chk_path (h.argsP rfl)) rfl (by kernel_rfl) ?_
  refine DL.stepG (d := some 71) [] rfl rfl rfl rfl (fun τ h => (xj_bin ((h.e 0 _ rfl).trans rfl) ((h.e 1 _ rfl).trans rfl) rfl).cast (v' := .pv (.bool true)) rfl) rfl (by kernel_rfl) ?_
  refine DL.step (d := some 72) [] rfl rfl rfl (fun τ h => xj_pickT ((h.e 0 _ rfl).trans rfl) ((h.e 1 _ rfl).trans rfl)) rfl (by kernel_rfl) ?_
  refine D1 rfl rfl ?_
  refine ⟨by kernel_rfl, ?_⟩
  repeat refine AW.seq ?_
  refine AW.ret ?_
  exact ⟨_, _, rfl, rfl, rfl⟩
end Go.Proofs.YtkalgjnhaicabaaGreat
namespace Go.Proofs.YtkalgjnhaicabaaGreat
open Go.RowKit Mk
set_option maxRecDepth 100000
set_option maxHeartbeats 4000000
theorem lists_perm {n : Nat} (hn : n ≤ 63) {q : List Int} (hq : q.Perm (upZ n)) : Lists q (allB n) := by
  refine ⟨hq.nodup_iff.2 (upZ_nodup n), fun x hx => by obtain ⟨a, _, e⟩ := upZ_mem.1 (hq.mem_iff.1 hx); omega, fun i => ?_⟩
  rw [allB_bit (by omega), decide_eq_true_iff, hq.mem_iff, upZ_mem]
  exact ⟨fun h => ⟨i, h, rfl⟩, fun ⟨a, h, e⟩ => by omega⟩
theorem least_all {S : Sch} (hV : Valid S) (hp : (lstL S).Perm (upZ S.attrs.length)) {q : List Int} (hq : q.Perm (upZ S.attrs.length)) : widN S (ordL S (lstL S)) S.attrs.length ≤ widN S (ordL S q) S.attrs.length ∧ (widN S (ordL S q) S.attrs.length = widN S (ordL S (lstL S)) S.attrs.length → lessB q (lstL S) = false) := by
  have hn12 := hV.n2
  have hn1 := hV.n1
  have hIG : IsG S (gr S) := ⟨gr_len S, fun a ha c => gr_bit hV (by rwa [gr_len] at ha) c⟩
  have hGk : GOk (gr S) := gok_of hV hIG
  have hGl : (gr S).length = S.attrs.length := gr_len S
  have hin : InB (gr S).length (allB S.attrs.length) := by rw [hGl]; exact all_in _ (by omega)
  have hpop : popB (allB S.attrs.length) = S.attrs.length := pop_all (by omega)
  have hlst : lstL S = leastF (gr S) (widV (gr S) (allB S.attrs.length)) S.attrs.length (allB S.attrs.length) := by unfold lstL leastL; rw [hGl]
  have hm1 : 1 ≤ widV (gr S) (allB S.attrs.length) := by
    have h0 : (allB S.attrs.length).getLsbD 0 = true := by rw [allB_bit (by omega)]; simp; omega
    obtain ⟨hc, hc0⟩ := comp_of hGk _ h0
    have := (wid_le hGk hin (p := partV (gr S)) (b := widV (gr S) (allB S.attrs.length))).1 (Nat.le_refl _) _ hc
    rw [part_eq hGk (fun i hi => hin i (hc.sub i hi)) hc.ne] at this
    omega
  have hgl := least_good hGk hin hpop (Nat.le_refl (widV (gr S) (allB S.attrs.length)))
  rw [← hlst] at hgl
  have hw := (wid_good hV hp hm1).2 hgl
  have hwb := widN_bd S (ordL S q) S.attrs.length
  obtain ⟨M, hM⟩ := Int.eq_ofNat_of_zero_le (show 0 ≤ widN S (ordL S q) S.attrs.length + 1 by omega)
  have hgq := (wid_good hV hq (m := M) (by omega)).1 (by omega)
  have hMm := good_wid hGk hin (lists_perm (by omega) hq) hgq
  refine ⟨by omega, fun e => ?_⟩
  have hgq2 := (wid_good hV hq hm1).1 (by omega)
  rw [hlst]
  exact least_less hGk hin hpop (lists_perm (by omega) hq) hgq2
theorem less_at : ∀ {l p : List Int} {k : Nat} (hl : k < l.length) (hp : k < p.length), l.take k = p.take k → l[k] ≠ p[k] → lessB l p = decide (l[k] < p[k])
  | a :: l, b :: p, 0, _, _, _, hne => by simp only [lessB]; rw [if_neg (by simpa using hne)]; rfl
  | a :: l, b :: p, k + 1, hl, hp, ht, hne => by
    simp only [List.take_succ_cons, List.cons.injEq] at ht
    simp only [lessB, if_pos ht.1]
    exact less_at (by simpa using hl) (by simpa using hp) ht.2 (by simpa using hne)
theorem less_self : ∀ l : List Int, lessB l l = false
  | [] => rfl
  | a :: l => by simp only [lessB, if_true]; exact less_self l
theorem lesser_spec (l p : List Int) (h : l.length = p.length) (hl : l.length ≤ 1000000) : FnP Tryz.prog 35 [pints l, pints p] (· = .bool (lessB l p)) := by
  refine FnP.of Tryz.func35 rfl Tryz.ntmps35 (by simp) fun m0 w0 F R0 => ?_
  repeat refine AW.seq ?_
  refine AW.region ?_
  refine A1 rfl ?_
  repeat refine AW.seq ?_
  refine AW.region ?_
  iterate 3 refine A1 rfl ?_
  repeat refine AW.seq ?_
  refine AW.block ?_
  repeat refine AW.seq ?_
  refine AW.loop (st := fun x_0 : Nat => mkS [(0, .pv (pints l)), (1, .pv (pints p)), (7, .pv (.int .i64 l.length)), (8, .pv (.int .i64 x_0))] [] 0)
    (I := fun x_0 => x_0 ≤ l.length ∧ l.take x_0 = p.take x_0) (μ := fun x_0 => l.length - x_0) (x0 := (0)) (St.le_mk ⟨rfl, rfl, rfl, rfl, trivial⟩ trivial rfl rfl) (⟨Nat.zero_le _, rfl⟩) ?_
  rintro k ⟨hk, ht⟩
  repeat refine AW.seq ?_
  refine AW.region ?_
  refine A1 rfl ?_
  repeat refine AW.seq ?_
  refine AW.condP rfl (fun hc9 => ?_) (fun hc9 => ?_)
  · have hlt : k < l.length := by omega
    have hlp : k < p.length := by omega
    have hva := pints_at hlt
    have hvb := pints_at hlp
    have hna := pints_ne hlt
    have hnb := pints_ne hlp
    refine AW.skip ?_
    repeat refine AW.seq ?_
    refine AW.block ?_
    repeat refine AW.seq ?_
    refine AW.region ?_
    iterate 2 refine A1 rfl ?_
    repeat refine AW.seq ?_
    refine AW.draw follows [[], [], [1], [2, 0, 1], [3, 2, 0, 1], [4, 3, 2, 0, 1], [4, 3, 2, 0, 1], [6, 5, 4, 3, 2, 0, 1], [7, 6, 5, 4, 3, 2, 0, 1], [4, 3, 2, 0, 1], [4, 3, 2, 0, 1], [10, 9, 4, 3, 2, 0, 1], [11, 10, 9, 4, 3, 2, 0, 1], [12, 8, 7, 6, 5, 4, 3, 2, 0, 1, 11, 10, 9], [13, 4, 3, 2, 0, 1, 12, 8, 7, 6, 5, 11, 10, 9]] [0, 1, 2, 3, 4, 5, 6, 7, 8, 9, 10, 11, 12, 13, 14] (by kernel_rfl) (by kernel_rfl) ?_
    iterate 3 refine D1 rfl rfl ?_
    refine DL.step (d := some 14) [] rfl rfl rfl (fun τ h => XJ.cast (v' := .pv (.bool true)) (xj_bin ((h.e 0 _ rfl).trans rfl) ((h.e 1 _ rfl).trans rfl) rfl) (by simp; omega)) rfl (by kernel_rfl) ?_
    iterate 4 refine D1 rfl rfl ?_
    first | refine D2 rfl rfl (by assumption) ?_ | refine D1 rfl rfl ?_
    iterate 3 refine D1 rfl rfl ?_
    first | refine D2 rfl rfl (by assumption) ?_ | refine D1 rfl rfl ?_
    iterate 2 refine D1 rfl rfl ?_
    refine ⟨by kernel_rfl, ?_⟩
    repeat refine AW.seq ?_
    refine AW.cond rfl (fun hc25 => ?_) (fun hc25 => ?_)
    · have hne : l[k] ≠ p[k] := by simpa using hc25
      repeat refine AW.seq ?_
      refine AW.draw follows [[], [], [1, 0], [2, 1, 0], [], [], [5, 4], [6, 5, 4], [7, 3, 2, 1, 0, 6, 5, 4], [8, 7, 3, 2, 1, 0, 6, 5, 4]] [0, 1, 2, 3, 4, 5, 6, 7, 8, 9] (by kernel_rfl) (by kernel_rfl) ?_
      iterate 3 refine D1 rfl rfl ?_
      first | refine D2 rfl rfl (by assumption) ?_ | refine D1 rfl rfl ?_
      iterate 3 refine D1 rfl rfl ?_
      first | refine D2 rfl rfl (by assumption) ?_ | refine D1 rfl rfl ?_
      iterate 2 refine D1 rfl rfl ?_
      refine ⟨by kernel_rfl, ?_⟩
      repeat refine AW.seq ?_
      refine AW.ret ?_
      exact ⟨_, _, rfl, rfl, by rw [less_at hlt hlp ht hne]; rfl⟩
    · refine AW.skip ?_
      repeat refine AW.seq ?_
      refine AW.region ?_
      iterate 2 refine A1 rfl ?_
      exact ⟨(k + 1), St.le_mk ⟨rfl, rfl, rfl, rfl, trivial⟩ trivial rfl rfl, ⟨by omega, by rw [take_snoc hlt, take_snoc hlp, ht, show l[k] = p[k] by simpa using hc25]⟩, by omega⟩
  · have he : l = p := by rw [List.take_of_length_le (by omega), List.take_of_length_le (by omega)] at ht; exact ht
    repeat refine AW.seq ?_
    refine AW.exit ?_
    repeat refine AW.seq ?_
    refine AW.region ?_
    refine A1 rfl ?_
    repeat refine AW.seq ?_
    refine AW.ret ?_
    exact ⟨_, _, rfl, rfl, by rw [he, less_self]; rfl⟩
theorem rsame_spec (P Q : List Int) (h1 : P.length ≤ 1000000) (h2 : Q.length ≤ 1000000) : FnP Tryz.prog 12 [ordP P, ordP Q] (· = .bool (decide (P = Q))) := by
  refine FnP.of Tryz.func12 rfl Tryz.ntmps12 (by simp) fun m0 w0 F R0 => ?_
  repeat refine AW.seq ?_
  refine AW.region ?_
  iterate 3 refine A1 rfl ?_
  repeat refine AW.seq ?_
  refine AW.region ?_
  iterate 4 refine A1 rfl ?_
  refine RL.step (d := some 9) rfl rfl (xj_call Tryz.call13 (ints_spec P Q (by omega) (by omega)) rfl) ?_
  refine A1 rfl ?_
  repeat refine AW.seq ?_
  refine AW.ret ?_
  exact ⟨_, _, rfl, rfl, rfl⟩
theorem orderLeast_spec (t : List Int) : FnP Tryz.prog 4 [pints t] (· = .bool true) := by
  refine FnP.of Tryz.func4 rfl Tryz.ntmps4 (by simp) fun m0 w0 F R0 => ?_
  repeat refine AW.seq ?_
  refine AW.region ?_
  refine A1 rfl ?_
  repeat refine AW.seq ?_
  refine AW.region ?_
  iterate 3 refine A1 rfl ?_
  repeat refine AW.seq ?_
  refine AW.condP rfl (fun hc22 => ?_) (fun hc22 => ?_)
  · repeat refine AW.seq ?_
    refine AW.region ?_
    refine RL.step (d := some 23) rfl rfl (xj_call Tryz.call6 sane_spec rfl) ?_
    refine A1 rfl ?_
    repeat refine AW.seq ?_
    refine AW.ret ?_
    exact ⟨_, _, rfl, rfl, rfl⟩
  · have hL : t.length ≤ 400 := by omega
    refine AW.skip ?_
    repeat refine AW.seq ?_
    refine AW.region ?_
    refine A1 rfl ?_
    refine RL.call rfl (oj_callF1 [] 0 Tryz.call7 (new_spec t (by omega)) rfl rfl rfl rfl trivial (by decide) rfl ?_)
    rintro _ _ ⟨rfl, rfl⟩
    refine A1 rfl ?_
    repeat refine AW.seq ?_
    refine AW.region ?_
    refine A1 rfl ?_
    refine RL.call rfl (oj_callM Tryz.call8 (schema_spec t 0 5 (by omega) (by omega) (by omega) (by omega)) rfl rfl ?_)
    rintro _ _ ⟨⟨S, hM, rfl⟩, k1, hk1, rfl⟩
    have h0 := made_check hM (by omega)
    have hV := valid_of h0
    have hSB := made_SB hM (by omega)
    have hn12 := hV.n2
    have hn1 := hV.n1
    have hperm := (ouLeast_sp S hSB hV).1
    have hpl : (lstL S).length = S.attrs.length := by rw [hperm.length_eq, upZ_len]
    have hle := oleast_spec S hSB
    rw [if_pos h0] at hle
    have hof := oof_spec S hSB (lstL S) (by omega)
    have hofv : ofV S (lstL S) = .tup [ordP (ordL S (lstL S)), .int .i64 0] := by unfold ofV; rw [perm_ofE h0 hperm, if_pos rfl]
    rw [hofv] at hof
    have hok : OrdOk S (ordL S (lstL S)) := (ordL_ord hV hperm).ok hV hperm
    have hall := fun {q : List Int} (hq : q.Perm (upZ S.attrs.length)) => least_all hV hperm hq
    have hcha := fun {q P2 : List Int} (hq : IsChain S.attrs.length q P2) => Int.le_trans (least_all hV hperm hq.perm).1 (chain_wid hV hq.perm hq)
    generalize ordL S (lstL S) = P at *
    generalize lstL S = p at *
    have hPl := hok.len
    have hP0 := ordE_zero.2 ⟨h0, hok⟩
    have hwd := width_spec S hSB P (by omega)
    rw [hP0, if_pos rfl, hPl] at hwd
    have hwb := widN_bd S P S.attrs.length
    generalize widN S P S.attrs.length = w at *
    have hsame := rsame_spec P P (by omega) (by omega)
    iterate 2 refine A1 rfl ?_
    repeat refine AW.seq ?_
    refine AW.region ?_
    refine A1 rfl ?_
    refine RL.step (d := some 30) rfl rfl (xj_call Tryz.call10 hle rfl) ?_
    iterate 8 refine A1 rfl ?_
    repeat refine AW.seq ?_
    refine AW.region ?_
    iterate 2 refine A1 rfl ?_
    refine RL.step (d := some 37) rfl rfl (xj_call Tryz.call15 hof rfl) ?_
    iterate 6 refine A1 rfl ?_
    repeat refine AW.seq ?_
    refine AW.region ?_
    iterate 2 refine A1 rfl ?_
    refine RL.step (d := some 43) rfl rfl (xj_call Tryz.call20 hwd rfl) ?_
    iterate 5 refine A1 rfl ?_
    repeat refine AW.seq ?_
    refine AW.region ?_
    iterate 3 refine A1 rfl ?_
    apply RL.orB 3 48 51 [49, 50] rfl (by first | exact MonoK.le | exact MonoK.aw | exact MonoK.back)
    · intro hb2
      iterate 3 refine A1 rfl ?_
      exact St.le_fg (fEq.upd (fEq.upd (fEq.upd (fEq.upd (fEq.refl) rfl) rfl) rfl) rfl) rfl rfl rfl
    · intro hb2
      iterate 3 refine A1 rfl ?_
      exact St.le_fg (fEq.upd (fEq.upd (fEq.upd (fEq.upd (fEq.refl) rfl) rfl) rfl) rfl) rfl rfl rfl
    refine A1 rfl ?_
    apply RL.orB 3 52 55 [53, 54] rfl (by first | exact MonoK.le | exact MonoK.aw | exact MonoK.back)
    · intro hb6
      iterate 3 refine A1 rfl ?_
      exact St.le_fg (fEq.upd (fEq.upd (fEq.upd (fEq.upd (fEq.refl) rfl) rfl) rfl) rfl) rfl rfl rfl
    · intro hb6
      iterate 3 refine A1 rfl ?_
      exact St.le_fg (fEq.upd (fEq.upd (fEq.upd (fEq.upd (fEq.refl) rfl) rfl) rfl) rfl) rfl rfl rfl
    refine A1 rfl ?_
    apply RL.orB 5 56 61 [57, 58, 59, 60] rfl (by first | exact MonoK.le | exact MonoK.aw | exact MonoK.back)
    · intro hb10
      iterate 5 refine A1 rfl ?_
      exact St.le_fg (fEq.upd (fEq.upd (fEq.upd (fEq.upd (fEq.upd (fEq.upd (fEq.refl) rfl) rfl) rfl) rfl) rfl) rfl) rfl rfl rfl
    · intro hb10
      iterate 2 refine A1 rfl ?_
      refine RL.stepG (d := some 59) rfl rfl rfl (xj_call Tryz.call12 hsame rfl) ?_
      iterate 2 refine A1 rfl ?_
      exact St.le_fg (fEq.upd (fEq.upd (fEq.upd (fEq.upd (fEq.upd (fEq.upd (fEq.refl) rfl) rfl) rfl) rfl) rfl) rfl) rfl rfl rfl
    repeat refine AW.seq ?_
    refine AW.cond rfl (fun hc61 => absurd hc61 (by simp)) (fun hc61 => ?_)
    refine AW.skip ?_
    repeat refine AW.seq ?_
    refine AW.region ?_
    refine A1 rfl ?_
    repeat refine AW.seq ?_
    refine AW.block ?_
    repeat refine AW.seq ?_
    refine AW.loop (st := fun x_0 : Nat × Nat => mkS [(3, .ptr 0 0), (4, .ptr 1 0), (6, .pv (pints p)), (10, .pv (.int .i64 (w + 1))), (12, .pv (.int .i64 x_0.1))] [(0, srcO t x_0.2), (1, .mix 27 [.pv (.sl none S.attrs.length (attrsC S.attrs)), .pv (.sl none S.rels.length (relsC S.rels)), .pv (.sl none S.feats.length (featsC S.feats)), .pv (.int .i64 S.label)])] 4)
      (I := fun x_0 => x_0.1 ≤ 3 ∧ x_0.2 ≤ t.length) (μ := fun x_0 => 3 - x_0.1) (x0 := (0, k1)) (St.le_mk ⟨rfl, rfl, rfl, rfl, rfl, trivial⟩ ⟨rfl, rfl, trivial⟩ rfl rfl) (⟨Nat.zero_le _, hk1⟩) ?_
    rintro ⟨i, k⟩ ⟨hi, hk⟩
    try simp only at hi hk ⊢
    repeat refine AW.seq ?_
    refine AW.region ?_
    iterate 2 refine A1 rfl ?_
    repeat refine AW.seq ?_
    refine AW.condP rfl (fun hc63 => ?_) (fun hc63 => ?_)
    · refine AW.skip ?_
      repeat refine AW.seq ?_
      refine AW.block ?_
      repeat refine AW.seq ?_
      refine AW.region ?_
      iterate 4 refine A1 rfl ?_
      refine RL.call rfl (oj_callM Tryz.call14 (shuffle_spec t k S.attrs.length (by omega) hk hn1 (by omega)) rfl rfl ?_)
      rintro _ _ ⟨⟨q, hq, rfl⟩, k2, hk2, rfl⟩
      have hql : q.length = S.attrs.length := by rw [hq.length_eq, upZ_len]
      have hofv2 : ofV S q = .tup [ordP (ordL S q), .int .i64 0] := by unfold ofV; rw [perm_ofE h0 hq, if_pos rfl]
      have hof2 := rOf_spec S hSB q (by omega)
      rw [hofv2] at hof2
      have hok2 : OrdOk S (ordL S q) := (ordL_ord hV hq).ok hV hq
      have hv := hall hq
      generalize ordL S q = Q at *
      have hQl := hok2.len
      have hQ0 := ordE_zero.2 ⟨h0, hok2⟩
      have hwd2 := rwidth_spec S hSB Q (by omega)
      rw [hQ0, if_pos rfl, hQl] at hwd2
      have hvb := widN_bd S Q S.attrs.length
      generalize widN S Q S.attrs.length = v at *
      have hles := lesser_spec q p (by omega) (by omega)
      refine A1 rfl ?_
      repeat refine AW.seq ?_
      refine AW.region ?_
      iterate 2 refine A1 rfl ?_
      refine RL.step (d := some 74) rfl rfl (xj_call Tryz.call16 hof2 rfl) ?_
      iterate 6 refine A1 rfl ?_
      repeat refine AW.seq ?_
      refine AW.region ?_
      iterate 2 refine A1 rfl ?_
      refine RL.step (d := some 80) rfl rfl (xj_call Tryz.call21 hwd2 rfl) ?_
      iterate 5 refine A1 rfl ?_
      repeat refine AW.seq ?_
      refine AW.draw follows [[], [], [], [2, 1], [3, 0, 2, 1], [4, 3, 0, 2, 1], [5, 4, 3, 0, 2, 1], [5, 4, 3, 0, 2, 1], [6, 5, 4, 3, 0, 2, 1], [8, 7, 5, 4, 3, 0, 2, 1, 6]] [0, 1, 2, 3, 4, 5, 6, 7, 8, 9] (by kernel_rfl) (by kernel_rfl) ?_
      iterate 3 refine D1 rfl rfl ?_
      refine DL.rel (RM 66 0 (fun v c => (∃ q P : List Int, IsChain S.attrs.length q P ∧ v = ordP P) ∧ ∃ k', k' ≤ t.length ∧ c = srcC t k')) [0] [] [0] rfl rfl rfl (fun τ h => relM Tryz.call18 (mkChain_spec t k2 (by omega) hk2 S hn1 (by omega)) (h.args.trans rfl) ((h.o 0 _ rfl).trans rfl)) rfl (by kernel_rfl) (by kernel_rfl) (by kernel_rfl) ?_
      rintro _ ⟨_, _, ⟨⟨q2, P2, hch, rfl⟩, k3, hk3, rfl⟩, rfl⟩ _ _
      have hok3 := hch.ok hV
      have hP30 := ordE_zero.2 ⟨h0, hok3⟩
      have hl3 := hok3.len
      have hwd3 := rwidth_spec S hSB P2 (by omega)
      have hcw := hcha hch
      rw [hP30, if_pos rfl, hl3] at hwd3
      have hcb := widN_bd S P2 S.attrs.length
      generalize widN S P2 S.attrs.length = cw at *
      refine DL.step (d := some 88) [] rfl rfl rfl (fun τ h => xj_call Tryz.call21 hwd3 (h.argsP rfl)) rfl (by kernel_rfl) ?_
      iterate 5 refine D1 rfl rfl ?_
      refine ⟨by kernel_rfl, ?_⟩
      by_cases hvw : v = w
      · have h1 := hv.1
        have hlf : lessB q p = false := hv.2 hvw
        rw [hlf] at hles
        repeat refine AW.seq ?_
        refine AW.region ?_
        iterate 2 refine A1 rfl ?_
        refine RL.step (d := some 93) rfl rfl (XJ.cast (v' := .pv (.bool false)) (xj_bin rfl rfl rfl) (by simp; omega)) ?_
        iterate 3 refine A1 rfl ?_
        refine RL.stepG (d := some 97) rfl rfl rfl (XJ.cast (v' := .pv (.bool false)) (xj_bin rfl rfl rfl) (by simp; omega)) ?_
        iterate 4 refine A1 rfl ?_
        refine RL.stepG (d := some 102) rfl rfl rfl (XJ.cast (v' := .pv (.bool true)) (xj_bin rfl rfl rfl) (by simp; omega)) ?_
        iterate 3 refine A1 rfl ?_
        refine RL.stepG (d := some 106) rfl rfl rfl (xj_call Tryz.call35 hles rfl) ?_
        iterate 2 refine A1 rfl ?_
        repeat refine AW.seq ?_
        refine AW.cond rfl (fun hc108 => absurd hc108 (by decide)) (fun hc108 => ?_)
        refine AW.skip ?_
        repeat refine AW.seq ?_
        refine AW.region ?_
        iterate 3 refine A1 rfl ?_
        exact ⟨(i + 1, k3), St.le_mk ⟨rfl, rfl, rfl, rfl, rfl, trivial⟩ ⟨rfl, rfl, trivial⟩ rfl rfl, ⟨by simp only; omega, hk3⟩, by simp only; omega⟩
      · repeat refine AW.seq ?_
        refine AW.region ?_
        iterate 2 refine A1 rfl ?_
        refine RL.step (d := some 93) rfl rfl (XJ.cast (v' := .pv (.bool false)) (xj_bin rfl rfl rfl) (by have h1 := hv.1; simp; omega)) ?_
        iterate 3 refine A1 rfl ?_
        refine RL.stepG (d := some 97) rfl rfl rfl (XJ.cast (v' := .pv (.bool false)) (xj_bin rfl rfl rfl) (by simp; omega)) ?_
        iterate 4 refine A1 rfl ?_
        refine RL.stepG (d := some 102) rfl rfl rfl (XJ.cast (v' := .pv (.bool false)) (xj_bin rfl rfl rfl) (by simp; omega)) ?_
        iterate 6 refine A1 rfl ?_
        repeat refine AW.seq ?_
        refine AW.cond rfl (fun hc108 => absurd hc108 (by decide)) (fun hc108 => ?_)
        refine AW.skip ?_
        repeat refine AW.seq ?_
        refine AW.region ?_
        iterate 3 refine A1 rfl ?_
        exact ⟨(i + 1, k3), St.le_mk ⟨rfl, rfl, rfl, rfl, rfl, trivial⟩ ⟨rfl, rfl, trivial⟩ rfl rfl, ⟨by simp only; omega, hk3⟩, by simp only; omega⟩
    · repeat refine AW.seq ?_
      refine AW.exit ?_
      repeat refine AW.seq ?_
      refine AW.region ?_
      refine RL.step (d := some 109) rfl rfl (xj_call Tryz.call6 sane_spec rfl) ?_
      refine A1 rfl ?_
      repeat refine AW.seq ?_
      refine AW.ret ?_
      exact ⟨_, _, rfl, rfl, rfl⟩
end Go.Proofs.YtkalgjnhaicabaaGreat
