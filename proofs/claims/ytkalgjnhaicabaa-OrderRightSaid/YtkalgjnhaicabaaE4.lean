/-
  Our own step logic: the operations on memory. No statement of the program is proved here.
-/
import Derived.Test.YtkalgjnhaicabaaE3
import Derived.Test.YtkalgjnhaicabaaWords
import Derived.Deep.MidRow
namespace Go.Proofs.Ytkalgjnhaicabaa
open Go.RowKit

/-- The cells of a value. -/
def V.cells : V → List V
  | .agg cs => cs
  | .pv (.agg ps) => ps.map .pv
  | v => [v]

mutual
/-- One cell, for sure. -/
def PV.leaf : PV → Bool
  | .agg _ | .tup _ | .any => false
  | _ => true
end
def V.leaf : V → Bool
  | .pv p => p.leaf
  | .agg _ | .tup _ => false
  | _ => true

section
variable {w w' : World} {m m' : Gm} {av av' : Av} {R R' : Nat → Prop}
theorem RelP.leaf {p : PV} {u : Value} (h : RelP w R p u) (hl : p.leaf = true) : u.oneCell' = true := by
  cases p <;> simp only [PV.leaf, Bool.false_eq_true] at hl <;> simp only [RelP] at h
  case sl => obtain ⟨A, c, rfl, _⟩ := h; rfl
  case rp => obtain ⟨b, o, us, rfl, _⟩ := h; rfl
  case fn => obtain ⟨b, o, rfl, _⟩ := h; rfl
  case iface => obtain ⟨x, rfl, _⟩ := h; rfl
  all_goals (subst h; rfl)
/-- The value's cells. -/
theorem Rel.cells {v : V} {u : Value} (h : Rel w m av R v u) (hl : ∀ c ∈ v.cells, c.leaf = true) (hlive : ∀ id o, v = .ptr id o → (m id).isSome) (hlive2 : ∀ id s k, v = .osl id s k → (m id).isSome) (hlive3 : ∀ id, v = .map id → (m id).isSome) :
    RelL w m av R v.cells u.cells.toList := by
  have one : u.oneCell' = true → RelL w m av R [v] u.cells.toList := by
    intro h1
    have : u.cells = #[u] := by cases u <;> simp [Value.oneCell'] at h1 <;> rfl
    rw [this]
    exact RelL.cons h RelL.nil
  cases v with
  | agg cs =>
    simp only [Rel] at h
    obtain ⟨us, rfl, h⟩ := h
    simpa [V.cells, Value.cells] using h
  | pv p =>
    cases p with
    | agg ps =>
      simp only [Rel, RelP] at h
      obtain ⟨us, rfl, h⟩ := h
      simpa [V.cells, Value.cells] using RelL.ofP h
    | _ =>
      refine one ?_
      simp only [Rel] at h
      exact h.leaf (by simpa [V.cells, V.leaf] using hl)
  | tup cs => simp [V.cells, V.leaf] at hl
  | fn f a b =>
    refine one ?_
    simp only [Rel] at h
    obtain ⟨us, vs, rfl, _⟩ := h
    rfl
  | ptr id o =>
    refine one ?_
    obtain ⟨⟨b, N⟩, hm⟩ := Option.isSome_iff_exists.1 (hlive id o rfl)
    simp only [Rel] at h
    rw [h.2 b N hm]; rfl
  | osl id s k =>
    refine one ?_
    obtain ⟨⟨b, N⟩, hm⟩ := Option.isSome_iff_exists.1 (hlive2 id s k rfl)
    simp only [Rel] at h
    obtain ⟨c, e, _⟩ := h.2 b N hm
    rw [e]; rfl
  | gsl id s k =>
    refine one ?_
    simp only [Rel] at h
    obtain ⟨_, A, c, e, _⟩ := h
    rw [e]; rfl
  | map id =>
    refine one ?_
    obtain ⟨⟨b, N⟩, hm⟩ := Option.isSome_iff_exists.1 (hlive3 id rfl)
    simp only [Rel] at h
    rw [h.2 b N hm]; rfl
end

section
variable {C : Ctx} {n : Nat} {σ : St} {a : Act} {w : World} {m : Gm} {R : Nat → Prop}
theorem SW.world (h : SW C n σ a w m R) {w' : World} {m' : Gm} {R' : Nat → Prop} {ob' : Nat → Option Ob} {av' : Av} (hHR : HR C m' R' ob' av' w') (hR : ∀ b, R b → R' b ∧ w'.heap[b]? = w.heap[b]?)
    (hm : ∀ id x, σ.av id = false → m' id = some x → m id = some x) (ha : ∀ id, σ.av id = false → av' id = false) : SW C n ⟨σ.sl, ob', av'⟩ a w' m' R' :=
  ⟨hHR, h.df, h.sz, fun t ht => (h.sl t ht).mono hR hm ha⟩

theorem SW.live (h : SW C n σ a w m R) {id : Nat} {o : Ob} (ho : σ.ob id = some o) (hre : o.real = true := by rfl) : ∃ b N, m id = some (b, N) ∧ ORel w m σ.av R b N o := by
  have hd := h.hr.dom id
  rw [ho] at hd
  replace hd := hd.trans hre
  obtain ⟨⟨b, N⟩, hm⟩ := Option.isSome_iff_exists.1 hd
  exact ⟨b, N, hm, h.hr.obj id o b N ho hm⟩
theorem SW.ptr (h : SW C n σ a w m R) {x : Operand} {id off : Nat} {o : Ob} (hx : σ.ev n x = .ptr id off) (ho : σ.ob id = some o) (hre : o.real = true := by rfl) :
    ∃ b N, a.eval x = .pointer (some ⟨b, off, none⟩) ∧ m id = some (b, N) ∧ ORel w m σ.av R b N o := by
  obtain ⟨b, N, hm, hr⟩ := h.live ho hre
  have := h.ev x
  rw [hx] at this
  simp only [Rel] at this
  exact ⟨b, N, this.2 b N hm, hm, hr⟩
theorem SW.osl (h : SW C n σ a w m R) {x : Operand} {id sz k : Nat} {o : Ob} (hx : σ.ev n x = .osl id sz k) (ho : σ.ob id = some o) (hre : o.real = true := by rfl) :
    ∃ b N c, a.eval x = .slice (some ⟨b, 0, none⟩) k c ∧ k ≤ c ∧ c ≤ maxLen ∧ N = c * sz ∧ m id = some (b, N) ∧ ORel w m σ.av R b N o := by
  obtain ⟨b, N, hm, hr⟩ := h.live ho hre
  have := h.ev x
  rw [hx] at this
  simp only [Rel] at this
  obtain ⟨c, e, h1, h2, h3⟩ := this.2 b N hm
  exact ⟨b, N, c, e, h1, h2, h3, hm, hr⟩

/-- A new block becomes a place of the call's own. -/
theorem SW.alloc (h : SW C n σ a w m R) {id : Nat} (hid : σ.av id = true) (arr : Array Value) (ty : TypeId) (o : Ob)
    (ho : ∀ (w' : World) (m' : Gm) (av' : Av), (∀ b, R b → R b ∧ w'.heap[b]? = w.heap[b]?) → (∀ i x, σ.av i = false → m' i = some x → m i = some x) → (∀ i, σ.av i = false → av' i = false) →
      w'.heap[w.heap.size]? = some (.cells arr ty (0, 0)) → ORel w' m' av' R w.heap.size arr.size o) (hre : o.real = true := by rfl) :
    SW C n ⟨σ.sl, obL [(id, some o)] σ.ob, avL [id] σ.av⟩ a (w.alloc (.cells arr ty)) (upd m id (some (w.heap.size, arr.size))) R := by
  have hR : ∀ b, R b → R b ∧ (w.alloc (.cells arr ty)).heap[b]? = w.heap[b]? := fun b hb => ⟨hb, Below.heap_alloc w _ b (h.hr.rsz b hb)⟩
  have hne : ∀ i, σ.av i = false → i ≠ id := fun i hi e => by rw [e, hid] at hi; cases hi
  have hmn : m id = none := by
    have := h.hr.dom id
    rw [h.hr.free id hid] at this
    simpa [liveO] using this
  have hm : ∀ i x, σ.av i = false → upd m id (some (w.heap.size, arr.size)) i = some x → m i = some x := fun i x hi e => by rwa [upd_ne _ _ (hne i hi)] at e
  have ha : ∀ i, σ.av i = false → avL [id] σ.av i = false := fun i hi => by
    simp only [avL]
    cases Nat.beq i id <;> simp [hi]
  have hsz : (w.alloc (.cells arr ty)).heap.size = w.heap.size + 1 := by simp
  have obe : ∀ i, i ≠ id → obL [(id, some o)] σ.ob i = σ.ob i := fun i hi => by
    have : Nat.beq i id = false := by cases hb : Nat.beq i id; rfl; exact absurd (Nat.eq_of_beq_eq_true hb) hi
    simp [obL, this]
  have obs : obL [(id, some o)] σ.ob id = some o := by simp [obL]
  have avf : ∀ i, (m i).isSome = true → σ.av i = false := fun i hi => by
    cases hb : σ.av i
    · rfl
    · have := h.hr.dom i
      rw [h.hr.free i hb, hi] at this
      cases this
  refine h.world ⟨?_, ?_, ?_, ?_, ?_, ?_, ?_, ?_, ?_, ?_, ?_⟩ hR hm ha
  · intro i
    by_cases e : i = id
    · subst e; rw [upd_same, obs]; exact hre.symm
    · rw [upd_ne _ _ e, obe i e]; exact h.hr.dom i
  · intro i hi
    simp only [avL] at hi
    cases hb : Nat.beq i id with
    | true => rw [hb] at hi; simp at hi
    | false =>
      rw [hb] at hi
      have e : i ≠ id := fun e => by subst e; simp at hb
      rw [obe i e]
      exact h.hr.free i (by simpa using hi)
  · intro i o' b N h1 h2
    by_cases e : i = id
    · subst e
      rw [obs] at h1
      rw [upd_same] at h2
      cases h1; cases h2
      exact ho _ _ _ hR hm ha (heap_alloc_new w _)
    · rw [obe i e] at h1
      rw [upd_ne _ _ e] at h2
      exact (h.hr.obj i o' b N h1 h2).mono hR hm ha (Below.heap_alloc w _ b (h.hr.own i b N h2).1)
  · intro i j b N N' h1 h2
    by_cases e1 : i = id <;> by_cases e2 : j = id
    · rw [e1, e2]
    · subst e1
      rw [upd_same] at h1
      rw [upd_ne _ _ e2] at h2
      cases h1
      have := (h.hr.own j _ _ h2).1
      omega
    · subst e2
      rw [upd_same] at h2
      rw [upd_ne _ _ e1] at h1
      cases h2
      have := (h.hr.own i _ _ h1).1
      omega
    · rw [upd_ne _ _ e1] at h1
      rw [upd_ne _ _ e2] at h2
      exact h.hr.inj i j b N N' h1 h2
  · intro i b N h1
    by_cases e : i = id
    · subst e
      rw [upd_same] at h1
      cases h1
      exact ⟨by omega, fun hb => by have := h.hr.rsz _ hb; omega, .inr h.hr.frame.size⟩
    · rw [upd_ne _ _ e] at h1
      obtain ⟨h2, h3, h4⟩ := h.hr.own i b N h1
      exact ⟨by omega, h3, h4⟩
  · intro b hb
    have := h.hr.rsz b hb
    omega
  · exact h.hr.rfr
  · exact h.hr.r0
  · refine ⟨h.hr.frame.os, h.hr.frame.tape, h.hr.frame.output, ?_, ?_⟩
    · have := h.hr.frame.size; omega
    · intro k hk hF
      rw [Below.heap_alloc w _ k (by have := h.hr.frame.size; omega)]
      exact h.hr.frame.block k hk hF
  · intro i x hi e
    have hne' : i ≠ id := fun e' => by subst e'; rw [h.hr.res i hi] at hid; cases hid
    rw [upd_ne _ _ hne'] at e
    exact h.hr.keep i x hi e
  · intro i hi
    exact ha i (h.hr.res i hi)

/-- The cells of one place of the call's own are written. -/
theorem SW.store (h : SW C n σ a w m R) {id b N : Nat} (hm0 : m id = some (b, N)) (arr arr' : Array Value) (ty : TypeId) (hb : w.heap[b]? = some (.cells arr ty (0, 0))) (hsz : arr'.size = N) (o : Ob)
    (ho : ∀ (w' : World), (∀ b, R b → R b ∧ w'.heap[b]? = w.heap[b]?) → w'.heap[b]? = some (.cells arr' ty (0, 0)) → ORel w' m σ.av R b N o) (hre : o.real = true := by rfl) :
    SW C n ⟨σ.sl, obL [(id, some o)] σ.ob, avL [] σ.av⟩ a (w.setRow b arr') m R := by
  have own := h.hr.own id b N hm0
  have hheap := setRow_heap w b arr arr' ty (0, 0) hb
  have hoth : ∀ k, k ≠ b → (w.setRow b arr').heap[k]? = w.heap[k]? := fun k hk => setRow_other w b k arr' hk
  have hR : ∀ k, R k → R k ∧ (w.setRow b arr').heap[k]? = w.heap[k]? := fun k hk => ⟨hk, hoth k (fun e => own.2.1 (e ▸ hk))⟩
  have hs : (w.setRow b arr').heap.size = w.heap.size := by simp
  have obe : ∀ i, i ≠ id → obL [(id, some o)] σ.ob i = σ.ob i := fun i hi => by
    have : Nat.beq i id = false := by cases hb : Nat.beq i id; rfl; exact absurd (Nat.eq_of_beq_eq_true hb) hi
    simp [obL, this]
  have obs : obL [(id, some o)] σ.ob id = some o := by simp [obL]
  have hm : ∀ i x, σ.av i = false → m i = some x → m i = some x := fun _ _ _ e => e
  have ha : ∀ i, σ.av i = false → avL [] σ.av i = false := fun _ hi => hi
  refine h.world ⟨?_, ?_, ?_, ?_, ?_, ?_, ?_, ?_, ?_, ?_, ?_⟩ hR hm ha
  · intro i
    by_cases e : i = id
    · subst e; rw [hm0, obs]; exact hre.symm
    · rw [obe i e]; exact h.hr.dom i
  · intro i hi
    have e : i ≠ id := fun e => by
      subst e
      have := h.hr.dom i
      rw [h.hr.free i hi, hm0] at this
      cases this
    rw [obe i e]
    exact h.hr.free i hi
  · intro i o' b' N' h1 h2
    by_cases e : i = id
    · subst e
      rw [obs] at h1
      rw [hm0] at h2
      cases h1; cases h2
      exact ho _ hR hheap
    · rw [obe i e] at h1
      exact (h.hr.obj i o' b' N' h1 h2).mono hR hm ha (hoth b' (fun e' => e (h.hr.inj i id b N' N (e' ▸ h2) hm0)))
  · exact h.hr.inj
  · intro i b' N' h1
    obtain ⟨h2, h3, h4⟩ := h.hr.own i b' N' h1
    exact ⟨by omega, h3, h4⟩
  · intro b' hb'
    have := h.hr.rsz b' hb'
    omega
  · exact h.hr.rfr
  · exact h.hr.r0
  · refine ⟨h.hr.frame.os, h.hr.frame.tape, h.hr.frame.output, ?_, ?_⟩
    · have := h.hr.frame.size; omega
    · intro k hk hF
      rw [hoth k (fun e => by subst e; rcases own.2.2 with h' | h'; exact hF h'; omega)]
      exact h.hr.frame.block k hk hF
  · exact h.hr.keep
  · exact h.hr.res
end

/-- How many cells a type takes. -/
def szIs (P : Program) (t : TypeId) (k : Nat) : Prop := (P.info? t).map (·.size) = some k
def isRow (P : Program) (t : TypeId) : Prop := ∃ d, P.underlying t = some d ∧ d.isRow = true
def notRow (P : Program) (t : TypeId) : Prop := ∃ d, P.underlying t = some d ∧ d.isRow = false
theorem notRow.run {P : Program} {t : TypeId} (h : notRow P t) (w : World) : (isAgg t).run P w = .ok false w := by
  obtain ⟨d, hu, hd⟩ := h
  unfold isAgg
  rw [Sem.run_bind, run_underlying hu w]
  cases d <;> simp_all
theorem isRow.run {P : Program} {t : TypeId} (h : isRow P t) (w : World) : (isAgg t).run P w = .ok true w := by
  obtain ⟨d, hu, hd⟩ := h
  unfold isAgg
  rw [Sem.run_bind, run_underlying hu w]
  cases d <;> simp_all
theorem szIs.run {P : Program} {t : TypeId} {k : Nat} (h : szIs P t k) (w : World) : (sizeOf t).run P w = .ok k w := by
  unfold szIs at h
  cases hq : P.info? t with
  | none => simp [hq] at h
  | some i => simp [hq] at h; simp [sizeOf, typeInfo, hq, h]

section
variable {C : Ctx} {n : Nat} {σ : St} {dst : Option Tmp} {ty t t' : TypeId} {pos : String} {after : Array Edge} {gd : Option (Nat × Bool)} {x y : Operand}

theorem St.app_new (σ : St) (d : Option Tmp) (v : V) (wr : List (Nat × Option Ob)) (nw : List Nat) : σ.app d ⟨v, wr, nw⟩ = St.put ⟨σ.sl, obL wr σ.ob, avL nw σ.av⟩ d v := by
  cases d <;> rfl

/-- A variable is made of a value. -/
theorem xj_box (id : Nat) {T : TypeId} (hid : σ.av id = true) {v : V} (hv : σ.ev n x = v) (hl : v.cells.all V.leaf = true) (hlive : ∀ i o, v = .ptr i o → liveO (σ.ob i) = true) (hlive2 : ∀ i s k, v = .osl i s k → liveO (σ.ob i) = true) (hlive3 : ∀ i, v = .map i → liveO (σ.ob i) = true) :
    XJ C n ⟨dst, .box T x, ty, pos, after, gd⟩ σ ⟨.ptr id 0, [(id, some (.mix T v.cells))], [id]⟩ := by
  rintro a w Q ⟨m, R, hw⟩
  have hrel := hw.ev x
  rw [hv] at hrel
  have hc := hrel.cells (by simpa using hl) (fun i o e => by rw [hw.hr.dom]; exact hlive i o e) (fun i s k e => by rw [hw.hr.dom]; exact hlive2 i s k e) (fun i e => by rw [hw.hr.dom]; exact hlive3 i e)
  unfold Oper.wp
  have hrun : (execOp a.eval ⟨dst, .box T x, ty, pos, after, gd⟩).run C.P w = .ok (.value (.pointer (some ⟨w.heap.size, 0, none⟩))) (w.alloc (.cells (a.eval x).cells T)) := by
    simp [execOp, Instr.box, newVar, newRow]
  rw [hrun]
  refine ⟨_, rfl, upd m id (some (w.heap.size, (a.eval x).cells.size)), R, ?_⟩
  rw [St.app_new]
  refine SW.put (hw.alloc hid (a.eval x).cells T (.mix T v.cells) ?_) dst ?_
  · intro w' m' av' hR hm ha hb
    refine ⟨_, hb, rfl, ?_, ?_⟩
    · rw [← hc.length]; simp
    · have : (a.eval x).cells.toList.take v.cells.length = (a.eval x).cells.toList := List.take_of_length_le (by rw [← hc.length]; exact Nat.le_refl _)
      rw [this]
      exact hc.mono hR hm ha
  · simp only [Rel]
    refine ⟨by simp [avL], fun b N e => ?_⟩
    rw [upd_same] at e
    cases e
    rfl

/-- A variable with its zero value. -/
theorem xj_alloc (id : Nat) {T : TypeId} {z : Value} {cs : List PV} (hz : (C.P.info? T).map (·.zero) = some (some z)) (hcs : z.cells.toList.map leafC = cs) (hid : σ.av id = true) :
    XJ C n ⟨dst, .alloc T, ty, pos, after, gd⟩ σ ⟨.ptr id 0, [(id, some (.mix T (cs.map .pv)))], [id]⟩ := by
  rintro a w Q ⟨m, R, hw⟩
  unfold Oper.wp
  have hrun : (execOp a.eval ⟨dst, .alloc T, ty, pos, after, gd⟩).run C.P w = .ok (.value (.pointer (some ⟨w.heap.size, 0, none⟩))) (w.alloc (.cells z.cells T)) := by
    cases hq : C.P.info? T with
    | none => simp [hq] at hz
    | some i =>
      simp [hq] at hz
      simp [execOp, Instr.alloc, zeroValue, typeInfo, hq, hz, newVar, newRow]
  rw [hrun]
  refine ⟨_, rfl, upd m id (some (w.heap.size, z.cells.size)), R, ?_⟩
  rw [St.app_new]
  refine SW.put (hw.alloc hid z.cells T (.mix T (cs.map .pv)) ?_) dst ?_
  · intro w' m' av' hR hm ha hb
    have hlen : cs.length = z.cells.size := by rw [← hcs]; simp
    refine ⟨_, hb, rfl, by simp [hlen], ?_⟩
    have : z.cells.toList.take (cs.map V.pv).length = z.cells.toList := List.take_of_length_le (by simp [hlen])
    rw [this]
    refine RelL.ofP ?_
    rw [← hcs]
    generalize z.cells.toList = l
    induction l with
    | nil => simpa using RelPL.nil
    | cons x l ih => simpa using RelPL.cons (leafC_rel w' R x) ih
  · simp only [Rel]
    refine ⟨by simp [avL], fun b N e => ?_⟩
    rw [upd_same] at e
    cases e
    rfl

theorem arr_cell {w : World} {b : Nat} {arr : Array Value} {T : TypeId} {us : List Value} (hb : w.heap[b]? = some (.cells arr T (0, 0))) {k : Nat} (hus : arr.toList.take k = us) {j : Nat} (hj : j < k) :
    w.cell? ⟨b, j, none⟩ = us[j]? := by
  rw [cell_of_row w b j arr T (0, 0) hb, ← hus, List.getElem?_take, if_pos hj]
  simp

/-- A variable is read: one cell. -/
theorem xj_load1 {T : TypeId} {id off : Nat} {T' : TypeId} {cs : List V} {v : V} (hT : notRow C.P T) (hx : σ.ev n x = .ptr id off) (ho : σ.ob id = some (.mix T' cs)) (hv : cs[off]? = some v) :
    XJ C n ⟨dst, .load T x, ty, pos, after, gd⟩ σ ⟨v, [], []⟩ :=
  .val fun a w m R hw => by
    obtain ⟨b, N, he, hm, arr, hb, hN, hle, hr⟩ := hw.ptr hx ho
    obtain ⟨u, hu, hrel⟩ := hr.get hv
    have hoff : off < cs.length := (List.getElem?_eq_some_iff.1 hv).1
    have hc : w.cell? ⟨b, off, none⟩ = some u := by rw [arr_cell hb rfl hoff]; exact hu
    exact ⟨u, by simp [execOp, he, Instr.loadAt, Instr.sureAddr, loadVar, hT.run, load, Sem.run, hc], hrel⟩
/-- The same of a place of plain cells. -/
theorem xj_load1P {T : TypeId} {id off : Nat} {T' : TypeId} {cs : List PV} {v : PV} (hT : notRow C.P T) (hx : σ.ev n x = .ptr id off) (ho : σ.ob id = some (.cells T' cs)) (hv : cs[off]? = some v) :
    XJ C n ⟨dst, .load T x, ty, pos, after, gd⟩ σ ⟨.pv v, [], []⟩ :=
  .val fun a w m R hw => by
    obtain ⟨b, N, he, hm, arr, hb, hN, hle, hr⟩ := hw.ptr hx ho
    obtain ⟨u, hu, hrel⟩ := hr.get hv
    have hoff : off < cs.length := (List.getElem?_eq_some_iff.1 hv).1
    have hc : w.cell? ⟨b, off, none⟩ = some u := by rw [arr_cell hb rfl hoff]; exact hu
    exact ⟨u, by simp [execOp, he, Instr.loadAt, Instr.sureAddr, loadVar, hT.run, load, Sem.run, hc], by simpa only [Rel] using hrel⟩
/-- A cell of memory that stands. -/
theorem xj_loadR {T : TypeId} {off : Nat} {cs : List PV} {v : PV} (hT : notRow C.P T) (hx : σ.ev n x = .pv (.rp cs off)) (hv : cs[off]? = some v) :
    XJ C n ⟨dst, .load T x, ty, pos, after, gd⟩ σ ⟨.pv v, [], []⟩ :=
  .val fun a w m R hw => by
    have := hw.pv hx
    simp only [RelP] at this
    obtain ⟨b, o, us, he, hr, hs⟩ := this
    obtain ⟨u, hu, hrel⟩ := hr.get hv
    have hoff : off < us.length := (List.getElem?_eq_some_iff.1 hu).1
    have hc : w.cell? ⟨b, o + off, none⟩ = some u := by rw [hs.2 off hoff]; exact hu
    exact ⟨u, by simp [execOp, he, Instr.loadAt, Instr.sureAddr, loadVar, hT.run, load, Sem.run, hc], by simpa only [Rel] using hrel⟩
/-- A struct is read. -/
theorem xj_loadA {T : TypeId} {id off k : Nat} {T' : TypeId} {cs vs : List V} (hT : isRow C.P T) (hk : szIs C.P T k) (hx : σ.ev n x = .ptr id off) (ho : σ.ob id = some (.mix T' cs)) (hv : (cs.drop off).take k = vs) (hle : vs.length = k) :
    XJ C n ⟨dst, .load T x, ty, pos, after, gd⟩ σ ⟨.agg vs, [], []⟩ :=
  .val fun a w m R hw => by
    obtain ⟨b, N, he, hm, arr, hb, hN, hle', hr⟩ := hw.ptr hx ho
    have hl : off + k ≤ cs.length ∨ k = 0 := by
      have := congrArg List.length hv
      simp at this
      omega
    have hr2 := (hr.drop off).take k
    rw [hv] at hr2
    have hlen := hr2.length
    obtain ⟨d, hu, hd⟩ := hT
    have := run_loadAt_mid (P := C.P) w b off T (((arr.toList.take cs.length).drop off).take k) d (fun j u hu => by
      rw [List.getElem?_take] at hu
      split at hu
      · rename_i hj
        rw [List.getElem?_drop] at hu
        have hlt := (List.getElem?_eq_some_iff.1 hu).1
        rw [arr_cell hb (k := cs.length) rfl (by simp at hlt; omega)]
        exact hu
      · cases hu) hu hd (by unfold szIs at hk; rw [hk, hlen, hle])
    refine ⟨_, by simp only [execOp, he, Sem.run_bind, this, Result.andThen_ok]; rfl, ?_⟩
    simp only [Rel]
    exact ⟨_, rfl, hr2⟩
theorem xj_loadAP {T : TypeId} {id off k : Nat} {T' : TypeId} {cs vs : List PV} (hT : isRow C.P T) (hk : szIs C.P T k) (hx : σ.ev n x = .ptr id off) (ho : σ.ob id = some (.cells T' cs)) (hv : (cs.drop off).take k = vs) (hle : vs.length = k) :
    XJ C n ⟨dst, .load T x, ty, pos, after, gd⟩ σ ⟨.pv (.agg vs), [], []⟩ :=
  .val fun a w m R hw => by
    obtain ⟨b, N, he, hm, arr, hb, hN, hle', hr⟩ := hw.ptr hx ho
    have hr2 := (hr.drop off).take k
    rw [hv] at hr2
    have hlen := hr2.length
    obtain ⟨d, hu, hd⟩ := hT
    have := run_loadAt_mid (P := C.P) w b off T (((arr.toList.take cs.length).drop off).take k) d (fun j u hu => by
      rw [List.getElem?_take] at hu
      split at hu
      · rename_i hj
        rw [List.getElem?_drop] at hu
        have hlt := (List.getElem?_eq_some_iff.1 hu).1
        rw [arr_cell hb (k := cs.length) rfl (by simp at hlt; omega)]
        exact hu
      · cases hu) hu hd (by unfold szIs at hk; rw [hk, hlen, hle])
    refine ⟨_, by simp only [execOp, he, Sem.run_bind, this, Result.andThen_ok]; rfl, ?_⟩
    simp only [Rel, RelP]
    exact ⟨_, rfl, hr2⟩
theorem xj_loadAR {T : TypeId} {off k : Nat} {cs vs : List PV} (hT : isRow C.P T) (hk : szIs C.P T k) (hx : σ.ev n x = .pv (.rp cs off)) (hv : (cs.drop off).take k = vs) (hle : vs.length = k) :
    XJ C n ⟨dst, .load T x, ty, pos, after, gd⟩ σ ⟨.pv (.agg vs), [], []⟩ :=
  .val fun a w m R hw => by
    have := hw.pv hx
    simp only [RelP] at this
    obtain ⟨b, o, us, he, hr, hs⟩ := this
    have hr2 := (hr.drop off).take k
    rw [hv] at hr2
    have hlen := hr2.length
    obtain ⟨d, hu, hd⟩ := hT
    have := run_loadAt_mid (P := C.P) w b (o + off) T ((us.drop off).take k) d (fun j u hu => by
      rw [List.getElem?_take] at hu
      split at hu
      · rw [List.getElem?_drop] at hu
        have hlt := (List.getElem?_eq_some_iff.1 hu).1
        rw [Nat.add_assoc, hs.2 (off + j) hlt]
        exact hu
      · cases hu) hu hd (by unfold szIs at hk; rw [hk, hlen, hle])
    refine ⟨_, by simp only [execOp, he, Sem.run_bind, this, Result.andThen_ok]; rfl, ?_⟩
    simp only [Rel, RelP]
    exact ⟨_, rfl, hr2⟩

end
end Go.Proofs.Ytkalgjnhaicabaa
