/-
  Our own step logic: regions that draw their order. No statement of the program is proved here.
-/
import Derived.Test.YtkalgjnhaicabaaE7
namespace Go.Proofs.Ytkalgjnhaicabaa
open Go.RowKit

theorem SW.drew {C : Ctx} {n : Nat} {σ : St} {a : Act} {w w' : World} {m : Gm} {R : Nat → Prop} (h : SW C n σ a w m R) (hh : w'.heap = w.heap) (ho : w'.os = w.os) (ht : w'.tape = w.tape) (hp : w'.output = w.output) : SW C n σ a w' m R := by
  have hR : ∀ b, R b → R b ∧ w'.heap[b]? = w.heap[b]? := fun b hb => ⟨hb, by rw [hh]⟩
  have := h.world (w' := w') (m' := m) (R' := R) (ob' := σ.ob) (av' := σ.av) ?_ hR (fun _ _ _ e => e) (fun _ e => e)
  · exact this
  refine ⟨h.hr.dom, h.hr.free, ?_, h.hr.inj, ?_, ?_, h.hr.rfr, h.hr.r0, ?_, h.hr.keep, h.hr.res⟩
  · intro i o b N h1 h2
    exact (h.hr.obj i o b N h1 h2).mono hR (fun _ _ _ e => e) (fun _ e => e) (by rw [hh])
  · intro i b N h1; rw [hh]; exact h.hr.own i b N h1
  · intro b hb; rw [hh]; exact h.hr.rsz b hb
  · exact ⟨ho.trans h.hr.frame.os, ht.trans h.hr.frame.tape, hp.trans h.hr.frame.output, by rw [hh]; exact h.hr.frame.size, fun k hk hF => by rw [hh]; exact h.hr.frame.block k hk hF⟩

/-- The slot of an operation's guard. -/
def gslot (ops : Array Oper) (n : Nat) (o : Oper) : Option Tmp :=
  match o.guard with
  | some (j, _) => some (((ops[j]?).bind (·.dst)).getD n)
  | none => none

/-- τ says what σ says of all that the operation looks at. -/
structure Agr (n : Nat) (ops : Array Oper) (o : Oper) (σ τ : St) (s : OS) (rd : List Nat) : Prop where
  e : ∀ (i : Nat) (x : Operand), o.op.operands.toList[i]? = some x → τ.ev n x = σ.ev n x
  g : ∀ t, gslot ops n o = some t → τ.ev n (.tmp t) = σ.ev n (.tmp t)
  o : ∀ (i id : Nat), rd[i]? = some id → τ.ob id = σ.ob id
  n : ∀ (i id : Nat), s.nw[i]? = some id → τ.av id = true

/-- The operation, wherever it is carried out, leaves just s. -/
def LJ (C : Ctx) (n : Nat) (ops : Array Oper) (o : Oper) (σ : St) (s : OS) (rd : List Nat) : Prop :=
  ∀ τ, Agr n ops o σ τ s rd → match o.guard with
    | none => XJ C n o τ s
    | some (j, want) => ∃ b, (τ.ev n (.tmp (((ops[j]?).bind (·.dst)).getD n))).gd = some b ∧ (b = some want → XJ C n o τ s) ∧ (b ≠ some want → s = ⟨und, [], []⟩)

/-- All that an operation names: slots. -/
def namesOf (ops : Array Oper) (n : Nat) (o : Oper) : List Tmp := (o.op.operands.toList.filterMap fun | .tmp t => some t | _ => none) ++ (gslot ops n o).toList
def inL (d : Nat) : List Nat → Bool
  | [] => false
  | x :: l => Nat.beq x d || inL d l
def meet (a : List Nat) : List Nat → Bool
  | [] => false
  | x :: l => inL x a || meet a l
/-- An operation with what it leaves: its number, the places that it turns (wk), takes (nw), looks at (rd). -/
structure It where
  i : Nat
  o : Oper
  s : OS
  wk : List Nat
  nw : List Nat
  rd : List Nat

/-- Two operations that must not change places. -/
def confB (ops : Array Oper) (n : Nat) (a b : It) : Bool :=
  (match a.o.dst with | some d => inL d (namesOf ops n b.o) || (match b.o.dst with | some e => Nat.beq d e | none => false) | none => false) ||
  (match b.o.dst with | some e => inL e (namesOf ops n a.o) | none => false) ||
  meet a.wk (b.rd ++ b.wk ++ b.nw) || meet b.wk (a.rd ++ a.nw) || meet a.nw (b.rd ++ b.nw) || meet b.nw a.rd
/-- What must come before each operation. -/
def cloL (os : List Oper) (acc : List (List Nat)) : List (List Nat) :=
  match os with
  | [] => acc
  | o :: os =>
    let es := o.after.toList.filterMap fun e => if Region.binds .any e then some e.on else none
    cloL os (acc ++ [es.foldl (fun l i => if inL i l then l else (i :: l) ++ ((acc[i]?).getD []).filter (fun z => !(inL z (i :: l)))) []])
/-- Each operation waits for earlier ones alone. -/
def edgesOk : Nat → List Oper → Bool
  | _, [] => true
  | k, o :: os => (o.after.toList.all fun e => !(Region.binds .any e) || Nat.blt e.on k) && edgesOk (k + 1) os
/-- A new item against all earlier ones. -/
def newOk (ops : Array Oper) (n : Nat) (cl : List (List Nat)) (it : It) (acc : List It) : Bool :=
  (acc.all fun b => !(confB ops n b it) || inL b.i ((cl[it.i]?).getD [])) && (acc.all fun b => !(Nat.beq b.i it.i))

/-- The operation, wherever it is carried out, leaves something that P holds of. -/
def LJR (C : Ctx) (n : Nat) (ops : Array Oper) (o : Oper) (σ : St) (P : OS → Prop) (wk nw rd : List Nat) : Prop :=
  ∀ τ, Agr n ops o σ τ ⟨.pv .any, [], nw⟩ rd → o.guard = none ∧ OJ C n o (fun τ' => ∃ s, P s ∧ s.wr.map (·.1) = wk ∧ s.nw = nw ∧ τ' = τ.app o.dst s) τ

def DL (C : Ctx) (n : Nat) (ops : Array Oper) (cl : List (List Nat)) : List Nat → List It → (St → Prop) → St → Prop
  | [], acc, K, σ => (List.range ops.size).all (fun i => inL i (acc.map (·.i))) = true ∧ K σ
  | i :: is, acc, K, σ => ∃ o, ops[i]? = some o ∧
      ((∃ s rd, LJ C n ops o σ s rd ∧ s.nw.all σ.av = true ∧ newOk ops n cl ⟨i, o, s, s.wr.map (·.1), s.nw, rd⟩ acc = true ∧ DL C n ops cl is (⟨i, o, s, s.wr.map (·.1), s.nw, rd⟩ :: acc) K (σ.app o.dst s)) ∨
       (∃ (P : OS → Prop) (wk nw rd : List Nat), LJR C n ops o σ P wk nw rd ∧ nw.all σ.av = true ∧ newOk ops n cl ⟨i, o, ⟨.pv .any, [], []⟩, wk, nw, rd⟩ acc = true ∧ is.all (fun j => inL i ((cl[j]?).getD [])) = true ∧ (List.range ops.size).all (fun j => inL j (i :: is) || inL j (acc.map (·.i))) = true ∧
          ∀ s, P s → s.wr.map (·.1) = wk → s.nw = nw → DL C n ops cl is (⟨i, o, s, wk, nw, rd⟩ :: acc) K (σ.app o.dst s)))

section
variable {C : Ctx} {n : Nat} {σ τ : St} {ops : Array Oper} {cl : List (List Nat)} {i : Nat} {o : Oper} {is : List Nat} {acc : List It} {K : St → Prop}
theorem DL.step {s : OS} {d : Option Tmp} (rd : List Nat) (ho : ops[i]? = some o) (hg : o.guard = none) (hd : o.dst = d) (hx : ∀ τ, Agr n ops o σ τ s rd → XJ C n o τ s) (hn : s.nw.all σ.av = true) (hc : newOk ops n cl ⟨i, o, s, s.wr.map (·.1), s.nw, rd⟩ acc = true)
    (h : DL C n ops cl is (⟨i, o, s, s.wr.map (·.1), s.nw, rd⟩ :: acc) K (σ.app d s)) : DL C n ops cl (i :: is) acc K σ := by
  subst hd
  exact ⟨o, ho, .inl ⟨s, rd, fun τ ha => by simp only [hg]; exact hx τ ha, hn, hc, h⟩⟩
theorem DL.stepG {s : OS} {d : Option Tmp} (rd : List Nat) {j : Nat} {want : Bool} (ho : ops[i]? = some o) (hg : o.guard = some (j, want)) (hd : o.dst = d) (hb : σ.ev n (.tmp (((ops[j]?).bind (·.dst)).getD n)) = .pv (.bool want))
    (hx : ∀ τ, Agr n ops o σ τ s rd → XJ C n o τ s) (hn : s.nw.all σ.av = true) (hc : newOk ops n cl ⟨i, o, s, s.wr.map (·.1), s.nw, rd⟩ acc = true)
    (h : DL C n ops cl is (⟨i, o, s, s.wr.map (·.1), s.nw, rd⟩ :: acc) K (σ.app d s)) : DL C n ops cl (i :: is) acc K σ := by
  subst hd
  exact ⟨o, ho, .inl ⟨s, rd, fun τ ha => by
    simp only [hg]
    exact ⟨some want, V.gd_bool ((ha.g _ (by simp only [gslot, hg])).trans hb), fun _ => hx τ ha, fun e => absurd rfl e⟩, hn, hc, h⟩⟩
theorem DL.skipG {d : Option Tmp} {j : Nat} {want : Bool} (ho : ops[i]? = some o) (hg : o.guard = some (j, want)) (hd : o.dst = d) (hb : σ.ev n (.tmp (((ops[j]?).bind (·.dst)).getD n)) = .pv (.bool (!want))) (hc : newOk ops n cl ⟨i, o, ⟨und, [], []⟩, [], [], []⟩ acc = true)
    (h : DL C n ops cl is (⟨i, o, ⟨und, [], []⟩, [], [], []⟩ :: acc) K (σ.app d ⟨und, [], []⟩)) : DL C n ops cl (i :: is) acc K σ := by
  subst hd
  exact ⟨o, ho, .inl ⟨_, [], fun τ ha => by
    simp only [hg]
    exact ⟨some (!want), V.gd_bool ((ha.g _ (by simp only [gslot, hg])).trans hb), fun e => (by cases want <;> simp at e), fun _ => trivial⟩, rfl, hc, h⟩⟩
theorem DL.skipU {d : Option Tmp} {j : Nat} {want : Bool} (ho : ops[i]? = some o) (hg : o.guard = some (j, want)) (hd : o.dst = d) (hb : σ.ev n (.tmp (((ops[j]?).bind (·.dst)).getD n)) = und) (hc : newOk ops n cl ⟨i, o, ⟨und, [], []⟩, [], [], []⟩ acc = true)
    (h : DL C n ops cl is (⟨i, o, ⟨und, [], []⟩, [], [], []⟩ :: acc) K (σ.app d ⟨und, [], []⟩)) : DL C n ops cl (i :: is) acc K σ := by
  subst hd
  exact ⟨o, ho, .inl ⟨_, [], fun τ ha => by
    simp only [hg]
    exact ⟨none, (by rw [(ha.g _ (by simp only [gslot, hg])).trans hb]; rfl), (fun e => by cases e), fun _ => trivial⟩, rfl, hc, h⟩⟩
theorem DL.rel {d : Option Tmp} (P : OS → Prop) (wk nw rd : List Nat) (ho : ops[i]? = some o) (hg : o.guard = none) (hd : o.dst = d) (hx : ∀ τ, Agr n ops o σ τ ⟨.pv .any, [], nw⟩ rd → OJ C n o (fun τ' => ∃ s, P s ∧ s.wr.map (·.1) = wk ∧ s.nw = nw ∧ τ' = τ.app o.dst s) τ)
    (hn : nw.all σ.av = true) (hc : newOk ops n cl ⟨i, o, ⟨.pv .any, [], []⟩, wk, nw, rd⟩ acc = true) (hs : is.all (fun j => inL i ((cl[j]?).getD [])) = true) (hall : (List.range ops.size).all (fun j => inL j (i :: is) || inL j (acc.map (·.i))) = true)
    (h : ∀ s, P s → s.wr.map (·.1) = wk → s.nw = nw → DL C n ops cl is (⟨i, o, s, wk, nw, rd⟩ :: acc) K (σ.app d s)) : DL C n ops cl (i :: is) acc K σ := by
  subst hd
  exact ⟨o, ho, .inr ⟨P, wk, nw, rd, fun τ ha => ⟨hg, hx τ ha⟩, hn, hc, hs, hall, h⟩⟩
theorem Agr.args {s : OS} {rd : List Nat} {f : FuncId} {xs : Array Operand} {ts : Array TypeId} {dst : Option Tmp} {ty : TypeId} {pos : String} {after : Array Edge} {gd : Option (Nat × Bool)}
    (h : Agr n ops ⟨dst, .call { callee := .value (.func f), args := xs, argTypes := ts }, ty, pos, after, gd⟩ σ τ s rd) : xs.toList.map (τ.ev n) = xs.toList.map (σ.ev n) := by
  apply List.map_congr_left
  intro x hx
  obtain ⟨i, hi⟩ := List.getElem?_of_mem hx
  exact h.e (i + 1) x (by simpa [Op.operands, Call.operands, Nat.add_comm] using hi)
end

section
variable {n : Nat} {ops : Array Oper} {σ τ : St} {s : OS} {rd : List Nat} {f : FuncId} {xs : Array Operand} {ts : Array TypeId} {dst : Option Tmp} {ty : TypeId} {pos : String} {after : Array Edge} {gd : Option (Nat × Bool)}
theorem Agr.argsP (h : Agr n ops ⟨dst, .call { callee := .value (.func f), args := xs, argTypes := ts }, ty, pos, after, gd⟩ σ τ s rd) {ps : List PV} (hp : (V.args (fun _ => none) (xs.toList.map (σ.ev n))).map PV.fgA = some ps) :
    (V.args (fun _ => none) (xs.toList.map (τ.ev n))).map PV.fgA = some ps := by rw [h.args]; exact hp
end

section
variable {n : Nat} {ops : Array Oper} {σ τ : St} {s : OS} {rd : List Nat} {dst : Option Tmp} {ty : TypeId} {pos : String} {after : Array Edge} {gd : Option (Nat × Bool)} {T : TypeId} {parts : Array (Nat × Operand)}
theorem Agr.partsB (h : Agr n ops ⟨dst, .build T parts, ty, pos, after, gd⟩ σ τ s rd) : (parts.toList.map fun p => (p.1, τ.ev n p.2)) = parts.toList.map fun p => (p.1, σ.ev n p.2) := by
  apply List.map_congr_left
  intro p hp
  obtain ⟨i, hi⟩ := List.getElem?_of_mem hp
  rw [h.e i p.2 (by simp [Op.operands, hi])]
theorem Agr.partsBS {k : Nat} (h : Agr n ops ⟨dst, .buildSlice T k parts, ty, pos, after, gd⟩ σ τ s rd) : (parts.toList.map fun p => (p.1, τ.ev n p.2)) = parts.toList.map fun p => (p.1, σ.ev n p.2) := by
  apply List.map_congr_left
  intro p hp
  obtain ⟨i, hi⟩ := List.getElem?_of_mem hp
  rw [h.e i p.2 (by simp [Op.operands, hi])]
end

/-! The soundness. -/
section
variable {C : Ctx} {n : Nat} {ops : Array Oper}

theorem inL_iff {d : Nat} : ∀ {l : List Nat}, inL d l = true ↔ d ∈ l
  | [] => by simp [inL]
  | x :: l => by
    simp only [inL, Bool.or_eq_true, List.mem_cons, inL_iff (l := l)]
    exact ⟨fun h => h.imp (fun e => (Nat.eq_of_beq_eq_true e).symm) id, fun h => h.imp (fun e => by rw [e]; exact Nat.beq_refl x) id⟩
theorem meet_iff {a : List Nat} : ∀ {l : List Nat}, meet a l = true ↔ ∃ x, x ∈ a ∧ x ∈ l
  | [] => by simp [meet]
  | x :: l => by
    simp only [meet, Bool.or_eq_true, inL_iff, meet_iff (l := l), List.mem_cons]
    constructor
    · rintro (h | ⟨y, h1, h2⟩)
      · exact ⟨x, h, .inl rfl⟩
      · exact ⟨y, h1, .inr h2⟩
    · rintro ⟨y, h1, rfl | h2⟩
      · exact .inl h1
      · exact .inr ⟨y, h1, h2⟩

theorem obL_get : ∀ (l : List (Nat × Option Ob)) (f : Nat → Option Ob) (id : Nat), id ∉ l.map (·.1) → obL l f id = f id
  | [], _, _, _ => rfl
  | (i, o) :: l, f, id, h => by
    simp only [List.map_cons, List.mem_cons, not_or] at h
    have hb : Nat.beq id i = false := by cases hb : Nat.beq id i; rfl; exact absurd (Nat.eq_of_beq_eq_true hb) h.1
    simp only [obL, hb, cond_false]
    exact obL_get l f id h.2
theorem obL_in : ∀ (l : List (Nat × Option Ob)) (f g : Nat → Option Ob) (id : Nat), id ∈ l.map (·.1) → obL l f id = obL l g id
  | [], _, _, _, h => by simp at h
  | (i, o) :: l, f, g, id, h => by
    simp only [obL]
    cases hb : Nat.beq id i
    · simp only [cond_false]
      refine obL_in l f g id ?_
      simp only [List.map_cons, List.mem_cons] at h
      rcases h with e | h
      · rw [e] at hb; simp at hb
      · exact h
    · rfl
theorem avL_get : ∀ (l : List Nat) (f : Av) (id : Nat), avL l f id = (f id && !inL id l)
  | [], f, id => by simp [avL, inL]
  | i :: l, f, id => by
    simp only [avL, inL]
    by_cases e : id = i
    · subst e; simp
    · have hb : Nat.beq id i = false := by cases hb : Nat.beq id i; rfl; exact absurd (Nat.eq_of_beq_eq_true hb) e
      have hb2 : Nat.beq i id = false := by cases hb : Nat.beq i id; rfl; exact absurd (Nat.eq_of_beq_eq_true hb).symm e
      rw [hb, hb2, avL_get l f id]
      simp


/-- The items of D, in the order in which they were listed (the last one first). -/
def appR (D : Nat → Bool) (σ0 : St) : List It → St
  | [] => σ0
  | it :: l => bif D it.i then (appR D σ0 l).app it.o.dst it.s else appR D σ0 l

theorem app_comm {a b : It} (σ : St) (h : confB ops n a b = false) (ha : a.s.wr.map (·.1) = a.wk) (hb : b.s.wr.map (·.1) = b.wk) : (σ.app a.o.dst a.s).app b.o.dst b.s = (σ.app b.o.dst b.s).app a.o.dst a.s := by
  simp only [confB, Bool.or_eq_false_iff] at h
  obtain ⟨⟨⟨⟨⟨h1, h2⟩, h3⟩, h4⟩, h5⟩, h6⟩ := h
  have hw : ∀ id, id ∈ a.s.wr.map (·.1) → id ∉ b.s.wr.map (·.1) := fun id hx hy => by
    rw [ha] at hx
    rw [hb] at hy
    have : meet a.wk (b.rd ++ b.wk ++ b.nw) = true := meet_iff.2 ⟨id, hx, by simp only [List.mem_append]; exact .inl (.inr hy)⟩
    rw [h3] at this; cases this
  simp only [St.app, St.mk.injEq]
  refine ⟨?_, ?_, ?_⟩
  · cases hd : a.o.dst with
    | none => cases b.o.dst <;> rfl
    | some d =>
      cases he : b.o.dst with
      | none => rfl
      | some e =>
        simp only
        rw [hd, he] at h1
        simp only [Bool.or_eq_false_iff] at h1
        have hne : d ≠ e := fun q => by subst q; simp at h1
        funext x
        by_cases p : x = d
        · subst p
          rw [upd_ne _ _ hne, upd_same, upd_same]
        · by_cases q : x = e
          · subst q
            rw [upd_same, upd_ne _ _ p, upd_same]
          · rw [upd_ne _ _ q, upd_ne _ _ p, upd_ne _ _ p, upd_ne _ _ q]
  · funext id
    by_cases p : id ∈ a.s.wr.map (·.1)
    · rw [obL_get _ _ _ (hw id p)]
      exact obL_in _ _ _ _ p
    · rw [obL_get a.s.wr _ _ p]
      by_cases q : id ∈ b.s.wr.map (·.1)
      · exact obL_in _ _ _ _ q
      · rw [obL_get _ _ _ q, obL_get _ _ _ q, obL_get _ _ _ p]
  · funext id
    simp only [avL_get]
    cases σ.av id <;> cases inL id a.s.nw <;> cases inL id b.s.nw <;> rfl

/-- All that is known of the items listed so far; those of Rl have been carried out. -/
def Good (C : Ctx) (n : Nat) (ops : Array Oper) (cl : List (List Nat)) (σ0 : St) (Rl : List Nat) : List It → Prop
  | [] => True
  | it :: l => (it.i ∈ Rl ∨ (LJ C n ops it.o (appR (fun _ => true) σ0 l) it.s it.rd)) ∧ it.nw.all (appR (fun _ => true) σ0 l).av = true ∧ newOk ops n cl it l = true ∧ ops[it.i]? = some it.o ∧ it.s.wr.map (·.1) = it.wk ∧ it.s.nw = it.nw ∧ Good C n ops cl σ0 Rl l

section
variable {cl : List (List Nat)} {σ0 : St} {Rl : List Nat}
theorem Good.split : ∀ {l1 : List It} {it : It} {l2 : List It}, Good C n ops cl σ0 Rl (l1 ++ it :: l2) → Good C n ops cl σ0 Rl (it :: l2)
  | [], _, _, h => h
  | a :: l1, _, _, h => Good.split (l1 := l1) h.2.2.2.2.2.2
theorem Good.mem : ∀ {l : List It}, Good C n ops cl σ0 Rl l → ∀ it ∈ l, ops[it.i]? = some it.o ∧ it.s.wr.map (·.1) = it.wk ∧ it.s.nw = it.nw
  | [], _, it, h => by simp at h
  | a :: l, h, it, hm => by
    rcases List.mem_cons.1 hm with rfl | hm
    · exact ⟨h.2.2.2.1, h.2.2.2.2.1, h.2.2.2.2.2.1⟩
    · exact Good.mem h.2.2.2.2.2.2 it hm
/-- A later item that conflicts with an earlier one waits for it. -/
theorem Good.waits : ∀ {l1 : List It} {it : It} {l2 : List It}, Good C n ops cl σ0 Rl (l1 ++ it :: l2) → ∀ b ∈ l1, (confB ops n it b = true → it.i ∈ (cl[b.i]?).getD []) ∧ b.i ≠ it.i
  | [], _, _, _, b, hb => by simp at hb
  | a :: l1, it, l2, h, b, hb => by
    rcases List.mem_cons.1 hb with rfl | hb
    · have h1 := h.2.2.1
      simp only [newOk, Bool.and_eq_true] at h1
      have h2 := List.all_eq_true.1 h1.1 it (by simp)
      have h3 := List.all_eq_true.1 h1.2 it (by simp)
      refine ⟨fun hc => ?_, fun e => ?_⟩
      · rw [hc] at h2
        exact inL_iff.1 (by simpa using h2)
      · rw [e] at h3; simp at h3
    · exact Good.waits (l1 := l1) h.2.2.2.2.2.2 b hb
theorem Good.waits2 {it : It} {l2 : List It} (h : Good C n ops cl σ0 Rl (it :: l2)) : ∀ b ∈ l2, (confB ops n b it = true → b.i ∈ (cl[it.i]?).getD []) ∧ b.i ≠ it.i := by
  intro b hb
  have h1 := h.2.2.1
  simp only [newOk, Bool.and_eq_true] at h1
  have h2 := List.all_eq_true.1 h1.1 b hb
  have h3 := List.all_eq_true.1 h1.2 b hb
  refine ⟨fun hc => ?_, fun e => ?_⟩
  · rw [hc] at h2
    exact inL_iff.1 (by simpa using h2)
  · rw [e] at h3; simp at h3

theorem appR_ins {D : Nat → Bool} {it : It} {l2 : List It} (hD : D it.i = false) (hwk : it.s.wr.map (·.1) = it.wk) (hne : ∀ b ∈ l2, b.i ≠ it.i) : ∀ (l1 : List It), (∀ b ∈ l1, b.i ≠ it.i ∧ b.s.wr.map (·.1) = b.wk ∧ (D b.i = true → confB ops n it b = false)) →
    appR (fun j => D j || Nat.beq j it.i) σ0 (l1 ++ it :: l2) = (appR D σ0 (l1 ++ it :: l2)).app it.o.dst it.s
  | [], _ => by
    have low : ∀ l : List It, (∀ b ∈ l, b.i ≠ it.i) → appR (fun j => D j || Nat.beq j it.i) σ0 l = appR D σ0 l := by
      intro l
      induction l with
      | nil => intro _; rfl
      | cons b l ih =>
        intro h
        have hb : Nat.beq b.i it.i = false := by cases hb : Nat.beq b.i it.i; rfl; exact absurd (Nat.eq_of_beq_eq_true hb) (h b (by simp))
        simp only [appR, hb, Bool.or_false, ih (fun c hc => h c (by simp [hc]))]
    simp only [List.nil_append, appR, hD, Nat.beq_refl, Bool.or_true, cond_true, cond_false, low l2 hne]
  | b :: l1, h => by
    have ih := appR_ins hD hwk hne l1 (fun c hc => h c (by simp [hc]))
    obtain ⟨h1, h2, h3⟩ := h b (by simp)
    have hb : Nat.beq b.i it.i = false := by cases hb : Nat.beq b.i it.i; rfl; exact absurd (Nat.eq_of_beq_eq_true hb) h1
    simp only [List.cons_append, appR, hb, Bool.or_false, ih]
    cases hDb : D b.i with
    | false => rfl
    | true =>
      simp only [cond_true]
      exact app_comm (n := n) (ops := ops) _ (h3 hDb) hwk h2

theorem appR_eq {α : Type} (g : St → α) (D D' : Nat → Bool) : ∀ (l : List It), (∀ b ∈ l, D b.i = D' b.i ∨ ∀ τ : St, g (τ.app b.o.dst b.s) = g τ) → (∀ b ∈ l, ∀ τ τ' : St, g τ = g τ' → g (τ.app b.o.dst b.s) = g (τ'.app b.o.dst b.s)) → g (appR D σ0 l) = g (appR D' σ0 l)
  | [], _, _ => rfl
  | b :: l, h, h2 => by
    have ih := appR_eq g D D' l (fun c hc => h c (by simp [hc])) (fun c hc => h2 c (by simp [hc]))
    simp only [appR]
    rcases h b (by simp) with e | e
    · rw [e]
      cases D' b.i
      · exact ih
      · exact h2 b (by simp) _ _ ih
    · cases D b.i <;> cases D' b.i <;> simp only [cond_true, cond_false, e, ih]
/-- Later items that were not carried out, or do not matter. -/
theorem appR_late {α : Type} (g : St → α) (D : Nat → Bool) {l2 : List It} : ∀ (l1 : List It), (∀ b ∈ l1, D b.i = false ∨ ∀ τ : St, g (τ.app b.o.dst b.s) = g τ) → g (appR D σ0 (l1 ++ l2)) = g (appR D σ0 l2)
  | [], _ => rfl
  | b :: l1, h => by
    have ih := appR_late g D l1 (fun c hc => h c (by simp [hc])) (l2 := l2)
    simp only [List.cons_append, appR]
    rcases h b (by simp) with e | e
    · rw [e]; exact ih
    · cases D b.i <;> simp only [cond_true, cond_false, e, ih]
end

theorem app_sl {b : It} {t : Nat} (h : b.o.dst ≠ some t) (τ : St) : (τ.app b.o.dst b.s).sl t = τ.sl t := by
  simp only [St.app]
  cases hd : b.o.dst with
  | none => rfl
  | some d => exact upd_ne _ _ (fun q => h (by rw [hd, q]))
theorem app_sl2 (b : It) (t : Nat) (τ τ' : St) (h : τ.sl t = τ'.sl t) : (τ.app b.o.dst b.s).sl t = (τ'.app b.o.dst b.s).sl t := by
  simp only [St.app]
  cases hd : b.o.dst with
  | none => exact h
  | some d =>
    by_cases e : t = d
    · subst e; simp only [upd_same]
    · simp only [upd_ne _ _ e, h]
theorem app_ob {b : It} {t : Nat} (h : t ∉ b.s.wr.map (·.1)) (τ : St) : (τ.app b.o.dst b.s).ob t = τ.ob t := obL_get _ _ _ h
theorem app_ob2 (b : It) (t : Nat) (τ τ' : St) (h : τ.ob t = τ'.ob t) : (τ.app b.o.dst b.s).ob t = (τ'.app b.o.dst b.s).ob t := by
  by_cases e : t ∈ b.s.wr.map (·.1)
  · exact obL_in _ _ _ _ e
  · rw [app_ob e, app_ob e, h]
theorem app_av {b : It} {t : Nat} (h : t ∉ b.s.nw) (τ : St) : (τ.app b.o.dst b.s).av t = τ.av t := by
  have hn : inL t b.s.nw = false := by cases hb : inL t b.s.nw; rfl; exact absurd (inL_iff.1 hb) h
  simp only [St.app, avL_get, hn, Bool.not_false, Bool.and_true]
theorem app_av2 (b : It) (t : Nat) (τ τ' : St) (h : τ.av t = τ'.av t) : (τ.app b.o.dst b.s).av t = (τ'.app b.o.dst b.s).av t := by
  simp only [St.app, avL_get, h]

/-- What the closure says: a set that holds with each operation what it waits for holds the closure. -/
theorem clo_sound (D : Nat → Bool) (all : List Oper) (hcl : ∀ j o, all[j]? = some o → D j = true → ∀ e ∈ o.after, Region.binds .any e = true → D e.on = true) :
    ∀ (os : List Oper) (acc : List (List Nat)), all.drop acc.length = os → (∀ j, D j = true → ∀ i ∈ (acc[j]?).getD [], D i = true) → ∀ j, D j = true → ∀ i ∈ ((cloL os acc)[j]?).getD [], D i = true := by
  intro os
  induction os with
  | nil => intro acc _ h; simpa only [cloL] using h
  | cons o os ih =>
    intro acc hd h
    simp only [cloL]
    have ho : all[acc.length]? = some o := by
      have := congrArg (·[0]?) hd
      simpa using this
    refine ih _ ?_ ?_
    · have := congrArg (List.drop 1) hd
      simpa [Nat.add_comm] using this
    · intro j hj i hi
      by_cases e : j < acc.length
      · rw [List.getElem?_append_left e] at hi
        exact h j hj i hi
      · by_cases e2 : j = acc.length
        · subst e2
          rw [List.getElem?_append_right (Nat.le_refl _)] at hi
          simp only [Nat.sub_self, List.getElem?_cons_zero, Option.getD_some] at hi
          have hes : ∀ q ∈ (o.after.toList.filterMap fun e => if Region.binds .any e then some e.on else none), D q = true := by
            intro q hq
            obtain ⟨e, he, hq'⟩ := List.mem_filterMap.1 hq
            split at hq'
            · rename_i hbd
              simp at hq'
              subst hq'
              exact hcl _ o ho hj e (by simpa using he) hbd
            · cases hq'
          revert hi hes
          generalize (o.after.toList.filterMap fun e => if Region.binds .any e then some e.on else none) = es
          have gen : ∀ (es : List Nat) (l0 : List Nat), (∀ q ∈ l0, D q = true) → (∀ q ∈ es, D q = true) → ∀ i ∈ es.foldl (fun l i => if inL i l then l else (i :: l) ++ ((acc[i]?).getD []).filter (fun z => !(inL z (i :: l)))) l0, D i = true := by
            intro es
            induction es with
            | nil => intro l0 h0 _ i hi; exact h0 i hi
            | cons q es ihe =>
              intro l0 h0 hes i hi
              simp only [List.foldl_cons] at hi
              refine ihe _ ?_ (fun q' hq' => hes q' (by simp [hq'])) i hi
              intro z hz
              split at hz
              · exact h0 z hz
              · simp only [List.cons_append, List.mem_cons, List.mem_append] at hz
                rcases hz with rfl | hz | hz
                · exact hes _ (by simp)
                · exact h0 z hz
                · exact h q (hes q (by simp)) z (List.mem_filter.1 hz).1
          intro hi hes
          exact gen es [] (by simp) hes i hi
        · rw [List.getElem?_eq_none (by simp; omega)] at hi
          simp at hi

theorem edges_of : ∀ {os : List Oper} {k : Nat}, edgesOk k os = true → ∀ {i : Nat} {o : Oper}, os[i]? = some o → ∀ e ∈ o.after, Region.binds .any e = true → e.on < k + i
  | [], _, _, i, o, h => by simp at h
  | q :: os, k, hk, i, o, h => by
    simp only [edgesOk, Bool.and_eq_true] at hk
    cases i with
    | zero =>
      simp at h
      subst h
      intro e he hb
      have := (List.all_eq_true.1 hk.1) e (by simpa using he)
      simp only [hb, Bool.not_true, Bool.false_or] at this
      simpa [Nat.blt_eq] using this
    | succ i =>
      simp at h
      intro e he hb
      have := edges_of hk.2 h e he hb
      omega


theorem conf_sl {a b : It} {d : Nat} (hd : a.o.dst = some d) (hn : d ∈ namesOf ops n b.o) : confB ops n a b = true := by
  have : inL d (namesOf ops n b.o) = true := inL_iff.2 hn
  simp only [confB, hd, this, Bool.or_true, Bool.true_or]
theorem conf_sl' {a b : It} {d : Nat} (hd : b.o.dst = some d) (hn : d ∈ namesOf ops n a.o) : confB ops n a b = true := by
  have : inL d (namesOf ops n a.o) = true := inL_iff.2 hn
  simp only [confB, hd, this, Bool.or_true, Bool.true_or]
theorem conf_ob {a b : It} {d : Nat} (hd : d ∈ a.wk) (hn : d ∈ b.rd) : confB ops n a b = true := by
  have : meet a.wk (b.rd ++ b.wk ++ b.nw) = true := meet_iff.2 ⟨d, hd, by simp only [List.mem_append]; exact .inl (.inl hn)⟩
  simp only [confB, this, Bool.or_true, Bool.true_or]
theorem conf_ob' {a b : It} {d : Nat} (hd : d ∈ b.wk) (hn : d ∈ a.rd) : confB ops n a b = true := by
  have : meet b.wk (a.rd ++ a.nw) = true := meet_iff.2 ⟨d, hd, by simp only [List.mem_append]; exact .inl hn⟩
  simp only [confB, this, Bool.or_true, Bool.true_or]
theorem conf_nw {a b : It} {d : Nat} (hd : d ∈ a.nw) (hn : d ∈ b.nw) : confB ops n a b = true := by
  have : meet a.nw (b.rd ++ b.nw) = true := meet_iff.2 ⟨d, hd, by simp only [List.mem_append]; exact .inr hn⟩
  simp only [confB, this, Bool.or_true, Bool.true_or]

/-- Which operations have been carried out. -/
abbrev Dn (listed : Array Bool) : Nat → Bool := fun i => listed.getD i false

structure Lst (ops : Array Oper) (listed : Array Bool) (fuel : Nat) (acc : List It) (Rl : List Nat) : Prop where
  sz : listed.size = ops.size
  fuel : ∃ us : List Nat, us.length ≤ fuel ∧ ∀ i, i < ops.size → Dn listed i = false → i ∈ us
  cl : ∀ j o, ops[j]? = some o → Dn listed j = true → ∀ e ∈ o.after, Region.binds .any e = true → Dn listed e.on = true
  sub : ∀ i, Dn listed i = true → i ∈ acc.map (·.i)
  rl : ∀ i ∈ Rl, Dn listed i = true

theorem getTF (listed : Array Bool) (i : Nat) (hi : i < listed.size) : listed.getD i true = listed.getD i false := by simp [hi]
theorem ready_mem {listed : Array Bool} {i : Nat} (hsz : listed.size = ops.size) : i ∈ Region.ready .any ops listed ↔ i < ops.size ∧ Dn listed i = false ∧ ∀ o, ops[i]? = some o → ∀ e ∈ o.after, Region.binds .any e = true → Dn listed e.on = true := by
  unfold Region.ready
  rw [List.mem_filter]
  simp only [List.mem_range, Bool.and_eq_true, Bool.not_eq_true']
  constructor
  · rintro ⟨h1, h2, h3⟩
    refine ⟨h1, (getTF listed i (by omega)).symm.trans h2, fun o ho e he hb => ?_⟩
    rw [ho] at h3
    simp only [Option.map_some, Option.getD_some] at h3
    have := (Array.all_eq_true_iff_forall_mem.1 h3) e he
    simpa [hb] using this
  · rintro ⟨h1, h2, h3⟩
    refine ⟨h1, (getTF listed i (by omega)).trans h2, ?_⟩
    have ho : ops[i]? = some ops[i] := Array.getElem?_eq_getElem h1
    rw [ho]
    simp only [Option.map_some, Option.getD_some]
    rw [Array.all_eq_true_iff_forall_mem]
    intro e he
    cases hb : Region.binds .any e with
    | false => simp
    | true => simpa using h3 _ ho e he hb
theorem none_ready (hedge : edgesOk 0 ops.toList = true) {listed : Array Bool} (hsz : listed.size = ops.size) (hr : Region.ready .any ops listed = []) : ∀ i, i < ops.size → Dn listed i = true := by
  intro i
  induction i using Nat.strongRecOn with
  | _ i ih =>
    intro hi
    cases hb : Dn listed i with
    | true => rfl
    | false =>
      exfalso
      have : i ∈ Region.ready .any ops listed := (ready_mem hsz).2 ⟨hi, hb, fun o ho e he hbd => by
        have := edges_of hedge (i := i) (o := o) (by simpa using ho) e he hbd
        exact ih e.on (by omega) (by omega)⟩
      rw [hr] at this
      simp at this

theorem set_Dn {listed : Array Bool} {i : Nat} (hi : i < listed.size) (j : Nat) : Dn (listed.setIfInBounds i true) j = (Dn listed j || Nat.beq j i) := by
  simp only [Dn, Array.getD_eq_getD_getElem?, Array.getElem?_setIfInBounds]
  by_cases e : i = j
  · subst e
    simp [hi]
  · have hb : Nat.beq j i = false := by cases hb : Nat.beq j i; rfl; exact absurd (Nat.eq_of_beq_eq_true hb).symm e
    simp [e, hb]

theorem Lst.next {listed : Array Bool} {fuel : Nat} {acc : List It} {Rl : List Nat} (h : Lst ops listed (fuel + 1) acc Rl) {i : Nat} (hr : i ∈ Region.ready .any ops listed) {acc' : List It} {Rl' : List Nat} (hsub : ∀ j, j ∈ acc.map (·.i) ∨ j = i → j ∈ acc'.map (·.i)) (hrl : ∀ j ∈ Rl', j ∈ Rl ∨ j = i) :
    Lst ops (listed.setIfInBounds i true) fuel acc' Rl' := by
  obtain ⟨hi, hDi, hedg⟩ := (ready_mem h.sz).1 hr
  have hil : i < listed.size := by rw [h.sz]; exact hi
  obtain ⟨us, hu1, hu2⟩ := h.fuel
  refine ⟨by simpa using h.sz, ⟨us.erase i, ?_, ?_⟩, ?_, ?_, ?_⟩
  · have := hu2 i hi hDi
    rw [List.length_erase_of_mem this]
    omega
  · intro j hj hjl
    rw [set_Dn hil] at hjl
    simp only [Bool.or_eq_false_iff] at hjl
    have hne : j ≠ i := fun e => by subst e; simp at hjl
    exact (List.mem_erase_of_ne hne).2 (hu2 j hj hjl.1)
  · intro j o' ho' hj e he hb
    rw [set_Dn hil] at hj ⊢
    by_cases e1 : j = i
    · subst e1
      rw [hedg o' ho' e he hb]; rfl
    · have hb' : Nat.beq j i = false := by cases hb : Nat.beq j i; rfl; exact absurd (Nat.eq_of_beq_eq_true hb) e1
      rw [hb', Bool.or_false] at hj
      rw [h.cl j o' ho' hj e he hb]; rfl
  · intro j hj
    rw [set_Dn hil] at hj
    rcases (Bool.or_eq_true_iff).1 hj with hj | hj
    · exact hsub j (.inl (h.sub j hj))
    · exact hsub j (.inr (Nat.eq_of_beq_eq_true hj))
  · intro j hj
    rw [set_Dn hil]
    rcases hrl j hj with h' | h'
    · rw [h.rl j h']; rfl
    · subst h'; simp

/-- What the closure says of the operations that have been carried out. -/
theorem Lst.clo {cl : List (List Nat)} (hcl : cloL ops.toList [] = cl) {listed : Array Bool} {fuel : Nat} {acc : List It} {Rl : List Nat} (h : Lst ops listed fuel acc Rl) {i j : Nat} (hj : Dn listed j = true) (hi : i ∈ (cl[j]?).getD []) : Dn listed i = true := by
  rw [← hcl] at hi
  exact clo_sound (Dn listed) ops.toList (fun k q hq => h.cl k q (by simpa using hq)) ops.toList [] rfl (by simp) j hj i hi

/-- One operation that is ready, of those that are known. -/
theorem known_step {cl : List (List Nat)} (hcl : cloL ops.toList [] = cl) {σ0 : St} {Rl : List Nat} {l1 : List It} {it : It} {l2 : List It} (hG : Good C n ops cl σ0 Rl (l1 ++ it :: l2)) {listed : Array Bool} {fuel : Nat} (hL : Lst ops listed (fuel + 1) (l1 ++ it :: l2) Rl)
    (hr : it.i ∈ Region.ready .any ops listed) {a : Act} {w : World} (hsj : SJ C n (appR (Dn listed) σ0 (l1 ++ it :: l2)) a w) {Q : Exit → Act → World → Prop}
    (next : ∀ a' w', Lst ops (listed.setIfInBounds it.i true) fuel (l1 ++ it :: l2) Rl → SJ C n (appR (Dn (listed.setIfInBounds it.i true)) σ0 (l1 ++ it :: l2)) a' w' → wpAny C.P .any ops Q fuel (listed.setIfInBounds it.i true) a' w') :
    wpOp C.P ops Q it.i (wpAny C.P .any ops Q fuel (listed.setIfInBounds it.i true)) a w := by
  obtain ⟨hi, hDi, hedg⟩ := (ready_mem hL.sz).1 hr
  have hil : it.i < listed.size := by rw [hL.sz]; exact hi
  have hG2 := hG.split
  have hL' : Lst ops (listed.setIfInBounds it.i true) fuel (l1 ++ it :: l2) Rl := hL.next hr (fun j hj => by
    rcases hj with hj | hj
    · exact hj
    · rw [hj]; exact List.mem_map.2 ⟨it, by simp, rfl⟩) (fun j hj => .inl hj)
  have later : ∀ b ∈ l1, confB ops n it b = true → Dn listed b.i = false := by
    intro b hb hc
    cases hd : Dn listed b.i with
    | false => rfl
    | true =>
      have := hL.clo hcl hd ((hG.waits b hb).1 hc)
      rw [hDi] at this
      cases this
  have earlier : ∀ b ∈ l2, confB ops n b it = true → Dn listed b.i = true := by
    intro b hb hc
    have h1 := hL'.clo hcl (j := it.i) (i := b.i) (by rw [set_Dn hil]; simp) ((hG2.waits2 b hb).1 hc)
    rw [set_Dn hil] at h1
    have hb' : Nat.beq b.i it.i = false := by cases hb' : Nat.beq b.i it.i; rfl; exact absurd (Nat.eq_of_beq_eq_true hb') (hG2.waits2 b hb).2
    rwa [hb', Bool.or_false] at h1
  have memInfo := hG.mem
  obtain ⟨hspec, hnwall, _, ho, hwk, hnw, _⟩ := hG2
  have hlj : LJ C n ops it.o (appR (fun _ => true) σ0 l2) it.s it.rd := by
    rcases hspec with h | h
    · have := hL.rl it.i h
      rw [hDi] at this
      cases this
    · exact h
  have view : ∀ {α : Type} (g : St → α), (∀ b ∈ l1 ++ it :: l2, ∀ τ τ' : St, g τ = g τ' → g (τ.app b.o.dst b.s) = g (τ'.app b.o.dst b.s)) → (∀ b ∈ l1, confB ops n it b = true ∨ ∀ τ : St, g (τ.app b.o.dst b.s) = g τ) → (∀ b ∈ l2, confB ops n b it = true ∨ ∀ τ : St, g (τ.app b.o.dst b.s) = g τ) →
      g (appR (Dn listed) σ0 (l1 ++ it :: l2)) = g (appR (fun _ => true) σ0 l2) := by
    intro α g h0 h1 h2
    rw [appR_late g (Dn listed) l1 (fun b hb => (h1 b hb).imp (later b hb) id)]
    have : g (appR (Dn listed) σ0 (it :: l2)) = g (appR (Dn listed) σ0 l2) := by simp only [appR, hDi, cond_false]
    rw [this]
    exact appR_eq g _ _ l2 (fun b hb => (h2 b hb).imp (fun hc => earlier b hb hc) id) (fun b hb => h0 b (by simp [hb]))
  have agr : Agr n ops it.o (appR (fun _ => true) σ0 l2) (appR (Dn listed) σ0 (l1 ++ it :: l2)) it.s it.rd := by
    have slot : ∀ t, t ∈ namesOf ops n it.o → (appR (Dn listed) σ0 (l1 ++ it :: l2)).sl t = (appR (fun _ => true) σ0 l2).sl t := by
      intro t ht
      refine view (fun τ => τ.sl t) (fun b _ => app_sl2 b t) (fun b _ => ?_) (fun b _ => ?_)
      · by_cases hd : b.o.dst = some t
        · exact .inl (conf_sl' hd ht)
        · exact .inr (app_sl hd)
      · by_cases hd : b.o.dst = some t
        · exact .inl (conf_sl hd ht)
        · exact .inr (app_sl hd)
    refine ⟨?_, ?_, ?_, ?_⟩
    · intro k x hx
      cases x with
      | tmp t =>
        have : t ∈ namesOf ops n it.o := by
          unfold namesOf
          refine List.mem_append_left _ (List.mem_filterMap.2 ⟨.tmp t, List.mem_of_getElem? hx, rfl⟩)
        simp only [St.ev, slot t this]
      | _ => rfl
    · intro t ht
      have : t ∈ namesOf ops n it.o := by
        unfold namesOf
        exact List.mem_append_right _ (by simp [ht])
      simp only [St.ev, slot t this]
    · intro k q hq
      have hmem : q ∈ it.rd := List.mem_of_getElem? hq
      refine view (fun τ => τ.ob q) (fun b _ => app_ob2 b q) (fun b hb => ?_) (fun b hb => ?_)
      · by_cases hd : q ∈ b.s.wr.map (·.1)
        · exact .inl (conf_ob' (by rw [← (memInfo b (by simp [hb])).2.1]; exact hd) hmem)
        · exact .inr (app_ob hd)
      · by_cases hd : q ∈ b.s.wr.map (·.1)
        · exact .inl (conf_ob (by rw [← (memInfo b (by simp [hb])).2.1]; exact hd) hmem)
        · exact .inr (app_ob hd)
    · intro k q hq
      have hmem : q ∈ it.nw := by rw [← hnw]; exact List.mem_of_getElem? hq
      have h1 := List.all_eq_true.1 hnwall q hmem
      have := view (fun τ => τ.av q) (fun b _ => app_av2 b q) (fun b hb => ?_) (fun b hb => ?_)
      · exact this.trans h1
      · by_cases hd : q ∈ b.s.nw
        · exact .inl (conf_nw hmem (by rw [← (memInfo b (by simp [hb])).2.2]; exact hd))
        · exact .inr (app_av hd)
      · by_cases hd : q ∈ b.s.nw
        · exact .inl (conf_nw (by rw [← (memInfo b (by simp [hb])).2.2]; exact hd) hmem)
        · exact .inr (app_av hd)
  have hx := hlj _ agr
  have ins : appR (Dn (listed.setIfInBounds it.i true)) σ0 (l1 ++ it :: l2) = (appR (Dn listed) σ0 (l1 ++ it :: l2)).app it.o.dst it.s := by
    have e : Dn (listed.setIfInBounds it.i true) = fun j => Dn listed j || Nat.beq j it.i := funext (set_Dn hil)
    rw [e]
    refine appR_ins (n := n) (ops := ops) hDi hwk (fun b hb => ?_) l1 (fun b hb => ⟨(hG.waits b hb).2, (memInfo b (by simp [hb])).2.1, fun hd => ?_⟩)
    · exact (hG.split.waits2 b hb).2
    · cases hc : confB ops n it b with
      | false => rfl
      | true => rw [later b hb hc] at hd; cases hd
  have next' : ∀ a' w', SJ C n ((appR (Dn listed) σ0 (l1 ++ it :: l2)).app it.o.dst it.s) a' w' → wpAny C.P .any ops Q fuel (listed.setIfInBounds it.i true) a' w' := fun a' w' h => next a' w' hL' (by rw [ins]; exact h)
  unfold wpOp
  rw [ho]
  simp only
  cases hg : it.o.guard with
  | none =>
    rw [hg] at hx
    simp only [Region.wanted, hg, if_true]
    refine .inl (Oper.wp_mono ?_ (hx a w _ hsj))
    rintro a' w' ⟨σ', rfl, hsj'⟩
    exact next' a' w' hsj'
  | some jw =>
    obtain ⟨j, want⟩ := jw
    rw [hg] at hx
    obtain ⟨b, hb, h1, h2⟩ := hx
    obtain ⟨m, R, hw⟩ := hsj
    have hy := yielded_of hw hb
    simp only [Region.wanted, hg, hy]
    by_cases hbw : b = some want
    · subst hbw
      simp only [beq_self_eq_true, if_true]
      refine .inl (Oper.wp_mono ?_ (h1 rfl a w _ ⟨m, R, hw⟩))
      rintro a' w' ⟨σ', rfl, hsj'⟩
      exact next' a' w' hsj'
    · have : (b == some want) = false := by simpa using hbw
      simp only [this, Bool.false_eq_true, if_false]
      refine next' _ _ ?_
      rw [h2 hbw, St.app_pure]
      exact ⟨m, R, hw.put it.o.dst (und_rel _ _ _ _)⟩

theorem DL.sound {cl : List (List Nat)} (hcl : cloL ops.toList [] = cl) (hedge : edgesOk 0 ops.toList = true) (σ0 : St) (K : St → Prop) (Q : Exit → Act → World → Prop) (hQ : ∀ a w, (∃ σ', K σ' ∧ SJ C n σ' a w) → Q .normal a w) :
    ∀ (is : List Nat) (acc : List It) (Rl : List Nat), DL C n ops cl is acc K (appR (fun _ => true) σ0 acc) → Good C n ops cl σ0 Rl acc →
      ∀ fuel listed a w, Lst ops listed fuel acc Rl → SJ C n (appR (Dn listed) σ0 acc) a w → wpAny C.P .any ops Q fuel listed a w := by
  intro is
  induction is with
  | nil =>
    intro acc Rl hD hG fuel
    obtain ⟨hcov, hK⟩ := hD
    have all_in : ∀ i, i < ops.size → ∃ l1 it l2, acc = l1 ++ it :: l2 ∧ it.i = i := by
      intro i hi
      have := inL_iff.1 (List.all_eq_true.1 hcov i (by simpa using hi))
      obtain ⟨it, hm, rfl⟩ := List.mem_map.1 this
      obtain ⟨l1, l2, e⟩ := List.append_of_mem hm
      exact ⟨l1, it, l2, e, rfl⟩
    have done : ∀ listed a w, (∀ i, i < ops.size → Dn listed i = true) → SJ C n (appR (Dn listed) σ0 acc) a w → Q .normal a w := by
      intro listed a w hall hsj
      refine hQ a w ⟨_, hK, ?_⟩
      have e : appR (Dn listed) σ0 acc = appR (fun _ => true) σ0 acc := by
        refine appR_eq (σ0 := σ0) (fun τ => τ) (Dn listed) (fun _ => true) acc (fun b hb => .inl (hall b.i ?_)) (fun b _ τ τ' h => by rw [h])
        exact (Array.getElem?_eq_some_iff.1 (hG.mem b hb).1).1
      rw [← e]
      exact hsj
    induction fuel with
    | zero =>
      intro listed a w hL hsj
      obtain ⟨us, hu1, hu2⟩ := hL.fuel
      have hall : ∀ i, i < ops.size → Dn listed i = true := by
        intro i hi
        cases hb : Dn listed i with
        | true => rfl
        | false =>
          have h1 := hu2 i hi hb
          have h2 : us = [] := List.eq_nil_of_length_eq_zero (by omega)
          rw [h2] at h1
          simp at h1
      refine ⟨?_, done listed a w hall hsj⟩
      apply List.eq_nil_iff_forall_not_mem.2
      intro i hi
      have := (ready_mem hL.sz).1 hi
      rw [hall i this.1] at this
      simp at this
    | succ fuel ih =>
      intro listed a w hL hsj
      refine ⟨fun hr => done listed a w (none_ready hedge hL.sz hr) hsj, ?_⟩
      intro i hir
      obtain ⟨l1, it, l2, rfl, rfl⟩ := all_in i ((ready_mem hL.sz).1 hir).1
      exact known_step hcl hG hL hir hsj (fun a' w' h1 h2 => ih _ a' w' h1 h2)
  | cons i is ih =>
    intro acc Rl hD hG
    obtain ⟨o, ho, hD | hD⟩ := hD
    · obtain ⟨s, rd, hlj, hnw, hnew, hD⟩ := hD
      intro fuel listed a w hL hsj
      have hni : Dn listed i = false := by
        cases hb : Dn listed i with
        | false => rfl
        | true =>
          obtain ⟨b, hm, e⟩ := List.mem_map.1 (hL.sub i hb)
          simp only [newOk, Bool.and_eq_true] at hnew
          have := List.all_eq_true.1 hnew.2 b hm
          simp [e] at this
      have hap : appR (fun _ => true) σ0 (⟨i, o, s, s.wr.map (·.1), s.nw, rd⟩ :: acc) = (appR (fun _ => true) σ0 acc).app o.dst s := rfl
      have hD' : DL C n ops cl is (⟨i, o, s, s.wr.map (·.1), s.nw, rd⟩ :: acc) K (appR (fun _ => true) σ0 (⟨i, o, s, s.wr.map (·.1), s.nw, rd⟩ :: acc)) := by rw [hap]; exact hD
      refine ih _ Rl hD' ⟨.inr hlj, hnw, hnew, ho, rfl, rfl, hG⟩ fuel listed a w ⟨hL.sz, hL.fuel, hL.cl, fun j hj => ?_, hL.rl⟩ ?_
      · simp only [List.map_cons, List.mem_cons]
        exact .inr (hL.sub j hj)
      · simpa only [appR, hni, cond_false] using hsj
    · obtain ⟨P, wk, nw, rd, hlj, hnw, hnew, hsucc, hcov, hD⟩ := hD
      have hni : ∀ {listed fuel}, Lst ops listed fuel acc Rl → Dn listed i = false := by
        intro listed fuel hL
        cases hb : Dn listed i with
        | false => rfl
        | true =>
          obtain ⟨b, hm, e⟩ := List.mem_map.1 (hL.sub i hb)
          simp only [newOk, Bool.and_eq_true] at hnew
          have := List.all_eq_true.1 hnew.2 b hm
          simp [e] at this
      have hisz : i < ops.size := (Array.getElem?_eq_some_iff.1 ho).1
      intro fuel
      induction fuel with
      | zero =>
        intro listed a w hL hsj
        obtain ⟨us, hu1, hu2⟩ := hL.fuel
        have h1 := hu2 i hisz (hni hL)
        have h2 : us = [] := List.eq_nil_of_length_eq_zero (by omega)
        rw [h2] at h1
        simp at h1
      | succ fuel ihf =>
        intro listed a w hL hsj
        refine ⟨fun hr => ?_, ?_⟩
        · have := none_ready hedge hL.sz hr i hisz
          rw [hni hL] at this
          cases this
        · intro j hjr
          obtain ⟨hj, hDj, hedgj⟩ := (ready_mem hL.sz).1 hjr
          by_cases e : j = i
          · -- the operation itself
            subst e
            have hil : j < listed.size := by rw [hL.sz]; exact hj
            have agr : Agr n ops o (appR (fun _ => true) σ0 acc) (appR (Dn listed) σ0 acc) ⟨.pv .any, [], nw⟩ rd := by
              have hIt : ∀ (s : OS), s.wr.map (·.1) = wk → s.nw = nw → ∀ b ∈ acc, confB ops n b ⟨j, o, s, wk, nw, rd⟩ = true → Dn listed b.i = true := by
                intro s _ _ b hb hc
                simp only [newOk, Bool.and_eq_true] at hnew
                have h1 := List.all_eq_true.1 hnew.1 b hb
                have hc' : confB ops n b ⟨j, o, ⟨.pv .any, [], []⟩, wk, nw, rd⟩ = true := hc
                rw [hc'] at h1
                have hmem := inL_iff.1 (by simpa using h1 : inL b.i ((cl[j]?).getD []) = true)
                have hL' : Lst ops (listed.setIfInBounds j true) fuel (⟨j, o, s, wk, nw, rd⟩ :: acc) Rl := hL.next hjr (fun k hk => by simp only [List.map_cons, List.mem_cons]; exact hk.symm) (fun k hk => .inl hk)
                have h2 := hL'.clo hcl (j := j) (i := b.i) (by rw [set_Dn hil]; simp) hmem
                rw [set_Dn hil] at h2
                have h3 := List.all_eq_true.1 hnew.2 b hb
                have hb' : Nat.beq b.i j = false := by simpa using h3
                rwa [hb', Bool.or_false] at h2
              have view : ∀ {α : Type} (g : St → α), (∀ b ∈ acc, ∀ τ τ' : St, g τ = g τ' → g (τ.app b.o.dst b.s) = g (τ'.app b.o.dst b.s)) → (∀ b ∈ acc, confB ops n b ⟨j, o, ⟨.pv .any, [], []⟩, wk, nw, rd⟩ = true ∨ ∀ τ : St, g (τ.app b.o.dst b.s) = g τ) → g (appR (Dn listed) σ0 acc) = g (appR (fun _ => true) σ0 acc) := by
                intro α g h0 h2
                exact appR_eq g _ _ acc (fun b hb => (h2 b hb).imp (fun hc => by
                  simp only [newOk, Bool.and_eq_true] at hnew
                  have h1 := List.all_eq_true.1 hnew.1 b hb
                  rw [hc] at h1
                  have hmem := inL_iff.1 (by simpa using h1 : inL b.i ((cl[j]?).getD []) = true)
                  have hL' : Lst ops (listed.setIfInBounds j true) fuel (⟨j, o, ⟨.pv .any, [], []⟩, wk, nw, rd⟩ :: acc) Rl := hL.next hjr (fun k hk => by simp only [List.map_cons, List.mem_cons]; exact hk.symm) (fun k hk => .inl hk)
                  have h2 := hL'.clo hcl (j := j) (i := b.i) (by rw [set_Dn hil]; simp) hmem
                  rw [set_Dn hil] at h2
                  have h3 := List.all_eq_true.1 hnew.2 b hb
                  have hb' : Nat.beq b.i j = false := by simpa using h3
                  rwa [hb', Bool.or_false] at h2) id) h0
              have slot : ∀ t, t ∈ namesOf ops n o → (appR (Dn listed) σ0 acc).sl t = (appR (fun _ => true) σ0 acc).sl t := by
                intro t ht
                refine view (fun τ => τ.sl t) (fun b _ => app_sl2 b t) (fun b _ => ?_)
                by_cases hd : b.o.dst = some t
                · exact .inl (conf_sl (b := ⟨j, o, ⟨.pv .any, [], []⟩, wk, nw, rd⟩) hd ht)
                · exact .inr (app_sl hd)
              refine ⟨?_, ?_, ?_, ?_⟩
              · intro k x hx
                cases x with
                | tmp t =>
                  have : t ∈ namesOf ops n o := by
                    unfold namesOf
                    refine List.mem_append_left _ (List.mem_filterMap.2 ⟨.tmp t, List.mem_of_getElem? hx, rfl⟩)
                  simp only [St.ev, slot t this]
                | _ => rfl
              · intro t ht
                have : t ∈ namesOf ops n o := by
                  unfold namesOf
                  exact List.mem_append_right _ (by simp [ht])
                simp only [St.ev, slot t this]
              · intro k q hq
                have hmem : q ∈ rd := List.mem_of_getElem? hq
                refine view (fun τ => τ.ob q) (fun b _ => app_ob2 b q) (fun b hb => ?_)
                by_cases hd : q ∈ b.s.wr.map (·.1)
                · exact .inl (conf_ob (b := ⟨j, o, ⟨.pv .any, [], []⟩, wk, nw, rd⟩) (by rw [← (hG.mem b hb).2.1]; exact hd) hmem)
                · exact .inr (app_ob hd)
              · intro k q hq
                have hmem : q ∈ nw := List.mem_of_getElem? hq
                have h1 := List.all_eq_true.1 hnw q hmem
                refine (view (fun τ => τ.av q) (fun b _ => app_av2 b q) (fun b hb => ?_)).trans h1
                by_cases hd : q ∈ b.s.nw
                · exact .inl (conf_nw (b := ⟨j, o, ⟨.pv .any, [], []⟩, wk, nw, rd⟩) (by rw [← (hG.mem b hb).2.2]; exact hd) hmem)
                · exact .inr (app_av hd)
            obtain ⟨hg, hx⟩ := hlj _ agr
            unfold wpOp
            rw [ho]
            simp only [Region.wanted, hg, if_true]
            refine .inl (Oper.wp_mono ?_ (hx a w _ hsj))
            rintro a' w' ⟨σ', ⟨s, hP, h1, h2, rfl⟩, hsj'⟩
            have hL' : Lst ops (listed.setIfInBounds j true) fuel (⟨j, o, s, wk, nw, rd⟩ :: acc) (j :: Rl) := hL.next hjr (fun k hk => by simp only [List.map_cons, List.mem_cons]; exact hk.symm) (fun k hk => by
              rcases List.mem_cons.1 hk with hk | hk
              · exact .inr hk
              · exact .inl hk)
            have hGr : ∀ {l : List It}, Good C n ops cl σ0 Rl l → Good C n ops cl σ0 (j :: Rl) l := by
              intro l
              induction l with
              | nil => intro _; trivial
              | cons b l ihl =>
                intro h
                exact ⟨h.1.imp (fun h => List.mem_cons_of_mem _ h) id, h.2.1, h.2.2.1, h.2.2.2.1, h.2.2.2.2.1, h.2.2.2.2.2.1, ihl h.2.2.2.2.2.2⟩
            have hap : appR (fun _ => true) σ0 (⟨j, o, s, wk, nw, rd⟩ :: acc) = (appR (fun _ => true) σ0 acc).app o.dst s := rfl
            have hD' : DL C n ops cl is (⟨j, o, s, wk, nw, rd⟩ :: acc) K (appR (fun _ => true) σ0 (⟨j, o, s, wk, nw, rd⟩ :: acc)) := by rw [hap]; exact hD s hP h1 h2
            refine ih _ (j :: Rl) hD' ⟨.inl (by simp), hnw, hnew, ho, h1, h2, hGr hG⟩ fuel _ a' w' hL' ?_
            have hjD : Dn (listed.setIfInBounds j true) j = true := by rw [set_Dn hil]; simp
            have same : appR (Dn (listed.setIfInBounds j true)) σ0 acc = appR (Dn listed) σ0 acc := by
              refine appR_eq (σ0 := σ0) (fun τ => τ) _ _ acc (fun b hb => .inl ?_) (fun b _ τ τ' h => by rw [h])
              rw [set_Dn hil]
              simp only [newOk, Bool.and_eq_true] at hnew
              have h3 := List.all_eq_true.1 hnew.2 b hb
              have hb' : Nat.beq b.i j = false := by simpa using h3
              rw [hb', Bool.or_false]
            simp only [appR, hjD, cond_true, same]
            exact hsj'
          · -- one of the known ones, or one that waits for it
            have hc := List.all_eq_true.1 hcov j (by simpa using hj)
            rcases (Bool.or_eq_true_iff).1 hc with hc | hc
            · exfalso
              have hc := inL_iff.1 hc
              rcases List.mem_cons.1 hc with hc | hc
              · exact e hc
              · have hin := inL_iff.1 (List.all_eq_true.1 hsucc j hc)
                have hjl : j < listed.size := by rw [hL.sz]; exact hj
                have hL' : Lst ops (listed.setIfInBounds j true) fuel (⟨j, o, ⟨.pv .any, [], []⟩, wk, nw, rd⟩ :: acc) Rl := hL.next hjr (fun k hk => by simp only [List.map_cons, List.mem_cons]; exact hk.symm) (fun k hk => .inl hk)
                have h2 := hL'.clo hcl (j := j) (i := i) (by rw [set_Dn hjl]; simp) hin
                rw [set_Dn hjl] at h2
                have hb' : Nat.beq i j = false := by cases hb' : Nat.beq i j; rfl; exact absurd (Nat.eq_of_beq_eq_true hb').symm e
                rw [hb', Bool.or_false, hni hL] at h2
                cases h2
            · obtain ⟨it, hm, rfl⟩ := List.mem_map.1 (inL_iff.1 hc)
              obtain ⟨l1, l2, rfl⟩ := List.append_of_mem hm
              exact known_step hcl hG hL hjr hsj (fun a' w' h1 h2 => ihf _ a' w' h1 h2)

/-- A region that draws its order: 'is' is an order of our own choice. -/
theorem AW.draw {id : Nat} {Q : Exit → St → Prop} {σ : St} (hm : C.P.follows .mixedOrders = true) (cl : List (List Nat)) (is : List Nat) (hcl : cloL ops.toList [] = cl) (hedge : edgesOk 0 ops.toList = true) (h : DL C n ops cl is [] (Q .normal) σ) : AW C n (.region id ops true) Q σ := by
  refine ⟨fun a w hsj => wp_region_any hm ?_⟩
  refine DL.sound (C := C) (n := n) hcl hedge σ (Q .normal) _ (fun a w h => h) is [] [] h trivial ops.size _ a _ ⟨by simp, ⟨List.range ops.size, by simp, fun i hi _ => by simpa using hi⟩, ?_, ?_, by simp⟩ ?_
  · intro j o _ hj
    exfalso
    simp only [Dn, Array.getD_eq_getD_getElem?, Array.getElem?_replicate] at hj
    split at hj <;> simp at hj
  · intro j hj
    exfalso
    simp only [Dn, Array.getD_eq_getD_getElem?, Array.getElem?_replicate] at hj
    split at hj <;> simp at hj
  · obtain ⟨m, R, hw⟩ := hsj
    exact ⟨m, R, hw.drew rfl rfl rfl rfl⟩
end
end Go.Proofs.Ytkalgjnhaicabaa
