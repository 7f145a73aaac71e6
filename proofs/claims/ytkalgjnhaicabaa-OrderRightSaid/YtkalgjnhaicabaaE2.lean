/-
  Our own step logic: what a state says of slots and memory, the rules for code, regions in the order of the text. No statement of the program is proved here.
-/
import Derived.Test.YtkalgjnhaicabaaE1
namespace Go.Proofs.Ytkalgjnhaicabaa
open Go.RowKit

def upd {α : Type} (f : Nat → α) (d : Nat) (v : α) : Nat → α := fun t => bif Nat.beq t d then v else f t
theorem upd_same {α : Type} (f : Nat → α) (d : Nat) (v : α) : upd f d v d = v := by simp [upd]
theorem upd_ne {α : Type} (f : Nat → α) {d t : Nat} (v : α) (h : t ≠ d) : upd f d v t = f t := by
  have : Nat.beq t d = false := by cases hb : Nat.beq t d; rfl; exact absurd (Nat.eq_of_beq_eq_true hb) h
  simp [upd, this]

def leafC : Value → PV
  | .int k n => .int k n
  | .bool b => .bool b
  | .string s => .str s
  | .slice none 0 0 => .sl (some true) 0 []
  | .pointer none => .nilptr
  | .map none => .nilmap
  | .nilFunc => .nilfn
  | .nilIface => .niliface
  | _ => .any
def ofC : Value → PV
  | .agg cs => .agg (cs.toList.map leafC)
  | v => leafC v

theorem leafC_rel (w : World) (R : Nat → Prop) : ∀ v, RelP w R (leafC v) v := by
  intro v
  unfold leafC
  split <;> simp [RelP]
  exact ⟨none, 0, ⟨rfl, rfl⟩, by simp [maxLen], rfl, rfl⟩
theorem ofC_rel (w : World) (R : Nat → Prop) : ∀ v, RelP w R (ofC v) v := by
  intro v
  unfold ofC
  split
  · rename_i cs
    simp only [RelP]
    refine ⟨cs.toList, by simp, ?_⟩
    generalize cs.toList = l
    induction l with
    | nil => simpa using RelPL.nil
    | cons x l ih => simpa using RelPL.cons (leafC_rel w R x) ih
  · exact leafC_rel w R v

/-- What an operand holds. -/
def St.ev (n : Nat) (σ : St) : Operand → V
  | .tmp t => bif Nat.blt t n then σ.sl t else .pv .any
  | .const c => .pv (ofC c)
  | .global _ => .pv .any
  | .func f => .pv (.fn (.func f) [] [])

def St.put (σ : St) (d : Option Tmp) (v : V) : St := match d with | some d => { σ with sl := upd σ.sl d v } | none => σ

/-- SR with its witnesses. -/
structure SW (C : Ctx) (n : Nat) (σ : St) (a : Act) (w : World) (m : Gm) (R : Nat → Prop) : Prop where
  hr : HR C m R σ.ob σ.av w
  df : a.defers = []
  sz : a.tmps.size = n
  sl : ∀ t, t < n → Rel w m σ.av R (σ.sl t) (a.eval (.tmp t))

def SJ (C : Ctx) (n : Nat) (σ : St) (a : Act) (w : World) : Prop := ∃ m R, SW C n σ a w m R

section
variable {C : Ctx} {n : Nat} {σ τ : St} {a : Act} {w : World} {m : Gm} {R : Nat → Prop}

theorem SW.ev (h : SW C n σ a w m R) (x : Operand) : Rel w m σ.av R (σ.ev n x) (a.eval x) := by
  cases x with
  | tmp t =>
    by_cases ht : t < n
    · have hb : Nat.blt t n = true := by simpa [Nat.blt_eq] using ht
      simpa only [St.ev, hb, cond_true] using h.sl t ht
    · have hb : Nat.blt t n = false := by cases e : Nat.blt t n; rfl; exact absurd (by simpa [Nat.blt_eq] using e) ht
      simp only [St.ev, hb, cond_false, Rel, RelP]
  | const c => simpa only [St.ev, Rel, Act.eval] using ofC_rel w R c
  | global g => simp only [St.ev, Rel, RelP]
  | func f =>
    simp only [St.ev, Rel, RelP, Act.eval]
    exact ⟨[], [], rfl, by simp [RelPL], by simp [RelPL]⟩

theorem act_put_get (a : Act) (d : Nat) (u : Value) (t : Nat) : (a.put (some d) u).eval (.tmp t) = if d = t ∧ d < a.tmps.size then u else a.eval (.tmp t) := by
  simp only [Act.put, Act.eval, Array.getD_eq_getD_getElem?, Array.getElem?_setIfInBounds]
  by_cases h : d = t
  · subst h
    by_cases h2 : d < a.tmps.size <;> simp [h2]
  · simp [h]

theorem SW.put (h : SW C n σ a w m R) (d : Option Tmp) {v : V} {u : Value} (hv : Rel w m σ.av R v u) : SW C n (σ.put d v) (a.put d u) w m R := by
  cases d with
  | none => exact h
  | some d =>
    refine ⟨h.hr, h.df, by simpa [Act.put] using h.sz, fun t ht => ?_⟩
    rw [act_put_get]
    show Rel w m σ.av R (upd σ.sl d v t) _
    by_cases e : d = t
    · subst e
      rw [upd_same, if_pos ⟨rfl, by rw [h.sz]; exact ht⟩]
      exact hv
    · rw [upd_ne _ _ (fun e' => e e'.symm), if_neg (fun e' => e e'.1)]
      exact h.sl t ht
end

/-- The code c, begun in state σ, ends as Q says. -/
structure AW (C : Ctx) (n : Nat) (c : Code) (Q : Exit → St → Prop) (σ : St) : Prop where
  go : ∀ a w, SJ C n σ a w → c.wp C.P (fun ex a' w' => ∃ σ', Q ex σ' ∧ SJ C n σ' a' w') a w

def thenQ (K : St → Prop) (Q : Exit → St → Prop) : Exit → St → Prop
  | .normal, σ => K σ
  | e, σ => Q e σ
def blockQ (id : Nat) (Q : Exit → St → Prop) : Exit → St → Prop
  | .exit id', σ => if id' = id then Q .normal σ else Q (.exit id') σ
  | e, σ => Q e σ

section
variable {C : Ctx} {n : Nat} {Q : Exit → St → Prop} {σ τ : St}
theorem AW.mono {c : Code} {Q' : Exit → St → Prop} (h : AW C n c Q σ) (hq : ∀ e s, Q e s → Q' e s) : AW C n c Q' σ :=
  ⟨fun a w hs => wp_mono (h.go a w hs) fun e _ _ ⟨s, q, r⟩ => ⟨s, hq e s q, r⟩⟩
theorem AW.skip (h : Q .normal σ) : AW C n .skip Q σ := ⟨fun _ _ hs => wp_skip ⟨σ, h, hs⟩⟩
theorem AW.exit {id : Nat} (h : Q (.exit id) σ) : AW C n (.exit id) Q σ := ⟨fun _ _ hs => wp_exit ⟨σ, h, hs⟩⟩
theorem AW.ret (h : Q .ret σ) : AW C n .ret Q σ := ⟨fun _ _ hs => wp_ret ⟨σ, h, hs⟩⟩
theorem AW.seq {x y : Code} (h : AW C n x (thenQ (AW C n y Q) Q) σ) : AW C n (.seq x y) Q σ := by
  refine ⟨fun a w hs => ?_⟩
  refine wp_seq (wp_mono (h.go a w hs) ?_)
  rintro e a' w' ⟨s, q, r⟩
  cases e <;> first | exact AW.go q a' w' r | exact ⟨s, q, r⟩
theorem AW.block {id : Nat} {c : Code} (h : AW C n c (blockQ id Q) σ) : AW C n (.block id c) Q σ := by
  refine ⟨fun a w hs => ?_⟩
  refine wp_block (wp_mono (h.go a w hs) ?_)
  rintro e a' w' ⟨s, q, r⟩
  cases e with
  | exit id' =>
    simp only [blockQ] at q
    simp only [Exit.inBlock]
    split
    · rename_i hid; rw [if_pos hid] at q; exact ⟨s, q, r⟩
    · rename_i hid; rw [if_neg hid] at q; exact ⟨s, q, r⟩
  | _ => exact ⟨s, q, r⟩
theorem AW.condP {c : Operand} {x y : Code} {p : Prop} [Decidable p] (hc : σ.ev n c = .pv (.bool (decide p))) (ht : p → AW C n x Q σ) (hf : ¬ p → AW C n y Q σ) : AW C n (.cond c x y) Q σ := by
  refine ⟨fun a w hs => ?_⟩
  obtain ⟨m, R, hw⟩ := hs
  have he := hw.ev c
  rw [hc] at he
  simp only [Rel, RelP] at he
  exact wp_cond_split he (fun e => (ht (of_decide_eq_true e)).go a w ⟨m, R, hw⟩) (fun e => (hf (of_decide_eq_false e)).go a w ⟨m, R, hw⟩)
theorem AW.cond {c : Operand} {x y : Code} {b : Bool} (hc : σ.ev n c = .pv (.bool b)) (ht : b = true → AW C n x Q σ) (hf : b = false → AW C n y Q σ) : AW C n (.cond c x y) Q σ := by
  refine ⟨fun a w hs => ?_⟩
  obtain ⟨m, R, hw⟩ := hs
  have he := hw.ev c
  rw [hc] at he
  simp only [Rel, RelP] at he
  exact wp_cond_split he (fun e => (ht e).go a w ⟨m, R, hw⟩) (fun e => (hf e).go a w ⟨m, R, hw⟩)
/-- A state that says less. -/
def St.le (σ τ : St) : Prop := ∀ (C : Ctx) (n : Nat) (a : Act) (w : World), SJ C n σ a w → SJ C n τ a w
theorem AW.weaken {c : Code} (hl : σ.le τ) (h : AW C n c Q τ) : AW C n c Q σ := ⟨fun a w hs => h.go a w (hl C n a w hs)⟩
theorem AW.loop {c : Code} {X : Type} (st : X → St) (I : X → Prop) (μ : X → Nat) (x0 : X) (h0 : σ.le (st x0)) (hi : I x0)
    (round : ∀ x, I x → AW C n c (thenQ (fun s => ∃ x', s.le (st x') ∧ I x' ∧ μ x' < μ x) Q) (st x)) : AW C n (.loop c) Q σ := by
  refine ⟨fun a w hs => ?_⟩
  have key : ∀ k x, μ x = k → I x → ∀ a w, SJ C n (st x) a w → ∀ (b : Frame) (kk : List Item) (cs : List Frame),
      ∃ e a' w', (∃ σ', Q e σ' ∧ SJ C n σ' a' w') ∧ Arrives C.P (lone (b.at a (.code c :: .inLoop c :: kk)) cs w) b kk cs e a' w' := by
    intro k
    induction k using Nat.strongRecOn with
    | _ k ih =>
      intro x hk hx a w hs b kk cs
      obtain ⟨e, a₁, w₁, hq, harr⟩ := (round x hx).go a w hs b (.inLoop c :: kk) cs
      obtain ⟨s, q, r⟩ := hq
      cases e with
      | normal =>
        obtain ⟨x', hl, hx', hlt⟩ := q
        obtain ⟨e₂, a₂, w₂, hq₂, harr₂⟩ := ih (μ x') (hk ▸ hlt) x' rfl hx' a₁ w₁ (hl C n a₁ w₁ r) b kk cs
        exact ⟨e₂, a₂, w₂, hq₂, .of_steps (Steps.trans harr (.one step_inLoop)) harr₂⟩
      | exit id => exact ⟨_, a₁, w₁, ⟨s, q, r⟩, .pass (x := .inLoop c) rfl (fun _ _ => .inl (by simp)) harr⟩
      | goto l => exact ⟨_, a₁, w₁, ⟨s, q, r⟩, .pass (x := .inLoop c) rfl (fun _ _ => .inl (by simp)) harr⟩
      | ret => exact ⟨_, a₁, w₁, ⟨s, q, r⟩, .pass (x := .inLoop c) rfl (fun _ _ => .inl (by simp)) harr⟩
      | panic ch => exact ⟨_, a₁, w₁, ⟨s, q, r⟩, .pass (x := .inLoop c) rfl (fun _ _ => .inl (by simp)) harr⟩
      | outgrown => exact ⟨_, a₁, w₁, ⟨s, q, r⟩, .pass (x := .inLoop c) rfl (fun _ _ => .inl (by simp)) harr⟩
  intro b kk cs
  obtain ⟨e, a', w', hq, harr⟩ := key _ x0 rfl hi a w (h0 C n a w hs) b kk cs
  exact ⟨e, a', w', hq, .of_steps (.one step_loop) harr⟩
end

/-- One operation, begun in state σ. -/
def OJ (C : Ctx) (n : Nat) (o : Oper) (K : St → Prop) (σ : St) : Prop :=
  ∀ a w Q, SJ C n σ a w → o.wp C.P a w (fun a' w' => ∃ σ', K σ' ∧ SJ C n σ' a' w') Q

/-- What an operation leaves: its value, the places that it turns, the numbers that it takes. -/
structure OS where
  v : V
  wr : List (Nat × Option Ob) := []
  nw : List Nat := []

def obL : List (Nat × Option Ob) → (Nat → Option Ob) → Nat → Option Ob
  | [], f, id => f id
  | (i, o) :: l, f, id => bif Nat.beq id i then o else obL l f id
def avL : List Nat → Av → Av
  | [], f, id => f id
  | i :: l, f, id => bif Nat.beq id i then false else avL l f id

def St.app (σ : St) (d : Option Tmp) (s : OS) : St :=
  { sl := match d with | some d => upd σ.sl d s.v | none => σ.sl, ob := obL s.wr σ.ob, av := avL s.nw σ.av }

/-- The operation, in state σ, leaves just s. -/
def XJ (C : Ctx) (n : Nat) (o : Oper) (σ : St) (s : OS) : Prop := OJ C n o (fun τ => τ = σ.app o.dst s) σ

/-- What a slot tells as a guard: a truth value, or that its operation was not carried out. -/
def V.gd : V → Option (Option Bool)
  | .pv (.bool b) => some (some b)
  | .pv (.tup []) => some none
  | _ => none
/-- What an operation leaves that is not carried out. -/
abbrev und : V := .pv (.tup [])
theorem und_rel (w : World) (m : Gm) (av : Av) (R : Nat → Prop) : Rel w m av R und undef := by
  simp only [und, Rel, RelP]
  exact ⟨[], rfl, RelPL.nil⟩
theorem V.gd_bool {v : V} {b : Bool} (h : v = .pv (.bool b)) : v.gd = some (some b) := by rw [h]; rfl

/-- An operation that is not carried out. -/
def SK (C : Ctx) (n : Nat) (o : Oper) (K : St → Prop) (σ : St) : Prop := ∀ a w, SJ C n σ a w → ∃ s, K s ∧ SJ C n s (a.put o.dst undef) w

/-- The rest of a region, in the order of the text. -/
def RL (C : Ctx) (n : Nat) (ops : Array Oper) : List Oper → (St → Prop) → St → Prop
  | [], K, σ => K σ
  | o :: os, K, σ =>
    match o.guard with
    | none => OJ C n o (RL C n ops os K) σ
    | some (j, want) => ∃ b, (∀ a w, SJ C n σ a w → yielded ops a.tmps j = b) ∧ (b = some want → OJ C n o (RL C n ops os K) σ) ∧ (b ≠ some want → SK C n o (RL C n ops os K) σ)

section
variable {C : Ctx} {n : Nat} {Q : Exit → St → Prop} {σ τ : St} {ops : Array Oper}

theorem OJ.mono {o : Oper} {K K' : St → Prop} (h : OJ C n o K σ) (hk : ∀ s, K s → K' s) : OJ C n o K' σ :=
  fun a w Q hs => Oper.wp_mono (fun _ _ ⟨s, q, r⟩ => ⟨s, hk s q, r⟩) (h a w Q hs)

theorem yielded_of {a : Act} {w : World} {m : Gm} {R : Nat → Prop} (h : SW C n σ a w m R) {j : Nat} {b : Option Bool} (he : (σ.ev n (.tmp (((ops[j]?).bind (·.dst)).getD n))).gd = some b) : yielded ops a.tmps j = b := by
  have hv := h.ev (.tmp (((ops[j]?).bind (·.dst)).getD n))
  generalize σ.ev n (.tmp (((ops[j]?).bind (·.dst)).getD n)) = v at he hv
  have hval : ∃ u, a.eval (.tmp (((ops[j]?).bind (·.dst)).getD n)) = u ∧ ((∃ c, u = .bool c ∧ b = some c) ∨ (u = undef ∧ b = none)) := by
    unfold V.gd at he
    split at he
    · simp only [Option.some.injEq] at he
      simp only [Rel, RelP] at hv
      exact ⟨_, hv, .inl ⟨_, rfl, he.symm⟩⟩
    · simp only [Option.some.injEq] at he
      simp only [Rel, RelP] at hv
      obtain ⟨us, hu, hr⟩ := hv
      simp only [RelPL] at hr
      subst hr
      exact ⟨_, hu, .inr ⟨rfl, he.symm⟩⟩
    · cases he
  obtain ⟨u, hu, hb⟩ := hval
  simp only [Act.eval] at hu
  unfold yielded
  cases hd : (ops[j]?).bind (·.dst) with
  | none =>
    rw [hd] at hu
    simp only [Option.getD_none, Array.getD_eq_getD_getElem?] at hu
    rw [Array.getElem?_eq_none (by have := h.sz; omega)] at hu
    simp at hu
    subst hu
    rcases hb with ⟨c, hc, _⟩ | ⟨_, rfl⟩
    · simp [undef] at hc
    · rfl
  | some d =>
    rw [hd] at hu
    simp only [Option.getD_some, Array.getD_eq_getD_getElem?] at hu
    simp only [Option.bind_some]
    cases ht : a.tmps[d]? with
    | none =>
      rw [ht] at hu
      simp at hu
      subst hu
      rcases hb with ⟨c, hc, _⟩ | ⟨_, rfl⟩
      · simp [undef] at hc
      · rfl
    | some u' =>
      rw [ht] at hu
      simp at hu
      subst hu
      rcases hb with ⟨c, rfl, rfl⟩ | ⟨rfl, rfl⟩ <;> rfl

theorem RL.sound (K : St → Prop) : ∀ (os : List Oper) (k : Nat) (σ : St), ops.toList.drop k = os → RL C n ops os K σ → ∀ a w, SJ C n σ a w → ∀ Q : Exit → Act → World → Prop,
    (∀ a w, (∃ s, K s ∧ SJ C n s a w) → Q .normal a w) → wpOps C.P ops Q (List.range' k (ops.size - k)) a w := by
  intro os
  induction os with
  | nil =>
    intro k σ hd h a w hs Q hQ
    have : ops.size - k = 0 := by
      have := congrArg List.length hd
      simpa using this
    rw [this]
    simp only [List.range'_zero, wpOps]
    exact hQ a w ⟨σ, h, hs⟩
  | cons o os ih =>
    intro k σ hd h a w hs Q hQ
    have hlt : k < ops.size := by
      have := congrArg List.length hd
      simp at this
      omega
    have ho : ops[k]? = some o := by
      have := congrArg (·[0]?) hd
      simpa using this
    have hd' : ops.toList.drop (k + 1) = os := by
      have := congrArg (List.drop 1) hd
      simpa [Nat.add_comm] using this
    have e : ops.size - k = (ops.size - (k + 1)) + 1 := by omega
    rw [e, List.range'_succ]
    have next : ∀ a' w', (∃ s, RL C n ops os K s ∧ SJ C n s a' w') → wpOps C.P ops Q (List.range' (k + 1) (ops.size - (k + 1))) a' w' := by
      rintro a' w' ⟨s, hs', hr⟩
      exact ih (k + 1) s hd' hs' a' w' hr Q hQ
    simp only [wpOps, ho]
    simp only [RL] at h
    cases hg : o.guard with
    | none =>
      rw [hg] at h
      simp only [Region.wanted, hg, if_true]
      exact .inl (Oper.wp_mono next (h a w Q hs))
    | some jw =>
      obtain ⟨j, want⟩ := jw
      rw [hg] at h
      obtain ⟨b, hb, h1, h2⟩ := h
      have hy := hb a w hs
      simp only [Region.wanted, hg, hy]
      by_cases hbw : b = some want
      · subst hbw
        simp only [beq_self_eq_true, if_true]
        exact .inl (Oper.wp_mono next (h1 rfl a w Q hs))
      · have : (b == some want) = false := by simpa using hbw
        simp only [this, Bool.false_eq_true, if_false]
        exact next _ _ (h2 hbw a w hs)

theorem AW.region {id : Nat} (h : RL C n ops ops.toList (Q .normal) σ) : AW C n (.region id ops false) Q σ := by
  refine ⟨fun a w hs => ?_⟩
  refine wp_region ?_
  have := RL.sound (Q .normal) ops.toList 0 σ (by simp) h a w hs (fun ex a' w' => ∃ σ', Q ex σ' ∧ SJ C n σ' a' w') (fun _ _ x => x)
  rw [List.range_eq_range']
  simpa using this

theorem RL.step {o : Oper} {os : List Oper} {K : St → Prop} {s : OS} {d : Option Tmp} (hg : o.guard = none) (hd : o.dst = d) (hx : XJ C n o σ s) (h : RL C n ops os K (σ.app d s)) : RL C n ops (o :: os) K σ := by
  subst hd
  simp only [RL, hg]
  exact hx.mono fun _ e => e ▸ h
theorem RL.stepG {o : Oper} {os : List Oper} {K : St → Prop} {s : OS} {d : Option Tmp} {j : Nat} {want : Bool} (hg : o.guard = some (j, want)) (hd : o.dst = d) (hb : σ.ev n (.tmp (((ops[j]?).bind (·.dst)).getD n)) = .pv (.bool want))
    (hx : XJ C n o σ s) (h : RL C n ops os K (σ.app d s)) : RL C n ops (o :: os) K σ := by
  subst hd
  simp only [RL, hg]
  exact ⟨some want, fun a w ⟨m, R, hw⟩ => yielded_of hw (V.gd_bool hb), fun _ => hx.mono fun _ e => e ▸ h, fun e => absurd rfl e⟩
theorem RL.skipG {o : Oper} {os : List Oper} {K : St → Prop} {d : Option Tmp} {j : Nat} {want : Bool} (hg : o.guard = some (j, want)) (hd : o.dst = d) (hb : σ.ev n (.tmp (((ops[j]?).bind (·.dst)).getD n)) = .pv (.bool (!want)))
    (h : RL C n ops os K (σ.put d und)) : RL C n ops (o :: os) K σ := by
  subst hd
  simp only [RL, hg]
  exact ⟨some (!want), fun a w ⟨m, R, hw⟩ => yielded_of hw (V.gd_bool hb), fun e => by cases want <;> simp at e, fun _ a w ⟨m, R, hw⟩ => ⟨_, h, m, R, hw.put o.dst (und_rel _ _ _ _)⟩⟩
/-- The guard's operation itself was not carried out. -/
theorem RL.skipU {o : Oper} {os : List Oper} {K : St → Prop} {d : Option Tmp} {j : Nat} {want : Bool} (hg : o.guard = some (j, want)) (hd : o.dst = d) (hb : σ.ev n (.tmp (((ops[j]?).bind (·.dst)).getD n)) = und)
    (h : RL C n ops os K (σ.put d und)) : RL C n ops (o :: os) K σ := by
  subst hd
  simp only [RL, hg]
  exact ⟨none, fun a w ⟨m, R, hw⟩ => yielded_of hw (by rw [hb]; rfl), (fun e => by cases e), fun _ a w ⟨m, R, hw⟩ => ⟨_, h, m, R, hw.put o.dst (und_rel _ _ _ _)⟩⟩
/-- Two cases for a truth value. -/
theorem RL.caseB {os : List Oper} {K : St → Prop} {b : Bool} (t : Nat) (ht : σ.ev n (.tmp t) = .pv (.bool b)) (h1 : b = true → RL C n ops os K ⟨upd σ.sl t (.pv (.bool true)), σ.ob, σ.av⟩) (h2 : b = false → RL C n ops os K ⟨upd σ.sl t (.pv (.bool false)), σ.ob, σ.av⟩) : RL C n ops os K σ := by
  have e : σ.sl t = .pv (.bool b) := by
    simp only [St.ev] at ht
    cases hb : Nat.blt t n with
    | true => rw [hb] at ht; simpa using ht
    | false => rw [hb] at ht; simp at ht
  have key : (⟨upd σ.sl t (.pv (.bool b)), σ.ob, σ.av⟩ : St) = σ := by
    have : upd σ.sl t (.pv (.bool b)) = σ.sl := by
      funext q
      by_cases hq : q = t
      · subst hq; rw [upd_same, e]
      · rw [upd_ne _ _ hq]
    rw [this]
  cases b with
  | true => have := h1 rfl; rwa [key] at this
  | false => have := h2 rfl; rwa [key] at this
theorem RL.call {o : Oper} {os : List Oper} {K : St → Prop} (hg : o.guard = none) (h : OJ C n o (RL C n ops os K) σ) : RL C n ops (o :: os) K σ := by
  simp only [RL, hg]
  exact h
end

end Go.Proofs.Ytkalgjnhaicabaa
