/-
  Our own step logic: addresses, stores, slices, append. No statement of the program is proved here.
-/
import Derived.Test.YtkalgjnhaicabaaE4
namespace Go.Proofs.Ytkalgjnhaicabaa
open Go.RowKit

theorem take_splice {α : Type} (l vs : List α) (off n : Nat) (h : off + vs.length ≤ n) (hn : n ≤ l.length) :
    (l.take off ++ vs ++ l.drop (off + vs.length)).take n = (l.take n).take off ++ vs ++ (l.take n).drop (off + vs.length) := by
  apply List.ext_getElem?
  intro i
  have e1 : min off l.length = off := by omega
  have e2 : min off (min n l.length) = off := by omega
  simp only [List.getElem?_take, List.getElem?_append, List.length_append, List.length_take, List.getElem?_drop, e1, e2]
  by_cases hi : i < n
  · rw [if_pos hi]
    by_cases b : i < off + vs.length
    · rw [if_pos b, if_pos b]
      by_cases a : i < off
      · simp [a, hi]
      · simp [a]
    · rw [if_neg b, if_neg b, if_pos (by omega)]
  · rw [if_neg hi, if_neg (by omega), if_neg (by omega)]

/-- Some cells of a list put in place of others. -/
def setL {α : Type} (l : List α) (off : Nat) (vs : List α) : List α := l.take off ++ vs ++ l.drop (off + vs.length)
theorem RelL.setL {w : World} {m : Gm} {av : Av} {R : Nat → Prop} {cs vs : List V} {us xs : List Value} (off : Nat) (h : RelL w m av R cs us) (hv : RelL w m av R vs xs) : RelL w m av R (setL cs off vs) (setL us off xs) := by
  unfold Proofs.Ytkalgjnhaicabaa.setL
  rw [hv.length]
  exact (((h.take off).append hv).append (h.drop _))
theorem RelPL.setL {w : World} {R : Nat → Prop} {cs vs : List PV} {us xs : List Value} (off : Nat) (h : RelPL w R cs us) (hv : RelPL w R vs xs) : RelPL w R (setL cs off vs) (setL us off xs) := by
  unfold Proofs.Ytkalgjnhaicabaa.setL
  rw [hv.length]
  exact (((h.take off).append hv).append (h.drop _))
theorem setL_length {α : Type} (l : List α) (off : Nat) (vs : List α) (h : off + vs.length ≤ l.length) : (setL l off vs).length = l.length := by
  unfold setL; simp only [List.length_append, List.length_take, List.length_drop]; omega

section
variable {C : Ctx} {n : Nat} {σ : St} {dst : Option Tmp} {ty t t' : TypeId} {pos : String} {after : Array Edge} {gd : Option (Nat × Bool)} {x y : Operand}

theorem run_storeAt {P : Program} {w : World} {b off : Nat} {arr : Array Value} {T T' : TypeId} {u : Value} (hb : w.heap[b]? = some (.cells arr T' (0, 0))) (hk : szIs P T u.cells.size) (hle : off + u.cells.size ≤ arr.size) (h1 : ∀ c ∈ u.cells.toList, c.oneCell' = true) :
    (Instr.storeAt T (.pointer (some ⟨b, off, none⟩)) u).run P w = .ok () (w.setRow b (setL arr.toList off u.cells.toList).toArray) := by
  have := run_storeCells_at (P := P) b off T' u.cells.toList 0 arr w hb (by simpa using hle) h1
  simp only [Nat.add_zero] at this
  simp [Instr.storeAt, Instr.sureAddr, storeVar, hk.run, this, setL]

theorem leaf_cells {w : World} {m : Gm} {av : Av} {R : Nat → Prop} : ∀ {vs : List V} {us : List Value}, RelL w m av R vs us → (∀ c ∈ vs, c.leaf = true) → (∀ c ∈ vs, ∀ id o, c = .ptr id o → (m id).isSome) → (∀ c ∈ vs, ∀ id s k, c = .osl id s k → (m id).isSome) → (∀ c ∈ vs, ∀ id, c = .map id → (m id).isSome) → ∀ u ∈ us, u.oneCell' = true
  | [], _, h, _, _, _, _ => by simp only [RelL] at h; subst h; simp
  | c :: cs, _, h, hl, h1, h2, h3 => by
    simp only [RelL] at h
    obtain ⟨u, us, rfl, hc, hr⟩ := h
    intro v hv
    rcases List.mem_cons.1 hv with rfl | hv
    · have hlc := hl c (by simp)
      cases c with
      | pv p => simp only [Rel] at hc; exact hc.leaf hlc
      | ptr id o =>
        obtain ⟨⟨b, N⟩, hm⟩ := Option.isSome_iff_exists.1 (h1 _ (by simp) id o rfl)
        simp only [Rel] at hc; rw [hc.2 b N hm]; rfl
      | osl id s k =>
        obtain ⟨⟨b, N⟩, hm⟩ := Option.isSome_iff_exists.1 (h2 _ (by simp) id s k rfl)
        simp only [Rel] at hc; obtain ⟨c, e, _⟩ := hc.2 b N hm; rw [e]; rfl
      | gsl id s k => simp only [Rel] at hc; obtain ⟨_, A, c, e, _⟩ := hc; rw [e]; rfl
      | map id =>
        obtain ⟨⟨b, N⟩, hm⟩ := Option.isSome_iff_exists.1 (h3 _ (by simp) id rfl)
        simp only [Rel] at hc; rw [hc.2 b N hm]; rfl
      | agg _ => simp [V.leaf] at hlc
      | tup _ => simp [V.leaf] at hlc
      | fn f a b => simp only [Rel] at hc; obtain ⟨us, vs, rfl, _⟩ := hc; rfl
    · exact leaf_cells hr (fun c hc => hl c (by simp [hc])) (fun c hc => h1 c (by simp [hc])) (fun c hc => h2 c (by simp [hc])) (fun c hc => h3 c (by simp [hc])) v hv

/-- All places that the cells name are there. -/
def V.liveB (ob : Nat → Option Ob) : V → Bool
  | .ptr i _ => liveO (ob i)
  | .osl i _ _ => liveO (ob i)
  | .map i => liveO (ob i)
  | _ => true

/-- A store into a place of the call's own. -/
theorem xj_store {T T' : TypeId} {id off k : Nat} {cs : List V} {v : V} (hk : szIs C.P T k) (hx : σ.ev n x = .ptr id off) (ho : σ.ob id = some (.mix T' cs)) (hv : σ.ev n y = v) (hlen : v.cells.length = k) (hle : off + k ≤ cs.length)
    (hl : v.cells.all (fun c => c.leaf && c.liveB σ.ob) = true) (hlv : v.liveB σ.ob = true) :
    XJ C n ⟨none, .store T x y, ty, pos, after, gd⟩ σ ⟨.pv .any, [(id, some (.mix T' (setL cs off v.cells)))], []⟩ := by
  rintro a w Q ⟨m, R, hw⟩
  obtain ⟨b, N, he, hm, arr, hb, hN, hle', hr⟩ := hw.ptr hx ho
  have hrel := hw.ev y
  rw [hv] at hrel
  have live : ∀ i, liveO (σ.ob i) = true → (m i).isSome = true := fun i hi => by rw [hw.hr.dom]; exact hi
  have hl' : ∀ c ∈ v.cells, c.leaf = true ∧ c.liveB σ.ob = true := by simpa using hl
  have hc := hrel.cells (fun c hc => (hl' c hc).1) (fun i o e => live _ (by rw [e] at hlv; exact hlv)) (fun i s k e => live _ (by rw [e] at hlv; exact hlv)) (fun i e => live _ (by rw [e] at hlv; exact hlv))
  have h1 := leaf_cells hc (fun c hc => (hl' c hc).1) (fun c hc i o e => live _ (by have := (hl' c hc).2; rw [e] at this; exact this)) (fun c hc i s k e => live _ (by have := (hl' c hc).2; rw [e] at this; exact this)) (fun c hc i e => live _ (by have := (hl' c hc).2; rw [e] at this; exact this))
  have hcl : (a.eval y).cells.size = k := by have := hc.length; simp at this; omega
  have hrun := run_storeAt (P := C.P) (T := T) (u := a.eval y) (off := off) hb (by rw [hcl]; exact hk) (by omega) h1
  unfold Oper.wp
  have hrun' : (execOp a.eval ⟨none, .store T x y, ty, pos, after, gd⟩).run C.P w = .ok .skip (w.setRow b (setL arr.toList off (a.eval y).cells.toList).toArray) := by
    simp only [execOp, he, Sem.run_bind, hrun, Result.andThen_ok, Sem.run_pure]
  rw [hrun']
  refine ⟨_, rfl, m, R, ?_⟩
  refine hw.store hm arr _ T' hb (by simp only [List.size_toArray]; rw [setL_length _ _ _ (by simp; omega)]; simpa using hN) _ ?_
  intro w' hR hb'
  refine ⟨_, hb', by simp only [List.size_toArray]; rw [setL_length _ _ _ (by simp; omega)]; simpa using hN, by rw [setL_length _ _ _ (by omega)]; exact hle', ?_⟩
  rw [setL_length cs off v.cells (by omega)]
  have e : (setL arr.toList off (a.eval y).cells.toList).toArray.toList.take cs.length = setL (arr.toList.take cs.length) off (a.eval y).cells.toList := by
    simp only [setL]
    exact take_splice _ _ _ _ (by simp; omega) (by simp; omega)
  rw [e]
  exact (hr.setL off hc).mono hR (fun _ _ _ e => e) (fun _ e => e)

/-- A store into plain cells. -/
theorem xj_storeP {T T' : TypeId} {id off : Nat} {cs : List PV} {v : PV} (hk : szIs C.P T 1) (hx : σ.ev n x = .ptr id off) (ho : σ.ob id = some (.cells T' cs)) (hv : σ.ev n y = .pv v) (hlf : v.leaf = true) (hle : off < cs.length) :
    XJ C n ⟨none, .store T x y, ty, pos, after, gd⟩ σ ⟨.pv .any, [(id, some (.cells T' (cs.set off v)))], []⟩ := by
  rintro a w Q ⟨m, R, hw⟩
  obtain ⟨b, N, he, hm, arr, hb, hN, hle', hr⟩ := hw.ptr hx ho
  have hrel := hw.pv hv
  have h1 := hrel.leaf hlf
  have hcl : (a.eval y).cells = #[a.eval y] := by
    generalize a.eval y = u at h1
    cases u <;> simp [Value.oneCell'] at h1 <;> rfl
  have hrun := run_storeAt (P := C.P) (T := T) (u := a.eval y) (off := off) hb (by rw [hcl]; exact hk) (by rw [hcl]; simp; omega) (by rw [hcl]; simpa using h1)
  unfold Oper.wp
  have hrun' : (execOp a.eval ⟨none, .store T x y, ty, pos, after, gd⟩).run C.P w = .ok .skip (w.setRow b (setL arr.toList off [a.eval y]).toArray) := by
    simp only [execOp, he, Sem.run_bind, hrun, Result.andThen_ok, Sem.run_pure, hcl]
  rw [hrun']
  have setE : ∀ {α : Type} (l : List α) (z : α), off < l.length → setL l off [z] = l.set off z := by
    intro α l z hl
    simp only [setL, List.length_singleton]
    rw [List.set_eq_take_append_cons_drop, if_pos hl]
    simp
  refine ⟨_, rfl, m, R, ?_⟩
  refine hw.store hm arr _ T' hb (by simp only [List.size_toArray]; rw [setL_length _ _ _ (by simp; omega)]; simpa using hN) _ ?_
  intro w' hR hb'
  refine ⟨_, hb', by simp only [List.size_toArray]; rw [setL_length _ _ _ (by simp; omega)]; simpa using hN, by simpa using hle', ?_⟩
  have e : (setL arr.toList off [a.eval y]).toArray.toList.take (cs.set off v).length = (arr.toList.take cs.length).set off (a.eval y) := by
    have h3 := take_splice arr.toList [a.eval y] off cs.length (by simp; omega) (by simp; omega)
    have h4 := setE (arr.toList.take cs.length) (a.eval y) (by simp; omega)
    simp only [setL] at h4 ⊢
    simp only [List.length_set]
    rw [h3, h4]
  rw [e]
  exact (hr.set off hrel).mono hR

/-- Where a field lies. -/
def fieldOff (P : Program) (s : TypeId) (i : Nat) : Option Nat :=
  match P.underlying s with
  | some (.struct fs) =>
    match fs[i]? with
    | some f => match P.info? f.type with
      | some inf => bif Nat.beq inf.size 0 then none else some f.offset
      | none => none
    | none => none
  | _ => none
theorem run_fieldAt {P : Program} {s : TypeId} {i o : Nat} (h : fieldOff P s i = some o) (w : World) (b off : Nat) : (Instr.fieldAt s (.pointer (some ⟨b, off, none⟩)) i).run P w = .ok (.pointer (some ⟨b, off + o, none⟩)) w := by
  unfold fieldOff at h
  split at h
  · rename_i fs hu
    split at h
    · rename_i f hf
      split at h
      · rename_i inf hi
        have hne : inf.size ≠ 0 := by
          intro e
          rw [e] at h
          simp at h
        have hb : Nat.beq inf.size 0 = false := by cases hb : Nat.beq inf.size 0; rfl; exact absurd (Nat.eq_of_beq_eq_true hb) hne
        rw [hb] at h
        simp at h
        subst h
        simp [Instr.fieldAt, run_underlying hu, hf, Instr.sureAddr, fieldPlace, sizeOf, typeInfo, hi, hne, Addr.add_lit]
      · cases h
    · cases h
  · cases h
theorem xj_fieldAddr {s : TypeId} {i o id off : Nat} {ob : Ob} (hf : fieldOff C.P s i = some o) (hx : σ.ev n x = .ptr id off) (ho : σ.ob id = some ob) (hre : ob.real = true := by rfl) :
    XJ C n ⟨dst, .fieldAddr s x i, ty, pos, after, gd⟩ σ ⟨.ptr id (off + o), [], []⟩ :=
  .val fun a w m R hw => by
    obtain ⟨b, N, he, hm, _⟩ := hw.ptr hx ho hre
    have hx' := hw.ev x
    rw [hx] at hx'
    simp only [Rel] at hx'
    refine ⟨_, by simp only [execOp, he, Sem.run_bind, run_fieldAt hf, Result.andThen_ok]; rfl, ?_⟩
    simp only [Rel]
    exact ⟨hx'.1, fun b' N' e => by rw [hm] at e; cases e; rfl⟩
theorem xj_fieldAddrR {s : TypeId} {i o off : Nat} {cs : List PV} (hf : fieldOff C.P s i = some o) (hx : σ.ev n x = .pv (.rp cs off)) :
    XJ C n ⟨dst, .fieldAddr s x i, ty, pos, after, gd⟩ σ ⟨.pv (.rp cs (off + o)), [], []⟩ :=
  .val fun a w m R hw => by
    have := hw.pv hx
    simp only [RelP] at this
    obtain ⟨b, o', us, he, hr, hs⟩ := this
    refine ⟨_, by simp only [execOp, he, Sem.run_bind, run_fieldAt hf, Result.andThen_ok]; rfl, ?_⟩
    simp only [Rel, RelP]
    exact ⟨b, o', us, by rw [Nat.add_assoc], hr, hs⟩

theorem run_indexAt {P : Program} {T e : TypeId} {s j k c : Nat} {kk : IntKind} {i : Int} (hT : P.underlying T = some (.slice e)) (hs : szIs P e s) (hi : i = (j : Int)) (hj : j < k) (w : World) (b off : Nat) :
    (Instr.indexAt T (.slice (some ⟨b, off, none⟩) k c) (.int kk i)).run P w = .ok (.pointer (some ⟨b, off + j * s, none⟩)) w := by
  subst hi
  have h2 : ((j : Int)) < (k : Int) := by omega
  simp [Instr.indexAt, asIntOf, run_underlying hT, hs.run, hj, Addr.add_lit]
theorem xj_indexAddr {T e : TypeId} {s k : Nat} {kk : IntKind} {i : Int} {bn : Option Bool} {cs : List PV} (j : Nat) (hT : C.P.underlying T = some (.slice e)) (hs : szIs C.P e s) (hx : σ.ev n x = .pv (.sl bn k cs)) (hy : σ.ev n y = .pv (.int kk i)) (hi : i = (j : Int)) (hj : j < k) (hne : cs ≠ []) :
    XJ C n ⟨dst, .indexAddr T x y, ty, pos, after, gd⟩ σ ⟨.pv (.rp cs (j * s)), [], []⟩ :=
  .val fun a w m R hw => by
    have := hw.pv hx
    simp only [RelP] at this
    obtain ⟨A, c, he, _, _, _, _, h5⟩ := this
    obtain ⟨b, off, us, rfl, hr, hsh⟩ := h5 hne
    refine ⟨_, by simp only [execOp, he, hw.int hy, Sem.run_bind, run_indexAt hT hs hi hj, Result.andThen_ok]; rfl, ?_⟩
    simp only [Rel, RelP]
    exact ⟨b, off, us, rfl, hr, hsh⟩
theorem xj_indexAddrO {T e : TypeId} {s k id sz : Nat} {kk : IntKind} {i : Int} {o : Ob} (j : Nat) (hT : C.P.underlying T = some (.slice e)) (hs : szIs C.P e s) (hx : σ.ev n x = .osl id sz k) (ho : σ.ob id = some o) (hy : σ.ev n y = .pv (.int kk i)) (hi : i = (j : Int)) (hj : j < k) (hre : o.real = true := by rfl) :
    XJ C n ⟨dst, .indexAddr T x y, ty, pos, after, gd⟩ σ ⟨.ptr id (j * s), [], []⟩ :=
  .val fun a w m R hw => by
    obtain ⟨b, N, c, he, _, _, _, hm, _⟩ := hw.osl hx ho hre
    have hx' := hw.ev x
    rw [hx] at hx'
    simp only [Rel] at hx'
    refine ⟨_, by simp only [execOp, he, hw.int hy, Sem.run_bind, run_indexAt hT hs hi hj, Result.andThen_ok]; rfl, ?_⟩
    simp only [Rel]
    exact ⟨hx'.1, fun b' N' e => by rw [hm] at e; cases e; simp⟩

/-- A field of a struct value. -/
theorem xj_field1 {s : TypeId} {i o : Nat} {ps : List PV} {p : PV} {f : Field} {fs : Array Field} (hu : C.P.underlying s = some (.struct fs)) (hf : fs[i]? = some f) (ho : f.offset = o) (hT : notRow C.P f.type) (hx : σ.ev n x = .pv (.agg ps)) (hp : ps[o]? = some p) :
    XJ C n ⟨dst, .field s x i, ty, pos, after, gd⟩ σ ⟨.pv p, [], []⟩ :=
  .val fun a w m R hw => by
    have := hw.pv hx
    simp only [RelP] at this
    obtain ⟨us, he, hr⟩ := this
    obtain ⟨u, hu', hrel⟩ := hr.get hp
    refine ⟨u, ?_, by simpa only [Rel] using hrel⟩
    simp [execOp, he, Instr.field, run_underlying hu, hf, asAgg, part, hT.run, ho, hu']

/-- x[l:h] of a slice that stands. -/
theorem xj_slice {T e : TypeId} {s k : Nat} {kl kh : IntKind} {il ih : Int} {bn : Option Bool} {cs : List PV} (lo hi : Option Operand) (l h : Nat) (hT : C.P.underlying T = some (.slice e)) (hs : szIs C.P e s) (hx : σ.ev n x = .pv (.sl bn k cs))
    (hlo : ∀ y, lo = some y → σ.ev n y = .pv (.int kl il) ∧ il = (l : Int)) (hlo0 : lo = none → l = 0) (hhi : ∀ y, hi = some y → σ.ev n y = .pv (.int kh ih) ∧ ih = (h : Int)) (hhi0 : hi = none → h = k) (h1 : l ≤ h) (h2 : h ≤ k) (hcs : cs.length = k * s) :
    XJ C n ⟨dst, .slice T x lo hi none, ty, pos, after, gd⟩ σ ⟨.pv (.sl bn (h - l) ((cs.drop (l * s)).take ((h - l) * s))), [], []⟩ :=
  .val fun a w m R hw => by
    have := hw.pv hx
    simp only [RelP] at this
    obtain ⟨A, c, he, hkc, hcm, hbn, hb0, h5⟩ := this
    have e1 : ∀ y, lo = some y → a.eval y = .int kl l := fun y hy => by rw [hw.int (hlo y hy).1, (hlo y hy).2]
    have e2 : ∀ y, hi = some y → a.eval y = .int kh h := fun y hy => by rw [hw.int (hhi y hy).1, (hhi y hy).2]
    refine ⟨.slice (if c = l then A else A.map (·.add (l * s))) (h - l) (c - l), ?_, ?_⟩
    · have hlc : h ≤ c := by omega
      cases lo with
      | none =>
        have l0 := hlo0 rfl
        subst l0
        cases hi with
        | none =>
          have hh0 := hhi0 rfl
          subst hh0
          simp [execOp, he, Instr.sliceAt, Instr.slice, Instr.sliceBounds, run_underlying hT, hs.run]
        | some y2 =>
          simp [execOp, he, e2 y2 rfl, Instr.sliceAt, Instr.slice, Instr.sliceBounds, Instr.sliceBound, asIntOf, run_underlying hT, hs.run, hlc]
      | some y1 =>
        cases hi with
        | none =>
          have hh0 := hhi0 rfl
          subst hh0
          simp [execOp, he, e1 y1 rfl, Instr.sliceAt, Instr.slice, Instr.sliceBounds, Instr.sliceBound, asIntOf, run_underlying hT, hs.run, h1]
        | some y2 =>
          simp [execOp, he, e1 y1 rfl, e2 y2 rfl, Instr.sliceAt, Instr.slice, Instr.sliceBounds, Instr.sliceBound, asIntOf, run_underlying hT, hs.run, h1, hlc]
    · simp only [Rel, RelP]
      refine ⟨_, _, rfl, by omega, by omega, ?_, fun e => by have := hb0 e; omega, ?_⟩
      · intro q hq
        rw [hbn q hq]
        split <;> simp
      · intro hne
        have hcs2 : cs ≠ [] := by rintro rfl; simp at hne
        obtain ⟨b, off, us, rfl, hr, hsh⟩ := h5 hcs2
        have hpos : c ≠ l := by
          rintro rfl
          have : h - c = 0 := by omega
          rw [this] at hne
          simp at hne
        rw [if_neg hpos]
        refine ⟨b, off + l * s, (us.drop (l * s)).take ((h - l) * s), by simp [Addr.add_lit], (hr.drop _).take _, hsh.1, ?_⟩
        intro j hj
        simp only [List.length_take, List.length_drop] at hj
        rw [List.getElem?_take, if_pos (by omega), List.getElem?_drop, Nat.add_assoc]
        exact hsh.2 _ (by omega)

theorem xj_sliceS {T : TypeId} {kl kh : IntKind} {il ih : Int} {z : ByteArray} (lo hi : Option Operand) (l h : Nat) (hT : C.P.underlying T = some .string) (hx : σ.ev n x = .pv (.str z))
    (hlo : ∀ y, lo = some y → σ.ev n y = .pv (.int kl il) ∧ il = (l : Int)) (hlo0 : lo = none → l = 0) (hhi : ∀ y, hi = some y → σ.ev n y = .pv (.int kh ih) ∧ ih = (h : Int)) (hhi0 : hi = none → h = z.size) (h1 : l ≤ h) (h2 : h ≤ z.size) :
    XJ C n ⟨dst, .slice T x lo hi none, ty, pos, after, gd⟩ σ ⟨.pv (.str (z.extract l h)), [], []⟩ :=
  .lit rfl fun a w m R hw => by
    have he := hw.str hx
    have e1 : ∀ y, lo = some y → a.eval y = .int kl l := fun y hy => by rw [hw.int (hlo y hy).1, (hlo y hy).2]
    have e2 : ∀ y, hi = some y → a.eval y = .int kh h := fun y hy => by rw [hw.int (hhi y hy).1, (hhi y hy).2]
    cases lo with
    | none =>
      have l0 := hlo0 rfl
      subst l0
      cases hi with
      | none =>
        have hh0 := hhi0 rfl
        subst hh0
        simp [execOp, he, Instr.sliceAt, Instr.slice, Instr.sliceBounds, run_underlying hT, litV]
      | some y2 =>
        simp [execOp, he, e2 y2 rfl, Instr.sliceAt, Instr.slice, Instr.sliceBounds, Instr.sliceBound, asIntOf, run_underlying hT, h2, litV]
    | some y1 =>
      cases hi with
      | none =>
        have hh0 := hhi0 rfl
        subst hh0
        simp [execOp, he, e1 y1 rfl, Instr.sliceAt, Instr.slice, Instr.sliceBounds, Instr.sliceBound, asIntOf, run_underlying hT, h1, litV]
      | some y2 =>
        simp [execOp, he, e1 y1 rfl, e2 y2 rfl, Instr.sliceAt, Instr.slice, Instr.sliceBounds, Instr.sliceBound, asIntOf, run_underlying hT, h1, h2, litV]
theorem xj_indexS {T : TypeId} {kk : IntKind} {i : Int} {z : ByteArray} (j : Nat) (hT : C.P.underlying T = some .string) (hx : σ.ev n x = .pv (.str z)) (hy : σ.ev n y = .pv (.int kk i)) (hi : i = (j : Int)) (hj : j < z.size) :
    XJ C n ⟨dst, .index T x y, ty, pos, after, gd⟩ σ ⟨.pv (.int .u8 (z[j]'hj).toNat), [], []⟩ :=
  .lit rfl fun a w m R hw => by
    subst hi
    simp [execOp, hw.str hx, hw.int hy, Instr.index, asIntOf, run_underlying hT, litV, hj]

end
end Go.Proofs.Ytkalgjnhaicabaa
