/-
  Our own step logic: more operations, calls that turn a variable of the caller's, function values. No statement of the program is proved here.
-/
import Derived.Test.YtkalgjnhaicabaaE8
import Derived.Laws.MakeOwn
import Derived.Great.BuildSlice
namespace Go.Proofs.Ytkalgjnhaicabaa
open Go.RowKit

/-- n cells of zero values. -/
def mkZ (zs : List PV) (n : Nat) : List PV := (List.range n).map fun i => zs.getD (i % zs.length) .any
theorem mkZ_one (z : PV) (n : Nat) : mkZ [z] n = List.replicate n z := by
  unfold mkZ
  apply List.ext_getElem
  · simp
  · intro i h1 h2
    simp [Nat.mod_one]

/-- Parts put into their places. -/
def fillV (place : Nat → Option (Nat × Nat)) (ob : Nat → Option Ob) (cells : List V) : List (Nat × V) → Option (List V)
  | [] => some cells
  | (i, v) :: rest => match place i with
    | none => none
    | some (off, size) => bif (Nat.beq v.cells.length size && Nat.ble (off + size) cells.length && v.cells.all (fun c => c.leaf && c.liveB ob) && v.liveB ob) then fillV place ob (setL cells off v.cells) rest else none
def placeL (l : List (Nat × Nat)) (i : Nat) : Option (Nat × Nat) := l[i]?
/-- Where the fields of a struct lie. -/
def placesOf (P : Program) (t : TypeId) : Option (List (Nat × Nat)) :=
  match P.underlying t with
  | some (.struct fs) => fs.toList.mapM fun f => (P.info? f.type).map fun i => (f.offset, i.size)
  | _ => none

theorem foldl_setL (off : Nat) : ∀ (vs : List Value) (arr : Array Value) (k : Nat), off + k + vs.length ≤ arr.size →
    ((vs.zipIdx k).foldl (fun cs (x : Value × Nat) => cs.setIfInBounds (off + x.2) x.1) arr).toList = setL arr.toList (off + k) vs
  | [], arr, k, _ => by simp [setL]
  | v :: vs, arr, k, h => by
    simp only [List.length_cons] at h
    simp only [List.zipIdx_cons, List.foldl_cons]
    rw [foldl_setL off vs _ (k + 1) (by simp; omega)]
    simp only [setL, Array.toList_setIfInBounds, List.length_cons]
    apply List.ext_getElem?
    intro i
    simp only [List.getElem?_append, List.length_append, List.length_take, List.length_set, Array.length_toList, List.getElem?_take, List.getElem?_drop, List.length_cons]
    have e1 : min (off + k) arr.size = off + k := by omega
    have e2 : min (off + (k + 1)) arr.size = off + k + 1 := by omega
    simp only [e1, e2]
    by_cases a : i < off + k
    · rw [if_pos (by omega), if_pos (by omega), if_pos (by omega), if_pos (by omega), if_pos a, if_pos a]
      rw [List.getElem?_set_ne (by omega)]
    · by_cases b : i = off + k
      · subst b
        rw [if_pos (by omega), if_pos (by omega), if_pos (by omega), if_pos (by omega), if_neg (by omega)]
        rw [List.getElem?_set_self (by simp; omega)]
        simp
      · by_cases c : i < off + k + (vs.length + 1)
        · rw [if_pos (by omega), if_neg (by omega), if_pos (by omega), if_neg (by omega)]
          have : i - (off + k) = (i - (off + k + 1)) + 1 := by omega
          rw [this, List.getElem?_cons_succ]
        · rw [if_neg (by omega), if_neg (by omega)]
          rw [List.getElem?_set_ne (by omega)]
          congr 1
          omega

section
variable {C : Ctx} {n : Nat} {σ : St} {a : Act} {w : World} {m : Gm} {R : Nat → Prop}
theorem SW.cellsOf (hw : SW C n σ a w m R) {v : V} {u : Value} (hrel : Rel w m σ.av R v u) (hl : v.cells.all (fun c => c.leaf && c.liveB σ.ob) = true) (hlv : v.liveB σ.ob = true) :
    RelL w m σ.av R v.cells u.cells.toList ∧ ∀ c ∈ u.cells.toList, c.oneCell' = true := by
  have live : ∀ i, liveO (σ.ob i) = true → (m i).isSome = true := fun i hi => by rw [hw.hr.dom]; exact hi
  have hl' : ∀ c ∈ v.cells, c.leaf = true ∧ c.liveB σ.ob = true := by simpa using hl
  have hc := hrel.cells (fun c hc => (hl' c hc).1) (fun i o e => live _ (by rw [e] at hlv; exact hlv)) (fun i s k e => live _ (by rw [e] at hlv; exact hlv)) (fun i e => live _ (by rw [e] at hlv; exact hlv))
  exact ⟨hc, leaf_cells hc (fun c hc => (hl' c hc).1) (fun c hc i o e => live _ (by have := (hl' c hc).2; rw [e] at this; exact this)) (fun c hc i s k e => live _ (by have := (hl' c hc).2; rw [e] at this; exact this)) (fun c hc i e => live _ (by have := (hl' c hc).2; rw [e] at this; exact this))⟩

theorem SW.fill (hw : SW C n σ a w m R) (place : Nat → Option (Nat × Nat)) : ∀ (ps : List (Nat × Operand)) (cells cs' : List V) (arr : Array Value), RelL w m σ.av R cells arr.toList →
    fillV place σ.ob cells (ps.map fun p => (p.1, σ.ev n p.2)) = some cs' → ∃ arr', Instr.fill place arr (ps.map fun p => (p.1, a.eval p.2)) = some arr' ∧ RelL w m σ.av R cs' arr'.toList
  | [], cells, cs', arr, hr, h => by
    simp only [List.map_nil, fillV, Option.some.injEq] at h
    subst h
    exact ⟨arr, rfl, hr⟩
  | (i, x) :: ps, cells, cs', arr, hr, h => by
    simp only [List.map_cons, fillV] at h
    split at h
    · cases h
    · rename_i off size hp
      rw [Bool.cond_eq_ite] at h
      split at h
      · rename_i hc
        simp only [Bool.and_eq_true] at hc
        obtain ⟨⟨⟨h1, h2⟩, h3⟩, h4⟩ := hc
        have h1 := Nat.eq_of_beq_eq_true h1
        have h2 := Nat.le_of_ble_eq_true h2
        obtain ⟨hcl, _⟩ := hw.cellsOf (hw.ev x) h3 h4
        have hl := hcl.length
        have hal := hr.length
        simp only [Array.length_toList] at hl hal
        have hset := foldl_setL off (a.eval x).cells.toList arr 0 (by simp; omega)
        simp only [Nat.add_zero] at hset
        obtain ⟨arr', hf, hr'⟩ := SW.fill hw place ps _ cs' (((a.eval x).cells.toList.zipIdx 0).foldl (fun cs (x : Value × Nat) => cs.setIfInBounds (off + x.2) x.1) arr) (by rw [hset]; exact hr.setL off hcl) h
        refine ⟨arr', ?_, hr'⟩
        simp only [List.map_cons, Instr.fill, hp]
        have hcond : ((a.eval x).cells.size ≠ size || off + (a.eval x).cells.size > arr.size) = false := by
          simp only [Bool.or_eq_false_iff, decide_eq_false_iff_not]
          exact ⟨by simp; omega, by omega⟩
        rw [hcond]
        simp only [Bool.false_eq_true, if_false]
        have : (a.eval x).cells.zipIdx.foldl (fun cs (x : Value × Nat) => cs.setIfInBounds (off + x.2) x.1) arr = ((a.eval x).cells.toList.zipIdx 0).foldl (fun cs (x : Value × Nat) => cs.setIfInBounds (off + x.2) x.1) arr := by
          rw [← Array.foldl_toList]; simp
        exact this ▸ hf
      · cases h
end

section
variable {C : Ctx} {n : Nat} {σ : St} {dst : Option Tmp} {ty t t' : TypeId} {ts : Array TypeId} {pos : String} {after : Array Edge} {gd : Option (Nat × Bool)} {x y : Operand}

theorem xj_moveE {v : V} (hx : σ.ev n x = v) : XJ C n ⟨dst, .move x, ty, pos, after, gd⟩ σ ⟨v, [], []⟩ := hx ▸ xj_move
theorem xj_assignE {v : V} (hx : σ.ev n x = v) : XJ C n ⟨dst, .assign x, ty, pos, after, gd⟩ σ ⟨v, [], []⟩ := hx ▸ xj_assign
theorem xj_pickT {c : Operand} {v : V} (hc : σ.ev n c = .pv (.bool true)) (hx : σ.ev n x = v) : XJ C n ⟨dst, .pick c x y, ty, pos, after, gd⟩ σ ⟨v, [], []⟩ := hx ▸ xj_pick hc
theorem xj_pickF {c : Operand} {v : V} (hc : σ.ev n c = .pv (.bool false)) (hx : σ.ev n y = v) : XJ C n ⟨dst, .pick c x y, ty, pos, after, gd⟩ σ ⟨v, [], []⟩ := hx ▸ xj_pick hc

theorem xj_nilCheck {id off : Nat} {o : Ob} (hx : σ.ev n x = .ptr id off) (ho : σ.ob id = some o) (hre : o.real = true := by rfl) : XJ C n ⟨dst, .nilCheck x, ty, pos, after, gd⟩ σ ⟨.ptr id off, [], []⟩ :=
  .val fun a w m R hw => by
    obtain ⟨b, N, he, hm, _⟩ := hw.ptr hx ho hre
    have hx' := hw.ev x
    rw [hx] at hx'
    exact ⟨a.eval x, by simp [execOp, he], hx'⟩
theorem xj_nilCheckR {off : Nat} {cs : List PV} (hx : σ.ev n x = .pv (.rp cs off)) : XJ C n ⟨dst, .nilCheck x, ty, pos, after, gd⟩ σ ⟨.pv (.rp cs off), [], []⟩ :=
  .val fun a w m R hw => by
    have hx' := hw.pv hx
    have h2 := hx'
    simp only [RelP] at h2
    obtain ⟨b, o, us, he, _⟩ := h2
    exact ⟨a.eval x, by simp [execOp, he], by simpa only [Rel] using hx'⟩

/-- make. -/
theorem xj_make {e : TypeId} {T : TypeId} {z : Value} {size bytes : Nat} {kl kc : IntKind} {il ic : Int} {zs : List PV} (id k : Nat) (he : ElemIs C.P T e z size bytes) (hzs : z.cells.toList.map leafC = zs) (hx : σ.ev n x = .pv (.int kl il)) (hy : σ.ev n y = .pv (.int kc ic)) (hil : il = (k : Int)) (hic : ic = (k : Int)) (hk : k ≤ 1000000000) (hid : σ.av id = true) :
    XJ C n ⟨dst, .makeSlice T x y, ty, pos, after, gd⟩ σ ⟨.osl id size k, [(id, some (.cells e (mkZ zs (k * size))))], [id]⟩ := by
  subst hil hic
  rintro a w Q ⟨m, R, hw⟩
  obtain ⟨i, hi, hz, hsize, hbytes⟩ := info_parts he.info
  have hb1 : (i.bytes : Int) * (k : Int) ≤ 281474976710656 := by
    have h2 : bytes * k ≤ 1000 * 1000000000 := Nat.mul_le_mul he.by_ hk
    rw [hbytes]
    have h3 : ((bytes * k : Nat) : Int) ≤ ((1000 * 1000000000 : Nat) : Int) := Int.ofNat_le.2 h2
    rw [Int.natCast_mul] at h3
    omega
  have hrun := run_make (P := C.P) w T e i z he.u hi hz kl kc k k (by omega) (Int.le_refl _) hb1 (by omega)
  simp only [Int.toNat_natCast, hsize] at hrun
  have hrun' : (execOp a.eval ⟨dst, .makeSlice T x y, ty, pos, after, gd⟩).run C.P w = .ok (.value (.slice (some ⟨w.heap.size, 0, none⟩) k k)) (w.alloc (.cells (madeCells z.cells (k * size)) e)) := by
    simp only [execOp, hw.int hx, hw.int hy, Sem.run_bind, hrun, Result.andThen_ok, Sem.run_pure]
  unfold Oper.wp
  rw [hrun']
  have hsz : (madeCells z.cells (k * size)).size = k * size := size_madeCells _ _
  refine ⟨_, rfl, upd m id (some (w.heap.size, (madeCells z.cells (k * size)).size)), R, ?_⟩
  rw [St.app_new]
  refine SW.put (hw.alloc hid _ e (.cells e (mkZ zs (k * size))) ?_) dst ?_
  · intro w' m' av' hR hm ha hb
    have hl : (mkZ zs (k * size)).length = k * size := by simp [mkZ]
    refine ⟨_, hb, rfl, by rw [hl, hsz]; exact Nat.le_refl _, ?_⟩
    rw [List.take_of_length_le (by rw [hl]; simp [hsz])]
    have hzl : zs.length = z.cells.size := by rw [← hzs]; simp
    have gen : ∀ l : List Nat, (∀ j ∈ l, True) → RelPL w' R (l.map fun i => zs.getD (i % zs.length) .any) (l.map fun i => z.cells[i % z.cells.size]!) := by
      intro l
      induction l with
      | nil => intro _; simpa using RelPL.nil
      | cons j l ih =>
        intro _
        simp only [List.map_cons]
        refine RelPL.cons ?_ (ih (fun _ _ => trivial))
        have hpos : 0 < z.cells.size := by rw [he.zs]; exact he.pos
        have hlt : j % z.cells.size < z.cells.size := Nat.mod_lt _ hpos
        rw [hzl, ← hzs]
        have e1 : (z.cells.toList.map leafC).getD (j % z.cells.size) .any = leafC (z.cells[j % z.cells.size]!) := by
          simp [List.getD_eq_getElem?_getD, hlt]
        rw [e1]
        exact leafC_rel w' R _
    have := gen (List.range (k * size)) (fun _ _ => trivial)
    simpa [mkZ, madeCells] using this
  · simp only [Rel]
    refine ⟨by simp [avL], fun b N e => ?_⟩
    rw [upd_same] at e
    cases e
    exact ⟨k, rfl, Nat.le_refl _, by simp only [maxLen]; omega, hsz⟩

/-- What a struct or array value is made of. -/
structure BuiltIs (P : Program) (T : TypeId) (zs : List PV) (place : Nat → Option (Nat × Nat)) : Prop where
  go : ∃ z : Value, z.cells.toList.map leafC = zs ∧ ∀ parts, P.built T parts = Instr.fill place z.cells parts
theorem BuiltIs.struct {P : Program} {T : TypeId} {z : Value} {zs : List PV} {pl : List (Nat × Nat)} (hz : (P.info? T).map (·.zero) = some (some z)) (hzs : z.cells.toList.map leafC = zs) (hp : placesOf P T = some pl) : BuiltIs P T zs (placeL pl) := by
  refine ⟨z, hzs, fun parts => ?_⟩
  unfold placesOf at hp
  split at hp
  · rename_i fs hu
    cases hq : P.info? T with
    | none => simp [hq] at hz
    | some ti =>
      simp [hq] at hz
      have hfun : (fun i => pl.toArray[i]?) = placeL pl := by funext i; simp [placeL]
      unfold Program.built
      simp only [hq, hu, hz, hp, hfun]
  · cases hp
theorem BuiltIs.array {P : Program} {T e : TypeId} {k s : Nat} {z : Value} {zs : List PV} (hu : P.underlying T = some (.array k e)) (hz : (P.info? T).map (·.zero) = some (some z)) (hzs : z.cells.toList.map leafC = zs) (hs : szIs P e s) : BuiltIs P T zs (fun i => some (i * s, s)) := by
  refine ⟨z, hzs, fun parts => ?_⟩
  cases hq : P.info? T with
  | none => simp [hq] at hz
  | some ti =>
    simp [hq] at hz
    unfold szIs at hs
    cases he : P.info? e with
    | none => simp [he] at hs
    | some ei =>
      simp [he] at hs
      unfold Program.built
      simp only [hq, hu, hz, he, hs]
theorem zero_rel {w : World} {R : Nat → Prop} {z : Value} {zs : List PV} (hzs : z.cells.toList.map leafC = zs) : RelPL w R zs z.cells.toList := by
  rw [← hzs]
  generalize z.cells.toList = l
  induction l with
  | nil => simpa using RelPL.nil
  | cons x l ih => simpa using RelPL.cons (leafC_rel w R x) ih
theorem xj_build {T : TypeId} {parts : Array (Nat × Operand)} {zs : List PV} {place : Nat → Option (Nat × Nat)} {cs' : List V} (hb : BuiltIs C.P T zs place)
    (hf : fillV place σ.ob (zs.map .pv) (parts.toList.map fun p => (p.1, σ.ev n p.2)) = some cs') :
    XJ C n ⟨dst, .build T parts, ty, pos, after, gd⟩ σ ⟨.agg cs', [], []⟩ :=
  .val fun a w m R hw => by
    obtain ⟨z, hzs, hb⟩ := hb.go
    obtain ⟨arr', hfill, hr'⟩ := hw.fill place parts.toList _ cs' z.cells (RelL.ofP (zero_rel hzs)) hf
    have hparts : (parts.map fun x => (x.1, a.eval x.2)).toList = parts.toList.map fun p => (p.1, a.eval p.2) := by simp
    have hrun := run_build (P := C.P) w T (parts.map fun x => (x.1, a.eval x.2)) arr' (by rw [hb, hparts]; exact hfill)
    refine ⟨.agg arr', ?_, ?_⟩
    · simp only [execOp, Sem.run_bind, hrun, Result.andThen_ok, Sem.run_pure]
    · simp only [Rel]
      exact ⟨arr'.toList, by simp, hr'⟩

/-- Plain values, all of them. -/
def V.pvs : List V → Option (List PV)
  | [] => some []
  | .pv p :: vs => match V.pvs vs with | some ps => some (p :: ps) | none => none
  | _ :: _ => none
theorem V.pvs_eq : ∀ {vs : List V} {ps : List PV}, V.pvs vs = some ps → vs = ps.map .pv
  | [], ps, h => by simp only [V.pvs, Option.some.injEq] at h; subst h; rfl
  | .pv p :: vs, ps, h => by
    simp only [V.pvs] at h
    split at h
    · rename_i qs hq
      simp at h
      subst h
      simp [V.pvs_eq hq]
    · cases h
  | .ptr _ _ :: _, _, h => by simp [V.pvs] at h
  | .osl _ _ _ :: _, _, h => by simp [V.pvs] at h
  | .gsl _ _ _ :: _, _, h => by simp [V.pvs] at h
  | .map _ :: _, _, h => by simp [V.pvs] at h
  | .agg _ :: _, _, h => by simp [V.pvs] at h
  | .tup _ :: _, _, h => by simp [V.pvs] at h
  | .fn _ _ _ :: _, _, h => by simp [V.pvs] at h

/-- A slice literal. -/
theorem xj_buildSlice {T e : TypeId} {z : Value} {size bytes k : Nat} {zs : List PV} {parts : Array (Nat × Operand)} {cs : List PV} (id : Nat) (he : ElemIs C.P T e z size bytes) (hzs : z.cells.toList.map leafC = zs) (hk : 0 < k) (hk2 : k * size ≤ 16777216) (hid : σ.av id = true)
    {vs : List V} (hf : fillV (fun i => some (i * size, size)) σ.ob ((mkZ zs (k * size)).map .pv) (parts.toList.map fun p => (p.1, σ.ev n p.2)) = some vs) (hvs : V.pvs vs = some cs) :
    XJ C n ⟨dst, .buildSlice T k parts, ty, pos, after, gd⟩ σ ⟨.osl id size k, [(id, some (.cells e cs))], [id]⟩ := by
  rintro a w Q ⟨m, R, hw⟩
  obtain rfl := V.pvs_eq hvs
  obtain ⟨i, hi, hz, hsize, hbytes⟩ := info_parts he.info
  have hzl : zs.length = z.cells.size := by rw [← hzs]; simp
  have gen : ∀ l : List Nat, RelPL w R (l.map fun i => zs.getD (i % zs.length) .any) (l.map fun i => z.cells[i % z.cells.size]!) := by
    intro l
    induction l with
    | nil => simpa using RelPL.nil
    | cons j l ih =>
      simp only [List.map_cons]
      refine RelPL.cons ?_ ih
      have hpos : 0 < z.cells.size := by rw [he.zs]; exact he.pos
      have hlt : j % z.cells.size < z.cells.size := Nat.mod_lt _ hpos
      rw [hzl, ← hzs]
      have e1 : (z.cells.toList.map leafC).getD (j % z.cells.size) .any = leafC (z.cells[j % z.cells.size]!) := by
        simp [List.getD_eq_getElem?_getD, hlt]
      rw [e1]
      exact leafC_rel w R _
  have h0 : RelPL w R (mkZ zs (k * size)) ((Array.range (k * size)).map (z.cells[· % z.cells.size]!)).toList := by
    have := gen (List.range (k * size))
    simpa [mkZ] using this
  obtain ⟨arr', hfill, hr'⟩ := hw.fill (fun i => some (i * size, size)) parts.toList _ _ _ (RelL.ofP h0) hf
  have hr2 := hr'.toP
  have hparts : (parts.map fun x => (x.1, a.eval x.2)).toList = parts.toList.map fun p => (p.1, a.eval p.2) := by simp
  have hpos : 0 < k * size := Nat.mul_pos hk he.pos
  have hrun := run_buildSlice (P := C.P) w T e k (parts.map fun x => (x.1, a.eval x.2)) arr' i z he.u hi hz (by rw [hsize]; omega) (by rw [hsize]; omega) (by rw [hparts, hsize]; exact hfill)
  have hcl : cs.length = k * size := by
    have : ∀ (l : List (Nat × V)) (cells cs' : List V), fillV (fun i => some (i * size, size)) σ.ob cells l = some cs' → cs'.length = cells.length := by
      intro l
      induction l with
      | nil => intro cells cs' h; simp only [fillV, Option.some.injEq] at h; rw [h]
      | cons p l ih =>
        obtain ⟨q, v⟩ := p
        intro cells cs' h
        simp only [fillV] at h
        rw [Bool.cond_eq_ite] at h
        split at h
        · rename_i hc
          simp only [Bool.and_eq_true] at hc
          rw [ih _ _ h, setL_length]
          have h1 := Nat.eq_of_beq_eq_true hc.1.1.1
          have h2 := Nat.le_of_ble_eq_true hc.1.1.2
          omega
        · cases h
    have := this _ _ _ hf
    simpa [mkZ] using this
  have hrun' : (execOp a.eval ⟨dst, .buildSlice T k parts, ty, pos, after, gd⟩).run C.P w = .ok (.value (.slice (some ⟨w.heap.size, 0, none⟩) k k)) (w.alloc (.cells arr' e)) := by
    simp only [execOp, Sem.run_bind, hrun, Result.andThen_ok, Sem.run_pure]
  unfold Oper.wp
  rw [hrun']
  have hsz : arr'.size = k * size := by have := hr2.length; simp at this; omega
  refine ⟨_, rfl, upd m id (some (w.heap.size, arr'.size)), R, ?_⟩
  rw [St.app_new]
  refine SW.put (hw.alloc hid _ e (.cells e cs) ?_) dst ?_
  · intro w' m' av' hR hm ha hb
    refine ⟨_, hb, rfl, by omega, ?_⟩
    rw [List.take_of_length_le (by simp; omega)]
    exact hr2.mono hR
  · simp only [Rel]
    refine ⟨by simp [avL], fun b N e => ?_⟩
    rw [upd_same] at e
    cases e
    have : k ≤ k * size := Nat.le_mul_of_pos_right k he.pos
    exact ⟨k, rfl, Nat.le_refl _, by simp only [maxLen]; omega, hsz⟩

/-- A part of an array value. -/
theorem xj_indexA {T e : TypeId} {len s : Nat} {kk : IntKind} {i : Int} {cs vs : List V} (j : Nat) (hT : C.P.underlying T = some (.array len e)) (hs : szIs C.P e s) (hr : isRow C.P e) (hx : σ.ev n x = .agg cs) (hy : σ.ev n y = .pv (.int kk i)) (hi : i = (j : Int)) (hj : j < len) (hv : (cs.drop (j * s)).take s = vs) :
    XJ C n ⟨dst, .index T x y, ty, pos, after, gd⟩ σ ⟨.agg vs, [], []⟩ :=
  .val fun a w m R hw => by
    subst hi
    have := hw.ev x
    rw [hx] at this
    simp only [Rel] at this
    obtain ⟨us, he, hr'⟩ := this
    have h2 : (j : Int) < (len : Int) := by omega
    refine ⟨.agg ((us.drop (j * s)).take s).toArray, ?_, ?_⟩
    · simp [execOp, he, hw.int hy, Instr.index, asIntOf, run_underlying hT, hj, hs.run, part, hr.run]
    · simp only [Rel]
      exact ⟨_, rfl, by rw [← hv]; exact (hr'.drop _).take _⟩
theorem xj_indexA1 {T e : TypeId} {len s : Nat} {kk : IntKind} {i : Int} {cs : List V} {v : V} (j : Nat) (hT : C.P.underlying T = some (.array len e)) (hs : szIs C.P e s) (hr : notRow C.P e) (hx : σ.ev n x = .agg cs) (hy : σ.ev n y = .pv (.int kk i)) (hi : i = (j : Int)) (hj : j < len) (hv : cs[j * s]? = some v) :
    XJ C n ⟨dst, .index T x y, ty, pos, after, gd⟩ σ ⟨v, [], []⟩ :=
  .val fun a w m R hw => by
    subst hi
    have := hw.ev x
    rw [hx] at this
    simp only [Rel] at this
    obtain ⟨us, he, hr'⟩ := this
    obtain ⟨u, hu, hrel⟩ := hr'.get hv
    exact ⟨u, by simp [execOp, he, hw.int hy, Instr.index, asIntOf, run_underlying hT, hj, hs.run, part, hr.run, hu], hrel⟩

theorem xj_makeFunc {f : Fn} {fs cs : Array Operand} : XJ C n ⟨dst, .makeFunc f fs cs, ty, pos, after, gd⟩ σ ⟨.fn f (fs.toList.map (σ.ev n)) (cs.toList.map (σ.ev n)), [], []⟩ :=
  .val fun a w m R hw => by
    refine ⟨.func f (fs.map a.eval) (cs.map a.eval), by simp [execOp, Instr.makeFunc], ?_⟩
    simp only [Rel]
    exact ⟨_, _, by simp only [← Array.toList_map, Array.toArray_toList], hw.evs fs.toList, hw.evs cs.toList⟩

end

/-- Values built in a region that draws: parts of plain values. -/
def V.plain : V → Bool
  | .pv _ => true
  | _ => false
theorem liveB_plain {ob ob' : Nat → Option Ob} : ∀ {v : V}, v.plain = true → v.liveB ob = v.liveB ob'
  | .pv _, _ => rfl
theorem fillV_plain {place : Nat → Option (Nat × Nat)} {ob ob' : Nat → Option Ob} : ∀ (l : List (Nat × V)) (cells : List V), (l.all fun p => p.2.plain || p.2.cells.all V.plain && (match p.2 with | .agg _ => true | _ => false)) = true → fillV place ob cells l = fillV place ob' cells l
  | [], _, _ => rfl
  | (i, v) :: l, cells, h => by
    simp only [List.all_cons, Bool.and_eq_true] at h
    simp only [fillV]
    have hv : (v.cells.all (fun c => c.leaf && c.liveB ob) && v.liveB ob) = (v.cells.all (fun c => c.leaf && c.liveB ob') && v.liveB ob') := by
      cases v with
      | pv p =>
        have : ∀ c ∈ V.cells (.pv p), c.liveB ob = c.liveB ob' := by
          intro c hc
          cases p with
          | agg ps =>
            simp only [V.cells, List.mem_map] at hc
            obtain ⟨q, _, rfl⟩ := hc
            rfl
          | _ => simp only [V.cells, List.mem_singleton] at hc; subst hc; rfl
        have e : (V.cells (.pv p)).all (fun c => c.leaf && c.liveB ob) = (V.cells (.pv p)).all (fun c => c.leaf && c.liveB ob') := by
          rw [Bool.eq_iff_iff, List.all_eq_true, List.all_eq_true]
          exact ⟨fun h c hc => by rw [← this c hc]; exact h c hc, fun h c hc => by rw [this c hc]; exact h c hc⟩
        rw [e]; rfl
      | agg cs =>
        have hp : cs.all V.plain = true := by simpa [V.plain, V.cells] using h.1
        have e : cs.all (fun c => c.leaf && c.liveB ob) = cs.all (fun c => c.leaf && c.liveB ob') := by
          rw [Bool.eq_iff_iff, List.all_eq_true, List.all_eq_true]
          exact ⟨fun h c hc => by rw [← liveB_plain (List.all_eq_true.1 hp c hc)]; exact h c hc, fun h c hc => by rw [liveB_plain (ob' := ob') (List.all_eq_true.1 hp c hc)]; exact h c hc⟩
        simp only [V.cells, e]; rfl
      | _ => simp [V.plain] at h
    have ih := fun c => fillV_plain (place := place) (ob := ob) (ob' := ob') l c h.2
    split
    · rfl
    · rw [Bool.and_assoc, hv, ← Bool.and_assoc]
      simp only [ih]
section
variable {n : Nat} {ops : Array Oper} {σ τ : St} {s : OS} {rd : List Nat} {dst : Option Tmp} {ty : TypeId} {pos : String} {after : Array Edge} {gd : Option (Nat × Bool)} {T : TypeId} {parts : Array (Nat × Operand)} {place : Nat → Option (Nat × Nat)} {cells cs' : List V}
theorem Agr.fill (h : Agr n ops ⟨dst, .build T parts, ty, pos, after, gd⟩ σ τ s rd) (hp : ((parts.toList.map fun p => (p.1, σ.ev n p.2)).all fun p => p.2.plain || p.2.cells.all V.plain && (match p.2 with | .agg _ => true | _ => false)) = true)
    (hf : fillV place σ.ob cells (parts.toList.map fun p => (p.1, σ.ev n p.2)) = some cs') : fillV place τ.ob cells (parts.toList.map fun p => (p.1, τ.ev n p.2)) = some cs' := by
  rw [h.partsB, fillV_plain (ob' := σ.ob) _ _ hp]; exact hf
theorem Agr.fillS {k : Nat} (h : Agr n ops ⟨dst, .buildSlice T k parts, ty, pos, after, gd⟩ σ τ s rd) (hp : ((parts.toList.map fun p => (p.1, σ.ev n p.2)).all fun p => p.2.plain || p.2.cells.all V.plain && (match p.2 with | .agg _ => true | _ => false)) = true)
    (hf : fillV place σ.ob cells (parts.toList.map fun p => (p.1, σ.ev n p.2)) = some cs') : fillV place τ.ob cells (parts.toList.map fun p => (p.1, τ.ev n p.2)) = some cs' := by
  rw [h.partsBS, fillV_plain (ob' := σ.ob) _ _ hp]; exact hf
end
end Go.Proofs.Ytkalgjnhaicabaa
