/-
  Our own step logic: strings and their bytes. No statement of the program is proved here.
-/
import Derived.Test.YtkalgjnhaicabaaE15
import Derived.Lib.ConvBytes
import Derived.Laws.IdiomStrings
import Derived.Laws.BytesArg
namespace Go.Proofs.Ytkalgjnhaicabaa
open Go.RowKit

/-- The bytes of a text, as cells. -/
def bytesP (l : List UInt8) : List PV := l.map fun b => .int .u8 (b.toNat : Int)
theorem bytesP_vals {w : World} {R : Nat → Prop} : ∀ {l : List UInt8} {us : List Value}, RelPL w R (bytesP l) us → us = l.map fun b => Value.int .u8 (b.toNat : Int)
  | [], us, h => by simpa [bytesP, RelPL] using h
  | b :: l, us, h => by
    simp only [bytesP, List.map_cons, RelPL] at h
    obtain ⟨u, vs, rfl, h1, h2⟩ := h
    simp only [RelP] at h1
    rw [h1, bytesP_vals (l := l) h2]
    rfl

section
variable {C : Ctx} {n : Nat} {σ : St} {dst : Option Tmp} {ty t t' : TypeId} {pos : String} {after : Array Edge} {gd : Option (Nat × Bool)} {x y : Operand}

/-- string(b) -/
theorem xj_toS {src d e : TypeId} (l : List UInt8) (hs : C.P.underlying src = some (.slice e)) (he : C.P.underlying e = some (.int .u8)) (hd : C.P.underlying d = some .string) (hx : SrcIs n σ x l.length (bytesP l)) :
    XJ C n ⟨dst, .convert src d x, ty, pos, after, gd⟩ σ ⟨.pv (.str ⟨l.toArray⟩), [], []⟩ :=
  .val fun a w m R hw => ⟨.string ⟨l.toArray⟩, by
    obtain ⟨A, c, us, hev, hr, hrow⟩ := hx.row hw
    have hus := bytesP_vals hr
    have hrun : (convert src d (.slice A l.length c)).run C.P w = .ok (.string ⟨l.toArray⟩) w := by
      by_cases hne : l = []
      · subst hne
        cases A with
        | none => exact run_convert_bytes_nil (P := C.P) w src e hs he 0 c d hd
        | some a => exact run_convert_bytes_back (P := C.P) w src d e a c [] hs he hd (fun j hj => by simp at hj)
      · obtain ⟨b, off, rfl, _, _, hc⟩ := hrow (by rw [hus]; simpa using hne)
        refine run_convert_bytes_back (P := C.P) w src d e _ c l hs he hd (fun j hj => ?_)
        have := hc j (by rw [hus]; simpa using hj)
        rw [hus] at this
        have e : (⟨b, off, none⟩ : Addr).add j = ⟨b, off + j, none⟩ := by
          unfold Addr.add
          split
          · subst_vars; simp
          · rfl
        rw [e, this]
        simp [hj]
    simp only [execOp, hev, Sem.run_bind, hrun, Result.andThen_ok]
    rfl, by simp only [Rel, RelP]⟩

/-- []byte(s) -/
theorem xj_toB {src d e : TypeId} {s : ByteArray} {u : TypeDesc} (hs : C.P.underlying src = some u) (hd : C.P.underlying d = some (.slice e)) (he : C.P.underlying e = some (.int .u8)) (hx : σ.ev n x = .pv (.str s)) (hl : s.size ≤ 1000000000) :
    XJ C n ⟨dst, .convert src d x, ty, pos, after, gd⟩ σ ⟨.pv (.sl (some false) s.size (bytesP s.data.toList)), [], []⟩ := by
  rintro a w Q ⟨m, R, hw⟩
  have hrun : (execOp a.eval ⟨dst, .convert src d x, ty, pos, after, gd⟩).run C.P w = .ok (.value (.slice (some ⟨w.heap.size, 0, none⟩) s.size (grownCap w s.size 0 e))) (Lib.bytesWorld w e s) := by
    simp only [execOp, hw.str hx, Sem.run_bind, Lib.run_convert_string_bytes (P := C.P) w src d e s hs hd he, Result.andThen_ok]
    rfl
  unfold Oper.wp
  rw [hrun]
  have hold := Lib.bytesWorld_at_old w e s
  have hsz := Lib.bytesWorld_size w e s
  have hR : ∀ b, R b → (R b ∨ b = w.heap.size) ∧ (Lib.bytesWorld w e s).heap[b]? = w.heap[b]? := fun b hb => ⟨.inl hb, hold b (hw.hr.rsz b hb)⟩
  refine ⟨_, rfl, m, fun b => R b ∨ b = w.heap.size, ?_⟩
  rw [St.app_new]
  refine SW.put (hw.world (ob' := obL [] σ.ob) (av' := avL [] σ.av) ⟨hw.hr.dom, hw.hr.free, ?_, hw.hr.inj, ?_, ?_, ?_, fun b hb => .inl (hw.hr.r0 b hb), ?_, hw.hr.keep, hw.hr.res⟩ hR (fun _ _ _ e => e) (fun _ e => e)) dst ?_
  · intro i o b N h1 h2
    exact (hw.hr.obj i o b N h1 h2).mono hR (fun _ _ _ e => e) (fun _ e => e) (hold b (hw.hr.own i b N h2).1)
  · intro i b N h1
    obtain ⟨h2, h3, h4⟩ := hw.hr.own i b N h1
    refine ⟨by omega, ?_, h4⟩
    rintro (h5 | h5)
    · exact h3 h5
    · omega
  · rintro b (hb | hb)
    · have := hw.hr.rsz b hb; omega
    · omega
  · rintro b (hb | hb)
    · exact hw.hr.rfr b hb
    · refine .inr (.inl ?_); have := hw.hr.frame.size; omega
  · refine ⟨hw.hr.frame.os, hw.hr.frame.tape, hw.hr.frame.output, ?_, ?_⟩
    · have := hw.hr.frame.size; omega
    · intro k hk hF
      rw [hold k (by have := hw.hr.frame.size; omega)]
      exact hw.hr.frame.block k hk hF
  · simp only [Rel, RelP]
    have hcap := grownCap_ge w s.size 0 e
    refine ⟨_, _, rfl, ?_, ?_, (fun _ e => by cases e; rfl), (fun e => by cases e), fun _ => ⟨w.heap.size, 0, s.data.toList.map (fun b => Value.int .u8 (b.toNat : Int)), rfl, ?_, .inr rfl, ?_⟩⟩
    · exact hcap
    · exact grownCap_le_maxLen w s.size 0 e (by simp only [maxLen]; omega)
    · generalize s.data.toList = l
      induction l with
      | nil => exact RelPL.nil
      | cons b l ih => exact RelPL.cons (by simp only [RelP]) ih
    · intro j hj
      have hj' : j < s.size := by simpa using hj
      rw [Nat.zero_add, Lib.bytesWorld_cell w e s j hj']
      simp [List.getD, hj']
/-- A slice literal that is never written: a plain value. -/
theorem xj_buildSliceP {T e : TypeId} {z : Value} {size bytes k : Nat} {zs : List PV} {parts : Array (Nat × Operand)} {cs : List PV} (nf : Option Bool) (hnf : nf ≠ some true) (he : ElemIs C.P T e z size bytes) (hzs : z.cells.toList.map leafC = zs) (hk : 0 < k) (hk2 : k * size ≤ 16777216) 
    {vs : List V} (hf : fillV (fun i => some (i * size, size)) σ.ob ((mkZ zs (k * size)).map .pv) (parts.toList.map fun p => (p.1, σ.ev n p.2)) = some vs) (hvs : V.pvs vs = some cs) :
    XJ C n ⟨dst, .buildSlice T k parts, ty, pos, after, gd⟩ σ ⟨.pv (.sl nf k cs), [], []⟩ := by
  rintro a w Q ⟨m, R, hw⟩
  obtain rfl := V.pvs_eq hvs
  obtain ⟨i, hi, hz, hsize, hbytes⟩ := info_parts he.info
  have hzl : zs.length = z.cells.size := by rw [← hzs]; simp
  have gen : ∀ l : List Nat, RelPL w R (l.map fun i => zs.getD (i % zs.length) .any) (l.map fun i => z.cells[i % z.cells.size]!) := by
    intro l
    induction l with
    | nil => simpa using RelPL.nil
    | cons j l ih =>
      simp only [List.map_cons]
      refine RelPL.cons ?_ ih
      have hpos : 0 < z.cells.size := by rw [he.zs]; exact he.pos
      have hlt : j % z.cells.size < z.cells.size := Nat.mod_lt _ hpos
      rw [hzl, ← hzs]
      have e1 : (z.cells.toList.map leafC).getD (j % z.cells.size) .any = leafC (z.cells[j % z.cells.size]!) := by
        simp [List.getD_eq_getElem?_getD, hlt]
      rw [e1]
      exact leafC_rel w R _
  have h0 : RelPL w R (mkZ zs (k * size)) ((Array.range (k * size)).map (z.cells[· % z.cells.size]!)).toList := by
    have := gen (List.range (k * size))
    simpa [mkZ] using this
  obtain ⟨arr', hfill, hr'⟩ := hw.fill (fun i => some (i * size, size)) parts.toList _ _ _ (RelL.ofP h0) hf
  have hr2 := hr'.toP
  have hparts : (parts.map fun x => (x.1, a.eval x.2)).toList = parts.toList.map fun p => (p.1, a.eval p.2) := by simp
  have hpos : 0 < k * size := Nat.mul_pos hk he.pos
  have hrun := run_buildSlice (P := C.P) w T e k (parts.map fun x => (x.1, a.eval x.2)) arr' i z he.u hi hz (by rw [hsize]; omega) (by rw [hsize]; omega) (by rw [hparts, hsize]; exact hfill)
  have hcl : cs.length = k * size := by
    have : ∀ (l : List (Nat × V)) (cells cs' : List V), fillV (fun i => some (i * size, size)) σ.ob cells l = some cs' → cs'.length = cells.length := by
      intro l
      induction l with
      | nil => intro cells cs' h; simp only [fillV, Option.some.injEq] at h; rw [h]
      | cons p l ih =>
        obtain ⟨q, v⟩ := p
        intro cells cs' h
        simp only [fillV] at h
        rw [Bool.cond_eq_ite] at h
        split at h
        · rename_i hc
          simp only [Bool.and_eq_true] at hc
          rw [ih _ _ h, setL_length]
          have h1 := Nat.eq_of_beq_eq_true hc.1.1.1
          have h2 := Nat.le_of_ble_eq_true hc.1.1.2
          omega
        · cases h
    have := this _ _ _ hf
    simpa [mkZ] using this
  have hrun' : (execOp a.eval ⟨dst, .buildSlice T k parts, ty, pos, after, gd⟩).run C.P w = .ok (.value (.slice (some ⟨w.heap.size, 0, none⟩) k k)) (w.alloc (.cells arr' e)) := by
    simp only [execOp, Sem.run_bind, hrun, Result.andThen_ok, Sem.run_pure]
  unfold Oper.wp
  rw [hrun']
  have hsz : arr'.size = k * size := by have := hr2.length; simp at this; omega
  have hold : ∀ q, q < w.heap.size → (w.alloc (.cells arr' e)).heap[q]? = w.heap[q]? := fun q hq => Below.heap_alloc w _ q hq
  have hsize' : (w.alloc (.cells arr' e)).heap.size = w.heap.size + 1 := by simp
  have hR : ∀ b, R b → (R b ∨ b = w.heap.size) ∧ (w.alloc (.cells arr' e)).heap[b]? = w.heap[b]? := fun b hb => ⟨.inl hb, hold b (hw.hr.rsz b hb)⟩
  refine ⟨_, rfl, m, fun b => R b ∨ b = w.heap.size, ?_⟩
  rw [St.app_new]
  refine SW.put (hw.world (ob' := obL [] σ.ob) (av' := avL [] σ.av) ⟨hw.hr.dom, hw.hr.free, ?_, hw.hr.inj, ?_, ?_, ?_, fun b hb => .inl (hw.hr.r0 b hb), ?_, hw.hr.keep, hw.hr.res⟩ hR (fun _ _ _ e => e) (fun _ e => e)) dst ?_
  · intro i o b N h1 h2
    exact (hw.hr.obj i o b N h1 h2).mono hR (fun _ _ _ e => e) (fun _ e => e) (hold b (hw.hr.own i b N h2).1)
  · intro i b N h1
    obtain ⟨h2, h3, h4⟩ := hw.hr.own i b N h1
    refine ⟨by omega, ?_, h4⟩
    rintro (h5 | h5)
    · exact h3 h5
    · omega
  · rintro b (hb | hb)
    · have := hw.hr.rsz b hb; omega
    · omega
  · rintro b (hb | hb)
    · exact hw.hr.rfr b hb
    · refine .inr (.inl ?_); have := hw.hr.frame.size; omega
  · refine ⟨hw.hr.frame.os, hw.hr.frame.tape, hw.hr.frame.output, ?_, ?_⟩
    · have := hw.hr.frame.size; omega
    · intro k hk hF
      rw [hold k (by have := hw.hr.frame.size; omega)]
      exact hw.hr.frame.block k hk hF
  · simp only [Rel, RelP]
    have hkk : k ≤ k * size := Nat.le_mul_of_pos_right k he.pos
    refine ⟨_, _, rfl, Nat.le_refl _, by simp only [maxLen]; omega, ?_, fun e => absurd e hnf, fun _ => ⟨w.heap.size, 0, arr'.toList, rfl, hr2.mono hR, .inr rfl, ?_⟩⟩
    · intro b hb
      cases b with
      | true => exact absurd hb hnf
      | false => rfl
    · intro j hj
      rw [Nat.zero_add, cell_of_row _ w.heap.size j arr' e (0, 0) (heap_alloc_new w _)]
      simp

end
end Go.Proofs.Ytkalgjnhaicabaa
