/-
  Our own step logic: the operations that only compute. No statement of the program is proved here.
-/
import Derived.Test.YtkalgjnhaicabaaE2
namespace Go.Proofs.Ytkalgjnhaicabaa
open Go.RowKit

theorem St.app_pure (σ : St) (d : Option Tmp) (v : V) : σ.app d ⟨v, [], []⟩ = σ.put d v := by
  cases d <;> rfl

section
variable {C : Ctx} {n : Nat} {σ : St} {dst : Option Tmp} {ty t t' : TypeId} {pos : String} {after : Array Edge} {gd : Option (Nat × Bool)} {x y : Operand}

theorem XJ.val {o : Oper} {v : V} (h : ∀ a w m R, SW C n σ a w m R → ∃ u, (execOp a.eval o).run C.P w = .ok (.value u) w ∧ Rel w m σ.av R v u) : XJ C n o σ ⟨v, [], []⟩ := by
  rintro a w Q ⟨m, R, hw⟩
  obtain ⟨u, hrun, hrel⟩ := h a w m R hw
  unfold Oper.wp
  rw [hrun]
  exact ⟨_, rfl, m, R, St.app_pure σ o.dst v ▸ hw.put o.dst hrel⟩

theorem xj_move : XJ C n ⟨dst, .move x, ty, pos, after, gd⟩ σ ⟨σ.ev n x, [], []⟩ :=
  .val fun a w m R hw => ⟨a.eval x, rfl, hw.ev x⟩
theorem xj_assign : XJ C n ⟨dst, .assign x, ty, pos, after, gd⟩ σ ⟨σ.ev n x, [], []⟩ :=
  .val fun a w m R hw => ⟨a.eval x, rfl, hw.ev x⟩

theorem SW.pv {a : Act} {w : World} {m : Gm} {R : Nat → Prop} (h : SW C n σ a w m R) {x : Operand} {p : PV} (hx : σ.ev n x = .pv p) : RelP w R p (a.eval x) := by
  have := h.ev x
  rw [hx] at this
  simpa only [Rel] using this
theorem SW.int {a : Act} {w : World} {m : Gm} {R : Nat → Prop} (h : SW C n σ a w m R) {x : Operand} {k : IntKind} {i : Int} (hx : σ.ev n x = .pv (.int k i)) : a.eval x = .int k i := by
  simpa only [RelP] using h.pv hx
theorem SW.bool {a : Act} {w : World} {m : Gm} {R : Nat → Prop} (h : SW C n σ a w m R) {x : Operand} {b : Bool} (hx : σ.ev n x = .pv (.bool b)) : a.eval x = .bool b := by
  simpa only [RelP] using h.pv hx
theorem SW.str {a : Act} {w : World} {m : Gm} {R : Nat → Prop} (h : SW C n σ a w m R) {x : Operand} {s : ByteArray} (hx : σ.ev n x = .pv (.str s)) : a.eval x = .string s := by
  simpa only [RelP] using h.pv hx

theorem xj_pick {c x y : Operand} {b : Bool} (hc : σ.ev n c = .pv (.bool b)) : XJ C n ⟨dst, .pick c x y, ty, pos, after, gd⟩ σ ⟨bif b then σ.ev n x else σ.ev n y, [], []⟩ :=
  .val fun a w m R hw => by
    refine ⟨bif b then a.eval x else a.eval y, ?_, ?_⟩
    · simp only [execOp, hw.bool hc, asBool]
      cases b <;> rfl
    · cases b
      · exact hw.ev y
      · exact hw.ev x

/-- The value of a number, a bool or a string. -/
def litV : PV → Value
  | .int k n => .int k n
  | .bool b => .bool b
  | .str s => .string s
  | _ => undef

def PV.scal : PV → Bool
  | .int _ _ | .bool _ | .str _ => true
  | _ => false
theorem XJ.lit {o : Oper} {p : PV} (hp : p.scal = true) (h : ∀ a w m R, SW C n σ a w m R → (execOp a.eval o).run C.P w = .ok (.value (litV p)) w) : XJ C n o σ ⟨.pv p, [], []⟩ :=
  .val fun a w m R hw => ⟨litV p, h a w m R hw, by cases p <;> simp [PV.scal] at hp <;> simp only [Rel, RelP, litV]⟩

/-- What a binary operator on integers gives. -/
def binI (op : BinOp) (k : IntKind) (a b : Int) : Option PV :=
  match op with
  | .add => some (.int k (k.wrap (a + b)))
  | .sub => some (.int k (k.wrap (a - b)))
  | .mul => some (.int k (k.wrap (a * b)))
  | .eql => some (.bool (a == b))
  | .neq => some (.bool (a != b))
  | .lss => some (.bool (decide (a < b)))
  | .leq => some (.bool (decide (a ≤ b)))
  | .gtr => some (.bool (decide (a > b)))
  | .geq => some (.bool (decide (a ≥ b)))
  | .and => some (.int k (k.wrap (BitVec.ofInt k.bits a &&& BitVec.ofInt k.bits b).toNat))
  | .or => some (.int k (k.wrap (BitVec.ofInt k.bits a ||| BitVec.ofInt k.bits b).toNat))
  | .xor => some (.int k (k.wrap (BitVec.ofInt k.bits a ^^^ BitVec.ofInt k.bits b).toNat))
  | .andNot => some (.int k (k.wrap (BitVec.ofInt k.bits a &&& ~~~ (BitVec.ofInt k.bits b)).toNat))
  | _ => none

theorem xj_bin {op : BinOp} {k : IntKind} {i j : Int} {p : PV} (hx : σ.ev n x = .pv (.int k i)) (hy : σ.ev n y = .pv (.int k j)) (hp : binI op k i j = some p) :
    XJ C n ⟨dst, .binOp op t x y t', ty, pos, after, gd⟩ σ ⟨.pv p, [], []⟩ :=
  .lit (by cases op <;> simp only [binI, Option.some.injEq, reduceCtorEq] at hp <;> subst hp <;> rfl) fun a w m R hw => by
    have e1 := hw.int hx
    have e2 := hw.int hy
    cases op <;> simp only [binI, Option.some.injEq, reduceCtorEq] at hp <;> subst hp <;>
      simp [execOp, e1, e2, eqGuard, binOp, Op.intArith, Op.intCmp, Op.intBits, litV]

theorem wrap_in {i : Int} (h : -9223372036854775808 ≤ i ∧ i ≤ 9223372036854775807) : IntKind.i64.wrap i = i := IntWalk.i64_in _ h

theorem xj_add {i j : Int} (hx : σ.ev n x = .pv (.int .i64 i)) (hy : σ.ev n y = .pv (.int .i64 j)) (h : -9223372036854775808 ≤ i + j ∧ i + j ≤ 9223372036854775807) :
    XJ C n ⟨dst, .binOp .add t x y t', ty, pos, after, gd⟩ σ ⟨.pv (.int .i64 (i + j)), [], []⟩ :=
  xj_bin hx hy (by simp only [binI, wrap_in h])
theorem xj_sub {i j : Int} (hx : σ.ev n x = .pv (.int .i64 i)) (hy : σ.ev n y = .pv (.int .i64 j)) (h : -9223372036854775808 ≤ i - j ∧ i - j ≤ 9223372036854775807) :
    XJ C n ⟨dst, .binOp .sub t x y t', ty, pos, after, gd⟩ σ ⟨.pv (.int .i64 (i - j)), [], []⟩ :=
  xj_bin hx hy (by simp only [binI, wrap_in h])
theorem xj_mul {i j : Int} (hx : σ.ev n x = .pv (.int .i64 i)) (hy : σ.ev n y = .pv (.int .i64 j)) (h : -9223372036854775808 ≤ i * j ∧ i * j ≤ 9223372036854775807) :
    XJ C n ⟨dst, .binOp .mul t x y t', ty, pos, after, gd⟩ σ ⟨.pv (.int .i64 (i * j)), [], []⟩ :=
  xj_bin hx hy (by simp only [binI, wrap_in h])
theorem xj_quo {k : IntKind} {i j : Int} (hx : σ.ev n x = .pv (.int k i)) (hy : σ.ev n y = .pv (.int k j)) (h : j ≠ 0) :
    XJ C n ⟨dst, .binOp .quo t x y t', ty, pos, after, gd⟩ σ ⟨.pv (.int k (k.wrap (i.tdiv j))), [], []⟩ :=
  .lit rfl fun a w m R hw => by simp [execOp, hw.int hx, hw.int hy, eqGuard, binOp, Op.intDiv, h, litV]
theorem xj_rem {k : IntKind} {i j : Int} (hx : σ.ev n x = .pv (.int k i)) (hy : σ.ev n y = .pv (.int k j)) (h : j ≠ 0) :
    XJ C n ⟨dst, .binOp .rem t x y t', ty, pos, after, gd⟩ σ ⟨.pv (.int k (i.tmod j)), [], []⟩ :=
  .lit rfl fun a w m R hw => by simp [execOp, hw.int hx, hw.int hy, eqGuard, binOp, Op.intDiv, h, litV]
theorem xj_shl {k k' : IntKind} {i j : Int} (hx : σ.ev n x = .pv (.int k i)) (hy : σ.ev n y = .pv (.int k' j)) (h : 0 ≤ j) :
    XJ C n ⟨dst, .binOp .shl t x y t', ty, pos, after, gd⟩ σ ⟨.pv (.int k (k.wrap (i * 2 ^ (min j.toNat k.bits)))), [], []⟩ :=
  .lit rfl fun a w m R hw => by simp [execOp, hw.int hx, hw.int hy, eqGuard, binOp, Op.shift, Int.not_lt.2 h, litV]
theorem xj_shr {k k' : IntKind} {i j : Int} (hx : σ.ev n x = .pv (.int k i)) (hy : σ.ev n y = .pv (.int k' j)) (h : 0 ≤ j) :
    XJ C n ⟨dst, .binOp .shr t x y t', ty, pos, after, gd⟩ σ ⟨.pv (.int k (i.fdiv (2 ^ (min j.toNat k.bits)))), [], []⟩ :=
  .lit rfl fun a w m R hw => by simp [execOp, hw.int hx, hw.int hy, eqGuard, binOp, Op.shift, Int.not_lt.2 h, litV]

/-- What a comparison of strings gives. -/
def binS (op : BinOp) (a b : ByteArray) : Option PV :=
  match op with
  | .eql => some (.bool (a.toList == b.toList))
  | .neq => some (.bool !(a.toList == b.toList))
  | .lss => some (.bool (Op.bytesLess a.toList b.toList))
  | .leq => some (.bool (Op.bytesLess a.toList b.toList || a.toList == b.toList))
  | .gtr => some (.bool !(Op.bytesLess a.toList b.toList || a.toList == b.toList))
  | .geq => some (.bool !(Op.bytesLess a.toList b.toList))
  | _ => none
theorem xj_binS {op : BinOp} {i j : ByteArray} {p : PV} (hx : σ.ev n x = .pv (.str i)) (hy : σ.ev n y = .pv (.str j)) (hp : binS op i j = some p) :
    XJ C n ⟨dst, .binOp op t x y t', ty, pos, after, gd⟩ σ ⟨.pv p, [], []⟩ :=
  .lit (by cases op <;> simp only [binS, Option.some.injEq, reduceCtorEq] at hp <;> subst hp <;> rfl) fun a w m R hw => by
    have e1 := hw.str hx
    have e2 := hw.str hy
    cases op <;> simp only [binS, Option.some.injEq, reduceCtorEq] at hp <;> subst hp <;>
      simp [execOp, e1, e2, eqGuard, binOp, Op.stringOp, litV]
theorem xj_cat {i j : ByteArray} (hx : σ.ev n x = .pv (.str i)) (hy : σ.ev n y = .pv (.str j)) (h : i.size + j.size ≤ 9223372036854775807) :
    XJ C n ⟨dst, .binOp .add t x y t', ty, pos, after, gd⟩ σ ⟨.pv (.str (i ++ j)), [], []⟩ :=
  .val fun a w m R hw => ⟨.string (i ++ j), by
    have hm : IntKind.i64.max = 9223372036854775807 := by decide
    simp [execOp, hw.str hx, hw.str hy, eqGuard, binOp, Op.stringOp]
    omega, by simp only [Rel, RelP]⟩

theorem xj_eqlB {i j : Bool} (hu : C.P.underlying t = some .bool) (hx : σ.ev n x = .pv (.bool i)) (hy : σ.ev n y = .pv (.bool j)) :
    XJ C n ⟨dst, .binOp .eql t x y t', ty, pos, after, gd⟩ σ ⟨.pv (.bool (i == j)), [], []⟩ :=
  .val fun a w m R hw => ⟨.bool (i == j), by
    simp [execOp, hw.bool hx, hw.bool hy, eqGuard, run_eql_bool _ _ _ _ hu], by simp only [Rel, RelP]⟩
theorem xj_neqB {i j : Bool} (hu : C.P.underlying t = some .bool) (hx : σ.ev n x = .pv (.bool i)) (hy : σ.ev n y = .pv (.bool j)) :
    XJ C n ⟨dst, .binOp .neq t x y t', ty, pos, after, gd⟩ σ ⟨.pv (.bool (i != j)), [], []⟩ :=
  .val fun a w m R hw => ⟨.bool (i != j), by
    simp [execOp, hw.bool hx, hw.bool hy, eqGuard, run_neq_bool _ _ _ _ hu]; cases i <;> cases j <;> rfl, by simp only [Rel, RelP]⟩

theorem xj_eqlNil {e : TypeId} {b : Bool} {k : Nat} {cs : List PV} (hu : C.P.underlying t = some (.slice e)) (hx : σ.ev n x = .pv (.sl (some b) k cs)) :
    XJ C n ⟨dst, .binOp .eql t x (.const (.slice none 0 0)) t', ty, pos, after, gd⟩ σ ⟨.pv (.bool b), [], []⟩ :=
  .val fun a w m R hw => by
    have := hw.pv hx
    simp only [RelP] at this
    obtain ⟨A, c, e, _, _, hb, _⟩ := this
    have hb := hb b rfl
    have hc : a.eval (.const (.slice none 0 0)) = .slice none 0 0 := rfl
    exact ⟨.bool b, by simp [execOp, e, eqGuard, binOp, hc, run_equal_slice_nil _ _ _ _ _ _ hu, hb], by simp only [Rel, RelP]⟩
theorem xj_neqNil {e : TypeId} {b : Bool} {k : Nat} {cs : List PV} (hu : C.P.underlying t = some (.slice e)) (hx : σ.ev n x = .pv (.sl (some b) k cs)) :
    XJ C n ⟨dst, .binOp .neq t x (.const (.slice none 0 0)) t', ty, pos, after, gd⟩ σ ⟨.pv (.bool (!b)), [], []⟩ :=
  .val fun a w m R hw => by
    have := hw.pv hx
    simp only [RelP] at this
    obtain ⟨A, c, e, _, _, hb, _⟩ := this
    have hb := hb b rfl
    have hc : a.eval (.const (.slice none 0 0)) = .slice none 0 0 := rfl
    exact ⟨.bool (!b), by simp [execOp, e, eqGuard, binOp, hc, run_equal_slice_nil _ _ _ _ _ _ hu, hb], by simp only [Rel, RelP]⟩

theorem xj_not {b : Bool} (hx : σ.ev n x = .pv (.bool b)) : XJ C n ⟨dst, .unOp .not t x, ty, pos, after, gd⟩ σ ⟨.pv (.bool (!b)), [], []⟩ :=
  .val fun a w m R hw => ⟨.bool (!b), by simp [execOp, hw.bool hx, Op.unary], by simp only [Rel, RelP]⟩
theorem xj_neg {i : Int} (hx : σ.ev n x = .pv (.int .i64 i)) (h : -9223372036854775807 ≤ i) (h2 : i ≤ 9223372036854775807) : XJ C n ⟨dst, .unOp .neg t x, ty, pos, after, gd⟩ σ ⟨.pv (.int .i64 (-i)), [], []⟩ :=
  .val fun a w m R hw => ⟨.int .i64 (-i), by
    have := wrap_in (i := -i) (by omega)
    simp [execOp, hw.int hx, Op.unary, Op.intArith, this], by simp only [Rel, RelP]⟩
theorem xj_conv {k k' : IntKind} {i : Int} {src d : TypeId} {sd : TypeDesc} (hs : C.P.underlying src = some sd) (hd : C.P.underlying d = some (.int k')) (hx : σ.ev n x = .pv (.int k i)) :
    XJ C n ⟨dst, .convert src d x, ty, pos, after, gd⟩ σ ⟨.pv (.int k' (k'.wrap i)), [], []⟩ :=
  .val fun a w m R hw => ⟨.int k' (k'.wrap i), by
    simp only [execOp, hw.int hx, convert, Sem.run_bind, run_underlying hs, run_underlying hd, Result.andThen_ok]
    cases sd <;> simp [Conv.intToInt], by simp only [Rel, RelP]⟩

theorem xj_extractP {ps : List PV} {p : PV} {i : Nat} (hx : σ.ev n x = .pv (.tup ps)) (hp : ps[i]? = some p) : XJ C n ⟨dst, .extract x i, ty, pos, after, gd⟩ σ ⟨.pv p, [], []⟩ :=
  .val fun a w m R hw => by
    have := hw.pv hx
    simp only [RelP] at this
    obtain ⟨us, e, hl⟩ := this
    obtain ⟨u, hu, hr⟩ := hl.get hp
    exact ⟨u, by simp [execOp, e, Instr.extract, hu], by simpa only [Rel] using hr⟩
theorem xj_extract {ps : List V} {p : V} {i : Nat} (hx : σ.ev n x = .tup ps) (hp : ps[i]? = some p) : XJ C n ⟨dst, .extract x i, ty, pos, after, gd⟩ σ ⟨p, [], []⟩ :=
  .val fun a w m R hw => by
    have := hw.ev x
    rw [hx] at this
    simp only [Rel] at this
    obtain ⟨us, e, hl⟩ := this
    obtain ⟨u, hu, hr⟩ := hl.get hp
    exact ⟨u, by simp [execOp, e, Instr.extract, hu], hr⟩

theorem xj_lenS {s : ByteArray} (hu : C.P.underlying t = some .string) (hx : σ.ev n x = .pv (.str s)) :
    XJ C n ⟨dst, .call { callee := .builtin .len, args := #[x], argTypes := #[t] }, ty, pos, after, gd⟩ σ ⟨.pv (.int .i64 s.size), [], []⟩ :=
  .val fun a w m R hw => ⟨.int .i64 s.size, by simp [execOp, resolve, invoke, builtin, Builtin.len_, hw.str hx, run_underlying hu, goInt], by simp only [Rel, RelP]⟩
theorem xj_len {e : TypeId} {b : Option Bool} {k : Nat} {cs : List PV} (hu : C.P.underlying t = some (.slice e)) (hx : σ.ev n x = .pv (.sl b k cs)) :
    XJ C n ⟨dst, .call { callee := .builtin .len, args := #[x], argTypes := #[t] }, ty, pos, after, gd⟩ σ ⟨.pv (.int .i64 k), [], []⟩ :=
  .val fun a w m R hw => by
    have := hw.pv hx
    simp only [RelP] at this
    obtain ⟨A, c, e, _⟩ := this
    exact ⟨.int .i64 k, by simp [execOp, resolve, invoke, builtin, Builtin.len_, e, run_underlying hu, goInt], by simp only [Rel, RelP]⟩
theorem xj_lenO {e : TypeId} {id sz k : Nat} {o : Ob} (hu : C.P.underlying t = some (.slice e)) (hx : σ.ev n x = .osl id sz k) (ho : σ.ob id = some o) (hre : o.real = true := by rfl) :
    XJ C n ⟨dst, .call { callee := .builtin .len, args := #[x], argTypes := #[t] }, ty, pos, after, gd⟩ σ ⟨.pv (.int .i64 k), [], []⟩ :=
  .val fun a w m R hw => by
    have := hw.ev x
    rw [hx] at this
    simp only [Rel] at this
    have hd := hw.hr.dom id
    rw [ho] at hd
    replace hd := hd.trans hre
    obtain ⟨⟨b, N⟩, hm⟩ := Option.isSome_iff_exists.1 hd
    obtain ⟨c, e, _⟩ := this.2 b N hm
    exact ⟨.int .i64 k, by simp [execOp, resolve, invoke, builtin, Builtin.len_, e, run_underlying hu, goInt], by simp only [Rel, RelP]⟩
theorem xj_lenG {e : TypeId} {id sz k : Nat} (hu : C.P.underlying t = some (.slice e)) (hx : σ.ev n x = .gsl id sz k) :
    XJ C n ⟨dst, .call { callee := .builtin .len, args := #[x], argTypes := #[t] }, ty, pos, after, gd⟩ σ ⟨.pv (.int .i64 k), [], []⟩ :=
  .val fun a w m R hw => by
    have := hw.ev x
    rw [hx] at this
    simp only [Rel] at this
    obtain ⟨_, A, c, e, _⟩ := this
    exact ⟨.int .i64 k, by simp [execOp, resolve, invoke, builtin, Builtin.len_, e, run_underlying hu, goInt], by simp only [Rel, RelP]⟩
theorem xj_max {k : IntKind} {i j : Int} (hx : σ.ev n x = .pv (.int k i)) (hy : σ.ev n y = .pv (.int k j)) :
    XJ C n ⟨dst, .call { callee := .builtin .max, args := #[x, y], argTypes := #[t, t'] }, ty, pos, after, gd⟩ σ ⟨.pv (.int k (if j > i then j else i)), [], []⟩ :=
  .val fun a w m R hw => ⟨.int k (if j > i then j else i), by simp [execOp, resolve, invoke, builtin, Builtin.max_, Builtin.max2, hw.int hx, hw.int hy], by simp only [Rel, RelP]⟩
theorem xj_min {k : IntKind} {i j : Int} (hx : σ.ev n x = .pv (.int k i)) (hy : σ.ev n y = .pv (.int k j)) :
    XJ C n ⟨dst, .call { callee := .builtin .min, args := #[x, y], argTypes := #[t, t'] }, ty, pos, after, gd⟩ σ ⟨.pv (.int k (if j < i then j else i)), [], []⟩ :=
  .val fun a w m R hw => ⟨.int k (if j < i then j else i), by simp [execOp, resolve, invoke, builtin, Builtin.min_, Builtin.min2, hw.int hx, hw.int hy], by simp only [Rel, RelP]⟩

end
end Go.Proofs.Ytkalgjnhaicabaa
