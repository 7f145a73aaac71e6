/-
  Sets of numbers as 64 bits (outline.Set), in our step logic. No statement of the program is proved here.
-/
import Derived.Test.YtkalgjnhaicabaaO4
namespace Go.Proofs.Ytkalgjnhaicabaa
open Go.RowKit Mk
set_option maxRecDepth 100000
set_option maxHeartbeats 1000000

abbrev B64 := BitVec 64
abbrev setP (x : B64) : PV := .int .u64 (x.toNat : Int)
theorem u64_wrap (i : Int) : IntKind.u64.wrap i = i % 18446744073709551616 := by
  unfold IntKind.wrap
  simp [IntKind.signed, IntKind.bits]
theorem wrap64 (x : B64) : IntKind.u64.wrap (x.toNat : Int) = x.toNat := by
  rw [u64_wrap]
  have := x.isLt
  omega
theorem ofInt64 (x : B64) : BitVec.ofInt IntKind.u64.bits (x.toNat : Int) = x := by
  show BitVec.ofInt 64 _ = x
  rw [BitVec.ofInt_natCast, BitVec.ofNat_toNat, BitVec.setWidth_eq]
section
variable {C : Ctx} {n : Nat} {σ : St} {dst : Option Tmp} {ty t t' : TypeId} {pos : String} {after : Array Edge} {gd : Option (Nat × Bool)} {x y : Operand} {X Y : B64}
theorem xj_andV (hx : σ.ev n x = .pv (setP X)) (hy : σ.ev n y = .pv (setP Y)) : XJ C n ⟨dst, .binOp .and t x y t', ty, pos, after, gd⟩ σ ⟨.pv (setP (X &&& Y)), [], []⟩ :=
  xj_bin hx hy (by simp only [binI, ofInt64]; exact congrArg (fun i => some (PV.int .u64 i)) (wrap64 _))
theorem xj_orV (hx : σ.ev n x = .pv (setP X)) (hy : σ.ev n y = .pv (setP Y)) : XJ C n ⟨dst, .binOp .or t x y t', ty, pos, after, gd⟩ σ ⟨.pv (setP (X ||| Y)), [], []⟩ :=
  xj_bin hx hy (by simp only [binI, ofInt64]; exact congrArg (fun i => some (PV.int .u64 i)) (wrap64 _))
theorem xj_andNotV (hx : σ.ev n x = .pv (setP X)) (hy : σ.ev n y = .pv (setP Y)) : XJ C n ⟨dst, .binOp .andNot t x y t', ty, pos, after, gd⟩ σ ⟨.pv (setP (X &&& ~~~Y)), [], []⟩ :=
  xj_bin hx hy (by simp only [binI, ofInt64]; exact congrArg (fun i => some (PV.int .u64 i)) (wrap64 _))
theorem xj_subV (hx : σ.ev n x = .pv (setP X)) (hy : σ.ev n y = .pv (setP Y)) : XJ C n ⟨dst, .binOp .sub t x y t', ty, pos, after, gd⟩ σ ⟨.pv (setP (X - Y)), [], []⟩ :=
  xj_bin hx hy (by
    simp only [binI, u64_wrap]
    refine congrArg (fun i => some (PV.int .u64 i)) ?_
    have := X.isLt
    have := Y.isLt
    rw [BitVec.toNat_sub]
    omega)
theorem setP_beq (X Y : B64) : ((X.toNat : Int) == (Y.toNat : Int)) = decide (X = Y) := by
  rw [Bool.eq_iff_iff]
  simp only [beq_iff_eq, decide_eq_true_eq]
  exact ⟨fun h => BitVec.eq_of_toNat_eq (by omega), fun h => by rw [h]⟩
theorem xj_eqlV (hx : σ.ev n x = .pv (setP X)) (hy : σ.ev n y = .pv (setP Y)) : XJ C n ⟨dst, .binOp .eql t x y t', ty, pos, after, gd⟩ σ ⟨.pv (.bool (decide (X = Y))), [], []⟩ :=
  xj_bin hx hy (by simp only [binI, setP_beq])
theorem xj_neqV (hx : σ.ev n x = .pv (setP X)) (hy : σ.ev n y = .pv (setP Y)) : XJ C n ⟨dst, .binOp .neq t x y t', ty, pos, after, gd⟩ σ ⟨.pv (.bool (decide (X ≠ Y))), [], []⟩ :=
  xj_bin hx hy (by simp only [binI, bne, setP_beq, decide_not])
theorem xj_shlV (a : Nat) {i : Int} {k' : IntKind} (hx : σ.ev n x = .pv (setP 1#64)) (hy : σ.ev n y = .pv (.int k' i)) (hi : i = (a : Int)) (ha : a < 64) : XJ C n ⟨dst, .binOp .shl t x y t', ty, pos, after, gd⟩ σ ⟨.pv (setP (BitVec.twoPow 64 a)), [], []⟩ := by
  subst hi
  refine XJ.cast (xj_shl hx hy (by omega)) ?_
  refine congrArg (fun i => V.pv (PV.int .u64 i)) ?_
  show IntKind.u64.wrap (1 * 2 ^ (min (Int.toNat (a : Int)) 64)) = _
  rw [show min (Int.toNat (a : Int)) 64 = a by omega, BitVec.toNat_twoPow, u64_wrap]
  simp
theorem xj_shrV (a : Nat) {i : Int} {k' : IntKind} (hx : σ.ev n x = .pv (setP X)) (hy : σ.ev n y = .pv (.int k' i)) (hi : i = (a : Int)) (ha : a < 64) : XJ C n ⟨dst, .binOp .shr t x y t', ty, pos, after, gd⟩ σ ⟨.pv (setP (X >>> a)), [], []⟩ := by
  subst hi
  refine XJ.cast (xj_shr hx hy (by omega)) ?_
  refine congrArg (fun i => V.pv (PV.int .u64 i)) ?_
  show Int.fdiv (X.toNat : Int) (2 ^ (min (Int.toNat (a : Int)) 64)) = _
  rw [show min (Int.toNat (a : Int)) 64 = a by omega, BitVec.toNat_ushiftRight, Nat.shiftRight_eq_div_pow]
  have e : (2 : Int) ^ a = ((2 ^ a : Nat) : Int) := by simp
  rw [e, Int.fdiv_eq_ediv_of_nonneg _ (Int.natCast_nonneg _)]
  simp
end
theorem has_bit (X : B64) (a : Nat) : decide ((X >>> a) &&& 1#64 = 1#64) = X.getLsbD a := by
  rw [Bool.eq_iff_iff, decide_eq_true_eq]
  constructor
  · intro h
    have := congrArg (fun z : B64 => z.getLsbD 0) h
    simpa using this
  · intro h
    apply BitVec.eq_of_getLsbD_eq
    intro i hi
    rw [BitVec.getLsbD_and, BitVec.getLsbD_one]
    by_cases e : i = 0
    · subst e; simp [h]
    · simp [e]

theorem of_spec (a : Nat) (ha : a < 64) : FnP Try.prog 52 [.int .i64 a] (· = setP (BitVec.twoPow 64 a)) := by
  refine FnP.of Try.func52 rfl Try.ntmps52 (by simp) fun m0 w0 F R0 => ?_
  repeat refine AW.seq ?_
  refine AW.region ?_
  refine RL.step (d := some 2) rfl rfl (xj_assignE rfl) ?_
  repeat refine AW.seq ?_
  refine AW.region ?_
  refine RL.step (d := some 3) rfl rfl (xj_moveE rfl) ?_
  refine RL.step (d := some 4) rfl rfl (xj_shlV a rfl rfl rfl ha) ?_
  refine RL.step (d := some 2) rfl rfl (xj_assignE rfl) ?_
  repeat refine AW.seq ?_
  refine AW.ret ?_
  exact ⟨_, _, rfl, rfl, rfl⟩
theorem has_sp (X : B64) (a : Nat) (ha : a < 64) : FnP Try.prog 51 [setP X, .int .i64 a] (· = .bool (X.getLsbD a)) := by
  refine FnP.of Try.func51 rfl Try.ntmps51 (by simp) fun m0 w0 F R0 => ?_
  repeat refine AW.seq ?_
  refine AW.region ?_
  refine RL.step (d := some 4) rfl rfl (xj_assignE rfl) ?_
  repeat refine AW.seq ?_
  refine AW.region ?_
  refine RL.step (d := some 5) rfl rfl (xj_moveE rfl) ?_
  refine RL.step (d := some 6) rfl rfl (xj_moveE rfl) ?_
  refine RL.step (d := some 7) rfl rfl (xj_shrV a rfl rfl rfl ha) ?_
  refine RL.step (d := some 8) rfl rfl (xj_andV (Y := 1#64) rfl rfl) ?_
  refine RL.step (d := some 9) rfl rfl (xj_eqlV (Y := 1#64) rfl rfl) ?_
  refine RL.step (d := some 4) rfl rfl (xj_assignE rfl) ?_
  repeat refine AW.seq ?_
  refine AW.ret ?_
  exact ⟨_, _, rfl, rfl, congrArg PV.bool (has_bit X a)⟩
abbrev setsP (G : List B64) : List PV := G.map setP
abbrev psets (G : List B64) : PV := .sl none G.length (setsP G)
theorem psets_at {l : List B64} {k : Nat} (h : k < l.length) : (setsP l)[k * 1]? = some (setP l[k]) := by simp [h]
theorem psets_ne {l : List B64} {k : Nat} (h : k < l.length) : setsP l ≠ [] := by intro e; simp at e; subst e; simp at h
def allB (n : Nat) : B64 := BitVec.twoPow 64 n - 1#64
theorem allB_bit {n : Nat} (hn : n < 64) (i : Nat) : (allB n).getLsbD i = decide (i < n) := by
  have e : allB n = BitVec.ofNat 64 (2 ^ n - 1) := by
    apply BitVec.eq_of_toNat_eq
    unfold allB
    have h1 : 2 ^ n < 2 ^ 64 := Nat.pow_lt_pow_right (by decide) hn
    have h2 : 0 < 2 ^ n := Nat.pow_pos (by decide)
    rw [BitVec.toNat_sub, BitVec.toNat_twoPow, BitVec.toNat_ofNat, Nat.mod_eq_of_lt h1]
    simp only [BitVec.toNat_ofNat]
    omega
  rw [e, BitVec.getLsbD_ofNat, Nat.testBit_two_pow_sub_one]
  by_cases h : i < n
  · simp [h]; omega
  · simp [h]
theorem allB_spec (G : List B64) (hn : G.length < 64) : FnP Try.prog 53 [psets G] (· = setP (allB G.length)) := by
  refine FnP.of Try.func53 rfl Try.ntmps53 (by simp) fun m0 w0 F R0 => ?_
  repeat refine AW.seq ?_
  refine AW.region ?_
  refine RL.step (d := some 2) rfl rfl (xj_assignE rfl) ?_
  repeat refine AW.seq ?_
  refine AW.region ?_
  refine RL.step (d := some 3) rfl rfl (xj_moveE rfl) ?_
  first | refine RL.step (d := some 4) rfl rfl (xj_len Try.underlying80 rfl) ?_ | refine RL.step (d := some 4) rfl rfl (xj_lenO Try.underlying80 rfl rfl) ?_ | refine RL.step (d := some 4) rfl rfl (xj_lenG Try.underlying80 rfl) ?_
  refine RL.step (d := some 5) rfl rfl (xj_call Try.call52 (of_spec G.length hn) rfl) ?_
  refine RL.step (d := some 6) rfl rfl (xj_subV (Y := 1#64) rfl rfl) ?_
  refine RL.step (d := some 2) rfl rfl (xj_assignE rfl) ?_
  repeat refine AW.seq ?_
  refine AW.ret ?_
  exact ⟨_, _, rfl, rfl, rfl⟩

end Go.Proofs.Ytkalgjnhaicabaa
