/-
  Names that the makers give; schemas as values. In our step logic. No statement of the program is proved here.
-/
import Derived.Test.YtkalgjnhaicabaaM2
import Derived.Test.YtkalgjnhaicabaaMP
namespace Go.Proofs.Ytkalgjnhaicabaa
open Go.RowKit Mk
set_option maxRecDepth 100000

theorem letter_spec (p : ByteArray) (i : Nat) (hp : p.size ≤ 1000) (hi : i < 26) : FnP Try.prog 26 [.str p, .int .i64 i] (· = .str (p ++ chr (97 + i))) := by
  refine FnP.of Try.func26 rfl Try.ntmps26 (by simp) fun m0 w0 F R0 => ?_
  have hr : (i : Int).tmod 26 = i := Int.tmod_eq_of_lt (by omega) (by omega)
  have hb : (97 + i : Int) = ((UInt8.ofNat (97 + i)).toNat : Int) := by
    simp [Nat.mod_eq_of_lt (show 97 + i < 256 by omega)]
  repeat refine AW.seq ?_
  refine AW.region ?_
  refine RL.step (d := some 4) rfl rfl (xj_assignE rfl) ?_
  repeat refine AW.seq ?_
  refine AW.region ?_
  refine RL.step (d := some 5) rfl rfl (xj_moveE rfl) ?_
  refine RL.step (d := some 6) rfl rfl (xj_moveE rfl) ?_
  refine RL.step (d := some 7) rfl rfl (XJ.cast (v' := .pv (.int .i64 i)) (xj_rem rfl rfl (by omega)) (by rw [hr])) ?_
  refine RL.step (d := some 8) rfl rfl (xj_add rfl rfl (by omega)) ?_
  refine RL.step (d := some 9) rfl rfl (XJ.cast (v' := .pv (.int .u8 (((UInt8.ofNat (97 + i)).toNat : Nat) : Int))) (xj_conv Try.underlying3 Try.underlying5 rfl) (by rw [← hb, IntWalk.u8_in _ (by omega)])) ?_
  refine RL.step (d := some 10) rfl rfl (xj_buildSlice 0 el76 rfl (by decide) (by decide) rfl rfl rfl) ?_
  refine RL.step (d := some 11) rfl rfl (xj_toS [UInt8.ofNat (97 + i)] Try.underlying76 Try.underlying5 Try.underlying9 (.inr ⟨_, _, _, _, rfl, rfl, rfl⟩)) ?_
  refine RL.step (d := some 12) rfl rfl (xj_cat rfl rfl (show p.size + 1 ≤ _ by omega)) ?_
  refine RL.step (d := some 4) rfl rfl (xj_assignE rfl) ?_
  refine AW.ret ?_
  refine ⟨_, _, rfl, rfl, congrArg PV.str ?_⟩
  congr 1

end Go.Proofs.Ytkalgjnhaicabaa
