/-
  slices.Index, Contains, IndexFunc, ContainsFunc and the ways upward in an order, in our step logic. No statement of the program is proved here.
-/
import Derived.Test.YtkalgjnhaicabaaE17
import Derived.Test.YtkalgjnhaicabaaM4
namespace Go.Proofs.Ytkalgjnhaicabaa
open Go.RowKit
set_option maxRecDepth 100000

theorem ibT {a b : Int} (h : (a == b) = true) : a = b := beq_iff_eq.1 h
theorem ibF {a b : Int} (h : (a == b) = false) : ¬ a = b := fun e => by rw [beq_iff_eq.2 e] at h; cases h
theorem inT {a b : Int} (h : (a != b) = true) : ¬ a = b := bne_iff_ne.1 h
theorem inF {a b : Int} (h : (a != b) = false) : a = b := by
  by_cases e : a = b
  · exact e
  · rw [bne_iff_ne.2 e] at h; cases h

theorem idx_spec (l : List Int) (x : Int) (hl : l.length ≤ 1000000000) : FnP Try.prog 47 [pints l, .int .i64 x] (fun v => ∃ i : Int, v = .int .i64 i ∧ (0 ≤ i ↔ x ∈ l) ∧ -1 ≤ i ∧ i < 1000000001) := by
  refine FnP.of Try.func47 rfl Try.ntmps47 (by simp) fun m0 w0 F R0 => ?_
  repeat refine AW.seq ?_
  refine AW.region ?_
  refine RL.step (d := some 4) rfl rfl (xj_assignE rfl) ?_
  repeat refine AW.seq ?_
  refine AW.region ?_
  refine RL.step (d := some 6) rfl rfl (xj_moveE rfl) ?_
  first | refine RL.step (d := some 7) rfl rfl (xj_len Try.underlying22 rfl) ?_ | refine RL.step (d := some 7) rfl rfl (xj_lenO Try.underlying22 rfl rfl) ?_ | refine RL.step (d := some 7) rfl rfl (xj_lenG Try.underlying22 rfl) ?_
  refine RL.step (d := some 8) rfl rfl (xj_moveE rfl) ?_
  repeat refine AW.seq ?_
  refine AW.block ?_
  repeat refine AW.seq ?_
  refine AW.loop (st := fun x_0 : Nat => mkS [(0, .pv (pints l)), (1, .pv (.int .i64 x)), (7, .pv (.int .i64 l.length)), (8, .pv (.int .i64 x_0))] [] 0)
    (I := fun x_0 => x_0 ≤ l.length ∧ ¬ x ∈ l.take x_0) (μ := fun x_0 => l.length - x_0) (x0 := (0)) (St.le_mk ⟨rfl, rfl, rfl, rfl, trivial⟩ trivial rfl rfl) (by simp) ?_
  rintro k ⟨hk, hno⟩
  repeat refine AW.seq ?_
  refine AW.region ?_
  refine RL.step (d := some 9) rfl rfl (xj_bin rfl rfl rfl) ?_
  repeat refine AW.seq ?_
  refine AW.condP rfl (fun hc9 => ?_) (fun hc9 => ?_)
  · have hlt : k < l.length := by omega
    have hv := pints_at hlt
    have hne := pints_ne hlt
    refine AW.skip ?_
    repeat refine AW.seq ?_
    refine AW.block ?_
    repeat refine AW.seq ?_
    refine AW.region ?_
    refine RL.step (d := some 10) rfl rfl (xj_moveE rfl) ?_
    refine RL.step (d := some 5) rfl rfl (xj_assignE rfl) ?_
    repeat refine AW.seq ?_
    refine AW.region ?_
    refine RL.step (d := some 11) rfl rfl (xj_moveE rfl) ?_
    refine RL.step (d := some 12) rfl rfl (xj_moveE rfl) ?_
    refine RL.step (d := some 13) rfl rfl (xj_moveE rfl) ?_
    first | refine RL.step (d := some 14) rfl rfl (xj_indexAddr _ Try.underlying22 sz3 rfl rfl rfl (by omega) (by assumption)) ?_ | refine RL.step (d := some 14) rfl rfl (xj_indexAddrO _ Try.underlying22 sz3 rfl rfl rfl rfl (by omega)) ?_
    first | refine RL.step (d := some 15) rfl rfl (xj_load1 ⟨_, Try.underlying3, rfl⟩ rfl rfl rfl) ?_ | refine RL.step (d := some 15) rfl rfl (xj_load1P ⟨_, Try.underlying3, rfl⟩ rfl rfl (by first | rfl | assumption)) ?_ | refine RL.step (d := some 15) rfl rfl (xj_loadR ⟨_, Try.underlying3, rfl⟩ rfl (by first | rfl | assumption)) ?_
    refine RL.step (d := some 16) rfl rfl (xj_bin rfl rfl rfl) ?_
    repeat refine AW.seq ?_
    refine AW.cond rfl (fun hc16 => ?_) (fun hc16 => ?_)
    · have hx : l[k] = x := (ibT hc16).symm
      repeat refine AW.seq ?_
      refine AW.region ?_
      refine RL.step (d := some 17) rfl rfl (xj_moveE rfl) ?_
      refine RL.step (d := some 4) rfl rfl (xj_assignE rfl) ?_
      repeat refine AW.seq ?_
      refine AW.ret ?_
      exact ⟨_, _, rfl, rfl, _, rfl, ⟨fun _ => hx ▸ List.getElem_mem hlt, fun _ => by omega⟩, by omega, by omega⟩
    · refine AW.skip ?_
      repeat refine AW.seq ?_
      refine AW.region ?_
      refine RL.step (d := some 18) rfl rfl (xj_add rfl rfl (by omega)) ?_
      refine RL.step (d := some 8) rfl rfl (xj_moveE rfl) ?_
      exact ⟨(k + 1), St.le_mk ⟨rfl, rfl, rfl, rfl, trivial⟩ trivial rfl rfl, ⟨by omega, take_succ_contains hlt hno (fun e => ibF hc16 e.symm)⟩, by omega⟩
  · repeat refine AW.seq ?_
    refine AW.exit ?_
    repeat refine AW.seq ?_
    refine AW.region ?_
    refine RL.step (d := some 4) rfl rfl (xj_assignE rfl) ?_
    repeat refine AW.seq ?_
    refine AW.ret ?_
    exact ⟨_, _, rfl, rfl, _, rfl, ⟨fun h => absurd h (by decide), fun h => absurd (by rwa [List.take_of_length_le (by omega)]) hno⟩, by omega, by omega⟩

theorem contains_spec (l : List Int) (x : Int) (hl : l.length ≤ 1000000000) : FnP Try.prog 29 [pints l, .int .i64 x] (· = .bool (decide (x ∈ l))) := by
  refine FnP.of Try.func29 rfl Try.ntmps29 (by simp) fun m0 w0 F R0 => ?_
  repeat refine AW.seq ?_
  refine AW.region ?_
  refine RL.step (d := some 4) rfl rfl (xj_assignE rfl) ?_
  repeat refine AW.seq ?_
  refine AW.region ?_
  refine RL.step (d := some 5) rfl rfl (xj_moveE rfl) ?_
  refine RL.step (d := some 6) rfl rfl (xj_moveE rfl) ?_
  refine RL.call rfl (oj_call Try.call47 (idx_spec l x hl) rfl ?_)
  rintro _ ⟨i, rfl, hi, _, _⟩
  refine RL.step (d := some 8) rfl rfl (xj_bin rfl rfl rfl) ?_
  refine RL.step (d := some 4) rfl rfl (xj_assignE rfl) ?_
  repeat refine AW.seq ?_
  refine AW.ret ?_
  exact ⟨_, _, rfl, rfl, congrArg PV.bool (decide_eq_decide.2 hi)⟩

end Go.Proofs.Ytkalgjnhaicabaa
