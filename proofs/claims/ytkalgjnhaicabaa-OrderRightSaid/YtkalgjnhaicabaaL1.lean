/-
  Small functions of the makers and of the reference, in our step logic. No statement of the program is proved here.
-/
import Derived.Test.YtkalgjnhaicabaaE16
import Derived.Test.YtkalgjnhaicabaaTy
namespace Go.Proofs.Ytkalgjnhaicabaa
open Go.RowKit
set_option maxRecDepth 100000

/-- A slice of ints. -/
abbrev pints (l : List Int) : PV := .sl none l.length (l.map (.int .i64))
theorem pints_at {l : List Int} {k : Nat} (h : k < l.length) : (l.map (PV.int .i64))[k * 1]? = some (.int .i64 l[k]) := by simp [h]
theorem pints_ne {l : List Int} {k : Nat} (h : k < l.length) : l.map (PV.int .i64) ≠ [] := by intro e; simp at e; subst e; simp at h

theorem take_succ_contains {l : List Int} {k : Nat} {x : Int} (hk : k < l.length) (h : ¬ x ∈ l.take k) (hne : ¬ l[k] = x) : ¬ x ∈ l.take (k + 1) := by
  rw [List.take_succ_eq_append_getElem hk]
  simp only [List.mem_append, List.mem_singleton]
  rintro (h' | h')
  · exact h h'
  · exact hne h'.symm

theorem in_spec (l : List Int) (x : Int) (hl : l.length ≤ 1000000000) : FnP Try.prog 38 [pints l, .int .i64 x] (· = .bool (decide (x ∈ l))) := by
  refine FnP.of Try.func38 rfl Try.ntmps38 (by simp) fun m0 w0 F R0 => ?_
  refine AW.seq ?_
  refine AW.region ?_
  refine RL.step (d := some 4) rfl rfl (xj_assignE rfl) ?_
  refine AW.seq ?_
  refine AW.seq ?_
  refine AW.region ?_
  refine RL.step (d := some 7) rfl rfl (xj_moveE rfl) ?_
  first | refine RL.step (d := some 8) rfl rfl (xj_len Try.underlying22 rfl) ?_ | refine RL.step (d := some 8) rfl rfl (xj_lenO Try.underlying22 rfl rfl) ?_ | refine RL.step (d := some 8) rfl rfl (xj_lenG Try.underlying22 rfl) ?_
  refine RL.step (d := some 9) rfl rfl (xj_moveE rfl) ?_
  refine AW.block ?_
  refine AW.loop (st := fun k : Nat => mkS [(1, .pv (.int .i64 x)), (7, .pv (pints l)), (8, .pv (.int .i64 l.length)), (9, .pv (.int .i64 k))] [] 0) (I := fun k => k ≤ l.length ∧ ¬ x ∈ l.take k) (μ := fun k => l.length - k) (x0 := 0) (St.le_mk ⟨rfl, rfl, rfl, rfl, trivial⟩ trivial rfl rfl) (by simp) (fun k hx => ?_)
  obtain ⟨hk, hno⟩ := hx
  refine AW.seq ?_
  refine AW.region ?_
  refine RL.step (d := some 10) rfl rfl (xj_bin rfl rfl rfl) ?_
  refine AW.seq ?_
  refine AW.condP rfl (fun hc => ?_) (fun hc => ?_)
  · have hlt : k < l.length := by omega
    have hv := pints_at hlt
    have hne := pints_ne hlt
    refine AW.skip ?_
    refine AW.seq ?_
    refine AW.block ?_
    refine AW.seq ?_
    refine AW.region ?_
    first | refine RL.step (d := some 11) rfl rfl (xj_indexAddr _ Try.underlying22 sz3 rfl rfl rfl (by omega) (by assumption)) ?_ | refine RL.step (d := some 11) rfl rfl (xj_indexAddrO _ Try.underlying22 sz3 rfl rfl rfl rfl (by omega)) ?_
    first | refine RL.step (d := some 12) rfl rfl (xj_load1 ⟨_, Try.underlying3, rfl⟩ rfl rfl rfl) ?_ | refine RL.step (d := some 12) rfl rfl (xj_load1P ⟨_, Try.underlying3, rfl⟩ rfl rfl (by first | rfl | assumption)) ?_ | refine RL.step (d := some 12) rfl rfl (xj_loadR ⟨_, Try.underlying3, rfl⟩ rfl (by first | rfl | assumption)) ?_
    refine RL.step (d := some 6) rfl rfl (xj_assignE rfl) ?_
    refine AW.seq ?_
    refine AW.region ?_
    refine RL.step (d := some 13) rfl rfl (xj_moveE rfl) ?_
    refine RL.step (d := some 14) rfl rfl (xj_moveE rfl) ?_
    refine RL.step (d := some 15) rfl rfl (xj_bin rfl rfl rfl) ?_
    refine AW.cond rfl (fun hc => ?_) (fun hc => ?_)
    · refine AW.seq ?_
      refine AW.region ?_
      refine RL.step (d := some 4) rfl rfl (xj_assignE rfl) ?_
      refine AW.ret ?_
      refine ⟨_, _, rfl, rfl, congrArg PV.bool (?_ : true = _)⟩
      have : l[k] = x := by simpa using hc
      simp [← this]
    · refine AW.skip ?_
      refine AW.region ?_
      refine RL.step (d := some 16) rfl rfl (xj_add rfl rfl (by omega)) ?_
      refine RL.step (d := some 9) rfl rfl (xj_moveE rfl) ?_
      refine ⟨k + 1, St.le_mk ⟨rfl, rfl, rfl, rfl, trivial⟩ trivial rfl rfl, ⟨by omega, take_succ_contains hlt hno (by simpa using hc)⟩, by omega⟩
  · refine AW.exit ?_
    refine AW.seq ?_
    refine AW.region ?_
    refine RL.step (d := some 4) rfl rfl (xj_assignE rfl) ?_
    refine AW.ret ?_
    refine ⟨_, _, rfl, rfl, congrArg PV.bool (?_ : false = _)⟩
    rw [List.take_of_length_le (by omega)] at hno
    simp [hno]

theorem mkin_spec (l : List Int) (x : Int) (hl : l.length ≤ 1000000000) : FnP Try.prog 14 [pints l, .int .i64 x] (· = .bool (decide (x ∈ l))) := by
  refine FnP.of Try.func14 rfl Try.ntmps14 (by simp) fun m0 w0 F R0 => ?_
  refine AW.seq ?_
  refine AW.region ?_
  refine RL.step (d := some 4) rfl rfl (xj_assignE rfl) ?_
  refine AW.seq ?_
  refine AW.region ?_
  refine RL.step (d := some 5) rfl rfl (xj_moveE rfl) ?_
  refine RL.step (d := some 6) rfl rfl (xj_moveE rfl) ?_
  refine RL.step (d := some 7) rfl rfl (xj_call Try.call38 (in_spec l x hl) rfl) ?_
  refine RL.step (d := some 4) rfl rfl (xj_assignE rfl) ?_
  refine AW.ret ?_
  exact ⟨_, _, rfl, rfl, rfl⟩

theorem eq_of_take {l r : List Int} (hlen : l.length = r.length) (k : Nat) (hk : l.length ≤ k) (h : l.take k = r.take k) : l = r := by
  rwa [List.take_of_length_le hk, List.take_of_length_le (by omega)] at h
theorem take_step {l r : List Int} {k : Nat} (hl : k < l.length) (hr : k < r.length) (h : l.take k = r.take k) (he : l[k] = r[k]) : l.take (k + 1) = r.take (k + 1) := by
  rw [List.take_succ_eq_append_getElem hl, List.take_succ_eq_append_getElem hr, h, he]

theorem ints_spec (l r : List Int) (hl : l.length ≤ 1000000000) (hr : r.length ≤ 1000000000) : FnP Try.prog 22 [pints l, pints r] (· = .bool (decide (l = r))) := by
  refine FnP.of Try.func22 rfl Try.ntmps22 (by simp) fun m0 w0 F R0 => ?_
  refine AW.seq ?_
  refine AW.region ?_
  refine RL.step (d := some 4) rfl rfl (xj_assignE rfl) ?_
  refine AW.seq ?_
  refine AW.seq ?_
  refine AW.region ?_
  refine RL.step (d := some 6) rfl rfl (xj_moveE rfl) ?_
  first | refine RL.step (d := some 7) rfl rfl (xj_len Try.underlying22 rfl) ?_ | refine RL.step (d := some 7) rfl rfl (xj_lenO Try.underlying22 rfl rfl) ?_ | refine RL.step (d := some 7) rfl rfl (xj_lenG Try.underlying22 rfl) ?_
  refine RL.step (d := some 8) rfl rfl (xj_moveE rfl) ?_
  first | refine RL.step (d := some 9) rfl rfl (xj_len Try.underlying22 rfl) ?_ | refine RL.step (d := some 9) rfl rfl (xj_lenO Try.underlying22 rfl rfl) ?_ | refine RL.step (d := some 9) rfl rfl (xj_lenG Try.underlying22 rfl) ?_
  refine RL.step (d := some 10) rfl rfl (xj_bin rfl rfl rfl) ?_
  refine AW.cond rfl (fun hc => ?_) (fun hc => ?_)
  · refine AW.seq ?_
    refine AW.region ?_
    refine RL.step (d := some 4) rfl rfl (xj_assignE rfl) ?_
    refine AW.ret ?_
    refine ⟨_, _, rfl, rfl, congrArg PV.bool (?_ : false = _)⟩
    have hne : l.length ≠ r.length := by intro e; simp [e] at hc
    simp only [Bool.false_eq, decide_eq_false_iff_not]
    intro e; exact hne (by rw [e])
  refine AW.skip ?_
  have hlen : l.length = r.length := by simp at hc; omega
  refine AW.seq ?_
  refine AW.seq ?_
  refine AW.region ?_
  refine RL.step (d := some 11) rfl rfl (xj_moveE rfl) ?_
  first | refine RL.step (d := some 12) rfl rfl (xj_len Try.underlying22 rfl) ?_ | refine RL.step (d := some 12) rfl rfl (xj_lenO Try.underlying22 rfl rfl) ?_ | refine RL.step (d := some 12) rfl rfl (xj_lenG Try.underlying22 rfl) ?_
  refine RL.step (d := some 13) rfl rfl (xj_moveE rfl) ?_
  refine AW.block ?_
  refine AW.loop (st := fun k : Nat => mkS [(0, .pv (pints l)), (1, .pv (pints r)), (12, .pv (.int .i64 l.length)), (13, .pv (.int .i64 k))] [] 0) (I := fun k => k ≤ l.length ∧ l.take k = r.take k) (μ := fun k => l.length - k) (x0 := 0) (St.le_mk ⟨rfl, rfl, rfl, rfl, trivial⟩ trivial rfl rfl) (by simp) (fun k hx => ?_)
  obtain ⟨hk, heq⟩ := hx
  refine AW.seq ?_
  refine AW.region ?_
  refine RL.step (d := some 14) rfl rfl (xj_bin rfl rfl rfl) ?_
  refine AW.seq ?_
  refine AW.condP rfl (fun hc => ?_) (fun hc => ?_)
  · have hlt : k < l.length := by omega
    have hlt2 : k < r.length := by omega
    have hv := pints_at hlt
    have hne := pints_ne hlt
    have hv2 := pints_at hlt2
    have hne2 := pints_ne hlt2
    refine AW.skip ?_
    refine AW.seq ?_
    refine AW.block ?_
    refine AW.seq ?_
    refine AW.region ?_
    refine RL.step (d := some 15) rfl rfl (xj_moveE rfl) ?_
    refine RL.step (d := some 5) rfl rfl (xj_assignE rfl) ?_
    refine AW.seq ?_
    repeat refine AW.seq ?_
    refine AW.draw follows [[], [], [1, 0], [2, 1, 0], [], [], [5, 4], [6, 5, 4], [7, 3, 2, 1, 0, 6, 5, 4]] [0, 1, 2, 3, 4, 5, 6, 7, 8] (by kernel_rfl) (by kernel_rfl) ?_
    refine DL.step (d := some 16) [] rfl rfl rfl (fun τ h => xj_moveE ((h.e 0 _ rfl).trans rfl)) rfl (by kernel_rfl) ?_
    refine DL.step (d := some 17) [] rfl rfl rfl (fun τ h => xj_moveE ((h.e 0 _ rfl).trans rfl)) rfl (by kernel_rfl) ?_
    first | refine DL.step (d := some 18) [] rfl rfl rfl (fun τ h => xj_indexAddr _ Try.underlying22 sz3 ((h.e 0 _ rfl).trans rfl) ((h.e 1 _ rfl).trans rfl) rfl (by omega) (by assumption)) rfl (by kernel_rfl) ?_ | refine DL.step (d := some 18) [_] rfl rfl rfl (fun τ h => xj_indexAddrO _ Try.underlying22 sz3 ((h.e 0 _ rfl).trans rfl) ((h.o 0 _ rfl).trans rfl) ((h.e 1 _ rfl).trans rfl) rfl (by omega)) rfl (by kernel_rfl) ?_
    first | refine DL.step (d := some 19) [_] rfl rfl rfl (fun τ h => xj_load1 ⟨_, Try.underlying3, rfl⟩ ((h.e 0 _ rfl).trans rfl) ((h.o 0 _ rfl).trans rfl) rfl) rfl (by kernel_rfl) ?_ | refine DL.step (d := some 19) [_] rfl rfl rfl (fun τ h => xj_load1P ⟨_, Try.underlying3, rfl⟩ ((h.e 0 _ rfl).trans rfl) ((h.o 0 _ rfl).trans rfl) (by first | rfl | assumption)) rfl (by kernel_rfl) ?_ | refine DL.step (d := some 19) [] rfl rfl rfl (fun τ h => xj_loadR ⟨_, Try.underlying3, rfl⟩ ((h.e 0 _ rfl).trans rfl) (by first | rfl | assumption)) rfl (by kernel_rfl) ?_
    refine DL.step (d := some 20) [] rfl rfl rfl (fun τ h => xj_moveE ((h.e 0 _ rfl).trans rfl)) rfl (by kernel_rfl) ?_
    refine DL.step (d := some 21) [] rfl rfl rfl (fun τ h => xj_moveE ((h.e 0 _ rfl).trans rfl)) rfl (by kernel_rfl) ?_
    first | refine DL.step (d := some 22) [] rfl rfl rfl (fun τ h => xj_indexAddr _ Try.underlying22 sz3 ((h.e 0 _ rfl).trans rfl) ((h.e 1 _ rfl).trans rfl) rfl (by omega) (by assumption)) rfl (by kernel_rfl) ?_ | refine DL.step (d := some 22) [_] rfl rfl rfl (fun τ h => xj_indexAddrO _ Try.underlying22 sz3 ((h.e 0 _ rfl).trans rfl) ((h.o 0 _ rfl).trans rfl) ((h.e 1 _ rfl).trans rfl) rfl (by omega)) rfl (by kernel_rfl) ?_
    first | refine DL.step (d := some 23) [_] rfl rfl rfl (fun τ h => xj_load1 ⟨_, Try.underlying3, rfl⟩ ((h.e 0 _ rfl).trans rfl) ((h.o 0 _ rfl).trans rfl) rfl) rfl (by kernel_rfl) ?_ | refine DL.step (d := some 23) [_] rfl rfl rfl (fun τ h => xj_load1P ⟨_, Try.underlying3, rfl⟩ ((h.e 0 _ rfl).trans rfl) ((h.o 0 _ rfl).trans rfl) (by first | rfl | assumption)) rfl (by kernel_rfl) ?_ | refine DL.step (d := some 23) [] rfl rfl rfl (fun τ h => xj_loadR ⟨_, Try.underlying3, rfl⟩ ((h.e 0 _ rfl).trans rfl) (by first | rfl | assumption)) rfl (by kernel_rfl) ?_
    refine DL.step (d := some 24) [] rfl rfl rfl (fun τ h => xj_bin ((h.e 0 _ rfl).trans rfl) ((h.e 1 _ rfl).trans rfl) rfl) rfl (by kernel_rfl) ?_
    refine ⟨by kernel_rfl, ?_⟩
    refine AW.cond rfl (fun hc => ?_) (fun hc => ?_)
    · refine AW.seq ?_
      refine AW.region ?_
      refine RL.step (d := some 4) rfl rfl (xj_assignE rfl) ?_
      refine AW.ret ?_
      refine ⟨_, _, rfl, rfl, congrArg PV.bool (?_ : false = _)⟩
      have hne : l[k] ≠ r[k] := by simpa using hc
      simp only [Bool.false_eq, decide_eq_false_iff_not]
      intro e; subst e; exact hne rfl
    · refine AW.skip ?_
      refine AW.region ?_
      refine RL.step (d := some 25) rfl rfl (xj_add rfl rfl (by omega)) ?_
      refine RL.step (d := some 13) rfl rfl (xj_moveE rfl) ?_
      refine ⟨k + 1, St.le_mk ⟨rfl, rfl, rfl, rfl, trivial⟩ trivial rfl rfl, ⟨by omega, take_step hlt hlt2 heq (by simpa using hc)⟩, by omega⟩
  · refine AW.exit ?_
    refine AW.seq ?_
    refine AW.region ?_
    refine RL.step (d := some 4) rfl rfl (xj_assignE rfl) ?_
    refine AW.ret ?_
    refine ⟨_, _, rfl, rfl, congrArg PV.bool (?_ : true = _)⟩
    simp [eq_of_take hlen k (by omega) heq]

end Go.Proofs.Ytkalgjnhaicabaa
