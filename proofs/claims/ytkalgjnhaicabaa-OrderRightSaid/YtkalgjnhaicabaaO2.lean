/-
  The package order: above, higher, right, in our step logic. No statement of the program is proved here.
-/
import Derived.Test.YtkalgjnhaicabaaS5
import Derived.Test.YtkalgjnhaicabaaOSp
namespace Go.Proofs.Ytkalgjnhaicabaa
open Go.RowKit Mk
set_option maxRecDepth 100000
set_option maxHeartbeats 1000000

abbrev ordP (P : List Int) : PV := .agg [pints P]
theorem tk_all (L : List Int) : (L.map (PV.int .i64)).take (L.length * 1) = L.map (PV.int .i64) := List.take_of_length_le (by simp)

theorem above_spec (P : List Int) (v : Nat) (hv : v < P.length) (hP : ∀ p ∈ P, p < P.length) (hn : P.length ≤ 1000000) : FnP Try.prog 31 [ordP P, .int .i64 v] (· = .tup [pints (abvL P v), .bool (abv P v).isSome]) := by
  refine FnP.of Try.func31 rfl Try.ntmps31 (by simp) fun m0 w0 F R0 => ?_
  have hv0 := pints_at hv
  have hne := pints_ne hv
  have hab : abv P v = upF P P.length P[v] := by simp [abv, List.getD, hv]
  repeat refine AW.seq ?_
  refine AW.region ?_
  refine RL.step (d := some 2) rfl rfl (xj_box 0 rfl rfl rfl (by rintro _ _ ⟨⟩) (by rintro _ _ _ ⟨⟩) (by rintro _ ⟨⟩)) ?_
  refine RL.step (d := some 4) rfl rfl (xj_assignE rfl) ?_
  refine RL.step (d := some 5) rfl rfl (xj_assignE rfl) ?_
  repeat refine AW.seq ?_
  refine AW.region ?_
  refine RL.step (d := some 6) rfl rfl (xj_assignE rfl) ?_
  refine AW.weaken (St.le_gro 6 1 1 3 rfl rfl) ?_
  repeat refine AW.seq ?_
  refine AW.region ?_
  first | refine RL.step (d := some 8) rfl rfl (xj_fieldAddr fo33_0 rfl rfl) ?_ | refine RL.step (d := some 8) rfl rfl (xj_fieldAddrR fo33_0 rfl) ?_
  first | refine RL.step (d := some 9) rfl rfl (xj_load1 ⟨_, Try.underlying22, rfl⟩ rfl rfl rfl) ?_ | refine RL.step (d := some 9) rfl rfl (xj_load1P ⟨_, Try.underlying22, rfl⟩ rfl rfl (by first | rfl | assumption)) ?_ | refine RL.step (d := some 9) rfl rfl (xj_loadR ⟨_, Try.underlying22, rfl⟩ rfl (by first | rfl | assumption)) ?_
  refine RL.step (d := some 10) rfl rfl (xj_moveE rfl) ?_
  first | refine RL.step (d := some 11) rfl rfl (xj_indexAddr _ Try.underlying22 sz3 rfl rfl rfl (by omega) (by assumption)) ?_ | refine RL.step (d := some 11) rfl rfl (xj_indexAddrO _ Try.underlying22 sz3 rfl rfl rfl rfl (by omega)) ?_
  first | refine RL.step (d := some 12) rfl rfl (xj_load1 ⟨_, Try.underlying3, rfl⟩ rfl rfl rfl) ?_ | refine RL.step (d := some 12) rfl rfl (xj_load1P ⟨_, Try.underlying3, rfl⟩ rfl rfl (by first | rfl | assumption)) ?_ | refine RL.step (d := some 12) rfl rfl (xj_loadR ⟨_, Try.underlying3, rfl⟩ rfl (by first | rfl | assumption)) ?_
  refine RL.step (d := some 7) rfl rfl (xj_assignE rfl) ?_
  repeat refine AW.seq ?_
  refine AW.block ?_
  repeat refine AW.seq ?_
  refine AW.loop (st := fun x_0 : List Int × Int => mkS [(2, .ptr 0 0), (6, .gsl 1 1 x_0.1.length), (7, .pv (.int .i64 x_0.2))] [(0, .mix 33 [.pv (pints P)]), (1, .gro 3 (intsP x_0.1))] 2)
    (I := fun x_0 => x_0.1.length ≤ P.length ∧ x_0.2 < P.length ∧ abv P v = (upF P (P.length - x_0.1.length) x_0.2).map (x_0.1 ++ ·)) (μ := fun x_0 => P.length - x_0.1.length) (x0 := ([], P[v])) (St.le_mk ⟨rfl, rfl, rfl, trivial⟩ ⟨rfl, rfl, trivial⟩ rfl rfl) (⟨Nat.zero_le _, hP _ (List.getElem_mem hv), by rw [hab]; simp⟩) ?_
  rintro ⟨L, x⟩ ⟨hl, hx, hu⟩
  try simp only at hl hx hu ⊢
  repeat refine AW.seq ?_
  refine AW.region ?_
  refine RL.step (d := some 13) rfl rfl (xj_moveE rfl) ?_
  refine RL.step (d := some 14) rfl rfl (xj_bin rfl rfl rfl) ?_
  repeat refine AW.seq ?_
  refine AW.condP rfl (fun hc14 => ?_) (fun hc14 => ?_)
  · obtain ⟨a, rfl⟩ := Int.eq_ofNat_of_zero_le hc14
    have ha : a < P.length := by omega
    have hva := pints_at ha
    have hsl : (intsP L).length = L.length * 1 := by simp
    refine AW.skip ?_
    repeat refine AW.seq ?_
    refine AW.block ?_
    repeat refine AW.seq ?_
    refine AW.region ?_
    refine RL.step (d := some 20) rfl rfl (xj_moveE rfl) ?_
    first | refine RL.step (d := some 21) rfl rfl (xj_len Try.underlying22 rfl) ?_ | refine RL.step (d := some 21) rfl rfl (xj_lenO Try.underlying22 rfl rfl) ?_ | refine RL.step (d := some 21) rfl rfl (xj_lenG Try.underlying22 rfl) ?_
    first | refine RL.step (d := some 22) rfl rfl (xj_fieldAddr fo33_0 rfl rfl) ?_ | refine RL.step (d := some 22) rfl rfl (xj_fieldAddrR fo33_0 rfl) ?_
    first | refine RL.step (d := some 23) rfl rfl (xj_load1 ⟨_, Try.underlying22, rfl⟩ rfl rfl rfl) ?_ | refine RL.step (d := some 23) rfl rfl (xj_load1P ⟨_, Try.underlying22, rfl⟩ rfl rfl (by first | rfl | assumption)) ?_ | refine RL.step (d := some 23) rfl rfl (xj_loadR ⟨_, Try.underlying22, rfl⟩ rfl (by first | rfl | assumption)) ?_
    first | refine RL.step (d := some 24) rfl rfl (xj_len Try.underlying22 rfl) ?_ | refine RL.step (d := some 24) rfl rfl (xj_lenO Try.underlying22 rfl rfl) ?_ | refine RL.step (d := some 24) rfl rfl (xj_lenG Try.underlying22 rfl) ?_
    refine RL.step (d := some 25) rfl rfl (xj_bin rfl rfl rfl) ?_
    repeat refine AW.seq ?_
    refine AW.cond rfl (fun hc25 => ?_) (fun hc25 => ?_)
    · have hle : L.length = P.length := by have := ibT hc25; omega
      have hno : abv P v = none := by rw [hu, hle, Nat.sub_self, upF_zero (by omega)]; rfl
      refine AW.weaken (St.le_fgS []) ?_
      repeat refine AW.seq ?_
      refine AW.region ?_
      refine RL.step (d := some 4) rfl rfl (xj_assignE rfl) ?_
      refine RL.step (d := some 5) rfl rfl (xj_assignE rfl) ?_
      refine AW.weaken (St.le_fgS [4]) ?_
      repeat refine AW.seq ?_
      refine AW.ret ?_
      exact ⟨_, _, rfl, rfl, by unfold abvL; rw [hno]; rfl⟩
    · have hlt : L.length < P.length := by have := ibF hc25; omega
      refine AW.skip ?_
      repeat refine AW.seq ?_
      refine AW.region ?_
      refine RL.step (d := some 26) rfl rfl (xj_moveE rfl) ?_
      refine RL.step (d := some 27) rfl rfl (xj_moveE rfl) ?_
      refine RL.step (d := some 28) rfl rfl (xj_buildSlice 2 el22 rfl (by decide) (by decide) rfl rfl rfl) ?_
      first | refine RL.step (d := some 29) rfl rfl (xj_append1 3 el22 rfl rfl (by first | assumption | simp) rfl rfl rfl rfl (by omega) rfl) ?_ | refine RL.step (d := some 29) rfl rfl (xj_append01 3 el22 rfl rfl rfl rfl rfl rfl) ?_ | refine RL.step (d := some 29) rfl rfl (xj_appendG1 3 el22 rfl rfl (by first | assumption | simp) rfl rfl rfl rfl (by omega) rfl) ?_
      refine RL.step (d := some 6) rfl rfl (xj_assignE rfl) ?_
      repeat refine AW.seq ?_
      refine AW.region ?_
      first | refine RL.step (d := some 15) rfl rfl (xj_fieldAddr fo33_0 rfl rfl) ?_ | refine RL.step (d := some 15) rfl rfl (xj_fieldAddrR fo33_0 rfl) ?_
      first | refine RL.step (d := some 16) rfl rfl (xj_load1 ⟨_, Try.underlying22, rfl⟩ rfl rfl rfl) ?_ | refine RL.step (d := some 16) rfl rfl (xj_load1P ⟨_, Try.underlying22, rfl⟩ rfl rfl (by first | rfl | assumption)) ?_ | refine RL.step (d := some 16) rfl rfl (xj_loadR ⟨_, Try.underlying22, rfl⟩ rfl (by first | rfl | assumption)) ?_
      refine RL.step (d := some 17) rfl rfl (xj_moveE rfl) ?_
      first | refine RL.step (d := some 18) rfl rfl (xj_indexAddr _ Try.underlying22 sz3 rfl rfl rfl (by omega) (by assumption)) ?_ | refine RL.step (d := some 18) rfl rfl (xj_indexAddrO _ Try.underlying22 sz3 rfl rfl rfl rfl (by omega)) ?_
      first | refine RL.step (d := some 19) rfl rfl (xj_load1 ⟨_, Try.underlying3, rfl⟩ rfl rfl rfl) ?_ | refine RL.step (d := some 19) rfl rfl (xj_load1P ⟨_, Try.underlying3, rfl⟩ rfl rfl (by first | rfl | assumption)) ?_ | refine RL.step (d := some 19) rfl rfl (xj_loadR ⟨_, Try.underlying3, rfl⟩ rfl (by first | rfl | assumption)) ?_
      refine RL.step (d := some 7) rfl rfl (xj_assignE rfl) ?_
      exact ⟨(L ++ [(a : Int)], P[a]), St.le_mkR [0, 3] ⟨rfl, by simp; rfl, rfl, trivial⟩ ⟨rfl, congrArg (fun c => some (Ob.gro 3 c)) (ints_snoc L a).symm, trivial⟩ rfl rfl (by decide) rfl, ⟨by simp; omega, hP _ (List.getElem_mem ha), by rw [hu, show P.length - L.length = P.length - (L ++ [(a : Int)]).length + 1 by simp; omega, upF_nat ha, Option.map_map]; congr 1; funext l; simp⟩, by simp; omega⟩
  · repeat refine AW.seq ?_
    refine AW.exit ?_
    refine AW.weaken (St.le_pubA 1 rfl rfl) ?_
    repeat refine AW.seq ?_
    refine AW.region ?_
    refine RL.step (d := some 30) rfl rfl (xj_moveE rfl) ?_
    refine RL.step (d := some 4) rfl rfl (xj_assignE rfl) ?_
    refine RL.step (d := some 5) rfl rfl (xj_assignE rfl) ?_
    repeat refine AW.seq ?_
    refine AW.ret ?_
    exact ⟨_, _, rfl, rfl, by rw [show abv P v = some L by rw [hu, upF_neg (by omega)]; simp]; unfold abvL; rw [show abv P v = some L by rw [hu, upF_neg (by omega)]; simp]; simp [tk_all]; rfl⟩

theorem higher_spec (P : List Int) (a b : Int) (hb0 : 0 ≤ b) (hb : b < P.length) (hP : ∀ p ∈ P, p < P.length) (hn : P.length ≤ 1000000) : FnP Try.prog 35 [ordP P, .int .i64 a, .int .i64 b] (· = .bool (hiB P a b)) := by
  obtain ⟨v, rfl⟩ := Int.eq_ofNat_of_zero_le hb0
  refine FnP.of Try.func35 rfl Try.ntmps35 (by simp) fun m0 w0 F R0 => ?_
  have hl := abvL_len P v
  repeat refine AW.seq ?_
  refine AW.region ?_
  refine RL.step (d := some 3) rfl rfl (xj_box 0 rfl rfl rfl (by rintro _ _ ⟨⟩) (by rintro _ _ _ ⟨⟩) (by rintro _ ⟨⟩)) ?_
  refine RL.step (d := some 6) rfl rfl (xj_assignE rfl) ?_
  repeat refine AW.seq ?_
  refine AW.region ?_
  first | refine RL.step (d := some 10) rfl rfl (xj_loadA ⟨_, Try.underlying33, rfl⟩ sz33 rfl rfl rfl rfl) ?_ | refine RL.step (d := some 10) rfl rfl (xj_loadAP ⟨_, Try.underlying33, rfl⟩ sz33 rfl rfl rfl rfl) ?_ | refine RL.step (d := some 10) rfl rfl (xj_loadAR ⟨_, Try.underlying33, rfl⟩ sz33 rfl rfl rfl) ?_
  refine RL.step (d := some 11) rfl rfl (xj_moveE rfl) ?_
  refine RL.step (d := some 12) rfl rfl (xj_call Try.call31 (above_spec P v (by omega) hP hn) rfl) ?_
  refine RL.step (d := some 9) rfl rfl (xj_moveE rfl) ?_
  first | refine RL.step (d := some 13) rfl rfl (xj_extractP rfl rfl) ?_ | refine RL.step (d := some 13) rfl rfl (xj_extract rfl rfl) ?_
  first | refine RL.step (d := some 14) rfl rfl (xj_extractP rfl rfl) ?_ | refine RL.step (d := some 14) rfl rfl (xj_extract rfl rfl) ?_
  refine RL.step (d := some 7) rfl rfl (xj_assignE rfl) ?_
  refine RL.step (d := some 8) rfl rfl (xj_assignE rfl) ?_
  repeat refine AW.seq ?_
  refine AW.region ?_
  refine RL.step (d := some 15) rfl rfl (xj_moveE rfl) ?_
  refine RL.step (d := some 16) rfl rfl (xj_moveE rfl) ?_
  refine RL.step (d := some 17) rfl rfl (xj_call Try.call29 (contains_spec (abvL P v) a (by omega)) rfl) ?_
  refine RL.step (d := some 6) rfl rfl (xj_assignE rfl) ?_
  repeat refine AW.seq ?_
  refine AW.ret ?_
  exact ⟨_, _, rfl, rfl, rfl⟩

abbrev relP (r : ByteArray × List Int) : PV := .agg [.str r.1, pints r.2]
theorem all_take {α : Type} {l : List α} {p : α → Bool} {k : Nat} (hk : k < l.length) (h : (l.take k).all p = true) (hn : p l[k] = true) : (l.take (k + 1)).all p = true := by
  rw [take_snoc hk]; simp only [List.all_append, h, List.all_cons, hn, List.all_nil, Bool.and_true]
theorem all_not {α : Type} {l : List α} {p : α → Bool} {k : Nat} (hk : k < l.length) (h : p l[k] = false) : l.all p = false := by
  rw [List.all_eq_false]; exact ⟨_, List.getElem_mem hk, by rw [h]; decide⟩
theorem neq_not (a b : Int) (p q : Bool) : ((a != b && !p) && !q) = !(a == b || p || q) := by
  rw [bne]; cases (a == b) <;> cases p <;> cases q <;> rfl

theorem right_spec (P : List Int) (r : ByteArray × List Int) (hr : ∀ a ∈ r.2, 0 ≤ a ∧ a < P.length) (hl : r.2.length ≤ 1000000) (hP : ∀ p ∈ P, p < P.length) (hn : P.length ≤ 1000000) : FnP Try.prog 34 [ordP P, relP r] (· = .bool (rightB P r.2)) := by
  refine FnP.of Try.func34 rfl Try.ntmps34 (by simp) fun m0 w0 F R0 => ?_
  repeat refine AW.seq ?_
  refine AW.region ?_
  refine RL.step (d := some 2) rfl rfl (xj_box 0 rfl rfl rfl (by rintro _ _ ⟨⟩) (by rintro _ _ _ ⟨⟩) (by rintro _ ⟨⟩)) ?_
  refine RL.step (d := some 3) rfl rfl (xj_box 1 rfl rfl rfl (by rintro _ _ ⟨⟩) (by rintro _ _ _ ⟨⟩) (by rintro _ ⟨⟩)) ?_
  refine RL.step (d := some 4) rfl rfl (xj_assignE rfl) ?_
  repeat refine AW.seq ?_
  refine AW.region ?_
  first | refine RL.step (d := some 9) rfl rfl (xj_fieldAddr fo40_1 rfl rfl) ?_ | refine RL.step (d := some 9) rfl rfl (xj_fieldAddrR fo40_1 rfl) ?_
  first | refine RL.step (d := some 10) rfl rfl (xj_load1 ⟨_, Try.underlying22, rfl⟩ rfl rfl rfl) ?_ | refine RL.step (d := some 10) rfl rfl (xj_load1P ⟨_, Try.underlying22, rfl⟩ rfl rfl (by first | rfl | assumption)) ?_ | refine RL.step (d := some 10) rfl rfl (xj_loadR ⟨_, Try.underlying22, rfl⟩ rfl (by first | rfl | assumption)) ?_
  first | refine RL.step (d := some 11) rfl rfl (xj_len Try.underlying22 rfl) ?_ | refine RL.step (d := some 11) rfl rfl (xj_lenO Try.underlying22 rfl rfl) ?_ | refine RL.step (d := some 11) rfl rfl (xj_lenG Try.underlying22 rfl) ?_
  refine RL.step (d := some 12) rfl rfl (xj_moveE rfl) ?_
  repeat refine AW.seq ?_
  refine AW.block ?_
  repeat refine AW.seq ?_
  refine AW.loop (st := fun x_0 : Nat => mkS [(2, .ptr 0 0), (3, .ptr 1 0), (10, .pv (pints r.2)), (11, .pv (.int .i64 r.2.length)), (12, .pv (.int .i64 x_0))] [(0, .mix 33 [.pv (pints P)]), (1, .mix 40 [.pv (.str r.1), .pv (pints r.2)])] 2)
    (I := fun x_0 => x_0 ≤ r.2.length ∧ ((r.2.take x_0).all fun a => r.2.all fun b => a == b || hiB P a b || hiB P b a) = true) (μ := fun x_0 => r.2.length - x_0) (x0 := (0)) (St.le_mk ⟨rfl, rfl, rfl, rfl, rfl, trivial⟩ ⟨rfl, rfl, trivial⟩ rfl rfl) (⟨Nat.zero_le _, rfl⟩) ?_
  rintro k ⟨hk, hall⟩
  repeat refine AW.seq ?_
  refine AW.region ?_
  refine RL.step (d := some 13) rfl rfl (xj_bin rfl rfl rfl) ?_
  repeat refine AW.seq ?_
  refine AW.condP rfl (fun hc13 => ?_) (fun hc13 => ?_)
  · have hlt : k < r.2.length := by omega
    have hva := pints_at hlt
    have hne := pints_ne hlt
    have hka := hr _ (List.getElem_mem hlt)
    refine AW.skip ?_
    repeat refine AW.seq ?_
    refine AW.block ?_
    repeat refine AW.seq ?_
    refine AW.region ?_
    first | refine RL.step (d := some 14) rfl rfl (xj_indexAddr _ Try.underlying22 sz3 rfl rfl rfl (by omega) (by assumption)) ?_ | refine RL.step (d := some 14) rfl rfl (xj_indexAddrO _ Try.underlying22 sz3 rfl rfl rfl rfl (by omega)) ?_
    first | refine RL.step (d := some 15) rfl rfl (xj_load1 ⟨_, Try.underlying3, rfl⟩ rfl rfl rfl) ?_ | refine RL.step (d := some 15) rfl rfl (xj_load1P ⟨_, Try.underlying3, rfl⟩ rfl rfl (by first | rfl | assumption)) ?_ | refine RL.step (d := some 15) rfl rfl (xj_loadR ⟨_, Try.underlying3, rfl⟩ rfl (by first | rfl | assumption)) ?_
    refine RL.step (d := some 6) rfl rfl (xj_assignE rfl) ?_
    repeat refine AW.seq ?_
    refine AW.region ?_
    first | refine RL.step (d := some 16) rfl rfl (xj_fieldAddr fo40_1 rfl rfl) ?_ | refine RL.step (d := some 16) rfl rfl (xj_fieldAddrR fo40_1 rfl) ?_
    first | refine RL.step (d := some 17) rfl rfl (xj_load1 ⟨_, Try.underlying22, rfl⟩ rfl rfl rfl) ?_ | refine RL.step (d := some 17) rfl rfl (xj_load1P ⟨_, Try.underlying22, rfl⟩ rfl rfl (by first | rfl | assumption)) ?_ | refine RL.step (d := some 17) rfl rfl (xj_loadR ⟨_, Try.underlying22, rfl⟩ rfl (by first | rfl | assumption)) ?_
    first | refine RL.step (d := some 18) rfl rfl (xj_len Try.underlying22 rfl) ?_ | refine RL.step (d := some 18) rfl rfl (xj_lenO Try.underlying22 rfl rfl) ?_ | refine RL.step (d := some 18) rfl rfl (xj_lenG Try.underlying22 rfl) ?_
    refine RL.step (d := some 19) rfl rfl (xj_moveE rfl) ?_
    repeat refine AW.seq ?_
    refine AW.block ?_
    repeat refine AW.seq ?_
    refine AW.loop (st := fun x_1 : Nat => mkS [(2, .ptr 0 0), (3, .ptr 1 0), (6, .pv (.int .i64 r.2[k])), (10, .pv (pints r.2)), (11, .pv (.int .i64 r.2.length)), (12, .pv (.int .i64 k)), (17, .pv (pints r.2)), (18, .pv (.int .i64 r.2.length)), (19, .pv (.int .i64 x_1))] [(0, .mix 33 [.pv (pints P)]), (1, .mix 40 [.pv (.str r.1), .pv (pints r.2)])] 2)
      (I := fun x_1 => x_1 ≤ r.2.length ∧ ((r.2.take x_1).all fun b => r.2[k] == b || hiB P r.2[k] b || hiB P b r.2[k]) = true) (μ := fun x_1 => r.2.length - x_1) (x0 := (0)) (St.le_mk ⟨rfl, rfl, rfl, rfl, rfl, rfl, rfl, rfl, rfl, trivial⟩ ⟨rfl, rfl, trivial⟩ rfl rfl) (⟨Nat.zero_le _, rfl⟩) ?_
    rintro j ⟨hj, hall2⟩
    repeat refine AW.seq ?_
    refine AW.region ?_
    refine RL.step (d := some 20) rfl rfl (xj_bin rfl rfl rfl) ?_
    repeat refine AW.seq ?_
    refine AW.condP rfl (fun hc20 => ?_) (fun hc20 => ?_)
    · have hlt2 : j < r.2.length := by omega
      have hvb := pints_at hlt2
      have hja := hr _ (List.getElem_mem hlt2)
      refine AW.skip ?_
      repeat refine AW.seq ?_
      refine AW.block ?_
      repeat refine AW.seq ?_
      refine AW.region ?_
      first | refine RL.step (d := some 21) rfl rfl (xj_indexAddr _ Try.underlying22 sz3 rfl rfl rfl (by omega) (by assumption)) ?_ | refine RL.step (d := some 21) rfl rfl (xj_indexAddrO _ Try.underlying22 sz3 rfl rfl rfl rfl (by omega)) ?_
      first | refine RL.step (d := some 22) rfl rfl (xj_load1 ⟨_, Try.underlying3, rfl⟩ rfl rfl rfl) ?_ | refine RL.step (d := some 22) rfl rfl (xj_load1P ⟨_, Try.underlying3, rfl⟩ rfl rfl (by first | rfl | assumption)) ?_ | refine RL.step (d := some 22) rfl rfl (xj_loadR ⟨_, Try.underlying3, rfl⟩ rfl (by first | rfl | assumption)) ?_
      refine RL.step (d := some 8) rfl rfl (xj_assignE rfl) ?_
      repeat refine AW.seq ?_
      refine AW.region ?_
      refine RL.step (d := some 23) rfl rfl (xj_moveE rfl) ?_
      refine RL.step (d := some 24) rfl rfl (xj_moveE rfl) ?_
      refine RL.step (d := some 25) rfl rfl (xj_bin rfl rfl rfl) ?_
      refine RL.step (d := some 26) rfl rfl (xj_moveE rfl) ?_
      apply RL.andB 6 26 32 [27, 28, 29, 30, 31] rfl (by first | exact MonoK.le | exact MonoK.aw | exact MonoK.back)
      · intro hb3
        first | refine RL.stepG (d := some 27) rfl rfl rfl (xj_loadA ⟨_, Try.underlying33, rfl⟩ sz33 rfl rfl rfl rfl) ?_ | refine RL.stepG (d := some 27) rfl rfl rfl (xj_loadAP ⟨_, Try.underlying33, rfl⟩ sz33 rfl rfl rfl rfl) ?_ | refine RL.stepG (d := some 27) rfl rfl rfl (xj_loadAR ⟨_, Try.underlying33, rfl⟩ sz33 rfl rfl rfl) ?_
        refine RL.stepG (d := some 28) rfl rfl rfl (xj_moveE rfl) ?_
        refine RL.stepG (d := some 29) rfl rfl rfl (xj_moveE rfl) ?_
        refine RL.stepG (d := some 30) rfl rfl rfl (xj_call Try.call35 (higher_spec P r.2[k] r.2[j] hja.1 hja.2 hP hn) rfl) ?_
        refine RL.stepG (d := some 31) rfl rfl rfl (xj_not rfl) ?_
        refine RL.step (d := some 32) rfl rfl (xj_pick rfl) ?_
        exact St.le_fg (fEq.upd (fEq.upd (fEq.upd (fEq.upd (fEq.upd (fEq.upd (fEq.upd (fEq.refl) rfl) rfl) rfl) rfl) rfl) rfl) rfl) rfl rfl rfl
      · intro hb3
        refine RL.skipG rfl rfl rfl ?_
        refine RL.skipG rfl rfl rfl ?_
        refine RL.skipG rfl rfl rfl ?_
        refine RL.skipG rfl rfl rfl ?_
        refine RL.skipG rfl rfl rfl ?_
        refine RL.step (d := some 32) rfl rfl (xj_pick rfl) ?_
        exact St.le_fg (fEq.upd (fEq.upd (fEq.upd (fEq.upd (fEq.upd (fEq.upd (fEq.upd (fEq.refl) rfl) rfl) rfl) rfl) rfl) rfl) rfl) rfl rfl rfl
      refine RL.step (d := some 33) rfl rfl (xj_moveE rfl) ?_
      apply RL.andB 6 33 39 [34, 35, 36, 37, 38] rfl (by first | exact MonoK.le | exact MonoK.aw | exact MonoK.back)
      · intro hb10
        first | refine RL.stepG (d := some 34) rfl rfl rfl (xj_loadA ⟨_, Try.underlying33, rfl⟩ sz33 rfl rfl rfl rfl) ?_ | refine RL.stepG (d := some 34) rfl rfl rfl (xj_loadAP ⟨_, Try.underlying33, rfl⟩ sz33 rfl rfl rfl rfl) ?_ | refine RL.stepG (d := some 34) rfl rfl rfl (xj_loadAR ⟨_, Try.underlying33, rfl⟩ sz33 rfl rfl rfl) ?_
        refine RL.stepG (d := some 35) rfl rfl rfl (xj_moveE rfl) ?_
        refine RL.stepG (d := some 36) rfl rfl rfl (xj_moveE rfl) ?_
        refine RL.stepG (d := some 37) rfl rfl rfl (xj_call Try.call35 (higher_spec P r.2[j] r.2[k] hka.1 hka.2 hP hn) rfl) ?_
        refine RL.stepG (d := some 38) rfl rfl rfl (xj_not rfl) ?_
        refine RL.step (d := some 39) rfl rfl (xj_pick rfl) ?_
        exact St.le_fg (fEq.upd (fEq.upd (fEq.upd (fEq.upd (fEq.upd (fEq.upd (fEq.upd (fEq.refl) rfl) rfl) rfl) rfl) rfl) rfl) rfl) rfl rfl rfl
      · intro hb10
        refine RL.skipG rfl rfl rfl ?_
        refine RL.skipG rfl rfl rfl ?_
        refine RL.skipG rfl rfl rfl ?_
        refine RL.skipG rfl rfl rfl ?_
        refine RL.skipG rfl rfl rfl ?_
        refine RL.step (d := some 39) rfl rfl (xj_pick rfl) ?_
        exact St.le_fg (fEq.upd (fEq.upd (fEq.upd (fEq.upd (fEq.upd (fEq.upd (fEq.upd (fEq.refl) rfl) rfl) rfl) rfl) rfl) rfl) rfl) rfl rfl rfl
      repeat refine AW.seq ?_
      refine AW.cond rfl (fun hc39 => ?_) (fun hc39 => ?_)
      · rw [neq_not, Bool.not_eq_true'] at hc39
        repeat refine AW.seq ?_
        refine AW.region ?_
        refine RL.step (d := some 4) rfl rfl (xj_assignE rfl) ?_
        repeat refine AW.seq ?_
        refine AW.ret ?_
        exact ⟨_, _, rfl, rfl, congrArg PV.bool (by unfold rightB; rw [all_not hlt (all_not hlt2 hc39)])⟩
      · rw [neq_not, Bool.not_eq_false'] at hc39
        refine AW.skip ?_
        repeat refine AW.seq ?_
        refine AW.region ?_
        refine RL.step (d := some 40) rfl rfl (xj_add rfl rfl (by omega)) ?_
        refine RL.step (d := some 19) rfl rfl (xj_moveE rfl) ?_
        exact ⟨(j + 1), St.le_mk ⟨rfl, rfl, rfl, rfl, rfl, rfl, rfl, rfl, rfl, trivial⟩ ⟨rfl, rfl, trivial⟩ rfl rfl, ⟨by omega, all_take hlt2 hall2 hc39⟩, by omega⟩
    · rw [List.take_of_length_le (by omega)] at hall2
      repeat refine AW.seq ?_
      refine AW.exit ?_
      repeat refine AW.seq ?_
      refine AW.region ?_
      refine RL.step (d := some 41) rfl rfl (xj_add rfl rfl (by omega)) ?_
      refine RL.step (d := some 12) rfl rfl (xj_moveE rfl) ?_
      exact ⟨(k + 1), St.le_mk ⟨rfl, rfl, rfl, rfl, rfl, trivial⟩ ⟨rfl, rfl, trivial⟩ rfl rfl, ⟨by omega, all_take hlt hall hall2⟩, by omega⟩
  · rw [List.take_of_length_le (by omega)] at hall
    repeat refine AW.seq ?_
    refine AW.exit ?_
    repeat refine AW.seq ?_
    refine AW.region ?_
    refine RL.step (d := some 4) rfl rfl (xj_assignE rfl) ?_
    repeat refine AW.seq ?_
    refine AW.ret ?_
    exact ⟨_, _, rfl, rfl, congrArg PV.bool (by unfold rightB; rw [hall])⟩

theorem check1_spec (P : List Int) (r : ByteArray × List Int) (hr : ∀ a ∈ r.2, 0 ≤ a ∧ a < P.length) (hl : r.2.length ≤ 1000000) (hP : ∀ p ∈ P, p < P.length) (hn : P.length ≤ 1000000) : FnP Try.prog 33 [relP r, .rp [pints P] 0] (· = .bool (!rightB P r.2)) := by
  refine FnP.of Try.func33 rfl Try.ntmps33 (by simp) fun m0 w0 F R0 => ?_
  repeat refine AW.seq ?_
  refine AW.region ?_
  refine RL.step (d := some 2) rfl rfl (xj_box 0 rfl rfl rfl (by rintro _ _ ⟨⟩) (by rintro _ _ _ ⟨⟩) (by rintro _ ⟨⟩)) ?_
  refine RL.step (d := some 3) rfl rfl (xj_assignE rfl) ?_
  repeat refine AW.seq ?_
  refine AW.region ?_
  first | refine RL.step (d := some 4) rfl rfl (xj_loadA ⟨_, Try.underlying33, rfl⟩ sz33 rfl rfl rfl rfl) ?_ | refine RL.step (d := some 4) rfl rfl (xj_loadAP ⟨_, Try.underlying33, rfl⟩ sz33 rfl rfl rfl rfl) ?_ | refine RL.step (d := some 4) rfl rfl (xj_loadAR ⟨_, Try.underlying33, rfl⟩ sz33 rfl rfl rfl) ?_
  first | refine RL.step (d := some 5) rfl rfl (xj_loadA ⟨_, Try.underlying40, rfl⟩ sz40 rfl rfl rfl rfl) ?_ | refine RL.step (d := some 5) rfl rfl (xj_loadAP ⟨_, Try.underlying40, rfl⟩ sz40 rfl rfl rfl rfl) ?_ | refine RL.step (d := some 5) rfl rfl (xj_loadAR ⟨_, Try.underlying40, rfl⟩ sz40 rfl rfl rfl) ?_
  refine RL.step (d := some 6) rfl rfl (xj_call Try.call34 (right_spec P r hr hl hP hn) rfl) ?_
  refine RL.step (d := some 7) rfl rfl (xj_not rfl) ?_
  refine RL.step (d := some 3) rfl rfl (xj_assignE rfl) ?_
  repeat refine AW.seq ?_
  refine AW.ret ?_
  exact ⟨_, _, rfl, rfl, rfl⟩
theorem idxR_spec (l : List (ByteArray × List Int)) (g : FuncId) (caps : List PV) (p : ByteArray × List Int → Bool) (hl : l.length ≤ 1000000) (hc : CallOk Try.prog g) (hg : ∀ f ∈ l, FnP Try.prog g ([] ++ [relP f] ++ caps) (· = .bool (p f))) :
    FnP Try.prog 54 [.sl none l.length (relsC l), .fn (.func g) [] caps] (fun v => ∃ i : Int, v = .int .i64 i ∧ decide (0 ≤ i) = l.any p) := by
  refine FnP.of Try.func54 rfl Try.ntmps54 (by simp) fun m0 w0 F R0 => ?_
  repeat refine AW.seq ?_
  refine AW.region ?_
  refine RL.step (d := some 4) rfl rfl (xj_assignE rfl) ?_
  repeat refine AW.seq ?_
  refine AW.region ?_
  refine RL.step (d := some 6) rfl rfl (xj_moveE rfl) ?_
  first | refine RL.step (d := some 7) rfl rfl (xj_len Try.underlying27 rfl) ?_ | refine RL.step (d := some 7) rfl rfl (xj_lenO Try.underlying27 rfl rfl) ?_ | refine RL.step (d := some 7) rfl rfl (xj_lenG Try.underlying27 rfl) ?_
  refine RL.step (d := some 8) rfl rfl (xj_moveE rfl) ?_
  repeat refine AW.seq ?_
  refine AW.block ?_
  repeat refine AW.seq ?_
  refine AW.loop (st := fun x_0 : Nat => mkS [(0, .pv (.sl none l.length (relsC l))), (1, .pv (.fn (.func g) [] caps)), (7, .pv (.int .i64 l.length)), (8, .pv (.int .i64 x_0))] [] 0)
    (I := fun x_0 => x_0 ≤ l.length ∧ (l.take x_0).any p = false) (μ := fun x_0 => l.length - x_0) (x0 := (0)) (St.le_mk ⟨rfl, rfl, rfl, rfl, trivial⟩ trivial rfl rfl) (⟨Nat.zero_le _, rfl⟩) ?_
  rintro k ⟨hk, hno⟩
  repeat refine AW.seq ?_
  refine AW.region ?_
  refine RL.step (d := some 9) rfl rfl (xj_bin rfl rfl rfl) ?_
  repeat refine AW.seq ?_
  refine AW.condP rfl (fun hc9 => ?_) (fun hc9 => ?_)
  · have hlt : k < l.length := by omega
    have hrow := rel_row hlt
    have hne := rel_ne hlt
    have hgk := hg _ (List.getElem_mem hlt)
    refine AW.skip ?_
    repeat refine AW.seq ?_
    refine AW.block ?_
    repeat refine AW.seq ?_
    refine AW.region ?_
    refine RL.step (d := some 10) rfl rfl (xj_moveE rfl) ?_
    refine RL.step (d := some 5) rfl rfl (xj_assignE rfl) ?_
    repeat refine AW.seq ?_
    refine AW.region ?_
    refine RL.step (d := some 11) rfl rfl (xj_moveE rfl) ?_
    refine RL.step (d := some 12) rfl rfl (xj_moveE rfl) ?_
    refine RL.step (d := some 13) rfl rfl (xj_moveE rfl) ?_
    first | refine RL.step (d := some 14) rfl rfl (xj_indexAddr _ Try.underlying27 sz40 rfl rfl rfl (by omega) (by assumption)) ?_ | refine RL.step (d := some 14) rfl rfl (xj_indexAddrO _ Try.underlying27 sz40 rfl rfl rfl rfl (by omega)) ?_
    refine RL.step (d := some 15) rfl rfl (xj_loadAR ⟨_, Try.underlying40, rfl⟩ sz40 rfl hrow rfl) ?_
    refine RL.step (d := some 16) rfl rfl (xj_callV hc rfl hgk rfl) ?_
    repeat refine AW.seq ?_
    refine AW.cond rfl (fun hc16 => ?_) (fun hc16 => ?_)
    · repeat refine AW.seq ?_
      refine AW.region ?_
      refine RL.step (d := some 17) rfl rfl (xj_moveE rfl) ?_
      refine RL.step (d := some 4) rfl rfl (xj_assignE rfl) ?_
      repeat refine AW.seq ?_
      refine AW.ret ?_
      exact ⟨_, _, rfl, rfl, _, rfl, by rw [any_at hlt hc16]; exact decide_eq_true (by omega)⟩
    · refine AW.skip ?_
      repeat refine AW.seq ?_
      refine AW.region ?_
      refine RL.step (d := some 18) rfl rfl (xj_add rfl rfl (by omega)) ?_
      refine RL.step (d := some 8) rfl rfl (xj_moveE rfl) ?_
      exact ⟨(k + 1), St.le_mk ⟨rfl, rfl, rfl, rfl, trivial⟩ trivial rfl rfl, ⟨by omega, any_take hlt hno hc16⟩, by omega⟩
  · repeat refine AW.seq ?_
    refine AW.exit ?_
    repeat refine AW.seq ?_
    refine AW.region ?_
    refine RL.step (d := some 4) rfl rfl (xj_assignE rfl) ?_
    repeat refine AW.seq ?_
    refine AW.ret ?_
    exact ⟨_, _, rfl, rfl, _, rfl, by rw [List.take_of_length_le (by omega)] at hno; rw [hno]; rfl⟩
theorem containsR_spec (l : List (ByteArray × List Int)) (g : FuncId) (caps : List PV) (p : ByteArray × List Int → Bool) (hl : l.length ≤ 1000000) (hc : CallOk Try.prog g) (hg : ∀ f ∈ l, FnP Try.prog g ([] ++ [relP f] ++ caps) (· = .bool (p f))) :
    FnP Try.prog 32 [.sl none l.length (relsC l), .fn (.func g) [] caps] (· = .bool (l.any p)) := by
  refine FnP.of Try.func32 rfl Try.ntmps32 (by simp) fun m0 w0 F R0 => ?_
  repeat refine AW.seq ?_
  refine AW.region ?_
  refine RL.step (d := some 4) rfl rfl (xj_assignE rfl) ?_
  repeat refine AW.seq ?_
  refine AW.region ?_
  refine RL.step (d := some 5) rfl rfl (xj_moveE rfl) ?_
  refine RL.step (d := some 6) rfl rfl (xj_moveE rfl) ?_
  refine RL.call rfl (oj_call Try.call54 (idxR_spec l g caps p hl hc hg) rfl ?_)
  rintro _ ⟨i, rfl, hi⟩
  refine RL.step (d := some 8) rfl rfl (xj_bin rfl rfl rfl) ?_
  refine RL.step (d := some 4) rfl rfl (xj_assignE rfl) ?_
  repeat refine AW.seq ?_
  refine AW.ret ?_
  exact ⟨_, _, rfl, rfl, congrArg PV.bool hi⟩

/-- What a valid schema is like. -/
structure Valid (S : Sch) : Prop where
  n1 : 1 ≤ S.attrs.length
  n2 : S.attrs.length ≤ 12
  r1 : 1 ≤ S.rels.length
  r2 : S.rels.length ≤ 6
  ne : ∀ r ∈ S.rels, r.2 ≠ []
  rng : ∀ r ∈ S.rels, ∀ a ∈ r.2, 0 ≤ a ∧ a < S.attrs.length
  asc : ∀ r ∈ S.rels, ascB r.2 = true
  use : ∀ a, a < S.attrs.length → ∃ r ∈ S.rels, (a : Int) ∈ r.2
theorem valid_of {S : Sch} (h : checkE S = 0) : Valid S := by
  unfold checkE at h
  split at h
  · cases h
  · rename_i hlim
    split at h
    · rename_i h1; exact absurd h h1
    · split at h
      · rename_i h1; exact absurd h h1
      · rename_i _ hr
        have hr : relsE S = 0 := Classical.byContradiction hr
        unfold relsE at hr
        split at hr
        · rename_i h1; exact absurd hr h1
        · rename_i hs
          have hs : scanE (relE S) S.rels.length = 0 := Classical.byContradiction hs
          split at hr
          · cases hr
          · rename_i hu
            have hrel : ∀ r ∈ S.rels, r.2 ≠ [] ∧ (r.2.all fun a => decide (0 ≤ a) && decide (a < S.attrs.length)) = true ∧ ascB r.2 = true := by
              intro r hr
              obtain ⟨i, hi, rfl⟩ := List.getElem_of_mem hr
              have he := scanE_zero.1 hs i hi
              unfold relE at he
              rw [show S.rels.getD i default = S.rels[i] by simp [List.getD, hi]] at he
              split at he
              · rename_i h1; exact absurd he h1
              · split at he
                · cases he
                · split at he
                  · cases he
                  · split at he
                    · cases he
                    · rename_i h1 h2 h3
                      exact ⟨h1, by simpa using h2, by simpa using h3⟩
            refine ⟨by omega, by omega, by omega, by omega, fun r hr => (hrel r hr).1, fun r hr a ha => ?_, fun r hr => (hrel r hr).2.2, fun a ha => ?_⟩
            · have := List.all_eq_true.1 (hrel r hr).2.1 a ha
              simpa using this
            · have hu : ((List.range S.attrs.length).all fun a => usedB S a) = true := by simpa using hu
              have := List.all_eq_true.1 hu a (List.mem_range.2 ha)
              unfold usedB at this
              obtain ⟨r, hr, hm⟩ := List.any_eq_true.1 this
              exact ⟨r, hr, by simpa [inB] using hm⟩

theorem ocheck_spec (S : Sch) (hS : SB S) (P : List Int) (hn : P.length ≤ 1000000) : FnP Try.prog 11 [schP S, ordP P] (· = .int .i64 (ordE S P)) := by
  refine FnP.of Try.func11 rfl Try.ntmps11 (by simp) fun m0 w0 F R0 => ?_
  have hb := hS.a
  repeat refine AW.seq ?_
  refine AW.region ?_
  refine RL.step (d := some 2) rfl rfl (xj_box 0 rfl rfl rfl (by rintro _ _ ⟨⟩) (by rintro _ _ _ ⟨⟩) (by rintro _ ⟨⟩)) ?_
  refine RL.step (d := some 3) rfl rfl (xj_box 1 rfl rfl rfl (by rintro _ _ ⟨⟩) (by rintro _ _ _ ⟨⟩) (by rintro _ ⟨⟩)) ?_
  refine RL.step (d := some 4) rfl rfl (xj_assignE rfl) ?_
  repeat refine AW.seq ?_
  refine AW.region ?_
  first | refine RL.step (d := some 11) rfl rfl (xj_loadA ⟨_, Try.underlying30, rfl⟩ sz30 rfl rfl rfl rfl) ?_ | refine RL.step (d := some 11) rfl rfl (xj_loadAP ⟨_, Try.underlying30, rfl⟩ sz30 rfl rfl rfl rfl) ?_ | refine RL.step (d := some 11) rfl rfl (xj_loadAR ⟨_, Try.underlying30, rfl⟩ sz30 rfl rfl rfl) ?_
  refine RL.step (d := some 12) rfl rfl (xj_call Try.call28 (chk_spec S hS) rfl) ?_
  refine RL.step (d := some 5) rfl rfl (xj_assignE rfl) ?_
  repeat refine AW.seq ?_
  refine AW.region ?_
  refine RL.step (d := some 13) rfl rfl (xj_moveE rfl) ?_
  refine RL.step (d := some 14) rfl rfl (xj_bin rfl rfl rfl) ?_
  repeat refine AW.seq ?_
  refine AW.cond rfl (fun hc14 => ?_) (fun hc14 => ?_)
  · repeat refine AW.seq ?_
    refine AW.region ?_
    refine RL.step (d := some 15) rfl rfl (xj_moveE rfl) ?_
    refine RL.step (d := some 4) rfl rfl (xj_assignE rfl) ?_
    repeat refine AW.seq ?_
    refine AW.ret ?_
    exact ⟨_, _, rfl, rfl, congrArg (PV.int .i64) (by unfold ordE; rw [if_pos (inT hc14)])⟩
  · have h0 : checkE S = 0 := inF hc14
    have hra := (valid_of h0).rng
    refine AW.skip ?_
    repeat refine AW.seq ?_
    refine AW.region ?_
    first | refine RL.step (d := some 16) rfl rfl (xj_fieldAddr fo33_0 rfl rfl) ?_ | refine RL.step (d := some 16) rfl rfl (xj_fieldAddrR fo33_0 rfl) ?_
    first | refine RL.step (d := some 17) rfl rfl (xj_load1 ⟨_, Try.underlying22, rfl⟩ rfl rfl rfl) ?_ | refine RL.step (d := some 17) rfl rfl (xj_load1P ⟨_, Try.underlying22, rfl⟩ rfl rfl (by first | rfl | assumption)) ?_ | refine RL.step (d := some 17) rfl rfl (xj_loadR ⟨_, Try.underlying22, rfl⟩ rfl (by first | rfl | assumption)) ?_
    first | refine RL.step (d := some 18) rfl rfl (xj_len Try.underlying22 rfl) ?_ | refine RL.step (d := some 18) rfl rfl (xj_lenO Try.underlying22 rfl rfl) ?_ | refine RL.step (d := some 18) rfl rfl (xj_lenG Try.underlying22 rfl) ?_
    first | refine RL.step (d := some 19) rfl rfl (xj_fieldAddr fo30_0 rfl rfl) ?_ | refine RL.step (d := some 19) rfl rfl (xj_fieldAddrR fo30_0 rfl) ?_
    first | refine RL.step (d := some 20) rfl rfl (xj_load1 ⟨_, Try.underlying26, rfl⟩ rfl rfl rfl) ?_ | refine RL.step (d := some 20) rfl rfl (xj_load1P ⟨_, Try.underlying26, rfl⟩ rfl rfl (by first | rfl | assumption)) ?_ | refine RL.step (d := some 20) rfl rfl (xj_loadR ⟨_, Try.underlying26, rfl⟩ rfl (by first | rfl | assumption)) ?_
    first | refine RL.step (d := some 21) rfl rfl (xj_len Try.underlying26 rfl) ?_ | refine RL.step (d := some 21) rfl rfl (xj_lenO Try.underlying26 rfl rfl) ?_ | refine RL.step (d := some 21) rfl rfl (xj_lenG Try.underlying26 rfl) ?_
    refine RL.step (d := some 22) rfl rfl (xj_bin rfl rfl rfl) ?_
    repeat refine AW.seq ?_
    refine AW.cond rfl (fun hc22 => ?_) (fun hc22 => ?_)
    · have hne0 : ¬ P.length = S.attrs.length := by have := inT hc22; omega
      repeat refine AW.seq ?_
      refine AW.region ?_
      refine RL.step (d := some 4) rfl rfl (xj_assignE rfl) ?_
      repeat refine AW.seq ?_
      refine AW.ret ?_
      exact ⟨_, _, rfl, rfl, congrArg (PV.int .i64) (by unfold ordE; rw [if_neg (fun h => h h0), if_pos hne0])⟩
    · have heq : P.length = S.attrs.length := by have := inF hc22; omega
      refine AW.skip ?_
      repeat refine AW.seq ?_
      refine AW.region ?_
      first | refine RL.step (d := some 23) rfl rfl (xj_fieldAddr fo33_0 rfl rfl) ?_ | refine RL.step (d := some 23) rfl rfl (xj_fieldAddrR fo33_0 rfl) ?_
      first | refine RL.step (d := some 24) rfl rfl (xj_load1 ⟨_, Try.underlying22, rfl⟩ rfl rfl rfl) ?_ | refine RL.step (d := some 24) rfl rfl (xj_load1P ⟨_, Try.underlying22, rfl⟩ rfl rfl (by first | rfl | assumption)) ?_ | refine RL.step (d := some 24) rfl rfl (xj_loadR ⟨_, Try.underlying22, rfl⟩ rfl (by first | rfl | assumption)) ?_
      first | refine RL.step (d := some 25) rfl rfl (xj_len Try.underlying22 rfl) ?_ | refine RL.step (d := some 25) rfl rfl (xj_lenO Try.underlying22 rfl rfl) ?_ | refine RL.step (d := some 25) rfl rfl (xj_lenG Try.underlying22 rfl) ?_
      refine RL.step (d := some 26) rfl rfl (xj_moveE rfl) ?_
      repeat refine AW.seq ?_
      refine AW.block ?_
      repeat refine AW.seq ?_
      refine AW.loop (st := fun x_0 : Nat => mkS [(2, .ptr 0 0), (3, .ptr 1 0), (24, .pv (pints P)), (25, .pv (.int .i64 P.length)), (26, .pv (.int .i64 x_0))] [(0, .mix 30 [.pv (.sl none S.attrs.length (attrsC S.attrs)), .pv (.sl none S.rels.length (relsC S.rels)), .pv (.sl none S.feats.length (featsC S.feats)), .pv (.int .i64 S.label)]), (1, .mix 33 [.pv (pints P)])] 2)
        (I := fun x_0 => x_0 ≤ P.length ∧ ((P.take x_0).any fun p => decide (p < -1) || decide ((P.length : Int) ≤ p)) = false) (μ := fun x_0 => P.length - x_0) (x0 := (0)) (St.le_mk ⟨rfl, rfl, rfl, rfl, rfl, trivial⟩ ⟨rfl, rfl, trivial⟩ rfl rfl) (⟨Nat.zero_le _, rfl⟩) ?_
      rintro k ⟨hk, hany⟩
      repeat refine AW.seq ?_
      refine AW.region ?_
      refine RL.step (d := some 27) rfl rfl (xj_bin rfl rfl rfl) ?_
      repeat refine AW.seq ?_
      refine AW.condP rfl (fun hc27 => ?_) (fun hc27 => ?_)
      · have hlt : k < P.length := by omega
        have hva := pints_at hlt
        have hne := pints_ne hlt
        refine AW.skip ?_
        repeat refine AW.seq ?_
        refine AW.block ?_
        repeat refine AW.seq ?_
        refine AW.region ?_
        first | refine RL.step (d := some 28) rfl rfl (xj_indexAddr _ Try.underlying22 sz3 rfl rfl rfl (by omega) (by assumption)) ?_ | refine RL.step (d := some 28) rfl rfl (xj_indexAddrO _ Try.underlying22 sz3 rfl rfl rfl rfl (by omega)) ?_
        first | refine RL.step (d := some 29) rfl rfl (xj_load1 ⟨_, Try.underlying3, rfl⟩ rfl rfl rfl) ?_ | refine RL.step (d := some 29) rfl rfl (xj_load1P ⟨_, Try.underlying3, rfl⟩ rfl rfl (by first | rfl | assumption)) ?_ | refine RL.step (d := some 29) rfl rfl (xj_loadR ⟨_, Try.underlying3, rfl⟩ rfl (by first | rfl | assumption)) ?_
        refine RL.step (d := some 7) rfl rfl (xj_assignE rfl) ?_
        repeat refine AW.seq ?_
        refine AW.region ?_
        refine RL.step (d := some 30) rfl rfl (xj_moveE rfl) ?_
        refine RL.step (d := some 31) rfl rfl (xj_bin rfl rfl rfl) ?_
        refine RL.step (d := some 32) rfl rfl (xj_moveE rfl) ?_
        apply RL.orB 6 32 38 [33, 34, 35, 36, 37] rfl (by first | exact MonoK.le | exact MonoK.aw | exact MonoK.back)
        · intro hb2
          refine RL.skipG rfl rfl rfl ?_
          refine RL.skipG rfl rfl rfl ?_
          refine RL.skipG rfl rfl rfl ?_
          refine RL.skipG rfl rfl rfl ?_
          refine RL.skipG rfl rfl rfl ?_
          refine RL.step (d := some 38) rfl rfl (xj_pick rfl) ?_
          exact St.le_fg (fEq.upd (fEq.upd (fEq.upd (fEq.upd (fEq.upd (fEq.upd (fEq.upd (fEq.refl) rfl) rfl) rfl) rfl) rfl) rfl) rfl) rfl rfl rfl
        · intro hb2
          refine RL.stepG (d := some 33) rfl rfl rfl (xj_moveE rfl) ?_
          first | refine RL.stepG (d := some 34) rfl rfl rfl (xj_fieldAddr fo33_0 rfl rfl) ?_ | refine RL.stepG (d := some 34) rfl rfl rfl (xj_fieldAddrR fo33_0 rfl) ?_
          first | refine RL.stepG (d := some 35) rfl rfl rfl (xj_load1 ⟨_, Try.underlying22, rfl⟩ rfl rfl rfl) ?_ | refine RL.stepG (d := some 35) rfl rfl rfl (xj_load1P ⟨_, Try.underlying22, rfl⟩ rfl rfl (by first | rfl | assumption)) ?_ | refine RL.stepG (d := some 35) rfl rfl rfl (xj_loadR ⟨_, Try.underlying22, rfl⟩ rfl (by first | rfl | assumption)) ?_
          first | refine RL.stepG (d := some 36) rfl rfl rfl (xj_len Try.underlying22 rfl) ?_ | refine RL.stepG (d := some 36) rfl rfl rfl (xj_lenO Try.underlying22 rfl rfl) ?_ | refine RL.stepG (d := some 36) rfl rfl rfl (xj_lenG Try.underlying22 rfl) ?_
          refine RL.stepG (d := some 37) rfl rfl rfl (xj_bin rfl rfl rfl) ?_
          refine RL.step (d := some 38) rfl rfl (xj_pick rfl) ?_
          exact St.le_fg (fEq.upd (fEq.upd (fEq.upd (fEq.upd (fEq.upd (fEq.upd (fEq.upd (fEq.refl) rfl) rfl) rfl) rfl) rfl) rfl) rfl) rfl rfl rfl
        repeat refine AW.seq ?_
        refine AW.cond rfl (fun hc38 => ?_) (fun hc38 => ?_)
        · repeat refine AW.seq ?_
          refine AW.region ?_
          refine RL.step (d := some 4) rfl rfl (xj_assignE rfl) ?_
          repeat refine AW.seq ?_
          refine AW.ret ?_
          exact ⟨_, _, rfl, rfl, congrArg (PV.int .i64) (by unfold ordE; rw [if_neg (fun h => h h0), if_neg (fun h => h heq), if_pos (any_at hlt hc38)])⟩
        · refine AW.skip ?_
          repeat refine AW.seq ?_
          refine AW.region ?_
          refine RL.step (d := some 39) rfl rfl (xj_add rfl rfl (by omega)) ?_
          refine RL.step (d := some 26) rfl rfl (xj_moveE rfl) ?_
          exact ⟨(k + 1), St.le_mk ⟨rfl, rfl, rfl, rfl, rfl, trivial⟩ ⟨rfl, rfl, trivial⟩ rfl rfl, ⟨by omega, any_take hlt hany hc38⟩, by omega⟩
      · rw [List.take_of_length_le (by omega)] at hany
        have hP : ∀ p ∈ P, p < P.length := fun p hp => by have := List.any_eq_false.1 hany p hp; simp at this; omega
        repeat refine AW.seq ?_
        refine AW.exit ?_
        repeat refine AW.seq ?_
        refine AW.region ?_
        first | refine RL.step (d := some 40) rfl rfl (xj_fieldAddr fo33_0 rfl rfl) ?_ | refine RL.step (d := some 40) rfl rfl (xj_fieldAddrR fo33_0 rfl) ?_
        first | refine RL.step (d := some 41) rfl rfl (xj_load1 ⟨_, Try.underlying22, rfl⟩ rfl rfl rfl) ?_ | refine RL.step (d := some 41) rfl rfl (xj_load1P ⟨_, Try.underlying22, rfl⟩ rfl rfl (by first | rfl | assumption)) ?_ | refine RL.step (d := some 41) rfl rfl (xj_loadR ⟨_, Try.underlying22, rfl⟩ rfl (by first | rfl | assumption)) ?_
        first | refine RL.step (d := some 42) rfl rfl (xj_len Try.underlying22 rfl) ?_ | refine RL.step (d := some 42) rfl rfl (xj_lenO Try.underlying22 rfl rfl) ?_ | refine RL.step (d := some 42) rfl rfl (xj_lenG Try.underlying22 rfl) ?_
        refine RL.step (d := some 43) rfl rfl (xj_moveE rfl) ?_
        repeat refine AW.seq ?_
        refine AW.block ?_
        repeat refine AW.seq ?_
        refine AW.loop (st := fun x_1 : Nat => mkS [(2, .ptr 0 0), (3, .ptr 1 0), (42, .pv (.int .i64 P.length)), (43, .pv (.int .i64 x_1))] [(0, .mix 30 [.pv (.sl none S.attrs.length (attrsC S.attrs)), .pv (.sl none S.rels.length (relsC S.rels)), .pv (.sl none S.feats.length (featsC S.feats)), .pv (.int .i64 S.label)]), (1, .mix 33 [.pv (pints P)])] 2)
          (I := fun x_1 => x_1 ≤ P.length ∧ ((List.range x_1).all fun v => (abv P v).isSome) = true) (μ := fun x_1 => P.length - x_1) (x0 := (0)) (St.le_mk ⟨rfl, rfl, rfl, rfl, trivial⟩ ⟨rfl, rfl, trivial⟩ rfl rfl) (⟨Nat.zero_le _, rfl⟩) ?_
        rintro q ⟨hq, hall⟩
        repeat refine AW.seq ?_
        refine AW.region ?_
        refine RL.step (d := some 44) rfl rfl (xj_bin rfl rfl rfl) ?_
        repeat refine AW.seq ?_
        refine AW.condP rfl (fun hc44 => ?_) (fun hc44 => ?_)
        · have hlt : q < P.length := by omega
          refine AW.skip ?_
          repeat refine AW.seq ?_
          refine AW.block ?_
          repeat refine AW.seq ?_
          refine AW.region ?_
          refine RL.step (d := some 45) rfl rfl (xj_moveE rfl) ?_
          refine RL.step (d := some 8) rfl rfl (xj_assignE rfl) ?_
          repeat refine AW.seq ?_
          refine AW.region ?_
          first | refine RL.step (d := some 47) rfl rfl (xj_loadA ⟨_, Try.underlying33, rfl⟩ sz33 rfl rfl rfl rfl) ?_ | refine RL.step (d := some 47) rfl rfl (xj_loadAP ⟨_, Try.underlying33, rfl⟩ sz33 rfl rfl rfl rfl) ?_ | refine RL.step (d := some 47) rfl rfl (xj_loadAR ⟨_, Try.underlying33, rfl⟩ sz33 rfl rfl rfl) ?_
          refine RL.step (d := some 48) rfl rfl (xj_moveE rfl) ?_
          refine RL.step (d := some 49) rfl rfl (xj_call Try.call31 (above_spec P q hlt hP hn) rfl) ?_
          refine RL.step (d := some 46) rfl rfl (xj_moveE rfl) ?_
          first | refine RL.step (d := some 50) rfl rfl (xj_extractP rfl rfl) ?_ | refine RL.step (d := some 50) rfl rfl (xj_extract rfl rfl) ?_
          first | refine RL.step (d := some 51) rfl rfl (xj_extractP rfl rfl) ?_ | refine RL.step (d := some 51) rfl rfl (xj_extract rfl rfl) ?_
          refine RL.step (d := some 9) rfl rfl (xj_assignE rfl) ?_
          refine RL.step (d := some 10) rfl rfl (xj_assignE rfl) ?_
          repeat refine AW.seq ?_
          refine AW.region ?_
          refine RL.step (d := some 52) rfl rfl (xj_moveE rfl) ?_
          refine RL.step (d := some 53) rfl rfl (xj_not rfl) ?_
          repeat refine AW.seq ?_
          refine AW.cond rfl (fun hc53 => ?_) (fun hc53 => ?_)
          · have hno : ((List.range P.length).all fun v => (abv P v).isSome) = false := List.all_eq_false.2 ⟨q, List.mem_range.2 hlt, by simpa using hc53⟩
            repeat refine AW.seq ?_
            refine AW.region ?_
            refine RL.step (d := some 4) rfl rfl (xj_assignE rfl) ?_
            repeat refine AW.seq ?_
            refine AW.ret ?_
            exact ⟨_, _, rfl, rfl, congrArg (PV.int .i64) (by unfold ordE; rw [if_neg (fun h => h h0), if_neg (fun h => h heq), if_neg (by rw [hany]; decide), if_pos hno])⟩
          · refine AW.skip ?_
            repeat refine AW.seq ?_
            refine AW.region ?_
            refine RL.step (d := some 54) rfl rfl (xj_add rfl rfl (by omega)) ?_
            refine RL.step (d := some 43) rfl rfl (xj_moveE rfl) ?_
            exact ⟨(q + 1), St.le_mk ⟨rfl, rfl, rfl, rfl, trivial⟩ ⟨rfl, rfl, trivial⟩ rfl rfl, ⟨by omega, by rw [List.range_succ, List.all_append, hall]; simpa using hc53⟩, by omega⟩
        · obtain rfl : q = P.length := by omega
          repeat refine AW.seq ?_
          refine AW.exit ?_
          refine AW.weaken (St.le_ppA 1 rfl rfl) ?_
          have hal : ∀ r ∈ S.rels, FnP Try.prog 33 ([] ++ [relP r] ++ [.rp [pints P] 0]) (· = .bool (!rightB P r.2)) := fun r hr => check1_spec P r (by rw [heq]; exact hra r hr) (hS.rl r hr) hP hn
          repeat refine AW.seq ?_
          refine AW.region ?_
          first | refine RL.step (d := some 55) rfl rfl (xj_fieldAddr fo30_1 rfl rfl) ?_ | refine RL.step (d := some 55) rfl rfl (xj_fieldAddrR fo30_1 rfl) ?_
          first | refine RL.step (d := some 56) rfl rfl (xj_load1 ⟨_, Try.underlying27, rfl⟩ rfl rfl rfl) ?_ | refine RL.step (d := some 56) rfl rfl (xj_load1P ⟨_, Try.underlying27, rfl⟩ rfl rfl (by first | rfl | assumption)) ?_ | refine RL.step (d := some 56) rfl rfl (xj_loadR ⟨_, Try.underlying27, rfl⟩ rfl (by first | rfl | assumption)) ?_
          refine RL.step (d := some 57) rfl rfl (xj_makeFunc) ?_
          refine RL.step (d := some 58) rfl rfl (xj_call Try.call32 (containsR_spec S.rels 33 [.rp [pints P] 0] (fun r => !rightB P r.2) hS.r Try.call33 hal) rfl) ?_
          repeat refine AW.seq ?_
          refine AW.cond rfl (fun hc58 => ?_) (fun hc58 => ?_)
          · have hno : (S.rels.all fun r => rightB P r.2) = false := by rw [List.any_eq_not_all_not] at hc58; simpa using hc58
            repeat refine AW.seq ?_
            refine AW.region ?_
            refine RL.step (d := some 4) rfl rfl (xj_assignE rfl) ?_
            repeat refine AW.seq ?_
            refine AW.ret ?_
            exact ⟨_, _, rfl, rfl, congrArg (PV.int .i64) (by unfold ordE; rw [if_neg (fun h => h h0), if_neg (fun h => h heq), if_neg (by rw [hany]; decide), if_neg (by rw [hall]; decide), if_pos hno])⟩
          · have hno : (S.rels.all fun r => rightB P r.2) = true := by rw [List.any_eq_not_all_not] at hc58; simpa using hc58
            refine AW.skip ?_
            repeat refine AW.seq ?_
            refine AW.region ?_
            refine RL.step (d := some 4) rfl rfl (xj_assignE rfl) ?_
            repeat refine AW.seq ?_
            refine AW.ret ?_
            exact ⟨_, _, rfl, rfl, congrArg (PV.int .i64) (by unfold ordE; rw [if_neg (fun h => h h0), if_neg (fun h => h heq), if_neg (by rw [hany]; decide), if_neg (by rw [hall]; decide), if_neg (by rw [hno]; decide)])⟩

end Go.Proofs.Ytkalgjnhaicabaa
