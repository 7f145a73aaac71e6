/-
  law08.sane, in our step logic. No statement of the program is proved here.
-/
import Derived.Test.YtkalgjnhaicabaaW1
namespace Go.Proofs.Ytkalgjnhaicabaa
open Go.RowKit Mk
set_option maxRecDepth 100000
set_option maxHeartbeats 20000000

theorem sane_spec : FnP Try.prog 6 [] (· = .bool true) := by
  refine FnP.of Try.func6 rfl Try.ntmps6 (by simp) fun m0 w0 F R0 => ?_
  repeat refine AW.seq ?_
  refine AW.region ?_
  refine RL.step (d := some 0) rfl rfl (xj_assignE rfl) ?_
  repeat refine AW.seq ?_
  refine AW.region ?_
  refine RL.step (d := some 6) rfl rfl (xj_call Try.call21 path_spec rfl) ?_
  refine RL.step (d := some 7) rfl rfl (xj_buildSliceP none (by simp) el22 rfl (by decide) (by decide) rfl rfl) ?_
  refine RL.step (d := some 8) rfl rfl (xj_call Try.call9 of_path rfl) ?_
  refine RL.step (d := some 5) rfl rfl (xj_moveE rfl) ?_
  first | refine RL.step (d := some 9) rfl rfl (xj_extractP rfl rfl) ?_ | refine RL.step (d := some 9) rfl rfl (xj_extract rfl rfl) ?_
  first | refine RL.step (d := some 10) rfl rfl (xj_extractP rfl rfl) ?_ | refine RL.step (d := some 10) rfl rfl (xj_extract rfl rfl) ?_
  refine RL.step (d := some 1) rfl rfl (xj_alloc 0 zero33 rfl rfl) ?_
  first | refine RL.step (d := none) rfl rfl (xj_store sz33 rfl rfl rfl rfl (by first | (simp; done) | exact Nat.le_of_ble_eq_true rfl) rfl rfl) ?_ | refine RL.step (d := none) rfl rfl (xj_storeP sz33 rfl rfl rfl rfl (by simp; omega)) ?_
  refine RL.step (d := some 2) rfl rfl (xj_assignE rfl) ?_
  repeat refine AW.seq ?_
  refine AW.draw follows [[], [], [1, 0], [2, 1, 0], [3, 2, 1, 0], [3, 2, 1, 0], [4, 3, 2, 1, 0], [6, 5, 3, 2, 1, 0, 4]] [0, 1, 2, 3, 4, 5, 6, 7] (by kernel_rfl) (by kernel_rfl) ?_
  refine DL.step (d := some 12) [] rfl rfl rfl (fun τ h => xj_call Try.call21 path_spec (h.argsP rfl)) rfl (by kernel_rfl) ?_
  first | refine DL.step (d := some 13) [_] rfl rfl rfl (fun τ h => xj_loadA ⟨_, Try.underlying33, rfl⟩ sz33 ((h.e 0 _ rfl).trans rfl) ((h.o 0 _ rfl).trans rfl) rfl rfl) rfl (by kernel_rfl) ?_ | refine DL.step (d := some 13) [_] rfl rfl rfl (fun τ h => xj_loadAP ⟨_, Try.underlying33, rfl⟩ sz33 ((h.e 0 _ rfl).trans rfl) ((h.o 0 _ rfl).trans rfl) rfl rfl) rfl (by kernel_rfl) ?_ | refine DL.step (d := some 13) [] rfl rfl rfl (fun τ h => xj_loadAR ⟨_, Try.underlying33, rfl⟩ sz33 ((h.e 0 _ rfl).trans rfl) rfl rfl) rfl (by kernel_rfl) ?_
  refine DL.step (d := some 14) [] rfl rfl rfl (fun τ h => xj_call Try.call19 width_path (h.argsP rfl)) rfl (by kernel_rfl) ?_
  refine DL.step (d := some 11) [] rfl rfl rfl (fun τ h => xj_moveE ((h.e 0 _ rfl).trans rfl)) rfl (by kernel_rfl) ?_
  first | refine DL.step (d := some 15) [] rfl rfl rfl (fun τ h => xj_extractP ((h.e 0 _ rfl).trans rfl) rfl) rfl (by kernel_rfl) ?_ | refine DL.step (d := some 15) [] rfl rfl rfl (fun τ h => xj_extract ((h.e 0 _ rfl).trans rfl) rfl) rfl (by kernel_rfl) ?_
  first | refine DL.step (d := some 16) [] rfl rfl rfl (fun τ h => xj_extractP ((h.e 0 _ rfl).trans rfl) rfl) rfl (by kernel_rfl) ?_ | refine DL.step (d := some 16) [] rfl rfl rfl (fun τ h => xj_extract ((h.e 0 _ rfl).trans rfl) rfl) rfl (by kernel_rfl) ?_
  refine DL.step (d := some 3) [] rfl rfl rfl (fun τ h => xj_assignE ((h.e 0 _ rfl).trans rfl)) rfl (by kernel_rfl) ?_
  refine DL.step (d := some 4) [] rfl rfl rfl (fun τ h => xj_assignE ((h.e 0 _ rfl).trans rfl)) rfl (by kernel_rfl) ?_
  refine ⟨by kernel_rfl, ?_⟩
  refine AW.weaken (τ := mkS [(2, .pv (.int .i64 0)), (3, .pv (.int .i64 2)), (4, .pv (.int .i64 0)), (1, .ptr 0 0)] [(0, .mix 33 [.pv (pints pathP)])] 1) (St.le_mk ⟨rfl, rfl, rfl, rfl, trivial⟩ ⟨rfl, trivial⟩ rfl rfl) ?_
  repeat refine AW.seq ?_
  refine AW.draw follows [[], [0], [1, 0], [2, 1, 0], [3, 2, 1, 0], [4, 2, 1, 0, 3], [5, 4, 2, 1, 0, 3], [6, 5, 4, 2, 1, 0, 3], [7, 6, 5, 4, 2, 1, 0, 3], [8, 6, 5, 4, 2, 1, 0, 3, 7], [9, 8, 6, 5, 4, 2, 1, 0, 3, 7], [10, 9, 8, 6, 5, 4, 2, 1, 0, 3, 7], [11, 10, 9, 8, 6, 5, 4, 2, 1, 0, 3, 7], [10, 9, 8, 6, 5, 4, 2, 1, 0, 3, 7], [13, 12, 11, 10, 9, 8, 6, 5, 4, 2, 1, 0, 3, 7], [14, 10, 9, 8, 6, 5, 4, 2, 1, 0, 3, 7, 13, 12, 11], [15, 14, 10, 9, 8, 6, 5, 4, 2, 1, 0, 3, 7, 13, 12, 11], [16, 15, 14, 10, 9, 8, 6, 5, 4, 2, 1, 0, 3, 7, 13, 12, 11], [16, 15, 14, 10, 9, 8, 6, 5, 4, 2, 1, 0, 3, 7, 13, 12, 11], [18, 17, 16, 15, 14, 10, 9, 8, 6, 5, 4, 2, 1, 0, 3, 7, 13, 12, 11], [16, 15, 14, 10, 9, 8, 6, 5, 4, 2, 1, 0, 3, 7, 13, 12, 11], [20, 19, 18, 17, 16, 15, 14, 10, 9, 8, 6, 5, 4, 2, 1, 0, 3, 7, 13, 12, 11], [21, 16, 15, 14, 10, 9, 8, 6, 5, 4, 2, 1, 0, 3, 7, 13, 12, 11, 20, 19, 18, 17], [22, 21, 16, 15, 14, 10, 9, 8, 6, 5, 4, 2, 1, 0, 3, 7, 13, 12, 11, 20, 19, 18, 17], [23, 22, 21, 16, 15, 14, 10, 9, 8, 6, 5, 4, 2, 1, 0, 3, 7, 13, 12, 11, 20, 19, 18, 17], [23, 22, 21, 16, 15, 14, 10, 9, 8, 6, 5, 4, 2, 1, 0, 3, 7, 13, 12, 11, 20, 19, 18, 17], [25, 24, 23, 22, 21, 16, 15, 14, 10, 9, 8, 6, 5, 4, 2, 1, 0, 3, 7, 13, 12, 11, 20, 19, 18, 17], [23, 22, 21, 16, 15, 14, 10, 9, 8, 6, 5, 4, 2, 1, 0, 3, 7, 13, 12, 11, 20, 19, 18, 17], [27, 26, 25, 24, 23, 22, 21, 16, 15, 14, 10, 9, 8, 6, 5, 4, 2, 1, 0, 3, 7, 13, 12, 11, 20, 19, 18, 17], [28, 23, 22, 21, 16, 15, 14, 10, 9, 8, 6, 5, 4, 2, 1, 0, 3, 7, 13, 12, 11, 20, 19, 18, 17, 27, 26, 25, 24], [29, 28, 23, 22, 21, 16, 15, 14, 10, 9, 8, 6, 5, 4, 2, 1, 0, 3, 7, 13, 12, 11, 20, 19, 18, 17, 27, 26, 25, 24], [30, 29, 28, 23, 22, 21, 16, 15, 14, 10, 9, 8, 6, 5, 4, 2, 1, 0, 3, 7, 13, 12, 11, 20, 19, 18, 17, 27, 26, 25, 24], [30, 29, 28, 23, 22, 21, 16, 15, 14, 10, 9, 8, 6, 5, 4, 2, 1, 0, 3, 7, 13, 12, 11, 20, 19, 18, 17, 27, 26, 25, 24], [32, 31, 30, 29, 28, 23, 22, 21, 16, 15, 14, 10, 9, 8, 6, 5, 4, 2, 1, 0, 3, 7, 13, 12, 11, 20, 19, 18, 17, 27, 26, 25, 24], [33, 32, 31, 30, 29, 28, 23, 22, 21, 16, 15, 14, 10, 9, 8, 6, 5, 4, 2, 1, 0, 3, 7, 13, 12, 11, 20, 19, 18, 17, 27, 26, 25, 24], [34, 30, 29, 28, 23, 22, 21, 16, 15, 14, 10, 9, 8, 6, 5, 4, 2, 1, 0, 3, 7, 13, 12, 11, 20, 19, 18, 17, 27, 26, 25, 24, 33, 32, 31], [35, 34, 30, 29, 28, 23, 22, 21, 16, 15, 14, 10, 9, 8, 6, 5, 4, 2, 1, 0, 3, 7, 13, 12, 11, 20, 19, 18, 17, 27, 26, 25, 24, 33, 32, 31], [36, 35, 34, 30, 29, 28, 23, 22, 21, 16, 15, 14, 10, 9, 8, 6, 5, 4, 2, 1, 0, 3, 7, 13, 12, 11, 20, 19, 18, 17, 27, 26, 25, 24, 33, 32, 31], [36, 35, 34, 30, 29, 28, 23, 22, 21, 16, 15, 14, 10, 9, 8, 6, 5, 4, 2, 1, 0, 3, 7, 13, 12, 11, 20, 19, 18, 17, 27, 26, 25, 24, 33, 32, 31], [38, 37, 36, 35, 34, 30, 29, 28, 23, 22, 21, 16, 15, 14, 10, 9, 8, 6, 5, 4, 2, 1, 0, 3, 7, 13, 12, 11, 20, 19, 18, 17, 27, 26, 25, 24, 33, 32, 31], [36, 35, 34, 30, 29, 28, 23, 22, 21, 16, 15, 14, 10, 9, 8, 6, 5, 4, 2, 1, 0, 3, 7, 13, 12, 11, 20, 19, 18, 17, 27, 26, 25, 24, 33, 32, 31], [40, 39, 38, 37, 36, 35, 34, 30, 29, 28, 23, 22, 21, 16, 15, 14, 10, 9, 8, 6, 5, 4, 2, 1, 0, 3, 7, 13, 12, 11, 20, 19, 18, 17, 27, 26, 25, 24, 33, 32, 31], [41, 36, 35, 34, 30, 29, 28, 23, 22, 21, 16, 15, 14, 10, 9, 8, 6, 5, 4, 2, 1, 0, 3, 7, 13, 12, 11, 20, 19, 18, 17, 27, 26, 25, 24, 33, 32, 31, 40, 39, 38, 37], [42, 41, 36, 35, 34, 30, 29, 28, 23, 22, 21, 16, 15, 14, 10, 9, 8, 6, 5, 4, 2, 1, 0, 3, 7, 13, 12, 11, 20, 19, 18, 17, 27, 26, 25, 24, 33, 32, 31, 40, 39, 38, 37], [43, 42, 41, 36, 35, 34, 30, 29, 28, 23, 22, 21, 16, 15, 14, 10, 9, 8, 6, 5, 4, 2, 1, 0, 3, 7, 13, 12, 11, 20, 19, 18, 17, 27, 26, 25, 24, 33, 32, 31, 40, 39, 38, 37], [43, 42, 41, 36, 35, 34, 30, 29, 28, 23, 22, 21, 16, 15, 14, 10, 9, 8, 6, 5, 4, 2, 1, 0, 3, 7, 13, 12, 11, 20, 19, 18, 17, 27, 26, 25, 24, 33, 32, 31, 40, 39, 38, 37], [45, 44, 43, 42, 41, 36, 35, 34, 30, 29, 28, 23, 22, 21, 16, 15, 14, 10, 9, 8, 6, 5, 4, 2, 1, 0, 3, 7, 13, 12, 11, 20, 19, 18, 17, 27, 26, 25, 24, 33, 32, 31, 40, 39, 38, 37], [43, 42, 41, 36, 35, 34, 30, 29, 28, 23, 22, 21, 16, 15, 14, 10, 9, 8, 6, 5, 4, 2, 1, 0, 3, 7, 13, 12, 11, 20, 19, 18, 17, 27, 26, 25, 24, 33, 32, 31, 40, 39, 38, 37], [47, 46, 45, 44, 43, 42, 41, 36, 35, 34, 30, 29, 28, 23, 22, 21, 16, 15, 14, 10, 9, 8, 6, 5, 4, 2, 1, 0, 3, 7, 13, 12, 11, 20, 19, 18, 17, 27, 26, 25, 24, 33, 32, 31, 40, 39, 38, 37], [48, 43, 42, 41, 36, 35, 34, 30, 29, 28, 23, 22, 21, 16, 15, 14, 10, 9, 8, 6, 5, 4, 2, 1, 0, 3, 7, 13, 12, 11, 20, 19, 18, 17, 27, 26, 25, 24, 33, 32, 31, 40, 39, 38, 37, 47, 46, 45, 44], [49, 48, 43, 42, 41, 36, 35, 34, 30, 29, 28, 23, 22, 21, 16, 15, 14, 10, 9, 8, 6, 5, 4, 2, 1, 0, 3, 7, 13, 12, 11, 20, 19, 18, 17, 27, 26, 25, 24, 33, 32, 31, 40, 39, 38, 37, 47, 46, 45, 44], [50, 49, 48, 43, 42, 41, 36, 35, 34, 30, 29, 28, 23, 22, 21, 16, 15, 14, 10, 9, 8, 6, 5, 4, 2, 1, 0, 3, 7, 13, 12, 11, 20, 19, 18, 17, 27, 26, 25, 24, 33, 32, 31, 40, 39, 38, 37, 47, 46, 45, 44], [50, 49, 48, 43, 42, 41, 36, 35, 34, 30, 29, 28, 23, 22, 21, 16, 15, 14, 10, 9, 8, 6, 5, 4, 2, 1, 0, 3, 7, 13, 12, 11, 20, 19, 18, 17, 27, 26, 25, 24, 33, 32, 31, 40, 39, 38, 37, 47, 46, 45, 44], [52, 51, 50, 49, 48, 43, 42, 41, 36, 35, 34, 30, 29, 28, 23, 22, 21, 16, 15, 14, 10, 9, 8, 6, 5, 4, 2, 1, 0, 3, 7, 13, 12, 11, 20, 19, 18, 17, 27, 26, 25, 24, 33, 32, 31, 40, 39, 38, 37, 47, 46, 45, 44], [53, 52, 51, 50, 49, 48, 43, 42, 41, 36, 35, 34, 30, 29, 28, 23, 22, 21, 16, 15, 14, 10, 9, 8, 6, 5, 4, 2, 1, 0, 3, 7, 13, 12, 11, 20, 19, 18, 17, 27, 26, 25, 24, 33, 32, 31, 40, 39, 38, 37, 47, 46, 45, 44], [54, 50, 49, 48, 43, 42, 41, 36, 35, 34, 30, 29, 28, 23, 22, 21, 16, 15, 14, 10, 9, 8, 6, 5, 4, 2, 1, 0, 3, 7, 13, 12, 11, 20, 19, 18, 17, 27, 26, 25, 24, 33, 32, 31, 40, 39, 38, 37, 47, 46, 45, 44, 53, 52, 51], [55, 54, 50, 49, 48, 43, 42, 41, 36, 35, 34, 30, 29, 28, 23, 22, 21, 16, 15, 14, 10, 9, 8, 6, 5, 4, 2, 1, 0, 3, 7, 13, 12, 11, 20, 19, 18, 17, 27, 26, 25, 24, 33, 32, 31, 40, 39, 38, 37, 47, 46, 45, 44, 53, 52, 51]] [0, 1, 2, 3, 4, 5, 6, 7, 8, 9, 10, 11, 12, 13, 14, 15, 16, 17, 18, 19, 20, 21, 22, 23, 24, 25, 26, 27, 28, 29, 30, 31, 32, 33, 34, 35, 36, 37, 38, 39, 40, 41, 42, 43, 44, 45, 46, 47, 48, 49, 50, 51, 52, 53, 54, 55, 56] (by kernel_rfl) (by kernel_rfl) ?_
  refine DL.step (d := some 17) [] rfl rfl rfl (fun τ h => xj_moveE (v := .pv (.int .i64 0)) ((h.e 0 _ rfl).trans rfl)) rfl (by kernel_rfl) ?_
  refine DL.step (d := some 18) [] rfl rfl rfl (fun τ h => (xj_bin ((h.e 0 _ rfl).trans rfl) ((h.e 1 _ rfl).trans rfl) rfl).cast (v' := .pv (.bool true)) rfl) rfl (by kernel_rfl) ?_
  refine DL.step (d := some 19) [] rfl rfl rfl (fun τ h => xj_moveE (v := .pv (.bool true)) ((h.e 0 _ rfl).trans rfl)) rfl (by kernel_rfl) ?_
  refine DL.stepG (d := some 20) [] rfl rfl rfl rfl (fun τ h => xj_moveE (v := .pv (.int .i64 0)) ((h.e 0 _ rfl).trans rfl)) rfl (by kernel_rfl) ?_
  refine DL.stepG (d := some 21) [] rfl rfl rfl rfl (fun τ h => (xj_bin ((h.e 0 _ rfl).trans rfl) ((h.e 1 _ rfl).trans rfl) rfl).cast (v' := .pv (.bool true)) rfl) rfl (by kernel_rfl) ?_
  refine DL.step (d := some 22) [] rfl rfl rfl (fun τ h => xj_pickT ((h.e 0 _ rfl).trans rfl) ((h.e 1 _ rfl).trans rfl)) rfl (by kernel_rfl) ?_
  refine DL.step (d := some 23) [] rfl rfl rfl (fun τ h => xj_moveE (v := .pv (.bool true)) ((h.e 0 _ rfl).trans rfl)) rfl (by kernel_rfl) ?_
  refine DL.stepG (d := some 24) [] rfl rfl rfl rfl (fun τ h => xj_moveE (v := .pv (.int .i64 2)) ((h.e 0 _ rfl).trans rfl)) rfl (by kernel_rfl) ?_
  refine DL.stepG (d := some 25) [] rfl rfl rfl rfl (fun τ h => (xj_bin ((h.e 0 _ rfl).trans rfl) ((h.e 1 _ rfl).trans rfl) rfl).cast (v' := .pv (.bool true)) rfl) rfl (by kernel_rfl) ?_
  refine DL.step (d := some 26) [] rfl rfl rfl (fun τ h => xj_pickT ((h.e 0 _ rfl).trans rfl) ((h.e 1 _ rfl).trans rfl)) rfl (by kernel_rfl) ?_
  refine DL.step (d := some 27) [] rfl rfl rfl (fun τ h => xj_moveE (v := .pv (.bool true)) ((h.e 0 _ rfl).trans rfl)) rfl (by kernel_rfl) ?_
  first | refine DL.stepG (d := some 28) [_] rfl rfl rfl rfl (fun τ h => xj_fieldAddr fo33_0 ((h.e 0 _ rfl).trans rfl) ((h.o 0 _ rfl).trans rfl)) rfl (by kernel_rfl) ?_ | refine DL.stepG (d := some 28) [] rfl rfl rfl rfl (fun τ h => xj_fieldAddrR fo33_0 ((h.e 0 _ rfl).trans rfl)) rfl (by kernel_rfl) ?_
  refine DL.stepG (d := some 29) [_] rfl rfl rfl rfl (fun τ h => xj_load1 ⟨_, Try.underlying22, rfl⟩ (v := .pv (pints pathP)) ((h.e 0 _ rfl).trans rfl) ((h.o 0 _ rfl).trans rfl) rfl) rfl (by kernel_rfl) ?_
  refine DL.stepG (d := some 30) [] rfl rfl rfl rfl (fun τ h => xj_buildSliceP none (by simp) el22 rfl (by decide) (by decide) (h.fillS rfl rfl) rfl) rfl (by kernel_rfl) ?_
  refine DL.stepG (d := some 31) [] rfl rfl rfl rfl (fun τ h => xj_call Try.call22 (ints_same pathP (by decide)) (h.argsP rfl)) rfl (by kernel_rfl) ?_
  refine DL.step (d := some 32) [] rfl rfl rfl (fun τ h => xj_pickT ((h.e 0 _ rfl).trans rfl) ((h.e 1 _ rfl).trans rfl)) rfl (by kernel_rfl) ?_
  refine DL.step (d := some 33) [] rfl rfl rfl (fun τ h => xj_moveE (v := .pv (.bool true)) ((h.e 0 _ rfl).trans rfl)) rfl (by kernel_rfl) ?_
  refine DL.stepG (d := some 34) [] rfl rfl rfl rfl (fun τ h => xj_call Try.call21 path_spec (h.argsP rfl)) rfl (by kernel_rfl) ?_
  refine DL.stepG (d := some 35) [_] rfl rfl rfl rfl (fun τ h => xj_loadA ⟨_, Try.underlying33, rfl⟩ sz33 (vs := [.pv (pints pathP)]) ((h.e 0 _ rfl).trans rfl) ((h.o 0 _ rfl).trans rfl) rfl rfl) rfl (by kernel_rfl) ?_
  refine DL.stepG (d := some 36) [] rfl rfl rfl rfl (fun τ h => xj_call Try.call13 key_path (h.argsP rfl)) rfl (by kernel_rfl) ?_
  refine DL.stepG (d := some 37) [] rfl rfl rfl rfl (fun τ h => xj_buildSliceP none (by simp) el22 rfl (by decide) (by decide) (h.fillS rfl rfl) rfl) rfl (by kernel_rfl) ?_
  refine DL.stepG (d := some 38) [] rfl rfl rfl rfl (fun τ h => xj_call Try.call22 (ints_same [1] (by decide)) (h.argsP rfl)) rfl (by kernel_rfl) ?_
  refine DL.step (d := some 39) [] rfl rfl rfl (fun τ h => xj_pickT ((h.e 0 _ rfl).trans rfl) ((h.e 1 _ rfl).trans rfl)) rfl (by kernel_rfl) ?_
  refine DL.step (d := some 40) [] rfl rfl rfl (fun τ h => xj_moveE (v := .pv (.bool true)) ((h.e 0 _ rfl).trans rfl)) rfl (by kernel_rfl) ?_
  refine DL.stepG (d := some 41) [] rfl rfl rfl rfl (fun τ h => xj_call Try.call21 path_spec (h.argsP rfl)) rfl (by kernel_rfl) ?_
  refine DL.stepG (d := some 42) [_] rfl rfl rfl rfl (fun τ h => xj_loadA ⟨_, Try.underlying33, rfl⟩ sz33 (vs := [.pv (pints pathP)]) ((h.e 0 _ rfl).trans rfl) ((h.o 0 _ rfl).trans rfl) rfl rfl) rfl (by kernel_rfl) ?_
  refine DL.stepG (d := some 43) [] rfl rfl rfl rfl (fun τ h => xj_call Try.call23 chi_path (h.argsP rfl)) rfl (by kernel_rfl) ?_
  refine DL.stepG (d := some 44) [] rfl rfl rfl rfl (fun τ h => xj_buildSliceP none (by simp) el22 rfl (by decide) (by decide) (h.fillS rfl rfl) rfl) rfl (by kernel_rfl) ?_
  refine DL.stepG (d := some 45) [] rfl rfl rfl rfl (fun τ h => xj_call Try.call22 (ints_same [0, 2] (by decide)) (h.argsP rfl)) rfl (by kernel_rfl) ?_
  refine DL.step (d := some 46) [] rfl rfl rfl (fun τ h => xj_pickT ((h.e 0 _ rfl).trans rfl) ((h.e 1 _ rfl).trans rfl)) rfl (by kernel_rfl) ?_
  refine DL.step (d := some 47) [] rfl rfl rfl (fun τ h => xj_moveE (v := .pv (.bool true)) ((h.e 0 _ rfl).trans rfl)) rfl (by kernel_rfl) ?_
  refine DL.stepG (d := some 48) [] rfl rfl rfl rfl (fun τ h => xj_call Try.call21 path_spec (h.argsP rfl)) rfl (by kernel_rfl) ?_
  refine DL.stepG (d := some 49) [_] rfl rfl rfl rfl (fun τ h => xj_loadA ⟨_, Try.underlying33, rfl⟩ sz33 (vs := [.pv (pints pathP)]) ((h.e 0 _ rfl).trans rfl) ((h.o 0 _ rfl).trans rfl) rfl rfl) rfl (by kernel_rfl) ?_
  refine DL.stepG (d := some 50) [] rfl rfl rfl rfl (fun τ h => xj_call Try.call12 home_path (h.argsP rfl)) rfl (by kernel_rfl) ?_
  refine DL.stepG (d := some 51) [] rfl rfl rfl rfl (fun τ h => (xj_bin ((h.e 0 _ rfl).trans rfl) ((h.e 1 _ rfl).trans rfl) rfl).cast (v' := .pv (.bool true)) rfl) rfl (by kernel_rfl) ?_
  refine DL.step (d := some 52) [] rfl rfl rfl (fun τ h => xj_pickT ((h.e 0 _ rfl).trans rfl) ((h.e 1 _ rfl).trans rfl)) rfl (by kernel_rfl) ?_
  refine DL.step (d := some 53) [] rfl rfl rfl (fun τ h => xj_moveE (v := .pv (.bool true)) ((h.e 0 _ rfl).trans rfl)) rfl (by kernel_rfl) ?_
  refine DL.stepG (d := some 54) [] rfl rfl rfl rfl (fun τ h => xj_call Try.call21 path_spec (h.argsP rfl)) rfl (by kernel_rfl) ?_
  refine DL.stepG (d := some 55) [_] rfl rfl rfl rfl (fun τ h => xj_loadA ⟨_, Try.underlying33, rfl⟩ sz33 (vs := [.pv (pints pathP)]) ((h.e 0 _ rfl).trans rfl) ((h.o 0 _ rfl).trans rfl) rfl rfl) rfl (by kernel_rfl) ?_
  refine DL.stepG (d := some 56) [] rfl rfl rfl rfl (fun τ h => xj_call Try.call15 walk_path (h.argsP rfl)) rfl (by kernel_rfl) ?_
  refine DL.stepG (d := some 57) [] rfl rfl rfl rfl (fun τ h => xj_buildSliceP none (by simp) el22 rfl (by decide) (by decide) (h.fillS rfl rfl) rfl) rfl (by kernel_rfl) ?_
  refine DL.stepG (d := some 58) [] rfl rfl rfl rfl (fun τ h => xj_call Try.call22 (ints_same [1, 0, 2] (by decide)) (h.argsP rfl)) rfl (by kernel_rfl) ?_
  refine DL.step (d := some 59) [] rfl rfl rfl (fun τ h => xj_pickT ((h.e 0 _ rfl).trans rfl) ((h.e 1 _ rfl).trans rfl)) rfl (by kernel_rfl) ?_
  refine DL.step (d := some 60) [] rfl rfl rfl (fun τ h => xj_moveE (v := .pv (.bool true)) ((h.e 0 _ rfl).trans rfl)) rfl (by kernel_rfl) ?_
  refine DL.stepG (d := some 61) [] rfl rfl rfl rfl (fun τ h => xj_call Try.call21 path_spec (h.argsP rfl)) rfl (by kernel_rfl) ?_
  refine DL.stepG (d := some 62) [_] rfl rfl rfl rfl (fun τ h => xj_loadA ⟨_, Try.underlying33, rfl⟩ sz33 (vs := [.pv (pints pathP)]) ((h.e 0 _ rfl).trans rfl) ((h.o 0 _ rfl).trans rfl) rfl rfl) rfl (by kernel_rfl) ?_
  refine DL.stepG (d := some 63) [] rfl rfl rfl rfl (fun τ h => xj_call Try.call18 below_path (h.argsP rfl)) rfl (by kernel_rfl) ?_
  refine DL.stepG (d := some 64) [] rfl rfl rfl rfl (fun τ h => xj_buildSliceP none (by simp) el22 rfl (by decide) (by decide) (h.fillS rfl rfl) rfl) rfl (by kernel_rfl) ?_
  refine DL.stepG (d := some 65) [] rfl rfl rfl rfl (fun τ h => xj_call Try.call22 (ints_same [0, 1, 2] (by decide)) (h.argsP rfl)) rfl (by kernel_rfl) ?_
  refine DL.step (d := some 66) [] rfl rfl rfl (fun τ h => xj_pickT ((h.e 0 _ rfl).trans rfl) ((h.e 1 _ rfl).trans rfl)) rfl (by kernel_rfl) ?_
  refine DL.step (d := some 67) [] rfl rfl rfl (fun τ h => xj_moveE (v := .pv (.bool true)) ((h.e 0 _ rfl).trans rfl)) rfl (by kernel_rfl) ?_
  refine DL.stepG (d := some 68) [] rfl rfl rfl rfl (fun τ h => xj_call Try.call21 path_spec (h.argsP rfl)) rfl (by kernel_rfl) ?_
  refine DL.stepG (d := some 69) [_] rfl rfl rfl rfl (fun τ h => xj_loadA ⟨_, Try.underlying33, rfl⟩ sz33 (vs := [.pv (pints pathP)]) ((h.e 0 _ rfl).trans rfl) ((h.o 0 _ rfl).trans rfl) rfl rfl) rfl (by kernel_rfl) ?_
  refine DL.stepG (d := some 70) [] rfl rfl rfl rfl (fun τ h => xj_call Try.call11 chk_path (h.argsP rfl)) rfl (by kernel_rfl) ?_
  refine DL.stepG (d := some 71) [] rfl rfl rfl rfl (fun τ h => (xj_bin ((h.e 0 _ rfl).trans rfl) ((h.e 1 _ rfl).trans rfl) rfl).cast (v' := .pv (.bool true)) rfl) rfl (by kernel_rfl) ?_
  refine DL.step (d := some 72) [] rfl rfl rfl (fun τ h => xj_pickT ((h.e 0 _ rfl).trans rfl) ((h.e 1 _ rfl).trans rfl)) rfl (by kernel_rfl) ?_
  refine DL.step (d := some 0) [] rfl rfl rfl (fun τ h => xj_assignE ((h.e 0 _ rfl).trans rfl)) rfl (by kernel_rfl) ?_
  refine ⟨by kernel_rfl, ?_⟩
  repeat refine AW.seq ?_
  refine AW.ret ?_
  exact ⟨_, _, rfl, rfl, rfl⟩

end Go.Proofs.Ytkalgjnhaicabaa
