/-
  Texts of ours, joined: W2, LK. No statement of the program is proved here.
-/
import Derived.Test.YtkalgjnhaicabaaGk4
namespace Go.Proofs.Ytkalgjnhaicabaa
open Go.RowKit Mk
set_option maxRecDepth 100000
set_option maxHeartbeats 20000000
theorem sane_spec : FnP Try.prog 6 [] (· = .bool true) := by
  refine FnP.of Try.func6 rfl Try.ntmps6 (by simp) fun m0 w0 F R0 => ?_
  repeat refine AW.seq ?_
  refine AW.region ?_
  refine A1 rfl ?_
  repeat refine AW.seq ?_
  refine AW.region ?_
  refine RL.step (d := some 6) rfl rfl (xj_call Try.call21 path_spec rfl) ?_
  refine RL.step (d := some 7) rfl rfl (xj_buildSliceP none (by simp) el22 rfl (by decide) (by decide) rfl rfl) ?_
  refine RL.step (d := some 8) rfl rfl (xj_call Try.call9 of_path rfl) ?_
  iterate 6 refine A1 rfl ?_
  repeat refine AW.seq ?_
  refine AW.draw follows [[], [], [1, 0], [2, 1, 0], [3, 2, 1, 0], [3, 2, 1, 0], [4, 3, 2, 1, 0], [6, 5, 3, 2, 1, 0, 4]] [0, 1, 2, 3, 4, 5, 6, 7] (by kernel_rfl) (by kernel_rfl) ?_
  refine DL.step (d := some 12) [] rfl rfl rfl (fun τ h => xj_call Try.call21 path_spec (h.argsP rfl)) rfl (by kernel_rfl) ?_
  refine D1 rfl rfl ?_
  refine DL.step (d := some 14) [] rfl rfl rfl (fun τ h => xj_call Try.call19 width_path (h.argsP rfl)) rfl (by kernel_rfl) ?_
  iterate 5 refine D1 rfl rfl ?_
  refine ⟨by kernel_rfl, ?_⟩
  refine AW.weaken (τ := mkS [(2, .pv (.int .i64 0)), (3, .pv (.int .i64 2)), (4, .pv (.int .i64 0)), (1, .ptr 0 0)] [(0, .mix 33 [.pv (pints pathP)])] 1) (St.le_mk ⟨rfl, rfl, rfl, rfl, trivial⟩ ⟨rfl, trivial⟩ rfl rfl) ?_
  repeat refine AW.seq ?_
  refine AW.draw follows [[], [0], [1, 0], [2, 1, 0], [3, 2, 1, 0], [4, 2, 1, 0, 3], [5, 4, 2, 1, 0, 3], [6, 5, 4, 2, 1, 0, 3], [7, 6, 5, 4, 2, 1, 0, 3], [8, 6, 5, 4, 2, 1, 0, 3, 7], [9, 8, 6, 5, 4, 2, 1, 0, 3, 7], [10, 9, 8, 6, 5, 4, 2, 1, 0, 3, 7], [11, 10, 9, 8, 6, 5, 4, 2, 1, 0, 3, 7], [10, 9, 8, 6, 5, 4, 2, 1, 0, 3, 7], [13, 12, 11, 10, 9, 8, 6, 5, 4, 2, 1, 0, 3, 7], [14, 10, 9, 8, 6, 5, 4, 2, 1, 0, 3, 7, 13, 12, 11], [15, 14, 10, 9, 8, 6, 5, 4, 2, 1, 0, 3, 7, 13, 12, 11], [16, 15, 14, 10, 9, 8, 6, 5, 4, 2, 1, 0, 3, 7, 13, 12, 11], [16, 15, 14, 10, 9, 8, 6, 5, 4, 2, 1, 0, 3, 7, 13, 12, 11], [18, 17, 16, 15, 14, 10, 9, 8, 6, 5, 4, 2, 1, 0, 3, 7, 13, 12, 11], [16, 15, 14, 10, 9, 8, 6, 5, 4, 2, 1, 0, 3, 7, 13, 12, 11], [20, 19, 18, 17, 16, 15, 14, 10, 9, 8, 6, 5, 4, 2, 1, 0, 3, 7, 13, 12, 11], [21, 16, 15, 14, 10, 9, 8, 6, 5, 4, 2, 1, 0, 3, 7, 13, 12, 11, 20, 19, 18, 17], [22, 21, 16, 15, 14, 10, 9, 8, 6, 5, 4, 2, 1, 0, 3, 7, 13, 12, 11, 20, 19, 18, 17], [23, 22, 21, 16, 15, 14, 10, 9, 8, 6, 5, 4, 2, 1, 0, 3, 7, 13, 12, 11, 20, 19, 18, 17], [23, 22, 21, 16, 15, 14, 10, 9, 8, 6, 5, 4, 2, 1, 0, 3, 7, 13, 12, 11, 20, 19, 18, 17], [25, 24, 23, 22, 21, 16, 15, 14, 10, 9, 8, 6, 5, 4, 2, 1, 0, 3, 7, 13, 12, 11, 20, 19, 18, 17], [23, 22, 21, 16, 15, 14, 10, 9, 8, 6, 5, 4, 2, 1, 0, 3, 7, 13, 12, 11, 20, 19, 18, 17], [27, 26, 25, 24, 23, 22, 21, 16, 15, 14, 10, 9, 8, 6, 5, 4, 2, 1, 0, 3, 7, 13, 12, 11, 20, 19, 18, 17], [28, 23, 22, 21, 16, 15, 14, 10, 9, 8, 6, 5, 4, 2, 1, 0, 3, 7, 13, 12, 11, 20, 19, 18, 17, 27, 26, 25, 24], [29, 28, 23, 22, 21, 16, 15, 14, 10, 9, 8, 6, 5, 4, 2, 1, 0, 3, 7, 13, 12, 11, 20, 19, 18, 17, 27, 26, 25, 24], [30, 29, 28, 23, 22, 21, 16, 15, 14, 10, 9, 8, 6, 5, 4, 2, 1, 0, 3, 7, 13, 12, 11, 20, 19, 18, 17, 27, 26, 25, 24], [30, 29, 28, 23, 22, 21, 16, 15, 14, 10, 9, 8, 6, 5, 4, 2, 1, 0, 3, 7, 13, 12, 11, 20, 19, 18, 17, 27, 26, 25, 24], [32, 31, 30, 29, 28, 23, 22, 21, 16, 15, 14, 10, 9, 8, 6, 5, 4, 2, 1, 0, 3, 7, 13, 12, 11, 20, 19, 18, 17, 27, 26, 25, 24], [33, 32, 31, 30, 29, 28, 23, 22, 21, 16, 15, 14, 10, 9, 8, 6, 5, 4, 2, 1, 0, 3, 7, 13, 12, 11, 20, 19, 18, 17, 27, 26, 25, 24], [34, 30, 29, 28, 23, 22, 21, 16, 15, 14, 10, 9, 8, 6, 5, 4, 2, 1, 0, 3, 7, 13, 12, 11, 20, 19, 18, 17, 27, 26, 25, 24, 33, 32, 31], [35, 34, 30, 29, 28, 23, 22, 21, 16, 15, 14, 10, 9, 8, 6, 5, 4, 2, 1, 0, 3, 7, 13, 12, 11, 20, 19, 18, 17, 27, 26, 25, 24, 33, 32, 31], [36, 35, 34, 30, 29, 28, 23, 22, 21, 16, 15, 14, 10, 9, 8, 6, 5, 4, 2, 1, 0, 3, 7, 13, 12, 11, 20, 19, 18, 17, 27, 26, 25, 24, 33, 32, 31], [36, 35, 34, 30, 29, 28, 23, 22, 21, 16, 15, 14, 10, 9, 8, 6, 5, 4, 2, 1, 0, 3, 7, 13, 12, 11, 20, 19, 18, 17, 27, 26, 25, 24, 33, 32, 31], [38, 37, 36, 35, 34, 30, 29, 28, 23, 22, 21, 16, 15, 14, 10, 9, 8, 6, 5, 4, 2, 1, 0, 3, 7, 13, 12, 11, 20, 19, 18, 17, 27, 26, 25, 24, 33, 32, 31], [36, 35, 34, 30, 29, 28, 23, 22, 21, 16, 15, 14, 10, 9, 8, 6, 5, 4, 2, 1, 0, 3, 7, 13, 12, 11, 20, 19, 18, 17, 27, 26, 25, 24, 33, 32, 31], [40, 39, 38, 37, 36, 35, 34, 30, 29, 28, 23, 22, 21, 16, 15, 14, 10, 9, 8, 6, 5, 4, 2, 1, 0, 3, 7, 13, 12, 11, 20, 19, 18, 17, 27, 26, 25, 24, 33, 32, 31], [41, 36, 35, 34, 30, 29, 28, 23, 22, 21, 16, 15, 14, 10, 9, 8, 6, 5, 4, 2, 1, 0, 3, 7, 13, 12, 11, 20, 19, 18, 17, 27, 26, 25, 24, 33, 32, 31, 40, 39, 38, 37], [42, 41, 36, 35, 34, 30, 29, 28, 23, 22, 21, 16, 15, 14, 10, 9, 8, 6, 5, 4, 2, 1, 0, 3, 7, 13, 12, 11, 20, 19, 18, 17, 27, 26, 25, 24, 33, 32, 31, 40, 39, 38, 37], [43, 42, 41, 36, 35, 34, 30, 29, 28, 23, 22, 21, 16, 15, 14, 10, 9, 8, 6, 5, 4, 2, 1, 0, 3, 7, 13, 12, 11, 20, 19, 18, 17, 27, 26, 25, 24, 33, 32, 31, 40, 39, 38, 37], [43, 42, 41, 36, 35, 34, 30, 29, 28, 23, 22, 21, 16, 15, 14, 10, 9, 8, 6, 5, 4, 2, 1, 0, 3, 7, 13, 12, 11, 20, 19, 18, 17, 27, 26, 25, 24, 33, 32, 31, 40, 39, 38, 37], [45, 44, 43, 42, 41, 36, 35, 34, 30, 29, 28, 23, 22, 21, 16, 15, 14, 10, 9, 8, 6, 5, 4, 2, 1, 0, 3, 7, 13, 12, 11, 20, 19, 18, 17, 27, 26, 25, 24, 33, 32, 31, 40, 39, 38, 37], [43, 42, 41, 36, 35, 34, 30, 29, 28, 23, 22, 21, 16, 15, 14, 10, 9, 8, 6, 5, 4, 2, 1, 0, 3, 7, 13, 12, 11, 20, 19, 18, 17, 27, 26, 25, 24, 33, 32, 31, 40, 39, 38, 37], [47, 46, 45, 44, 43, 42, 41, 36, 35, 34, 30, 29, 28, 23, 22, 21, 16, 15, 14, 10, 9, 8, 6, 5, 4, 2, 1, 0, 3, 7, 13, 12, 11, 20, 19, 18, 17, 27, 26, 25, 24, 33, 32, 31, 40, 39, 38, 37], [48, 43, 42, 41, 36, 35, 34, 30, 29, 28, 23, 22, 21, 16, 15, 14, 10, 9, 8, 6, 5, 4, 2, 1, 0, 3, 7, 13, 12, 11, 20, 19, 18, 17, 27, 26, 25, 24, 33, 32, 31, 40, 39, 38, 37, 47, 46, 45, 44], [49, 48, 43, 42, 41, 36, 35, 34, 30, 29, 28, 23, 22, 21, 16, 15, 14, 10, 9, 8, 6, 5, 4, 2, 1, 0, 3, 7, 13, 12, 11, 20, 19, 18, 17, 27, 26, 25, 24, 33, 32, 31, 40, 39, 38, 37, 47, 46, 45, 44], [50, 49, 48, 43, 42, 41, 36, 35, 34, 30, 29, 28, 23, 22, 21, 16, 15, 14, 10, 9, 8, 6, 5, 4, 2, 1, 0, 3, 7, 13, 12, 11, 20, 19, 18, 17, 27, 26, 25, 24, 33, 32, 31, 40, 39, 38, 37, 47, 46, 45, 44], [50, 49, 48, 43, 42, 41, 36, 35, 34, 30, 29, 28, 23, 22, 21, 16, 15, 14, 10, 9, 8, 6, 5, 4, 2, 1, 0, 3, 7, 13, 12, 11, 20, 19, 18, 17, 27, 26, 25, 24, 33, 32, 31, 40, 39, 38, 37, 47, 46, 45, 44], [52, 51, 50, 49, 48, 43, 42, 41, 36, 35, 34, 30, 29, 28, 23, 22, 21, 16, 15, 14, 10, 9, 8, 6, 5, 4, 2, 1, 0, 3, 7, 13, 12, 11, 20, 19, 18, 17, 27, 26, 25, 24, 33, 32, 31, 40, 39, 38, 37, 47, 46, 45, 44], [53, 52, 51, 50, 49, 48, 43, 42, 41, 36, 35, 34, 30, 29, 28, 23, 22, 21, 16, 15, 14, 10, 9, 8, 6, 5, 4, 2, 1, 0, 3, 7, 13, 12, 11, 20, 19, 18, 17, 27, 26, 25, 24, 33, 32, 31, 40, 39, 38, 37, 47, 46, 45, 44], [54, 50, 49, 48, 43, 42, 41, 36, 35, 34, 30, 29, 28, 23, 22, 21, 16, 15, 14, 10, 9, 8, 6, 5, 4, 2, 1, 0, 3, 7, 13, 12, 11, 20, 19, 18, 17, 27, 26, 25, 24, 33, 32, 31, 40, 39, 38, 37, 47, 46, 45, 44, 53, 52, 51], [55, 54, 50, 49, 48, 43, 42, 41, 36, 35, 34, 30, 29, 28, 23, 22, 21, 16, 15, 14, 10, 9, 8, 6, 5, 4, 2, 1, 0, 3, 7, 13, 12, 11, 20, 19, 18, 17, 27, 26, 25, 24, 33, 32, 31, 40, 39, 38, 37, 47, 46, 45, 44, 53, 52, 51]] [0, 1, 2, 3, 4, 5, 6, 7, 8, 9, 10, 11, 12, 13, 14, 15, 16, 17, 18, 19, 20, 21, 22, 23, 24, 25, 26, 27, 28, 29, 30, 31, 32, 33, 34, 35, 36, 37, 38, 39, 40, 41, 42, 43, 44, 45, 46, 47, 48, 49, 50, 51, 52, 53, 54, 55, 56] (by kernel_rfl) (by kernel_rfl) ?_
  refine DL.step (d := some 17) [] rfl rfl rfl (fun τ h => xj_moveE (v := .pv (.int .i64 0)) ((h.e 0 _ rfl).trans rfl)) rfl (by kernel_rfl) ?_
  refine DL.step (d := some 18) [] rfl rfl rfl (fun τ h => (xj_bin ((h.e 0 _ rfl).trans rfl) ((h.e 1 _ rfl).trans rfl) rfl).cast (v' := .pv (.bool true)) rfl) rfl (by kernel_rfl) ?_
  refine DL.step (d := some 19) [] rfl rfl rfl (fun τ h => xj_moveE (v := .pv (.bool true)) ((h.e 0 _ rfl).trans rfl)) rfl (by kernel_rfl) ?_
  refine DL.stepG (d := some 20) [] rfl rfl rfl rfl (fun τ h => xj_moveE (v := .pv (.int .i64 0)) ((h.e 0 _ rfl).trans rfl)) rfl (by kernel_rfl) ?_
  refine DL.stepG (d := some 21) [] rfl rfl rfl rfl (fun τ h => (xj_bin ((h.e 0 _ rfl).trans rfl) ((h.e 1 _ rfl).trans rfl) rfl).cast (v' := .pv (.bool true)) rfl) rfl (by kernel_rfl) ?_
  refine DL.step (d := some 22) [] rfl rfl rfl (fun τ h => xj_pickT ((h.e 0 _ rfl).trans rfl) ((h.e 1 _ rfl).trans rfl)) rfl (by kernel_rfl) ?_
  refine DL.step (d := some 23) [] rfl rfl rfl (fun τ h => xj_moveE (v := .pv (.bool true)) ((h.e 0 _ rfl).trans rfl)) rfl (by kernel_rfl) ?_
  refine DL.stepG (d := some 24) [] rfl rfl rfl rfl (fun τ h => xj_moveE (v := .pv (.int .i64 2)) ((h.e 0 _ rfl).trans rfl)) rfl (by kernel_rfl) ?_
  refine DL.stepG (d := some 25) [] rfl rfl rfl rfl (fun τ h => (xj_bin ((h.e 0 _ rfl).trans rfl) ((h.e 1 _ rfl).trans rfl) rfl).cast (v' := .pv (.bool true)) rfl) rfl (by kernel_rfl) ?_
  refine DL.step (d := some 26) [] rfl rfl rfl (fun τ h => xj_pickT ((h.e 0 _ rfl).trans rfl) ((h.e 1 _ rfl).trans rfl)) rfl (by kernel_rfl) ?_
  refine DL.step (d := some 27) [] rfl rfl rfl (fun τ h => xj_moveE (v := .pv (.bool true)) ((h.e 0 _ rfl).trans rfl)) rfl (by kernel_rfl) ?_
  refine D1 rfl rfl ?_
  refine DL.stepG (d := some 29) [_] rfl rfl rfl rfl (fun τ h => xj_load1 ⟨_, Try.underlying22, rfl⟩ (v := .pv (pints pathP)) ((h.e 0 _ rfl).trans rfl) ((h.o 0 _ rfl).trans rfl) rfl) rfl (by kernel_rfl) ?_
  refine DL.stepG (d := some 30) [] rfl rfl rfl rfl (fun τ h => xj_buildSliceP none (by simp) el22 rfl (by decide) (by decide) (h.fillS rfl rfl) rfl) rfl (by kernel_rfl) ?_
  refine DL.stepG (d := some 31) [] rfl rfl rfl rfl (fun τ h => xj_call Try.call22 (ints_same pathP (by decide)) (h.argsP rfl)) rfl (by kernel_rfl) ?_
  refine DL.step (d := some 32) [] rfl rfl rfl (fun τ h => xj_pickT ((h.e 0 _ rfl).trans rfl) ((h.e 1 _ rfl).trans rfl)) rfl (by kernel_rfl) ?_
  refine DL.step (d := some 33) [] rfl rfl rfl (fun τ h => xj_moveE (v := .pv (.bool true)) ((h.e 0 _ rfl).trans rfl)) rfl (by kernel_rfl) ?_
  refine DL.stepG (d := some 34) [] rfl rfl rfl rfl (fun τ h => xj_call Try.call21 path_spec (h.argsP rfl)) rfl (by kernel_rfl) ?_
  refine DL.stepG (d := some 35) [_] rfl rfl rfl rfl (fun τ h => xj_loadA ⟨_, Try.underlying33, rfl⟩ sz33 (vs := [.pv (pints pathP)]) ((h.e 0 _ rfl).trans rfl) ((h.o 0 _ rfl).trans rfl) rfl rfl) rfl (by kernel_rfl) ?_
  refine DL.stepG (d := some 36) [] rfl rfl rfl rfl (fun τ h => xj_call Try.call13 key_path (h.argsP rfl)) rfl (by kernel_rfl) ?_
  refine DL.stepG (d := some 37) [] rfl rfl rfl rfl (fun τ h => xj_buildSliceP none (by simp) el22 rfl (by decide) (by decide) (h.fillS rfl rfl) rfl) rfl (by kernel_rfl) ?_
  refine DL.stepG (d := some 38) [] rfl rfl rfl rfl (fun τ h => xj_call Try.call22 (ints_same [1] (by decide)) (h.argsP rfl)) rfl (by kernel_rfl) ?_
  refine DL.step (d := some 39) [] rfl rfl rfl (fun τ h => xj_pickT ((h.e 0 _ rfl).trans rfl) ((h.e 1 _ rfl).trans rfl)) rfl (by kernel_rfl) ?_
  refine DL.step (d := some 40) [] rfl rfl rfl (fun τ h => xj_moveE (v := .pv (.bool true)) ((h.e 0 _ rfl).trans rfl)) rfl (by kernel_rfl) ?_
  refine DL.stepG (d := some 41) [] rfl rfl rfl rfl (fun τ h => xj_call Try.call21 path_spec (h.argsP rfl)) rfl (by kernel_rfl) ?_
  refine DL.stepG (d := some 42) [_] rfl rfl rfl rfl (fun τ h => xj_loadA ⟨_, Try.underlying33, rfl⟩ sz33 (vs := [.pv (pints pathP)]) ((h.e 0 _ rfl).trans rfl) ((h.o 0 _ rfl).trans rfl) rfl rfl) rfl (by kernel_rfl) ?_
  refine DL.stepG (d := some 43) [] rfl rfl rfl rfl (fun τ h => xj_call Try.call23 chi_path (h.argsP rfl)) rfl (by kernel_rfl) ?_
  refine DL.stepG (d := some 44) [] rfl rfl rfl rfl (fun τ h => xj_buildSliceP none (by simp) el22 rfl (by decide) (by decide) (h.fillS rfl rfl) rfl) rfl (by kernel_rfl) ?_
  refine DL.stepG (d := some 45) [] rfl rfl rfl rfl (fun τ h => xj_call Try.call22 (ints_same [0, 2] (by decide)) (h.argsP rfl)) rfl (by kernel_rfl) ?_
  refine DL.step (d := some 46) [] rfl rfl rfl (fun τ h => xj_pickT ((h.e 0 _ rfl).trans rfl) ((h.e 1 _ rfl).trans rfl)) rfl (by kernel_rfl) ?_
  refine DL.step (d := some 47) [] rfl rfl rfl (fun τ h => xj_moveE (v := .pv (.bool true)) ((h.e 0 _ rfl).trans rfl)) rfl (by kernel_rfl) ?_
  refine DL.stepG (d := some 48) [] rfl rfl rfl rfl (fun τ h => xj_call Try.call21 path_spec (h.argsP rfl)) rfl (by kernel_rfl) ?_
  refine DL.stepG (d := some 49) [_] rfl rfl rfl rfl (fun τ h => xj_loadA ⟨_, Try.underlying33, rfl⟩ sz33 (vs := [.pv (pints pathP)]) ((h.e 0 _ rfl).trans rfl) ((h.o 0 _ rfl).trans rfl) rfl rfl) rfl (by kernel_rfl) ?_
  refine DL.stepG (d := some 50) [] rfl rfl rfl rfl (fun τ h => xj_call Try.call12 home_path (h.argsP rfl)) rfl (by kernel_rfl) ?_
  refine DL.stepG (d := some 51) [] rfl rfl rfl rfl (fun τ h => (xj_bin ((h.e 0 _ rfl).trans rfl) ((h.e 1 _ rfl).trans rfl) rfl).cast (v' := .pv (.bool true)) rfl) rfl (by kernel_rfl) ?_
  refine DL.step (d := some 52) [] rfl rfl rfl (fun τ h => xj_pickT ((h.e 0 _ rfl).trans rfl) ((h.e 1 _ rfl).trans rfl)) rfl (by kernel_rfl) ?_
  refine DL.step (d := some 53) [] rfl rfl rfl (fun τ h => xj_moveE (v := .pv (.bool true)) ((h.e 0 _ rfl).trans rfl)) rfl (by kernel_rfl) ?_
  refine DL.stepG (d := some 54) [] rfl rfl rfl rfl (fun τ h => xj_call Try.call21 path_spec (h.argsP rfl)) rfl (by kernel_rfl) ?_
  refine DL.stepG (d := some 55) [_] rfl rfl rfl rfl (fun τ h => xj_loadA ⟨_, Try.underlying33, rfl⟩ sz33 (vs := [.pv (pints pathP)]) ((h.e 0 _ rfl).trans rfl) ((h.o 0 _ rfl).trans rfl) rfl rfl) rfl (by kernel_rfl) ?_
  refine DL.stepG (d := some 56) [] rfl rfl rfl rfl (fun τ h => xj_call Try.call15 walk_path (h.argsP rfl)) rfl (by kernel_rfl) ?_
  refine DL.stepG (d := some 57) [] rfl rfl rfl rfl (fun τ h => xj_buildSliceP none (by simp) el22 rfl (by decide) (by decide) (h.fillS rfl rfl) rfl) rfl (by kernel_rfl) ?_
  refine DL.stepG (d := some 58) [] rfl rfl rfl rfl (fun τ h => xj_call Try.call22 (ints_same [1, 0, 2] (by decide)) (h.argsP rfl)) rfl (by kernel_rfl) ?_
  refine DL.step (d := some 59) [] rfl rfl rfl (fun τ h => xj_pickT ((h.e 0 _ rfl).trans rfl) ((h.e 1 _ rfl).trans rfl)) rfl (by kernel_rfl) ?_
  refine DL.step (d := some 60) [] rfl rfl rfl (fun τ h => xj_moveE (v := .pv (.bool true)) ((h.e 0 _ rfl).trans rfl)) rfl (by kernel_rfl) ?_
  refine DL.stepG (d := some 61) [] rfl rfl rfl rfl (fun τ h => xj_call Try.call21 path_spec (h.argsP rfl)) rfl (by kernel_rfl) ?_
  refine DL.stepG (d := some 62) [_] rfl rfl rfl rfl (fun τ h => xj_loadA ⟨_, Try.underlying33, rfl⟩ sz33 (vs := [.pv (pints pathP)]) ((h.e 0 _ rfl).trans rfl) ((h.o 0 _ rfl).trans rfl) rfl rfl) rfl (by kernel_rfl) ?_
  refine DL.stepG (d := some 63) [] rfl rfl rfl rfl (fun τ h => xj_call Try.call18 below_path (h.argsP rfl)) rfl (by kernel_rfl) ?_
  refine DL.stepG (d := some 64) [] rfl rfl rfl rfl (fun τ h => xj_buildSliceP none (by simp) el22 rfl (by decide) (by decide) (h.fillS rfl rfl) rfl) rfl (by kernel_rfl) ?_
  refine DL.stepG (d := some 65) [] rfl rfl rfl rfl (fun τ h => xj_call Try.call22 (ints_same [0, 1, 2] (by decide)) (h.argsP rfl)) rfl (by kernel_rfl) ?_
  refine DL.step (d := some 66) [] rfl rfl rfl (fun τ h => xj_pickT ((h.e 0 _ rfl).trans rfl) ((h.e 1 _ rfl).trans rfl)) rfl (by kernel_rfl) ?_
  refine DL.step (d := some 67) [] rfl rfl rfl (fun τ h => xj_moveE (v := .pv (.bool true)) ((h.e 0 _ rfl).trans rfl)) rfl (by kernel_rfl) ?_
  refine DL.stepG (d := some 68) [] rfl rfl rfl rfl (fun τ h => xj_call Try.call21 path_spec (h.argsP rfl)) rfl (by kernel_rfl) ?_
  refine DL.stepG (d := some 69) [_] rfl rfl rfl rfl (fun τ h => xj_loadA ⟨_, Try.underlying33, rfl⟩ sz33 (vs := [.pv (pints pathP)]) ((h.e 0 _ rfl).trans rfl) ((h.o 0 _ rfl).trans rfl) rfl rfl) rfl (by kernel_rfl) ?_
  refine DL.stepG (d := some 70) [] rfl rfl rfl rfl (fun τ h => xj_call Try.call11 chk_path (h.argsP rfl)) rfl (by kernel_rfl) ?_
  refine DL.stepG (d := some 71) [] rfl rfl rfl rfl (fun τ h => (xj_bin ((h.e 0 _ rfl).trans rfl) ((h.e 1 _ rfl).trans rfl) rfl).cast (v' := .pv (.bool true)) rfl) rfl (by kernel_rfl) ?_
  refine DL.step (d := some 72) [] rfl rfl rfl (fun τ h => xj_pickT ((h.e 0 _ rfl).trans rfl) ((h.e 1 _ rfl).trans rfl)) rfl (by kernel_rfl) ?_
  refine D1 rfl rfl ?_
  refine ⟨by kernel_rfl, ?_⟩
  repeat refine AW.seq ?_
  refine AW.ret ?_
  exact ⟨_, _, rfl, rfl, rfl⟩
end Go.Proofs.Ytkalgjnhaicabaa
namespace Go.Proofs.Ytkalgjnhaicabaa
open Go.RowKit Mk
set_option maxRecDepth 100000
set_option maxHeartbeats 4000000
theorem orderKeys_spec (t : List Int) : FnP Try.prog 4 [pints t] (· = .bool true) := by
  refine FnP.of Try.func4 rfl Try.ntmps4 (by simp) fun m0 w0 F R0 => ?_
  repeat refine AW.seq ?_
  refine AW.region ?_
  refine A1 rfl ?_
  repeat refine AW.seq ?_
  refine AW.region ?_
  iterate 3 refine A1 rfl ?_
  repeat refine AW.seq ?_
  refine AW.condP rfl (fun hc15 => ?_) (fun hc15 => ?_)
  · repeat refine AW.seq ?_
    refine AW.region ?_
    refine RL.step (d := some 16) rfl rfl (xj_call Try.call6 sane_spec rfl) ?_
    refine A1 rfl ?_
    repeat refine AW.seq ?_
    refine AW.ret ?_
    exact ⟨_, _, rfl, rfl, rfl⟩
  · have hL : t.length ≤ 400 := by omega
    refine AW.skip ?_
    repeat refine AW.seq ?_
    refine AW.region ?_
    refine A1 rfl ?_
    refine RL.call rfl (oj_callF1 [] 0 Try.call7 (new_spec t (by omega)) rfl rfl rfl rfl trivial (by decide) rfl ?_)
    rintro _ _ ⟨rfl, rfl⟩
    refine A1 rfl ?_
    repeat refine AW.seq ?_
    refine AW.region ?_
    refine A1 rfl ?_
    refine RL.call rfl (oj_callM Try.call8 (schema_spec t 0 6 (by omega) (by omega) (by omega) (by omega)) rfl rfl ?_)
    rintro _ _ ⟨⟨S, hM, rfl⟩, k1, hk1, rfl⟩
    have h0 := made_check hM (by omega)
    have hV := valid_of h0
    have hSB := made_SB hM (by omega)
    have hn12 := hV.n2
    have hn1 := hV.n1
    iterate 2 refine A1 rfl ?_
    repeat refine AW.seq ?_
    refine AW.draw follows [[], [], [1, 0], [], [], [2, 4, 3, 1, 0], [5, 2, 1, 0, 4, 3], []] [0, 1, 3, 4, 7, 2, 5, 6] (by kernel_rfl) (by kernel_rfl) ?_
    iterate 5 refine D1 rfl rfl ?_
    refine DL.rel (RM 55 0 (fun v c => (∃ q : List Int, q.Perm (upZ S.attrs.length) ∧ v = ordP (ordL S q)) ∧ ∃ k', k' ≤ t.length ∧ c = srcC t k')) [0] [] [0] rfl rfl rfl (fun τ h => relM Try.call16 (mkOrder_spec t k1 (by omega) hk1 S hSB h0) (h.args.trans rfl) ((h.o 0 _ rfl).trans rfl)) rfl (by kernel_rfl) (by kernel_rfl) (by kernel_rfl) ?_
    rintro _ ⟨_, _, ⟨⟨q, hq, rfl⟩, k2, hk2, rfl⟩, rfl⟩ _ _
    have hok1 : OrdOk S (ordL S q) := (ordL_ord hV hq).ok hV hq
    generalize ordL S q = P1 at *
    refine DL.rel (RM 55 0 (fun v c => (∃ q P : List Int, IsChain S.attrs.length q P ∧ v = ordP P) ∧ ∃ k', k' ≤ t.length ∧ c = srcC t k')) [0] [] [0] rfl rfl rfl (fun τ h => relM Try.call17 (mkChain_spec t k2 (by omega) hk2 S hn1 (by omega)) (h.args.trans rfl) ((h.o 0 _ rfl).trans rfl)) rfl (by kernel_rfl) (by kernel_rfl) (by kernel_rfl) ?_
    rintro _ ⟨_, _, ⟨⟨q2, P2, hch, rfl⟩, k3, hk3, rfl⟩, rfl⟩ _ _
    have hok2 := hch.ok hV
    have hget : ∀ i : Nat, i < 2 → ∃ P, OrdOk S P ∧ ([pints P1, pints P2].drop (i * 1)).take 1 = [pints P] := fun i hi => (match i with | 0 => ⟨P1, hok1, rfl⟩ | 1 => ⟨P2, hok2, rfl⟩ | k + 2 => absurd hi (by omega))
    refine D1 rfl rfl ?_
    refine ⟨by kernel_rfl, ?_⟩
    repeat refine AW.seq ?_
    refine AW.block ?_
    repeat refine AW.seq ?_
    refine AW.loop (st := fun x_0 : Nat => mkS [(4, .ptr 1 0), (27, .pv (.agg [pints P1, pints P2])), (28, .pv (.int .i64 x_0))] [(1, .mix 30 [.pv (.sl none S.attrs.length (attrsC S.attrs)), .pv (.sl none S.rels.length (relsC S.rels)), .pv (.sl none S.feats.length (featsC S.feats)), .pv (.int .i64 S.label)])] 2)
      (I := fun x_0 => x_0 ≤ 2) (μ := fun x_0 => 2 - x_0) (x0 := (0)) (St.le_mk ⟨rfl, rfl, rfl, trivial⟩ ⟨rfl, trivial⟩ rfl rfl) (Nat.zero_le _) ?_
    rintro i hi
    repeat refine AW.seq ?_
    refine AW.region ?_
    refine A1 rfl ?_
    repeat refine AW.seq ?_
    refine AW.condP rfl (fun hc29 => ?_) (fun hc29 => ?_)
    · have hi2 : i < 2 := by omega
      obtain ⟨P, hok, hPi⟩ := hget i hi2
      have hPl := hok.len
      have hP0 := ordE_zero.2 ⟨h0, hok⟩
      have hU := hok.upOk
      have hck := ocheck_spec S hSB P (by omega)
      rw [hP0] at hck
      refine AW.skip ?_
      repeat refine AW.seq ?_
      refine AW.block ?_
      repeat refine AW.seq ?_
      refine AW.region ?_
      refine RL.step (d := some 30) rfl rfl (xj_indexAP i Try.underlying47 sz33 ⟨_, Try.underlying33, rfl⟩ rfl rfl rfl hi2 hPi) ?_
      iterate 2 refine A1 rfl ?_
      repeat refine AW.seq ?_
      refine AW.region ?_
      iterate 2 refine A1 rfl ?_
      refine RL.step (d := some 33) rfl rfl (xj_call Try.call11 hck rfl) ?_
      refine A1 rfl ?_
      repeat refine AW.seq ?_
      refine AW.cond rfl (fun hc34 => absurd hc34 (by decide)) (fun hc34 => ?_)
      refine AW.skip ?_
      repeat refine AW.seq ?_
      refine AW.region ?_
      iterate 4 refine A1 rfl ?_
      repeat refine AW.seq ?_
      refine AW.block ?_
      repeat refine AW.seq ?_
      refine AW.loop (st := fun x_1 : Nat => mkS [(4, .ptr 1 0), (6, .ptr 2 0), (27, .pv (.agg [pints P1, pints P2])), (28, .pv (.int .i64 i)), (36, .pv (pints P)), (37, .pv (.int .i64 P.length)), (38, .pv (.int .i64 x_1))] [(1, .mix 30 [.pv (.sl none S.attrs.length (attrsC S.attrs)), .pv (.sl none S.rels.length (relsC S.rels)), .pv (.sl none S.feats.length (featsC S.feats)), .pv (.int .i64 S.label)]), (2, .mix 33 [.pv (pints P)])] 3)
        (I := fun x_1 => x_1 ≤ P.length) (μ := fun x_1 => P.length - x_1) (x0 := (0)) (St.le_mk ⟨rfl, rfl, rfl, rfl, rfl, rfl, rfl, trivial⟩ ⟨rfl, rfl, trivial⟩ rfl rfl) (Nat.zero_le _) ?_
      rintro v hv
      repeat refine AW.seq ?_
      refine AW.region ?_
      refine A1 rfl ?_
      repeat refine AW.seq ?_
      refine AW.condP rfl (fun hc39 => ?_) (fun hc39 => ?_)
      · have hvl : v < P.length := by omega
        have hva := pints_at hvl
        have hvne := pints_ne hvl
        have hkv := keyU_spec S hSB P (by omega) (v : Int)
        rw [if_pos (isB_iff.2 ⟨hP0, by omega, by omega⟩)] at hkv
        have hbv := belowU_spec S hSB P (by omega) (v : Int)
        rw [if_pos (isB_iff.2 ⟨hP0, by omega, by omega⟩)] at hbv
        have hbl : (belowL P v).length ≤ P.length := by unfold belowL; exact Nat.le_trans (List.length_filter_le _ _) (by simp)
        have hkl : ∀ x, (keyL S P x).length ≤ P.length := fun x => by unfold keyL; rw [(sortI_perm _).length_eq]; exact Nat.le_trans (List.length_filter_le _ _) (abvL_len P _)
        have hroot : P[v] < 0 → keyL S P v = [] := fun h => by
          have he : P[v] = -1 := by rcases par_cases hU hvl with e | ⟨a, _, e⟩; exact e; omega
          have : abvL P (v : Int) = [] := abvL_root hvl he
          apply List.eq_nil_iff_forall_not_mem.2
          intro x hx
          have := (key_mem.1 hx).1
          simp_all
        have hup : ∀ p : Nat, P[v] = (p : Int) → p < P.length → ∀ x ∈ keyL S P v, (x = (p : Int) ∨ x ∈ keyL S P p) ∧ x ∉ belowL P v := fun p e hp x hx => key_up hU hvl hp e hx
        have hpar := par_cases hU hvl
        generalize belowL P (v : Int) = B at *
        have hkl1 := hkl v
        generalize keyL S P (v : Int) = K at *
        generalize P[v] = pv at *
        refine AW.skip ?_
        repeat refine AW.seq ?_
        refine AW.block ?_
        repeat refine AW.seq ?_
        refine AW.region ?_
        iterate 2 refine A1 rfl ?_
        first | refine A2 rfl (by assumption) ?_ | refine A1 rfl ?_
        iterate 2 refine A1 rfl ?_
        repeat refine AW.seq ?_
        refine AW.region ?_
        iterate 3 refine A1 rfl ?_
        refine RL.step (d := some 46) rfl rfl (xj_call Try.call13 hkv rfl) ?_
        refine A1 rfl ?_
        repeat refine AW.seq ?_
        refine AW.region ?_
        iterate 2 refine A1 rfl ?_
        repeat refine AW.seq ?_
        refine AW.condP rfl (fun hc48 => ?_) (fun hc48 => ?_)
        · repeat refine AW.seq ?_
          refine AW.region ?_
          iterate 3 refine A1 rfl ?_
          repeat refine AW.seq ?_
          refine AW.condP rfl (fun hc51 => absurd hc51 (by rw [hroot hc48]; decide)) (fun hc51 => ?_)
          refine AW.skip ?_
          repeat refine AW.seq ?_
          refine AW.exit ?_
          repeat refine AW.seq ?_
          refine AW.region ?_
          iterate 2 refine A1 rfl ?_
          exact ⟨(v + 1), St.le_mk ⟨rfl, rfl, rfl, rfl, rfl, rfl, rfl, trivial⟩ ⟨rfl, rfl, trivial⟩ rfl rfl, by omega, by omega⟩
        · obtain ⟨p, hp, rfl⟩ : ∃ a : Nat, a < P.length ∧ pv = (a : Int) := by rcases hpar with e | ⟨a, h1, h2⟩; exact absurd e (by omega); exact ⟨a, h1, h2⟩
          have hkp := keyU_spec S hSB P (by omega) (p : Int)
          rw [if_pos (isB_iff.2 ⟨hP0, by omega, by omega⟩)] at hkp
          have hup := hup p rfl hp
          have hkl2 := hkl p
          generalize keyL S P (p : Int) = U at *
          refine AW.skip ?_
          repeat refine AW.seq ?_
          refine AW.region ?_
          iterate 3 refine A1 rfl ?_
          refine RL.step (d := some 55) rfl rfl (xj_call Try.call13 hkp rfl) ?_
          refine A1 rfl ?_
          repeat refine AW.seq ?_
          refine AW.region ?_
          iterate 3 refine A1 rfl ?_
          repeat refine AW.seq ?_
          refine AW.block ?_
          repeat refine AW.seq ?_
          refine AW.loop (st := fun x_2 : Nat => mkS [(4, .ptr 1 0), (6, .ptr 2 0), (7, .pv (.int .i64 v)), (8, .pv (.int .i64 p)), (10, .pv (pints U)), (27, .pv (.agg [pints P1, pints P2])), (28, .pv (.int .i64 i)), (36, .pv (pints P)), (37, .pv (.int .i64 P.length)), (38, .pv (.int .i64 v)), (56, .pv (pints K)), (57, .pv (.int .i64 K.length)), (58, .pv (.int .i64 x_2))] [(1, .mix 30 [.pv (.sl none S.attrs.length (attrsC S.attrs)), .pv (.sl none S.rels.length (relsC S.rels)), .pv (.sl none S.feats.length (featsC S.feats)), .pv (.int .i64 S.label)]), (2, .mix 33 [.pv (pints P)])] 3)
            (I := fun x_2 => x_2 ≤ K.length) (μ := fun x_2 => K.length - x_2) (x0 := (0)) (St.le_mk ⟨rfl, rfl, rfl, rfl, rfl, rfl, rfl, rfl, rfl, rfl, rfl, rfl, rfl, trivial⟩ ⟨rfl, rfl, trivial⟩ rfl rfl) (Nat.zero_le _) ?_
          rintro j hj
          repeat refine AW.seq ?_
          refine AW.region ?_
          refine A1 rfl ?_
          repeat refine AW.seq ?_
          refine AW.condP rfl (fun hc59 => ?_) (fun hc59 => ?_)
          · have hjl : j < K.length := by omega
            have hja := pints_at hjl
            have hjne := pints_ne hjl
            have hjm := hup _ (List.getElem_mem hjl)
            refine AW.skip ?_
            repeat refine AW.seq ?_
            refine AW.block ?_
            repeat refine AW.seq ?_
            refine AW.region ?_
            refine A1 rfl ?_
            first | refine A2 rfl (by assumption) ?_ | refine A1 rfl ?_
            refine A1 rfl ?_
            repeat refine AW.seq ?_
            refine AW.region ?_
            iterate 4 refine A1 rfl ?_
            apply RL.andB 5 65 70 [66, 67, 68, 69] rfl (by first | exact MonoK.le | exact MonoK.aw | exact MonoK.back)
            · intro hb3
              iterate 2 refine A1 rfl ?_
              refine RL.stepG (d := some 68) rfl rfl rfl (xj_call Try.call14 (mkin_spec U K[j] (by omega)) rfl) ?_
              iterate 2 refine A1 rfl ?_
              exact St.le_fg (fEq.upd (fEq.upd (fEq.upd (fEq.upd (fEq.upd (fEq.upd (fEq.refl) rfl) rfl) rfl) rfl) rfl) rfl) rfl rfl rfl
            · intro hb3
              iterate 5 refine A1 rfl ?_
              exact St.le_fg (fEq.upd (fEq.upd (fEq.upd (fEq.upd (fEq.upd (fEq.upd (fEq.refl) rfl) rfl) rfl) rfl) rfl) rfl) rfl rfl rfl
            refine A1 rfl ?_
            apply RL.orB 7 71 78 [72, 73, 74, 75, 76, 77] rfl (by first | exact MonoK.le | exact MonoK.aw | exact MonoK.back)
            · intro hb9
              iterate 7 refine A1 rfl ?_
              exact St.le_fg (fEq.upd (fEq.upd (fEq.upd (fEq.upd (fEq.upd (fEq.upd (fEq.upd (fEq.upd (fEq.refl) rfl) rfl) rfl) rfl) rfl) rfl) rfl) rfl) rfl rfl rfl
            · intro hb9
              iterate 3 refine A1 rfl ?_
              refine RL.stepG (d := some 75) rfl rfl rfl (xj_call Try.call18 hbv rfl) ?_
              refine A1 rfl ?_
              refine RL.stepG (d := some 77) rfl rfl rfl (xj_call Try.call14 (mkin_spec B K[j] (by omega)) rfl) ?_
              refine A1 rfl ?_
              exact St.le_fg (fEq.upd (fEq.upd (fEq.upd (fEq.upd (fEq.upd (fEq.upd (fEq.upd (fEq.upd (fEq.refl) rfl) rfl) rfl) rfl) rfl) rfl) rfl) rfl) rfl rfl rfl
            repeat refine AW.seq ?_
            refine AW.cond rfl (fun hc78 => absurd hc78 (by rcases hjm with ⟨e | e, e2⟩; (rw [e] at e2 ⊢; simp [e2]); (simp [e, e2]))) (fun hc78 => ?_)
            refine AW.skip ?_
            repeat refine AW.seq ?_
            refine AW.region ?_
            iterate 2 refine A1 rfl ?_
            exact ⟨(j + 1), St.le_mk ⟨rfl, rfl, rfl, rfl, rfl, rfl, rfl, rfl, rfl, rfl, rfl, rfl, rfl, trivial⟩ ⟨rfl, rfl, trivial⟩ rfl rfl, by omega, by omega⟩
          · repeat refine AW.seq ?_
            refine AW.exit ?_
            repeat refine AW.seq ?_
            refine AW.region ?_
            iterate 2 refine A1 rfl ?_
            exact ⟨(v + 1), St.le_mk ⟨rfl, rfl, rfl, rfl, rfl, rfl, rfl, trivial⟩ ⟨rfl, rfl, trivial⟩ rfl rfl, by omega, by omega⟩
      · repeat refine AW.seq ?_
        refine AW.exit ?_
        repeat refine AW.seq ?_
        refine AW.region ?_
        iterate 2 refine A1 rfl ?_
        exact ⟨(i + 1), St.le_mk ⟨rfl, rfl, rfl, trivial⟩ ⟨rfl, trivial⟩ rfl rfl, by omega, by omega⟩
    · repeat refine AW.seq ?_
      refine AW.exit ?_
      repeat refine AW.seq ?_
      refine AW.region ?_
      refine RL.step (d := some 82) rfl rfl (xj_call Try.call6 sane_spec rfl) ?_
      refine A1 rfl ?_
      repeat refine AW.seq ?_
      refine AW.ret ?_
      exact ⟨_, _, rfl, rfl, rfl⟩
end Go.Proofs.Ytkalgjnhaicabaa
