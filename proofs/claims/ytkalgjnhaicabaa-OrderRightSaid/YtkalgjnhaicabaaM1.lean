/-
  The source of numbers of the makers, in our step logic. No statement of the program is proved here.
-/
import Derived.Test.YtkalgjnhaicabaaL1
namespace Go.Proofs.Ytkalgjnhaicabaa
open Go.RowKit
set_option maxRecDepth 100000

theorem mod_eq (x n : Int) (h : 1 ≤ n) : (x.tmod n + n).tmod n = x % n := by
  have hn : n ≠ 0 := by omega
  by_cases hx : 0 ≤ x
  · rw [Int.tmod_eq_emod_of_nonneg hx, Int.tmod_eq_emod_of_nonneg (by have := Int.emod_nonneg x hn; omega), Int.add_emod_right, Int.emod_emod_of_dvd _ (Int.dvd_refl n)]
  · have h1 : x.tmod n = -((-x) % n) := by
      rw [show x = -(-x) by omega, Int.neg_tmod, Int.tmod_eq_emod_of_nonneg (by omega), Int.neg_neg]
    have h2 := Int.emod_nonneg (-x) hn
    have h3 := Int.emod_lt_of_pos (-x) (show 0 < n by omega)
    rw [h1, Int.tmod_eq_emod_of_nonneg (by omega), Int.add_emod_right]
    rw [← Int.zero_sub, Int.sub_emod, Int.emod_emod_of_dvd _ (Int.dvd_refl n), ← Int.sub_emod, Int.zero_sub, Int.neg_neg]
theorem tmod_bd (x n : Int) (h : 1 ≤ n) : -n < x.tmod n ∧ x.tmod n < n := by
  have h1 := Int.tmod_lt_of_pos x (show 0 < n by omega)
  have h2 := Int.lt_tmod_of_pos x (show 0 < n by omega)
  omega

theorem mod_spec (x n : Int) (h1 : 1 ≤ n) (h2 : n ≤ 1000000) : FnP Try.prog 43 [.int .i64 x, .int .i64 n] (· = .int .i64 (x % n)) := by
  refine FnP.of Try.func43 rfl Try.ntmps43 (by simp) fun m0 w0 F R0 => ?_
  refine AW.seq ?_
  refine AW.region ?_
  refine RL.step (d := some 4) rfl rfl (xj_assignE rfl) ?_
  refine AW.seq ?_
  refine AW.seq ?_
  refine AW.region ?_
  refine RL.step (d := some 5) rfl rfl (xj_moveE rfl) ?_
  refine RL.step (d := some 6) rfl rfl (xj_bin rfl rfl rfl) ?_
  refine AW.condP rfl (fun hc => absurd hc (by omega)) (fun hc => ?_)
  refine AW.skip ?_
  have hb := tmod_bd x n h1
  refine AW.seq ?_
  refine AW.region ?_
  refine RL.step (d := some 7) rfl rfl (xj_moveE rfl) ?_
  refine RL.step (d := some 8) rfl rfl (xj_moveE rfl) ?_
  refine RL.step (d := some 9) rfl rfl (xj_rem rfl rfl (by omega)) ?_
  refine RL.step (d := some 10) rfl rfl (xj_moveE rfl) ?_
  refine RL.step (d := some 11) rfl rfl (xj_add rfl rfl (by omega)) ?_
  refine RL.step (d := some 12) rfl rfl (xj_moveE rfl) ?_
  refine RL.step (d := some 13) rfl rfl (xj_rem rfl rfl (by omega)) ?_
  refine RL.step (d := some 4) rfl rfl (xj_assignE rfl) ?_
  refine AW.ret ?_
  exact ⟨_, _, rfl, rfl, congrArg (PV.int .i64) (mod_eq x n h1)⟩

/-- The cells of a source: its numbers, how many were given out. -/
abbrev srcC (L : List Int) (k : Nat) : List PV := [pints L, .int .i64 k]
def sNv (L : List Int) (k : Nat) (n : Int) : Int := match L[k]? with | some x => x % n | none => 0
def sNk (L : List Int) (k : Nat) : Nat := if k < L.length then k + 1 else k
theorem sNv_bd (L : List Int) (k : Nat) (n : Int) (h : 1 ≤ n) : 0 ≤ sNv L k n ∧ sNv L k n < n := by
  unfold sNv
  split
  · exact ⟨Int.emod_nonneg _ (by omega), Int.emod_lt_of_pos _ (by omega)⟩
  · omega

theorem n_spec (L : List Int) (k : Nat) (n : Int) (hL : L.length ≤ 600) (hk : k ≤ L.length) (h1 : 1 ≤ n) (h2 : n ≤ 1000000) : FnM Try.prog 25 55 (srcC L k) [.int .i64 n] (fun v c => v = .int .i64 (sNv L k n) ∧ c = srcC L (sNk L k)) := by
  refine FnM.of Try.func25 rfl Try.ntmps25 (by simp) rfl (by simp) fun m0 w0 F R0 => ?_
  refine AW.seq ?_
  refine AW.region ?_
  refine RL.step (d := some 4) rfl rfl (xj_assignE rfl) ?_
  refine AW.seq ?_
  refine AW.seq ?_
  repeat refine AW.seq ?_
  refine AW.draw follows [[], [0], [1, 0], [2, 1, 0], [], [4], [5, 4], [6, 5, 4], [7, 6, 5, 4], [8, 3, 2, 1, 0, 7, 6, 5, 4]] [0, 1, 2, 3, 4, 5, 6, 7, 8, 9] (by kernel_rfl) (by kernel_rfl) ?_
  refine DL.step (d := some 5) [] rfl rfl rfl (fun τ h => xj_moveE ((h.e 0 _ rfl).trans rfl)) rfl (by kernel_rfl) ?_
  first | refine DL.step (d := some 6) [_] rfl rfl rfl (fun τ h => xj_nilCheck ((h.e 0 _ rfl).trans rfl) ((h.o 0 _ rfl).trans rfl)) rfl (by kernel_rfl) ?_ | refine DL.step (d := some 6) [] rfl rfl rfl (fun τ h => xj_nilCheckR ((h.e 0 _ rfl).trans rfl)) rfl (by kernel_rfl) ?_
  first | refine DL.step (d := some 7) [_] rfl rfl rfl (fun τ h => xj_fieldAddr fo55_1 ((h.e 0 _ rfl).trans rfl) ((h.o 0 _ rfl).trans rfl)) rfl (by kernel_rfl) ?_ | refine DL.step (d := some 7) [] rfl rfl rfl (fun τ h => xj_fieldAddrR fo55_1 ((h.e 0 _ rfl).trans rfl)) rfl (by kernel_rfl) ?_
  first | refine DL.step (d := some 8) [_] rfl rfl rfl (fun τ h => xj_load1 ⟨_, Try.underlying3, rfl⟩ ((h.e 0 _ rfl).trans rfl) ((h.o 0 _ rfl).trans rfl) rfl) rfl (by kernel_rfl) ?_ | refine DL.step (d := some 8) [_] rfl rfl rfl (fun τ h => xj_load1P ⟨_, Try.underlying3, rfl⟩ ((h.e 0 _ rfl).trans rfl) ((h.o 0 _ rfl).trans rfl) (by first | rfl | assumption)) rfl (by kernel_rfl) ?_ | refine DL.step (d := some 8) [] rfl rfl rfl (fun τ h => xj_loadR ⟨_, Try.underlying3, rfl⟩ ((h.e 0 _ rfl).trans rfl) (by first | rfl | assumption)) rfl (by kernel_rfl) ?_
  refine DL.step (d := some 9) [] rfl rfl rfl (fun τ h => xj_moveE ((h.e 0 _ rfl).trans rfl)) rfl (by kernel_rfl) ?_
  first | refine DL.step (d := some 10) [_] rfl rfl rfl (fun τ h => xj_nilCheck ((h.e 0 _ rfl).trans rfl) ((h.o 0 _ rfl).trans rfl)) rfl (by kernel_rfl) ?_ | refine DL.step (d := some 10) [] rfl rfl rfl (fun τ h => xj_nilCheckR ((h.e 0 _ rfl).trans rfl)) rfl (by kernel_rfl) ?_
  first | refine DL.step (d := some 11) [_] rfl rfl rfl (fun τ h => xj_fieldAddr fo55_0 ((h.e 0 _ rfl).trans rfl) ((h.o 0 _ rfl).trans rfl)) rfl (by kernel_rfl) ?_ | refine DL.step (d := some 11) [] rfl rfl rfl (fun τ h => xj_fieldAddrR fo55_0 ((h.e 0 _ rfl).trans rfl)) rfl (by kernel_rfl) ?_
  first | refine DL.step (d := some 12) [_] rfl rfl rfl (fun τ h => xj_load1 ⟨_, Try.underlying22, rfl⟩ ((h.e 0 _ rfl).trans rfl) ((h.o 0 _ rfl).trans rfl) rfl) rfl (by kernel_rfl) ?_ | refine DL.step (d := some 12) [_] rfl rfl rfl (fun τ h => xj_load1P ⟨_, Try.underlying22, rfl⟩ ((h.e 0 _ rfl).trans rfl) ((h.o 0 _ rfl).trans rfl) (by first | rfl | assumption)) rfl (by kernel_rfl) ?_ | refine DL.step (d := some 12) [] rfl rfl rfl (fun τ h => xj_loadR ⟨_, Try.underlying22, rfl⟩ ((h.e 0 _ rfl).trans rfl) (by first | rfl | assumption)) rfl (by kernel_rfl) ?_
  first | refine DL.step (d := some 13) [] rfl rfl rfl (fun τ h => xj_len Try.underlying22 ((h.e 0 _ rfl).trans rfl)) rfl (by kernel_rfl) ?_ | refine DL.step (d := some 13) [_] rfl rfl rfl (fun τ h => xj_lenO Try.underlying22 ((h.e 0 _ rfl).trans rfl) ((h.o 0 _ rfl).trans rfl)) rfl (by kernel_rfl) ?_ | refine DL.step (d := some 13) [] rfl rfl rfl (fun τ h => xj_lenG Try.underlying22 ((h.e 0 _ rfl).trans rfl)) rfl (by kernel_rfl) ?_
  refine DL.step (d := some 14) [] rfl rfl rfl (fun τ h => xj_bin ((h.e 0 _ rfl).trans rfl) ((h.e 1 _ rfl).trans rfl) rfl) rfl (by kernel_rfl) ?_
  refine ⟨by kernel_rfl, ?_⟩
  refine AW.condP rfl (fun hc => ?_) (fun hc => ?_)
  · refine AW.seq ?_
    refine AW.region ?_
    refine RL.step (d := some 4) rfl rfl (xj_assignE rfl) ?_
    refine AW.ret ?_
    have hkl : L[k]? = none := by simp; omega
    exact ⟨_, srcC L k, rfl, rfl, by simp [sNv, hkl]; rfl, by simp only [sNk]; rw [if_neg (by omega)]⟩
  refine AW.skip ?_
  have hlt : k < L.length := by omega
  have hv := pints_at hlt
  have hne := pints_ne hlt
  refine AW.seq ?_
  refine AW.region ?_
  refine RL.step (d := some 15) rfl rfl (xj_moveE rfl) ?_
  first | refine RL.step (d := some 16) rfl rfl (xj_nilCheck rfl rfl) ?_ | refine RL.step (d := some 16) rfl rfl (xj_nilCheckR rfl) ?_
  first | refine RL.step (d := some 17) rfl rfl (xj_fieldAddr fo55_1 rfl rfl) ?_ | refine RL.step (d := some 17) rfl rfl (xj_fieldAddrR fo55_1 rfl) ?_
  first | refine RL.step (d := some 18) rfl rfl (xj_load1 ⟨_, Try.underlying3, rfl⟩ rfl rfl rfl) ?_ | refine RL.step (d := some 18) rfl rfl (xj_load1P ⟨_, Try.underlying3, rfl⟩ rfl rfl (by first | rfl | assumption)) ?_ | refine RL.step (d := some 18) rfl rfl (xj_loadR ⟨_, Try.underlying3, rfl⟩ rfl (by first | rfl | assumption)) ?_
  refine RL.step (d := some 19) rfl rfl (xj_add rfl rfl (by omega)) ?_
  first | refine RL.step (d := some 20) rfl rfl (xj_nilCheck rfl rfl) ?_ | refine RL.step (d := some 20) rfl rfl (xj_nilCheckR rfl) ?_
  first | refine RL.step (d := some 21) rfl rfl (xj_fieldAddr fo55_1 rfl rfl) ?_ | refine RL.step (d := some 21) rfl rfl (xj_fieldAddrR fo55_1 rfl) ?_
  first | refine RL.step (d := none) rfl rfl (xj_store sz3 rfl rfl rfl rfl (by first | (simp; done) | exact Nat.le_of_ble_eq_true rfl) rfl rfl) ?_ | refine RL.step (d := none) rfl rfl (xj_storeP sz3 rfl rfl rfl rfl (by simp; omega)) ?_
  refine AW.seq ?_
  repeat refine AW.seq ?_
  refine AW.draw follows [[], [0], [1, 0], [2, 1, 0], [], [4], [5, 4], [6, 5, 4], [7, 6, 5, 4], [8, 3, 2, 1, 0, 7, 6, 5, 4], [9, 8, 3, 2, 1, 0, 7, 6, 5, 4], [], [11, 10, 9, 8, 3, 2, 1, 0, 7, 6, 5, 4], [12, 11, 10, 9, 8, 3, 2, 1, 0, 7, 6, 5, 4]] [0, 1, 2, 3, 4, 5, 6, 7, 8, 9, 10, 11, 12, 13] (by kernel_rfl) (by kernel_rfl) ?_
  refine DL.step (d := some 22) [] rfl rfl rfl (fun τ h => xj_moveE ((h.e 0 _ rfl).trans rfl)) rfl (by kernel_rfl) ?_
  first | refine DL.step (d := some 23) [_] rfl rfl rfl (fun τ h => xj_nilCheck ((h.e 0 _ rfl).trans rfl) ((h.o 0 _ rfl).trans rfl)) rfl (by kernel_rfl) ?_ | refine DL.step (d := some 23) [] rfl rfl rfl (fun τ h => xj_nilCheckR ((h.e 0 _ rfl).trans rfl)) rfl (by kernel_rfl) ?_
  first | refine DL.step (d := some 24) [_] rfl rfl rfl (fun τ h => xj_fieldAddr fo55_0 ((h.e 0 _ rfl).trans rfl) ((h.o 0 _ rfl).trans rfl)) rfl (by kernel_rfl) ?_ | refine DL.step (d := some 24) [] rfl rfl rfl (fun τ h => xj_fieldAddrR fo55_0 ((h.e 0 _ rfl).trans rfl)) rfl (by kernel_rfl) ?_
  first | refine DL.step (d := some 25) [_] rfl rfl rfl (fun τ h => xj_load1 ⟨_, Try.underlying22, rfl⟩ ((h.e 0 _ rfl).trans rfl) ((h.o 0 _ rfl).trans rfl) rfl) rfl (by kernel_rfl) ?_ | refine DL.step (d := some 25) [_] rfl rfl rfl (fun τ h => xj_load1P ⟨_, Try.underlying22, rfl⟩ ((h.e 0 _ rfl).trans rfl) ((h.o 0 _ rfl).trans rfl) (by first | rfl | assumption)) rfl (by kernel_rfl) ?_ | refine DL.step (d := some 25) [] rfl rfl rfl (fun τ h => xj_loadR ⟨_, Try.underlying22, rfl⟩ ((h.e 0 _ rfl).trans rfl) (by first | rfl | assumption)) rfl (by kernel_rfl) ?_
  refine DL.step (d := some 26) [] rfl rfl rfl (fun τ h => xj_moveE ((h.e 0 _ rfl).trans rfl)) rfl (by kernel_rfl) ?_
  first | refine DL.step (d := some 27) [_] rfl rfl rfl (fun τ h => xj_nilCheck ((h.e 0 _ rfl).trans rfl) ((h.o 0 _ rfl).trans rfl)) rfl (by kernel_rfl) ?_ | refine DL.step (d := some 27) [] rfl rfl rfl (fun τ h => xj_nilCheckR ((h.e 0 _ rfl).trans rfl)) rfl (by kernel_rfl) ?_
  first | refine DL.step (d := some 28) [_] rfl rfl rfl (fun τ h => xj_fieldAddr fo55_1 ((h.e 0 _ rfl).trans rfl) ((h.o 0 _ rfl).trans rfl)) rfl (by kernel_rfl) ?_ | refine DL.step (d := some 28) [] rfl rfl rfl (fun τ h => xj_fieldAddrR fo55_1 ((h.e 0 _ rfl).trans rfl)) rfl (by kernel_rfl) ?_
  first | refine DL.step (d := some 29) [_] rfl rfl rfl (fun τ h => xj_load1 ⟨_, Try.underlying3, rfl⟩ ((h.e 0 _ rfl).trans rfl) ((h.o 0 _ rfl).trans rfl) rfl) rfl (by kernel_rfl) ?_ | refine DL.step (d := some 29) [_] rfl rfl rfl (fun τ h => xj_load1P ⟨_, Try.underlying3, rfl⟩ ((h.e 0 _ rfl).trans rfl) ((h.o 0 _ rfl).trans rfl) (by first | rfl | assumption)) rfl (by kernel_rfl) ?_ | refine DL.step (d := some 29) [] rfl rfl rfl (fun τ h => xj_loadR ⟨_, Try.underlying3, rfl⟩ ((h.e 0 _ rfl).trans rfl) (by first | rfl | assumption)) rfl (by kernel_rfl) ?_
  refine DL.step (d := some 30) [] rfl rfl rfl (fun τ h => xj_sub ((h.e 0 _ rfl).trans rfl) ((h.e 1 _ rfl).trans rfl) (by omega)) rfl (by kernel_rfl) ?_
  refine DL.step (d := some 31) [] rfl rfl rfl (fun τ h => xj_indexAddr k Try.underlying22 sz3 ((h.e 0 _ rfl).trans rfl) ((h.e 1 _ rfl).trans rfl) (by omega) (by omega) hne) rfl (by kernel_rfl) ?_
  first | refine DL.step (d := some 32) [_] rfl rfl rfl (fun τ h => xj_load1 ⟨_, Try.underlying3, rfl⟩ ((h.e 0 _ rfl).trans rfl) ((h.o 0 _ rfl).trans rfl) rfl) rfl (by kernel_rfl) ?_ | refine DL.step (d := some 32) [_] rfl rfl rfl (fun τ h => xj_load1P ⟨_, Try.underlying3, rfl⟩ ((h.e 0 _ rfl).trans rfl) ((h.o 0 _ rfl).trans rfl) (by first | rfl | assumption)) rfl (by kernel_rfl) ?_ | refine DL.step (d := some 32) [] rfl rfl rfl (fun τ h => xj_loadR ⟨_, Try.underlying3, rfl⟩ ((h.e 0 _ rfl).trans rfl) (by first | rfl | assumption)) rfl (by kernel_rfl) ?_
  refine DL.step (d := some 33) [] rfl rfl rfl (fun τ h => xj_moveE ((h.e 0 _ rfl).trans rfl)) rfl (by kernel_rfl) ?_
  refine DL.step (d := some 34) [] rfl rfl rfl (fun τ h => xj_call Try.call43 (mod_spec L[k] n h1 h2) (h.argsP rfl)) rfl (by kernel_rfl) ?_
  refine DL.step (d := some 4) [] rfl rfl rfl (fun τ h => xj_assignE ((h.e 0 _ rfl).trans rfl)) rfl (by kernel_rfl) ?_
  refine ⟨by kernel_rfl, ?_⟩
  refine AW.ret ?_
  exact ⟨_, srcC L (k + 1), rfl, rfl, by simp [sNv, hlt], by simp only [sNk]; rw [if_pos hlt]⟩

theorem range_spec (L : List Int) (k : Nat) (lo hi : Int) (hL : L.length ≤ 600) (hk : k ≤ L.length) (h1 : lo ≤ hi) (h2 : -1000 ≤ lo) (h3 : hi ≤ 1000) : FnM Try.prog 24 55 (srcC L k) [.int .i64 lo, .int .i64 hi] (fun v c => v = .int .i64 (lo + sNv L k (hi - lo + 1)) ∧ c = srcC L (sNk L k)) := by
  refine FnM.of Try.func24 rfl Try.ntmps24 (by simp) rfl (by simp) fun m0 w0 F R0 => ?_
  have hb := sNv_bd L k (hi - lo + 1) (by omega)
  refine AW.seq ?_
  refine AW.region ?_
  refine RL.step (d := some 6) rfl rfl (xj_assignE rfl) ?_
  refine AW.seq ?_
  refine AW.region ?_
  refine RL.step (d := some 7) rfl rfl (xj_moveE rfl) ?_
  refine RL.step (d := some 8) rfl rfl (xj_moveE rfl) ?_
  refine RL.step (d := some 9) rfl rfl (xj_moveE rfl) ?_
  refine RL.step (d := some 10) rfl rfl (xj_moveE rfl) ?_
  refine RL.step (d := some 11) rfl rfl (xj_sub rfl rfl (by omega)) ?_
  refine RL.step (d := some 12) rfl rfl (xj_add rfl rfl (by omega)) ?_
  refine RL.step (d := some 13) rfl rfl (xj_callM Try.call25 (n_spec L k (hi - lo + 1) hL hk (by omega) (by omega)) rfl rfl) ?_
  refine RL.step (d := some 14) rfl rfl (xj_add rfl rfl (by omega)) ?_
  refine RL.step (d := some 6) rfl rfl (xj_assignE rfl) ?_
  refine AW.ret ?_
  exact ⟨_, srcC L (sNk L k), rfl, rfl, rfl, rfl⟩

theorem pick_spec (L : List Int) (k : Nat) (l : List Int) (hL : L.length ≤ 600) (hk : k ≤ L.length) (hl : l ≠ []) (hl2 : l.length ≤ 1000) : FnM Try.prog 27 55 (srcC L k) [pints l] (fun v c => (∃ x ∈ l, v = .int .i64 x) ∧ c = srcC L (sNk L k)) := by
  have hpos : 0 < l.length := List.length_pos_iff.2 hl
  have hb := sNv_bd L k l.length (by omega)
  obtain ⟨j, hj⟩ := Int.eq_ofNat_of_zero_le hb.1
  have hjl : j < l.length := by omega
  refine FnM.of Try.func27 rfl Try.ntmps27 (by simp) rfl (by simp) fun m0 w0 F R0 => ?_
  have hv := pints_at hjl
  have hne := pints_ne hjl
  refine AW.seq ?_
  refine AW.region ?_
  refine RL.step (d := some 4) rfl rfl (xj_assignE rfl) ?_
  refine AW.seq ?_
  refine AW.region ?_
  refine RL.step (d := some 5) rfl rfl (xj_moveE rfl) ?_
  refine RL.step (d := some 6) rfl rfl (xj_moveE rfl) ?_
  refine RL.step (d := some 7) rfl rfl (xj_moveE rfl) ?_
  first | refine RL.step (d := some 8) rfl rfl (xj_len Try.underlying22 rfl) ?_ | refine RL.step (d := some 8) rfl rfl (xj_lenO Try.underlying22 rfl rfl) ?_ | refine RL.step (d := some 8) rfl rfl (xj_lenG Try.underlying22 rfl) ?_
  refine RL.step (d := some 9) rfl rfl (xj_callM Try.call25 (n_spec L k l.length hL hk (by omega) (by omega)) rfl rfl) ?_
  refine RL.step (d := some 10) rfl rfl (xj_indexAddr j Try.underlying22 sz3 rfl rfl hj hjl hne) ?_
  first | refine RL.step (d := some 11) rfl rfl (xj_load1 ⟨_, Try.underlying3, rfl⟩ rfl rfl rfl) ?_ | refine RL.step (d := some 11) rfl rfl (xj_load1P ⟨_, Try.underlying3, rfl⟩ rfl rfl (by first | rfl | assumption)) ?_ | refine RL.step (d := some 11) rfl rfl (xj_loadR ⟨_, Try.underlying3, rfl⟩ rfl (by first | rfl | assumption)) ?_
  refine RL.step (d := some 4) rfl rfl (xj_assignE rfl) ?_
  refine AW.ret ?_
  exact ⟨_, srcC L (sNk L k), rfl, rfl, ⟨_, List.getElem_mem hjl, rfl⟩, rfl⟩

end Go.Proofs.Ytkalgjnhaicabaa
