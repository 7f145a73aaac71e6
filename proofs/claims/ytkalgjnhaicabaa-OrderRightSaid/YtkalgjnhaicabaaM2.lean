/-
  Shuffle, New, letter of the makers, in our step logic. No statement of the program is proved here.
-/
import Derived.Test.YtkalgjnhaicabaaM1
namespace Go.Proofs.Ytkalgjnhaicabaa
open Go.RowKit
set_option maxRecDepth 100000

/-- The numbers below j. -/
def upZ (j : Nat) : List Int := (List.range j).map Int.ofNat
theorem upZ_len (j : Nat) : (upZ j).length = j := by simp [upZ]
theorem upZ_succ (j : Nat) : upZ (j + 1) = upZ j ++ [(j : Int)] := by simp [upZ, List.range_succ]
abbrev intsP (l : List Int) : List PV := l.map (.int .i64)

theorem up_perm {n : Nat} {q : List Int} (h : q.Perm (upZ n)) : ∃ p : List Nat, p.Perm (List.range n) ∧ q = p.map Int.ofNat := by
  refine ⟨q.map Int.toNat, ?_, ?_⟩
  · have h1 := h.map Int.toNat
    have h2 : (upZ n).map Int.toNat = List.range n := by
      unfold upZ
      rw [List.map_map]
      apply List.ext_getElem
      · simp
      · intro i h1 h2; simp
    rwa [h2] at h1
  · rw [List.map_map]
    apply List.ext_getElem
    · simp
    · intro i h1 h2
      have hm := h.mem_iff.1 (List.getElem_mem h1)
      unfold upZ at hm
      obtain ⟨k, _, e⟩ := List.mem_map.1 hm
      simp [← e]
/-- Two numbers of a list change places. -/
def swapL (q : List Int) (i k : Nat) : List Int := (q.set i (q.getD k 0)).set k (q.getD i 0)
theorem swap_perm {q : List Int} {i k : Nat} (hi : i < q.length) (hk : k < q.length) : (swapL q i k).Perm q := by
  unfold swapL
  simp only [List.getD, List.getElem?_eq_getElem hi, List.getElem?_eq_getElem hk, Option.getD_some]
  exact List.set_set_perm hi hk
theorem swapL_eq {q : List Int} {i k : Nat} (hi : i < q.length) (hk : k < q.length) : ((intsP q).set i (.int .i64 q[k])).set k (.int .i64 q[i]) = intsP (swapL q i k) := by
  simp [swapL, List.map_set, List.getD, hi, hk]

theorem new_spec (l : List Int) (hl : l.length ≤ 600) : FnO Try.prog 7 0 1 [.pv (pints l)] [] (fun v ob' => v = .ptr 0 0 ∧ ob' = lookO [(0, .mix 55 ((srcC l 0).map .pv))]) := by
  refine FnO.of Try.func7 rfl Try.ntmps7 (by simp) fun m0 w0 F R0 => ?_
  refine AW.seq ?_
  refine AW.region ?_
  refine RL.step (d := some 2) rfl rfl (xj_assignE rfl) ?_
  refine AW.seq ?_
  refine AW.region ?_
  refine RL.step (d := some 3) rfl rfl (xj_moveE rfl) ?_
  refine RL.step (d := some 4) rfl rfl (xj_moveE rfl) ?_
  first | refine RL.step (d := some 5) rfl rfl (xj_len Try.underlying22 rfl) ?_ | refine RL.step (d := some 5) rfl rfl (xj_lenO Try.underlying22 rfl rfl) ?_ | refine RL.step (d := some 5) rfl rfl (xj_lenG Try.underlying22 rfl) ?_
  refine RL.step (d := some 6) rfl rfl ((xj_min rfl rfl).cast (v' := .pv (.int .i64 l.length)) (by rw [if_neg (by omega)])) ?_
  refine RL.step (d := some 7) rfl rfl ((xj_sliceTo l.length Try.underlying22 sz3 rfl rfl rfl (Nat.le_refl _) (by simp)).cast (v' := .pv (pints l)) (by rw [List.take_of_length_le (by simp)])) ?_
  refine RL.step (d := some 8) rfl rfl (xj_build bi55 rfl) ?_
  refine RL.step (d := some 9) rfl rfl (xj_box 0 rfl rfl rfl (by rintro _ _ ⟨⟩) (by rintro _ _ _ ⟨⟩) (by rintro _ ⟨⟩)) ?_
  refine RL.step (d := some 2) rfl rfl (xj_assignE rfl) ?_
  refine AW.ret ?_
  exact ⟨[(2, .ptr 0 0)], [(0, .mix 55 ((srcC l 0).map .pv))], [.ptr 0 0], St.le_mk ⟨rfl, trivial⟩ ⟨rfl, trivial⟩ rfl rfl, rfl, rfl, rfl, rfl, rfl⟩

abbrev srcO (L : List Int) (k : Nat) : Ob := .mix 55 ((srcC L k).map .pv)
theorem shuffle_spec (L : List Int) (k n : Nat) (hL : L.length ≤ 600) (hk : k ≤ L.length) (hn : 1 ≤ n) (hn2 : n ≤ 1000) : FnM Try.prog 10 55 (srcC L k) [.int .i64 n] (fun v c => (∃ q : List Int, q.Perm (upZ n) ∧ v = pints q) ∧ ∃ k', k' ≤ L.length ∧ c = srcC L k') := by
  refine FnM.of Try.func10 rfl Try.ntmps10 (by simp) rfl (by simp) fun m0 w0 F R0 => ?_
  repeat refine AW.seq ?_
  refine AW.region ?_
  refine RL.step (d := some 4) rfl rfl (xj_assignE rfl) ?_
  repeat refine AW.seq ?_
  refine AW.region ?_
  refine RL.step (d := some 5) rfl rfl (xj_assignE rfl) ?_
  repeat refine AW.seq ?_
  refine AW.region ?_
  refine RL.step (d := some 6) rfl rfl (xj_assignE rfl) ?_
  refine AW.block ?_
  refine AW.loop (st := fun j : Nat => match j with
    | 0 => mkS [(0, .ptr big 0), (1, .pv (.int .i64 n)), (6, .pv (.int .i64 (0 : Nat))), (5, .pv (.sl (some true) 0 []))] [(big, srcO L k)] 1
    | j + 1 => mkS [(0, .ptr big 0), (1, .pv (.int .i64 n)), (6, .pv (.int .i64 (j + 1 : Nat))), (5, .osl 0 1 (j + 1))] [(big, srcO L k), (0, .cells 3 (intsP (upZ (j + 1))))] 1) (I := fun j => j ≤ n) (μ := fun j => n - j) (x0 := 0) (St.le_mk ⟨rfl, rfl, rfl, rfl, trivial⟩ ⟨rfl, trivial⟩ rfl rfl) (by omega) (fun j hj => ?_)
  cases j with
  | zero =>
    repeat refine AW.seq ?_
    refine AW.region ?_
    refine RL.step (d := some 9) rfl rfl (xj_moveE rfl) ?_
    refine RL.step (d := some 10) rfl rfl (xj_moveE rfl) ?_
    refine RL.step (d := some 11) rfl rfl (xj_bin rfl rfl rfl) ?_
    refine AW.condP rfl (fun hc => ?_) (fun hc => ?_)
    · refine AW.skip ?_
      repeat refine AW.seq ?_
      refine AW.block ?_
      repeat refine AW.seq ?_
      refine AW.region ?_
      refine RL.step (d := some 14) rfl rfl (xj_moveE rfl) ?_
      refine RL.step (d := some 15) rfl rfl (xj_moveE rfl) ?_
      refine RL.step (d := some 16) rfl rfl (xj_buildSlice 1 el22 rfl (by decide) (by decide) rfl rfl rfl) ?_
      first | refine RL.step (d := some 17) rfl rfl (xj_append1 2 el22 rfl rfl (by first | assumption | simp) rfl rfl rfl rfl (by omega) rfl) ?_ | refine RL.step (d := some 17) rfl rfl (xj_append01 2 el22 rfl rfl rfl rfl rfl rfl) ?_ | refine RL.step (d := some 17) rfl rfl (xj_appendG1 2 el22 rfl rfl (by first | assumption | simp) rfl rfl rfl rfl (by omega) rfl) ?_
      refine RL.step (d := some 5) rfl rfl (xj_assignE rfl) ?_
      repeat refine AW.seq ?_
      refine AW.region ?_
      refine RL.step (d := some 12) rfl rfl (xj_moveE rfl) ?_
      refine RL.step (d := some 13) rfl rfl (xj_add rfl rfl (by omega)) ?_
      refine RL.step (d := some 6) rfl rfl (xj_assignE rfl) ?_
      exact ⟨0 + 1, St.le_mkR [2] ⟨rfl, rfl, rfl, rfl, trivial⟩ ⟨rfl, rfl, trivial⟩ rfl rfl (by simp) rfl, by omega, by omega⟩
    · omega
  | succ j =>
    have hlen : (intsP (upZ (j + 1))).length = (j + 1) * 1 := by simp [upZ_len]
    have hup : intsP (upZ (j + 1 + 1)) = intsP (upZ (j + 1)) ++ [.int .i64 ((j + 1 : Nat) : Int)] := by rw [upZ_succ]; simp
    repeat refine AW.seq ?_
    refine AW.region ?_
    refine RL.step (d := some 9) rfl rfl (xj_moveE rfl) ?_
    refine RL.step (d := some 10) rfl rfl (xj_moveE rfl) ?_
    refine RL.step (d := some 11) rfl rfl (xj_bin rfl rfl rfl) ?_
    refine AW.condP rfl (fun hc => ?_) (fun hc => ?_)
    · refine AW.skip ?_
      repeat refine AW.seq ?_
      refine AW.block ?_
      repeat refine AW.seq ?_
      refine AW.region ?_
      refine RL.step (d := some 14) rfl rfl (xj_moveE rfl) ?_
      refine RL.step (d := some 15) rfl rfl (xj_moveE rfl) ?_
      refine RL.step (d := some 16) rfl rfl (xj_buildSlice 1 el22 rfl (by decide) (by decide) rfl rfl rfl) ?_
      first | refine RL.step (d := some 17) rfl rfl (xj_append1 2 el22 rfl rfl (by first | assumption | simp) rfl rfl rfl rfl (by omega) rfl) ?_ | refine RL.step (d := some 17) rfl rfl (xj_append01 2 el22 rfl rfl rfl rfl rfl rfl) ?_ | refine RL.step (d := some 17) rfl rfl (xj_appendG1 2 el22 rfl rfl (by first | assumption | simp) rfl rfl rfl rfl (by omega) rfl) ?_
      refine RL.step (d := some 5) rfl rfl (xj_assignE rfl) ?_
      repeat refine AW.seq ?_
      refine AW.region ?_
      refine RL.step (d := some 12) rfl rfl (xj_moveE rfl) ?_
      refine RL.step (d := some 13) rfl rfl (xj_add rfl rfl (by omega)) ?_
      refine RL.step (d := some 6) rfl rfl (xj_assignE rfl) ?_
      exact ⟨(j + 1) + 1, St.le_mkR [2] ⟨rfl, rfl, rfl, rfl, trivial⟩ ⟨rfl, (by rw [hup]; rfl), trivial⟩ rfl rfl (by simp) rfl, by omega, by omega⟩
    · obtain rfl : n = j + 1 := by omega
      refine AW.exit ?_
      repeat refine AW.seq ?_
      refine AW.region ?_
      refine RL.step (d := some 18) rfl rfl (xj_moveE rfl) ?_
      refine RL.step (d := some 19) rfl rfl (xj_sub rfl rfl (by omega)) ?_
      refine RL.step (d := some 7) rfl rfl (xj_assignE rfl) ?_
      refine AW.block ?_
      refine AW.loop (st := fun x : Nat × List Int × Nat => mkS [(0, .ptr big 0), (7, .pv (.int .i64 x.1)), (5, .osl 0 1 (j + 1))] [(big, srcO L x.2.2), (0, .cells 3 (intsP x.2.1))] 1) (I := fun x => x.1 ≤ j ∧ x.2.1.Perm (upZ (j + 1)) ∧ x.2.2 ≤ L.length) (μ := fun x => x.1) (x0 := (j, upZ (j + 1), k)) (St.le_mk ⟨rfl, congrArg (fun i => V.pv (PV.int .i64 i)) (by omega), rfl, trivial⟩ ⟨rfl, rfl, trivial⟩ rfl rfl) ⟨Nat.le_refl _, List.Perm.refl _, hk⟩ ?_
      rintro ⟨i, q, k2⟩ ⟨hi, hq, hk2⟩
      simp only at hi hq hk2 ⊢
      have hql : q.length = j + 1 := by rw [hq.length_eq, upZ_len]
      repeat refine AW.seq ?_
      refine AW.region ?_
      refine RL.step (d := some 20) rfl rfl (xj_moveE rfl) ?_
      refine RL.step (d := some 21) rfl rfl (xj_bin rfl rfl rfl) ?_
      refine AW.condP rfl (fun hc => ?_) (fun hc => ?_)
      · refine AW.skip ?_
        have hbd := sNv_bd L k2 (i + 1) (by omega)
        obtain ⟨t, ht⟩ := Int.eq_ofNat_of_zero_le hbd.1
        have htl : t < q.length := by omega
        have hil : i < q.length := by omega
        have hkk : sNk L k2 ≤ L.length := by unfold sNk; split <;> omega
        have v1 : (intsP q)[t * 1]? = some (.int .i64 q[t]) := by simp [htl]
        have v2 : (intsP q)[i * 1]? = some (.int .i64 q[i]) := by simp [hil]
        repeat refine AW.seq ?_
        refine AW.block ?_
        repeat refine AW.seq ?_
        refine AW.region ?_
        refine RL.step (d := some 24) rfl rfl (xj_moveE rfl) ?_
        refine RL.step (d := some 25) rfl rfl (xj_moveE rfl) ?_
        refine RL.step (d := some 26) rfl rfl (xj_add rfl rfl (by omega)) ?_
        refine RL.step (d := some 27) rfl rfl (XJ.cast (v' := .pv (.int .i64 (t : Int))) (xj_callM Try.call25 (n_spec L k2 (i + 1) hL hk2 (by omega) (by omega)) rfl rfl) (by rw [ht])) ?_
        refine RL.step (d := some 8) rfl rfl (xj_assignE rfl) ?_
        repeat refine AW.seq ?_
        refine AW.draw follows [[], [], [], [], [], [], [5, 4], [6, 5, 4], [], [], [9, 8], [10, 9, 8], [11, 7, 6, 5, 4, 1, 0, 10, 9, 8], [12, 11, 7, 6, 5, 4, 1, 0, 10, 9, 8], [13, 12, 11, 10, 9, 8, 7, 6, 5, 4, 1, 0, 3, 2], [14, 13, 12, 11, 10, 9, 8, 7, 6, 5, 4, 1, 0, 3, 2]] [0, 1, 2, 3, 4, 5, 6, 7, 8, 9, 10, 11, 12, 13, 14, 15] (by kernel_rfl) (by kernel_rfl) ?_
        refine DL.step (d := some 28) [] rfl rfl rfl (fun τ h => xj_moveE ((h.e 0 _ rfl).trans rfl)) rfl (by kernel_rfl) ?_
        refine DL.step (d := some 29) [] rfl rfl rfl (fun τ h => xj_moveE ((h.e 0 _ rfl).trans rfl)) rfl (by kernel_rfl) ?_
        refine DL.step (d := some 30) [] rfl rfl rfl (fun τ h => xj_moveE ((h.e 0 _ rfl).trans rfl)) rfl (by kernel_rfl) ?_
        refine DL.step (d := some 31) [] rfl rfl rfl (fun τ h => xj_moveE ((h.e 0 _ rfl).trans rfl)) rfl (by kernel_rfl) ?_
        refine DL.step (d := some 32) [] rfl rfl rfl (fun τ h => xj_moveE ((h.e 0 _ rfl).trans rfl)) rfl (by kernel_rfl) ?_
        refine DL.step (d := some 33) [] rfl rfl rfl (fun τ h => xj_moveE ((h.e 0 _ rfl).trans rfl)) rfl (by kernel_rfl) ?_
        first | refine DL.step (d := some 34) [] rfl rfl rfl (fun τ h => xj_indexAddr _ Try.underlying22 sz3 ((h.e 0 _ rfl).trans rfl) ((h.e 1 _ rfl).trans rfl) rfl (by omega) (by assumption)) rfl (by kernel_rfl) ?_ | refine DL.step (d := some 34) [_] rfl rfl rfl (fun τ h => xj_indexAddrO _ Try.underlying22 sz3 ((h.e 0 _ rfl).trans rfl) ((h.o 0 _ rfl).trans rfl) ((h.e 1 _ rfl).trans rfl) rfl (by omega)) rfl (by kernel_rfl) ?_
        first | refine DL.step (d := some 35) [_] rfl rfl rfl (fun τ h => xj_load1 ⟨_, Try.underlying3, rfl⟩ ((h.e 0 _ rfl).trans rfl) ((h.o 0 _ rfl).trans rfl) rfl) rfl (by kernel_rfl) ?_ | refine DL.step (d := some 35) [_] rfl rfl rfl (fun τ h => xj_load1P ⟨_, Try.underlying3, rfl⟩ ((h.e 0 _ rfl).trans rfl) ((h.o 0 _ rfl).trans rfl) (by first | rfl | assumption)) rfl (by kernel_rfl) ?_ | refine DL.step (d := some 35) [] rfl rfl rfl (fun τ h => xj_loadR ⟨_, Try.underlying3, rfl⟩ ((h.e 0 _ rfl).trans rfl) (by first | rfl | assumption)) rfl (by kernel_rfl) ?_
        refine DL.step (d := some 36) [] rfl rfl rfl (fun τ h => xj_moveE ((h.e 0 _ rfl).trans rfl)) rfl (by kernel_rfl) ?_
        refine DL.step (d := some 37) [] rfl rfl rfl (fun τ h => xj_moveE ((h.e 0 _ rfl).trans rfl)) rfl (by kernel_rfl) ?_
        first | refine DL.step (d := some 38) [] rfl rfl rfl (fun τ h => xj_indexAddr _ Try.underlying22 sz3 ((h.e 0 _ rfl).trans rfl) ((h.e 1 _ rfl).trans rfl) rfl (by omega) (by assumption)) rfl (by kernel_rfl) ?_ | refine DL.step (d := some 38) [_] rfl rfl rfl (fun τ h => xj_indexAddrO _ Try.underlying22 sz3 ((h.e 0 _ rfl).trans rfl) ((h.o 0 _ rfl).trans rfl) ((h.e 1 _ rfl).trans rfl) rfl (by omega)) rfl (by kernel_rfl) ?_
        first | refine DL.step (d := some 39) [_] rfl rfl rfl (fun τ h => xj_load1 ⟨_, Try.underlying3, rfl⟩ ((h.e 0 _ rfl).trans rfl) ((h.o 0 _ rfl).trans rfl) rfl) rfl (by kernel_rfl) ?_ | refine DL.step (d := some 39) [_] rfl rfl rfl (fun τ h => xj_load1P ⟨_, Try.underlying3, rfl⟩ ((h.e 0 _ rfl).trans rfl) ((h.o 0 _ rfl).trans rfl) (by first | rfl | assumption)) rfl (by kernel_rfl) ?_ | refine DL.step (d := some 39) [] rfl rfl rfl (fun τ h => xj_loadR ⟨_, Try.underlying3, rfl⟩ ((h.e 0 _ rfl).trans rfl) (by first | rfl | assumption)) rfl (by kernel_rfl) ?_
        first | refine DL.step (d := some 40) [] rfl rfl rfl (fun τ h => xj_indexAddr _ Try.underlying22 sz3 ((h.e 0 _ rfl).trans rfl) ((h.e 1 _ rfl).trans rfl) rfl (by omega) (by assumption)) rfl (by kernel_rfl) ?_ | refine DL.step (d := some 40) [_] rfl rfl rfl (fun τ h => xj_indexAddrO _ Try.underlying22 sz3 ((h.e 0 _ rfl).trans rfl) ((h.o 0 _ rfl).trans rfl) ((h.e 1 _ rfl).trans rfl) rfl (by omega)) rfl (by kernel_rfl) ?_
        refine DL.step (d := none) [_] rfl rfl rfl (fun τ h => xj_storeP sz3 ((h.e 0 _ rfl).trans rfl) ((h.o 0 _ rfl).trans rfl) ((h.e 1 _ rfl).trans rfl) rfl (by simp; omega)) rfl (by kernel_rfl) ?_
        first | refine DL.step (d := some 41) [] rfl rfl rfl (fun τ h => xj_indexAddr _ Try.underlying22 sz3 ((h.e 0 _ rfl).trans rfl) ((h.e 1 _ rfl).trans rfl) rfl (by omega) (by assumption)) rfl (by kernel_rfl) ?_ | refine DL.step (d := some 41) [_] rfl rfl rfl (fun τ h => xj_indexAddrO _ Try.underlying22 sz3 ((h.e 0 _ rfl).trans rfl) ((h.o 0 _ rfl).trans rfl) ((h.e 1 _ rfl).trans rfl) rfl (by omega)) rfl (by kernel_rfl) ?_
        refine DL.step (d := none) [_] rfl rfl rfl (fun τ h => xj_storeP sz3 ((h.e 0 _ rfl).trans rfl) ((h.o 0 _ rfl).trans rfl) ((h.e 1 _ rfl).trans rfl) rfl (by simp; omega)) rfl (by kernel_rfl) ?_
        refine ⟨by kernel_rfl, ?_⟩
        repeat refine AW.seq ?_
        refine AW.region ?_
        refine RL.step (d := some 22) rfl rfl (xj_moveE rfl) ?_
        refine RL.step (d := some 23) rfl rfl (xj_sub rfl rfl (by omega)) ?_
        refine RL.step (d := some 7) rfl rfl (xj_assignE rfl) ?_
        refine ⟨(i - 1, swapL q i t, sNk L k2), St.le_mk ⟨rfl, congrArg (fun i => V.pv (PV.int .i64 i)) (by omega), rfl, trivial⟩ ⟨rfl, ?_, trivial⟩ rfl rfl, ⟨by omega, (swap_perm hil htl).trans hq, hkk⟩, by omega⟩
        show some (Ob.cells _ _) = _
        rw [← swapL_eq hil htl]
        simp
      · refine AW.exit ?_
        refine AW.weaken (St.le_pub 0 [5] rfl ⟨rfl, trivial⟩ (by simp; omega)) ?_
        repeat refine AW.seq ?_
        refine AW.region ?_
        refine RL.step (d := some 42) rfl rfl (xj_moveE rfl) ?_
        refine RL.step (d := some 4) rfl rfl (xj_assignE rfl) ?_
        refine AW.ret ?_
        exact ⟨_, srcC L k2, rfl, rfl, ⟨q, hq, by simp [pints, hql, List.take_of_length_le]⟩, k2, hk2, rfl⟩

end Go.Proofs.Ytkalgjnhaicabaa
