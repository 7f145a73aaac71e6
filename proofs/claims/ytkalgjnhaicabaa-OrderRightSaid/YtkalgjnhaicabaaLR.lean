/-
  The walk of OrderRight, in our step logic.
-/
import Derived.Test.YtkalgjnhaicabaaLA
import Derived.Test.YtkalgjnhaicabaaW2
namespace Go.Proofs.Ytkalgjnhaicabaa
open Go.RowKit Mk
set_option maxRecDepth 100000
set_option maxHeartbeats 4000000

theorem orderRight_spec (t : List Int) : FnP Try.prog 3 [pints t] (· = .bool true) := by
  refine FnP.of Try.func3 rfl Try.ntmps3 (by simp) fun m0 w0 F R0 => ?_
  repeat refine AW.seq ?_
  refine AW.region ?_
  refine RL.step (d := some 2) rfl rfl (xj_assignE rfl) ?_
  repeat refine AW.seq ?_
  refine AW.region ?_
  refine RL.step (d := some 17) rfl rfl (xj_moveE rfl) ?_
  first | refine RL.step (d := some 18) rfl rfl (xj_len Try.underlying22 rfl) ?_ | refine RL.step (d := some 18) rfl rfl (xj_lenO Try.underlying22 rfl rfl) ?_ | refine RL.step (d := some 18) rfl rfl (xj_lenG Try.underlying22 rfl) ?_
  refine RL.step (d := some 19) rfl rfl (xj_bin rfl rfl rfl) ?_
  repeat refine AW.seq ?_
  refine AW.condP rfl (fun hc19 => ?_) (fun hc19 => ?_)
  · repeat refine AW.seq ?_
    refine AW.region ?_
    refine RL.step (d := some 20) rfl rfl (xj_call Try.call6 sane_spec rfl) ?_
    refine RL.step (d := some 2) rfl rfl (xj_assignE rfl) ?_
    repeat refine AW.seq ?_
    refine AW.ret ?_
    exact ⟨_, _, rfl, rfl, rfl⟩
  · have hL : t.length ≤ 400 := by omega
    refine AW.skip ?_
    repeat refine AW.seq ?_
    refine AW.region ?_
    refine RL.step (d := some 21) rfl rfl (xj_moveE rfl) ?_
    refine RL.call rfl (oj_callF1 [] 0 Try.call7 (new_spec t (by omega)) rfl rfl rfl rfl trivial (by decide) rfl ?_)
    rintro _ _ ⟨rfl, rfl⟩
    refine RL.step (d := some 3) rfl rfl (xj_assignE rfl) ?_
    repeat refine AW.seq ?_
    refine AW.region ?_
    refine RL.step (d := some 23) rfl rfl (xj_moveE rfl) ?_
    refine RL.call rfl (oj_callM Try.call8 (schema_spec t 0 6 (by omega) (by omega) (by omega) (by omega)) rfl rfl ?_)
    rintro _ _ ⟨⟨S, hM, rfl⟩, k1, hk1, rfl⟩
    have h0 := made_check hM (by omega)
    have hV := valid_of h0
    have hSB := made_SB hM (by omega)
    have hn12 := hV.n2
    have hn1 := hV.n1
    have hr6 := hV.r2
    refine RL.step (d := some 4) rfl rfl (xj_alloc 1 zero30 rfl rfl) ?_
    first | refine RL.step (d := none) rfl rfl (xj_store sz30 rfl rfl rfl rfl (by first | (simp; done) | exact Nat.le_of_ble_eq_true rfl) rfl rfl) ?_ | refine RL.step (d := none) rfl rfl (xj_storeP sz30 rfl rfl rfl rfl (by simp; omega)) ?_
    repeat refine AW.seq ?_
    refine AW.draw follows [[], [], [], [2], [3, 2], [4, 1, 3, 2], [5, 0, 4, 1, 3, 2], [6, 5, 0, 4, 1, 3, 2], [7, 6, 5, 0, 4, 1, 3, 2], [7, 6, 5, 0, 4, 1, 3, 2], [], [8, 10, 7, 6, 5, 0, 4, 1, 3, 2], [11, 9, 7, 6, 5, 0, 4, 1, 3, 2, 8, 10]] [0, 1, 2, 3, 4, 10, 5, 6, 7, 8, 9, 11, 12] (by kernel_rfl) (by kernel_rfl) ?_
    first | refine DL.step (d := some 26) [_] rfl rfl rfl (fun τ h => xj_loadA ⟨_, Try.underlying30, rfl⟩ sz30 ((h.e 0 _ rfl).trans rfl) ((h.o 0 _ rfl).trans rfl) rfl rfl) rfl (by kernel_rfl) ?_ | refine DL.step (d := some 26) [_] rfl rfl rfl (fun τ h => xj_loadAP ⟨_, Try.underlying30, rfl⟩ sz30 ((h.e 0 _ rfl).trans rfl) ((h.o 0 _ rfl).trans rfl) rfl rfl) rfl (by kernel_rfl) ?_ | refine DL.step (d := some 26) [] rfl rfl rfl (fun τ h => xj_loadAR ⟨_, Try.underlying30, rfl⟩ sz30 ((h.e 0 _ rfl).trans rfl) rfl rfl) rfl (by kernel_rfl) ?_
    refine DL.step (d := some 27) [] rfl rfl rfl (fun τ h => xj_moveE ((h.e 0 _ rfl).trans rfl)) rfl (by kernel_rfl) ?_
    first | refine DL.step (d := some 28) [_] rfl rfl rfl (fun τ h => xj_fieldAddr fo30_0 ((h.e 0 _ rfl).trans rfl) ((h.o 0 _ rfl).trans rfl)) rfl (by kernel_rfl) ?_ | refine DL.step (d := some 28) [] rfl rfl rfl (fun τ h => xj_fieldAddrR fo30_0 ((h.e 0 _ rfl).trans rfl)) rfl (by kernel_rfl) ?_
    first | refine DL.step (d := some 29) [_] rfl rfl rfl (fun τ h => xj_load1 ⟨_, Try.underlying26, rfl⟩ ((h.e 0 _ rfl).trans rfl) ((h.o 0 _ rfl).trans rfl) rfl) rfl (by kernel_rfl) ?_ | refine DL.step (d := some 29) [_] rfl rfl rfl (fun τ h => xj_load1P ⟨_, Try.underlying26, rfl⟩ ((h.e 0 _ rfl).trans rfl) ((h.o 0 _ rfl).trans rfl) (by first | rfl | assumption)) rfl (by kernel_rfl) ?_ | refine DL.step (d := some 29) [] rfl rfl rfl (fun τ h => xj_loadR ⟨_, Try.underlying26, rfl⟩ ((h.e 0 _ rfl).trans rfl) (by first | rfl | assumption)) rfl (by kernel_rfl) ?_
    first | refine DL.step (d := some 30) [] rfl rfl rfl (fun τ h => xj_len Try.underlying26 ((h.e 0 _ rfl).trans rfl)) rfl (by kernel_rfl) ?_ | refine DL.step (d := some 30) [_] rfl rfl rfl (fun τ h => xj_lenO Try.underlying26 ((h.e 0 _ rfl).trans rfl) ((h.o 0 _ rfl).trans rfl)) rfl (by kernel_rfl) ?_ | refine DL.step (d := some 30) [] rfl rfl rfl (fun τ h => xj_lenG Try.underlying26 ((h.e 0 _ rfl).trans rfl)) rfl (by kernel_rfl) ?_
    refine DL.step (d := some 5) [] rfl rfl rfl (fun τ h => xj_alloc 2 zero33 rfl (h.n 0 _ rfl)) rfl (by kernel_rfl) ?_
    refine DL.rel (RM 55 0 (fun v c => (∃ q : List Int, q.Perm (upZ S.attrs.length) ∧ v = pints q) ∧ ∃ k', k' ≤ t.length ∧ c = srcC t k')) [0] [] [0] rfl rfl rfl (fun τ h => relM Try.call10 (shuffle_spec t k1 S.attrs.length (by omega) hk1 hn1 (by omega)) (h.args.trans rfl) ((h.o 0 _ rfl).trans rfl)) rfl (by kernel_rfl) (by kernel_rfl) (by kernel_rfl) ?_
    rintro _ ⟨_, _, ⟨⟨q, hq, rfl⟩, k2, hk2, rfl⟩, rfl⟩ _ _
    have hql : q.length = S.attrs.length := by rw [hq.length_eq, upZ_len]
    have hofv : ofV S q = .tup [ordP (ordL S q), .int .i64 0] := by unfold ofV; rw [perm_ofE h0 hq, if_pos rfl]
    have hof := oof_spec S hSB q (by omega)
    rw [hofv] at hof
    have hok : OrdOk S (ordL S q) := (ordL_ord hV hq).ok hV hq
    generalize ordL S q = P at *
    have hPl := hok.len
    have hP0 := ordE_zero.2 ⟨h0, hok⟩
    refine DL.step (d := some 32) [] rfl rfl rfl (fun τ h => xj_call Try.call9 hof (h.argsP rfl)) rfl (by kernel_rfl) ?_
    refine DL.step (d := some 25) [] rfl rfl rfl (fun τ h => xj_moveE ((h.e 0 _ rfl).trans rfl)) rfl (by kernel_rfl) ?_
    first | refine DL.step (d := some 33) [] rfl rfl rfl (fun τ h => xj_extractP ((h.e 0 _ rfl).trans rfl) rfl) rfl (by kernel_rfl) ?_ | refine DL.step (d := some 33) [] rfl rfl rfl (fun τ h => xj_extract ((h.e 0 _ rfl).trans rfl) rfl) rfl (by kernel_rfl) ?_
    first | refine DL.step (d := some 34) [] rfl rfl rfl (fun τ h => xj_extractP ((h.e 0 _ rfl).trans rfl) rfl) rfl (by kernel_rfl) ?_ | refine DL.step (d := some 34) [] rfl rfl rfl (fun τ h => xj_extract ((h.e 0 _ rfl).trans rfl) rfl) rfl (by kernel_rfl) ?_
    first | refine DL.step (d := none) [_] rfl rfl rfl (fun τ h => xj_store sz33 ((h.e 0 _ rfl).trans rfl) ((h.o 0 _ rfl).trans rfl) ((h.e 1 _ rfl).trans rfl) rfl (by first | (simp; done) | exact Nat.le_of_ble_eq_true rfl) rfl rfl) rfl (by kernel_rfl) ?_ | refine DL.step (d := none) [_] rfl rfl rfl (fun τ h => xj_storeP sz33 ((h.e 0 _ rfl).trans rfl) ((h.o 0 _ rfl).trans rfl) ((h.e 1 _ rfl).trans rfl) rfl (by simp; omega)) rfl (by kernel_rfl) ?_
    refine DL.step (d := some 6) [] rfl rfl rfl (fun τ h => xj_assignE ((h.e 0 _ rfl).trans rfl)) rfl (by kernel_rfl) ?_
    refine ⟨by kernel_rfl, ?_⟩
    have hck := ocheck_spec S hSB P (by omega)
    rw [hP0] at hck
    repeat refine AW.seq ?_
    refine AW.region ?_
    refine RL.step (d := some 35) rfl rfl (xj_moveE rfl) ?_
    refine RL.step (d := some 36) rfl rfl (xj_bin rfl rfl rfl) ?_
    refine RL.step (d := some 37) rfl rfl (xj_moveE rfl) ?_
    apply RL.orB 5 37 42 [38, 39, 40, 41] rfl (by first | exact MonoK.le | exact MonoK.aw | exact MonoK.back)
    · intro hb2
      refine RL.skipG rfl rfl rfl ?_
      refine RL.skipG rfl rfl rfl ?_
      refine RL.skipG rfl rfl rfl ?_
      refine RL.skipG rfl rfl rfl ?_
      refine RL.step (d := some 42) rfl rfl (xj_pick rfl) ?_
      exact St.le_fg (fEq.upd (fEq.upd (fEq.upd (fEq.upd (fEq.upd (fEq.upd (fEq.refl) rfl) rfl) rfl) rfl) rfl) rfl) rfl rfl rfl
    · intro hb2
      first | refine RL.stepG (d := some 38) rfl rfl rfl (xj_loadA ⟨_, Try.underlying30, rfl⟩ sz30 rfl rfl rfl rfl) ?_ | refine RL.stepG (d := some 38) rfl rfl rfl (xj_loadAP ⟨_, Try.underlying30, rfl⟩ sz30 rfl rfl rfl rfl) ?_ | refine RL.stepG (d := some 38) rfl rfl rfl (xj_loadAR ⟨_, Try.underlying30, rfl⟩ sz30 rfl rfl rfl) ?_
      first | refine RL.stepG (d := some 39) rfl rfl rfl (xj_loadA ⟨_, Try.underlying33, rfl⟩ sz33 rfl rfl rfl rfl) ?_ | refine RL.stepG (d := some 39) rfl rfl rfl (xj_loadAP ⟨_, Try.underlying33, rfl⟩ sz33 rfl rfl rfl rfl) ?_ | refine RL.stepG (d := some 39) rfl rfl rfl (xj_loadAR ⟨_, Try.underlying33, rfl⟩ sz33 rfl rfl rfl) ?_
      refine RL.stepG (d := some 40) rfl rfl rfl (xj_call Try.call11 hck rfl) ?_
      refine RL.stepG (d := some 41) rfl rfl rfl (xj_bin rfl rfl rfl) ?_
      refine RL.step (d := some 42) rfl rfl (xj_pick rfl) ?_
      exact St.le_fg (fEq.upd (fEq.upd (fEq.upd (fEq.upd (fEq.upd (fEq.upd (fEq.refl) rfl) rfl) rfl) rfl) rfl) rfl) rfl rfl rfl
    repeat refine AW.seq ?_
    refine AW.cond rfl (fun hc42 => absurd hc42 (by decide)) (fun hc42 => ?_)
    refine AW.skip ?_
    repeat refine AW.seq ?_
    refine AW.region ?_
    first | refine RL.step (d := some 43) rfl rfl (xj_fieldAddr fo30_1 rfl rfl) ?_ | refine RL.step (d := some 43) rfl rfl (xj_fieldAddrR fo30_1 rfl) ?_
    first | refine RL.step (d := some 44) rfl rfl (xj_load1 ⟨_, Try.underlying27, rfl⟩ rfl rfl rfl) ?_ | refine RL.step (d := some 44) rfl rfl (xj_load1P ⟨_, Try.underlying27, rfl⟩ rfl rfl (by first | rfl | assumption)) ?_ | refine RL.step (d := some 44) rfl rfl (xj_loadR ⟨_, Try.underlying27, rfl⟩ rfl (by first | rfl | assumption)) ?_
    first | refine RL.step (d := some 45) rfl rfl (xj_len Try.underlying27 rfl) ?_ | refine RL.step (d := some 45) rfl rfl (xj_lenO Try.underlying27 rfl rfl) ?_ | refine RL.step (d := some 45) rfl rfl (xj_lenG Try.underlying27 rfl) ?_
    refine RL.step (d := some 46) rfl rfl (xj_moveE rfl) ?_
    repeat refine AW.seq ?_
    refine AW.block ?_
    repeat refine AW.seq ?_
    refine AW.loop (st := fun x_0 : Nat => mkS [(4, .ptr 1 0), (5, .ptr 2 0), (44, .pv (.sl none S.rels.length (relsC S.rels))), (45, .pv (.int .i64 S.rels.length)), (46, .pv (.int .i64 x_0))] [(1, .mix 30 [.pv (.sl none S.attrs.length (attrsC S.attrs)), .pv (.sl none S.rels.length (relsC S.rels)), .pv (.sl none S.feats.length (featsC S.feats)), .pv (.int .i64 S.label)]), (2, .mix 33 [.pv (pints P)])] 3)
      (I := fun x_0 => x_0 ≤ S.rels.length) (μ := fun x_0 => S.rels.length - x_0) (x0 := (0)) (St.le_mk ⟨rfl, rfl, rfl, rfl, rfl, trivial⟩ ⟨rfl, rfl, trivial⟩ rfl rfl) (Nat.zero_le _) ?_
    rintro k hk
    repeat refine AW.seq ?_
    refine AW.region ?_
    refine RL.step (d := some 47) rfl rfl (xj_bin rfl rfl rfl) ?_
    repeat refine AW.seq ?_
    refine AW.condP rfl (fun hc47 => ?_) (fun hc47 => ?_)
    · have hlt : k < S.rels.length := by omega
      have hrow := rel_row hlt
      have hne := rel_ne hlt
      have hrm := List.getElem_mem hlt
      have hhk := home_key hok hrm
      have hrr : ∀ a ∈ S.rels[k].2, 0 ≤ a ∧ a < P.length := by rw [hPl]; exact hV.rng _ hrm
      have hhr := hrr _ hhk.1
      have hho := home_spec S hSB P (by omega) k
      rw [if_neg (by unfold noRel; rw [hP0]; simp; omega), show S.rels.getD (k : Int).toNat default = S.rels[k] by simp [List.getD, hlt]] at hho
      have hke := keyU_spec S hSB P (by omega) (homeL P S.rels[k].2)
      rw [if_pos (isB_iff.2 ⟨hP0, hhr⟩)] at hke
      have hkl : (keyL S P (homeL P S.rels[k].2)).length ≤ P.length := by unfold keyL; rw [(sortI_perm _).length_eq]; exact Nat.le_trans (List.length_filter_le _ _) (abvL_len P _)
      generalize keyL S P (homeL P S.rels[k].2) = K at *
      generalize homeL P S.rels[k].2 = hm at *
      refine AW.skip ?_
      repeat refine AW.seq ?_
      refine AW.block ?_
      repeat refine AW.seq ?_
      refine AW.region ?_
      refine RL.step (d := some 48) rfl rfl (xj_moveE rfl) ?_
      first | refine RL.step (d := some 49) rfl rfl (xj_indexAddr _ Try.underlying27 sz40 rfl rfl rfl (by omega) (by assumption)) ?_ | refine RL.step (d := some 49) rfl rfl (xj_indexAddrO _ Try.underlying27 sz40 rfl rfl rfl rfl (by omega)) ?_
      refine RL.step (d := some 50) rfl rfl (xj_loadAR ⟨_, Try.underlying40, rfl⟩ sz40 rfl hrow rfl) ?_
      refine RL.step (d := some 8) rfl rfl (xj_alloc 3 zero40 rfl rfl) ?_
      refine RL.step (d := some 7) rfl rfl (xj_assignE rfl) ?_
      first | refine RL.step (d := none) rfl rfl (xj_store sz40 rfl rfl rfl rfl (by first | (simp; done) | exact Nat.le_of_ble_eq_true rfl) rfl rfl) ?_ | refine RL.step (d := none) rfl rfl (xj_storeP sz40 rfl rfl rfl rfl (by simp; omega)) ?_
      repeat refine AW.seq ?_
      refine AW.region ?_
      first | refine RL.step (d := some 51) rfl rfl (xj_loadA ⟨_, Try.underlying30, rfl⟩ sz30 rfl rfl rfl rfl) ?_ | refine RL.step (d := some 51) rfl rfl (xj_loadAP ⟨_, Try.underlying30, rfl⟩ sz30 rfl rfl rfl rfl) ?_ | refine RL.step (d := some 51) rfl rfl (xj_loadAR ⟨_, Try.underlying30, rfl⟩ sz30 rfl rfl rfl) ?_
      first | refine RL.step (d := some 52) rfl rfl (xj_loadA ⟨_, Try.underlying33, rfl⟩ sz33 rfl rfl rfl rfl) ?_ | refine RL.step (d := some 52) rfl rfl (xj_loadAP ⟨_, Try.underlying33, rfl⟩ sz33 rfl rfl rfl rfl) ?_ | refine RL.step (d := some 52) rfl rfl (xj_loadAR ⟨_, Try.underlying33, rfl⟩ sz33 rfl rfl rfl) ?_
      refine RL.step (d := some 53) rfl rfl (xj_moveE rfl) ?_
      refine RL.step (d := some 54) rfl rfl (xj_call Try.call12 hho rfl) ?_
      refine RL.step (d := some 9) rfl rfl (xj_assignE rfl) ?_
      repeat refine AW.seq ?_
      refine AW.region ?_
      first | refine RL.step (d := some 55) rfl rfl (xj_loadA ⟨_, Try.underlying30, rfl⟩ sz30 rfl rfl rfl rfl) ?_ | refine RL.step (d := some 55) rfl rfl (xj_loadAP ⟨_, Try.underlying30, rfl⟩ sz30 rfl rfl rfl rfl) ?_ | refine RL.step (d := some 55) rfl rfl (xj_loadAR ⟨_, Try.underlying30, rfl⟩ sz30 rfl rfl rfl) ?_
      first | refine RL.step (d := some 56) rfl rfl (xj_loadA ⟨_, Try.underlying33, rfl⟩ sz33 rfl rfl rfl rfl) ?_ | refine RL.step (d := some 56) rfl rfl (xj_loadAP ⟨_, Try.underlying33, rfl⟩ sz33 rfl rfl rfl rfl) ?_ | refine RL.step (d := some 56) rfl rfl (xj_loadAR ⟨_, Try.underlying33, rfl⟩ sz33 rfl rfl rfl) ?_
      refine RL.step (d := some 57) rfl rfl (xj_moveE rfl) ?_
      refine RL.step (d := some 58) rfl rfl (xj_call Try.call13 hke rfl) ?_
      refine RL.step (d := some 10) rfl rfl (xj_assignE rfl) ?_
      repeat refine AW.seq ?_
      refine AW.region ?_
      first | refine RL.step (d := some 59) rfl rfl (xj_fieldAddr fo40_1 rfl rfl) ?_ | refine RL.step (d := some 59) rfl rfl (xj_fieldAddrR fo40_1 rfl) ?_
      first | refine RL.step (d := some 60) rfl rfl (xj_load1 ⟨_, Try.underlying22, rfl⟩ rfl rfl rfl) ?_ | refine RL.step (d := some 60) rfl rfl (xj_load1P ⟨_, Try.underlying22, rfl⟩ rfl rfl (by first | rfl | assumption)) ?_ | refine RL.step (d := some 60) rfl rfl (xj_loadR ⟨_, Try.underlying22, rfl⟩ rfl (by first | rfl | assumption)) ?_
      first | refine RL.step (d := some 61) rfl rfl (xj_len Try.underlying22 rfl) ?_ | refine RL.step (d := some 61) rfl rfl (xj_lenO Try.underlying22 rfl rfl) ?_ | refine RL.step (d := some 61) rfl rfl (xj_lenG Try.underlying22 rfl) ?_
      refine RL.step (d := some 62) rfl rfl (xj_moveE rfl) ?_
      repeat refine AW.seq ?_
      refine AW.block ?_
      repeat refine AW.seq ?_
      refine AW.loop (st := fun x_1 : Nat => mkS [(4, .ptr 1 0), (5, .ptr 2 0), (9, .pv (.int .i64 hm)), (10, .pv (pints K)), (44, .pv (.sl none S.rels.length (relsC S.rels))), (45, .pv (.int .i64 S.rels.length)), (46, .pv (.int .i64 k)), (60, .pv (pints S.rels[k].2)), (61, .pv (.int .i64 S.rels[k].2.length)), (62, .pv (.int .i64 x_1))] [(1, .mix 30 [.pv (.sl none S.attrs.length (attrsC S.attrs)), .pv (.sl none S.rels.length (relsC S.rels)), .pv (.sl none S.feats.length (featsC S.feats)), .pv (.int .i64 S.label)]), (2, .mix 33 [.pv (pints P)])] 4)
        (I := fun x_1 => x_1 ≤ S.rels[k].2.length) (μ := fun x_1 => S.rels[k].2.length - x_1) (x0 := (0)) (St.le_mk ⟨rfl, rfl, rfl, rfl, rfl, rfl, rfl, rfl, rfl, rfl, trivial⟩ ⟨rfl, rfl, trivial⟩ rfl rfl) (Nat.zero_le _) ?_
      rintro j hj
      have hrl := hSB.rl _ hrm
      repeat refine AW.seq ?_
      refine AW.region ?_
      refine RL.step (d := some 63) rfl rfl (xj_bin rfl rfl rfl) ?_
      repeat refine AW.seq ?_
      refine AW.condP rfl (fun hc63 => ?_) (fun hc63 => ?_)
      · have hjl : j < S.rels[k].2.length := by omega
        have hv := pints_at hjl
        have hne2 := pints_ne hjl
        have hja := hhk.2 _ (List.getElem_mem hjl)
        refine AW.skip ?_
        repeat refine AW.seq ?_
        refine AW.block ?_
        repeat refine AW.seq ?_
        refine AW.region ?_
        first | refine RL.step (d := some 64) rfl rfl (xj_indexAddr _ Try.underlying22 sz3 rfl rfl rfl (by omega) (by assumption)) ?_ | refine RL.step (d := some 64) rfl rfl (xj_indexAddrO _ Try.underlying22 sz3 rfl rfl rfl rfl (by omega)) ?_
        first | refine RL.step (d := some 65) rfl rfl (xj_load1 ⟨_, Try.underlying3, rfl⟩ rfl rfl rfl) ?_ | refine RL.step (d := some 65) rfl rfl (xj_load1P ⟨_, Try.underlying3, rfl⟩ rfl rfl (by first | rfl | assumption)) ?_ | refine RL.step (d := some 65) rfl rfl (xj_loadR ⟨_, Try.underlying3, rfl⟩ rfl (by first | rfl | assumption)) ?_
        refine RL.step (d := some 12) rfl rfl (xj_assignE rfl) ?_
        repeat refine AW.seq ?_
        refine AW.region ?_
        refine RL.step (d := some 66) rfl rfl (xj_moveE rfl) ?_
        refine RL.step (d := some 67) rfl rfl (xj_moveE rfl) ?_
        refine RL.step (d := some 68) rfl rfl (xj_bin rfl rfl rfl) ?_
        refine RL.step (d := some 69) rfl rfl (xj_moveE rfl) ?_
        apply RL.andB 5 69 74 [70, 71, 72, 73] rfl (by first | exact MonoK.le | exact MonoK.aw | exact MonoK.back)
        · intro hb3
          refine RL.stepG (d := some 70) rfl rfl rfl (xj_moveE rfl) ?_
          refine RL.stepG (d := some 71) rfl rfl rfl (xj_moveE rfl) ?_
          refine RL.stepG (d := some 72) rfl rfl rfl (xj_call Try.call14 (mkin_spec K S.rels[k].2[j] (by omega)) rfl) ?_
          refine RL.stepG (d := some 73) rfl rfl rfl (xj_not rfl) ?_
          refine RL.step (d := some 74) rfl rfl (xj_pick rfl) ?_
          exact St.le_fg (fEq.upd (fEq.upd (fEq.upd (fEq.upd (fEq.upd (fEq.upd (fEq.refl) rfl) rfl) rfl) rfl) rfl) rfl) rfl rfl rfl
        · intro hb3
          refine RL.skipG rfl rfl rfl ?_
          refine RL.skipG rfl rfl rfl ?_
          refine RL.skipG rfl rfl rfl ?_
          refine RL.skipG rfl rfl rfl ?_
          refine RL.step (d := some 74) rfl rfl (xj_pick rfl) ?_
          exact St.le_fg (fEq.upd (fEq.upd (fEq.upd (fEq.upd (fEq.upd (fEq.upd (fEq.refl) rfl) rfl) rfl) rfl) rfl) rfl) rfl rfl rfl
        repeat refine AW.seq ?_
        refine AW.cond rfl (fun hc74 => absurd hc74 (by rcases hja with e | e <;> simp [e])) (fun hc74 => ?_)
        refine AW.skip ?_
        repeat refine AW.seq ?_
        refine AW.region ?_
        refine RL.step (d := some 75) rfl rfl (xj_add rfl rfl (by omega)) ?_
        refine RL.step (d := some 62) rfl rfl (xj_moveE rfl) ?_
        exact ⟨(j + 1), St.le_mk ⟨rfl, rfl, rfl, rfl, rfl, rfl, rfl, rfl, rfl, rfl, trivial⟩ ⟨rfl, rfl, trivial⟩ rfl rfl, by omega, by omega⟩
      · repeat refine AW.seq ?_
        refine AW.exit ?_
        repeat refine AW.seq ?_
        refine AW.region ?_
        refine RL.step (d := some 76) rfl rfl (xj_add rfl rfl (by omega)) ?_
        refine RL.step (d := some 46) rfl rfl (xj_moveE rfl) ?_
        exact ⟨(k + 1), St.le_mk ⟨rfl, rfl, rfl, rfl, rfl, trivial⟩ ⟨rfl, rfl, trivial⟩ rfl rfl, by omega, by omega⟩
    · have hwa := owalk_spec S hSB P (by omega)
      rw [if_pos hP0] at hwa
      have hwl := walkL_len hok.upOk
      have hwp := walk_perm hok.upOk
      have hwt := fun i hi => walk_at hok.upOk (i := i) hi
      generalize walkL P = w at *
      repeat refine AW.seq ?_
      refine AW.exit ?_
      repeat refine AW.seq ?_
      refine AW.region ?_
      first | refine RL.step (d := some 77) rfl rfl (xj_loadA ⟨_, Try.underlying30, rfl⟩ sz30 rfl rfl rfl rfl) ?_ | refine RL.step (d := some 77) rfl rfl (xj_loadAP ⟨_, Try.underlying30, rfl⟩ sz30 rfl rfl rfl rfl) ?_ | refine RL.step (d := some 77) rfl rfl (xj_loadAR ⟨_, Try.underlying30, rfl⟩ sz30 rfl rfl rfl) ?_
      first | refine RL.step (d := some 78) rfl rfl (xj_loadA ⟨_, Try.underlying33, rfl⟩ sz33 rfl rfl rfl rfl) ?_ | refine RL.step (d := some 78) rfl rfl (xj_loadAP ⟨_, Try.underlying33, rfl⟩ sz33 rfl rfl rfl rfl) ?_ | refine RL.step (d := some 78) rfl rfl (xj_loadAR ⟨_, Try.underlying33, rfl⟩ sz33 rfl rfl rfl) ?_
      refine RL.step (d := some 79) rfl rfl (xj_call Try.call15 hwa rfl) ?_
      refine RL.step (d := some 13) rfl rfl (xj_assignE rfl) ?_
      repeat refine AW.seq ?_
      refine AW.region ?_
      refine RL.step (d := some 80) rfl rfl (xj_moveE rfl) ?_
      first | refine RL.step (d := some 81) rfl rfl (xj_len Try.underlying22 rfl) ?_ | refine RL.step (d := some 81) rfl rfl (xj_lenO Try.underlying22 rfl rfl) ?_ | refine RL.step (d := some 81) rfl rfl (xj_lenG Try.underlying22 rfl) ?_
      first | refine RL.step (d := some 82) rfl rfl (xj_fieldAddr fo30_0 rfl rfl) ?_ | refine RL.step (d := some 82) rfl rfl (xj_fieldAddrR fo30_0 rfl) ?_
      first | refine RL.step (d := some 83) rfl rfl (xj_load1 ⟨_, Try.underlying26, rfl⟩ rfl rfl rfl) ?_ | refine RL.step (d := some 83) rfl rfl (xj_load1P ⟨_, Try.underlying26, rfl⟩ rfl rfl (by first | rfl | assumption)) ?_ | refine RL.step (d := some 83) rfl rfl (xj_loadR ⟨_, Try.underlying26, rfl⟩ rfl (by first | rfl | assumption)) ?_
      first | refine RL.step (d := some 84) rfl rfl (xj_len Try.underlying26 rfl) ?_ | refine RL.step (d := some 84) rfl rfl (xj_lenO Try.underlying26 rfl rfl) ?_ | refine RL.step (d := some 84) rfl rfl (xj_lenG Try.underlying26 rfl) ?_
      refine RL.step (d := some 85) rfl rfl (xj_bin rfl rfl rfl) ?_
      repeat refine AW.seq ?_
      refine AW.cond rfl (fun hc85 => absurd hc85 (by simp; omega)) (fun hc85 => ?_)
      refine AW.skip ?_
      repeat refine AW.seq ?_
      refine AW.region ?_
      refine RL.step (d := some 86) rfl rfl (xj_moveE rfl) ?_
      first | refine RL.step (d := some 87) rfl rfl (xj_len Try.underlying22 rfl) ?_ | refine RL.step (d := some 87) rfl rfl (xj_lenO Try.underlying22 rfl rfl) ?_ | refine RL.step (d := some 87) rfl rfl (xj_lenG Try.underlying22 rfl) ?_
      refine RL.step (d := some 88) rfl rfl (xj_moveE rfl) ?_
      repeat refine AW.seq ?_
      refine AW.block ?_
      repeat refine AW.seq ?_
      refine AW.loop (st := fun x_2 : Nat => mkS [(5, .ptr 2 0), (13, .pv (pints w)), (86, .pv (pints w)), (87, .pv (.int .i64 w.length)), (88, .pv (.int .i64 x_2))] [(2, .mix 33 [.pv (pints P)])] 3)
        (I := fun x_2 => x_2 ≤ w.length) (μ := fun x_2 => w.length - x_2) (x0 := (0)) (St.le_mk ⟨rfl, rfl, rfl, rfl, rfl, trivial⟩ ⟨rfl, trivial⟩ rfl rfl) (Nat.zero_le _) ?_
      rintro i hi
      repeat refine AW.seq ?_
      refine AW.region ?_
      refine RL.step (d := some 89) rfl rfl (xj_bin rfl rfl rfl) ?_
      repeat refine AW.seq ?_
      refine AW.condP rfl (fun hc89 => ?_) (fun hc89 => ?_)
      · have hil : i < w.length := by omega
        have hv := pints_at hil
        have hne := pints_ne hil
        obtain ⟨a, ha, hwa⟩ := upZ_mem.1 (hwp.mem_iff.1 (List.getElem_mem hil))
        have hva := pints_at ha
        have hnea := pints_ne ha
        have hat := hwt i hil
        rw [hwa, Int.toNat_natCast, getD_eq ha] at hat
        have htk : PV.sl none i ((intsP w).take (i * 1)) = pints (w.take i) := by simp [pints, List.map_take]; omega
        refine AW.skip ?_
        repeat refine AW.seq ?_
        refine AW.block ?_
        repeat refine AW.seq ?_
        refine AW.region ?_
        refine RL.step (d := some 90) rfl rfl (xj_moveE rfl) ?_
        first | refine RL.step (d := some 91) rfl rfl (xj_indexAddr _ Try.underlying22 sz3 rfl rfl rfl (by omega) (by assumption)) ?_ | refine RL.step (d := some 91) rfl rfl (xj_indexAddrO _ Try.underlying22 sz3 rfl rfl rfl rfl (by omega)) ?_
        first | refine RL.step (d := some 92) rfl rfl (xj_load1 ⟨_, Try.underlying3, rfl⟩ rfl rfl rfl) ?_ | refine RL.step (d := some 92) rfl rfl (xj_load1P ⟨_, Try.underlying3, rfl⟩ rfl rfl (by first | rfl | assumption)) ?_ | refine RL.step (d := some 92) rfl rfl (xj_loadR ⟨_, Try.underlying3, rfl⟩ rfl (by first | rfl | assumption)) ?_
        refine RL.step (d := some 14) rfl rfl (xj_assignE rfl) ?_
        refine RL.step (d := some 15) rfl rfl (xj_assignE rfl) ?_
        repeat refine AW.seq ?_
        refine AW.region ?_
        first | refine RL.step (d := some 93) rfl rfl (xj_fieldAddr fo33_0 rfl rfl) ?_ | refine RL.step (d := some 93) rfl rfl (xj_fieldAddrR fo33_0 rfl) ?_
        first | refine RL.step (d := some 94) rfl rfl (xj_load1 ⟨_, Try.underlying22, rfl⟩ rfl rfl rfl) ?_ | refine RL.step (d := some 94) rfl rfl (xj_load1P ⟨_, Try.underlying22, rfl⟩ rfl rfl (by first | rfl | assumption)) ?_ | refine RL.step (d := some 94) rfl rfl (xj_loadR ⟨_, Try.underlying22, rfl⟩ rfl (by first | rfl | assumption)) ?_
        refine RL.step (d := some 95) rfl rfl (xj_moveE rfl) ?_
        refine RL.step (d := some 96) rfl rfl (xj_indexAddr a Try.underlying22 sz3 rfl rfl hwa ha hnea) ?_
        first | refine RL.step (d := some 97) rfl rfl (xj_load1 ⟨_, Try.underlying3, rfl⟩ rfl rfl rfl) ?_ | refine RL.step (d := some 97) rfl rfl (xj_load1P ⟨_, Try.underlying3, rfl⟩ rfl rfl (by first | rfl | assumption)) ?_ | refine RL.step (d := some 97) rfl rfl (xj_loadR ⟨_, Try.underlying3, rfl⟩ rfl (by first | rfl | assumption)) ?_
        refine RL.step (d := some 16) rfl rfl (xj_assignE rfl) ?_
        repeat refine AW.seq ?_
        refine AW.region ?_
        refine RL.step (d := some 98) rfl rfl (xj_moveE rfl) ?_
        refine RL.step (d := some 99) rfl rfl (xj_bin rfl rfl rfl) ?_
        refine RL.step (d := some 100) rfl rfl (xj_moveE rfl) ?_
        apply RL.andB 7 100 107 [101, 102, 103, 104, 105, 106] rfl (by first | exact MonoK.le | exact MonoK.aw | exact MonoK.back)
        · intro hb2
          refine RL.stepG (d := some 101) rfl rfl rfl (xj_moveE rfl) ?_
          refine RL.stepG (d := some 102) rfl rfl rfl (xj_moveE rfl) ?_
          refine RL.stepG (d := some 103) rfl rfl rfl (XJ.cast (v' := .pv (pints (w.take i))) (xj_sliceTo i Try.underlying22 sz3 rfl rfl rfl (by omega) (by simp)) (by rw [← htk])) ?_
          refine RL.stepG (d := some 104) rfl rfl rfl (xj_moveE rfl) ?_
          refine RL.stepG (d := some 105) rfl rfl rfl (xj_call Try.call14 (mkin_spec (w.take i) P[a] (by simp; omega)) rfl) ?_
          refine RL.stepG (d := some 106) rfl rfl rfl (xj_not rfl) ?_
          refine RL.step (d := some 107) rfl rfl (xj_pick rfl) ?_
          exact St.le_fg (fEq.upd (fEq.upd (fEq.upd (fEq.upd (fEq.upd (fEq.upd (fEq.upd (fEq.upd (fEq.refl) rfl) rfl) rfl) rfl) rfl) rfl) rfl) rfl) rfl rfl rfl
        · intro hb2
          refine RL.skipG rfl rfl rfl ?_
          refine RL.skipG rfl rfl rfl ?_
          refine RL.skipG rfl rfl rfl ?_
          refine RL.skipG rfl rfl rfl ?_
          refine RL.skipG rfl rfl rfl ?_
          refine RL.skipG rfl rfl rfl ?_
          refine RL.step (d := some 107) rfl rfl (xj_pick rfl) ?_
          exact St.le_fg (fEq.upd (fEq.upd (fEq.upd (fEq.upd (fEq.upd (fEq.upd (fEq.upd (fEq.upd (fEq.refl) rfl) rfl) rfl) rfl) rfl) rfl) rfl) rfl) rfl rfl rfl
        refine RL.step (d := some 108) rfl rfl (xj_moveE rfl) ?_
        apply RL.orB 6 108 114 [109, 110, 111, 112, 113] rfl (by first | exact MonoK.le | exact MonoK.aw | exact MonoK.back)
        · intro hb10
          refine RL.skipG rfl rfl rfl ?_
          refine RL.skipG rfl rfl rfl ?_
          refine RL.skipG rfl rfl rfl ?_
          refine RL.skipG rfl rfl rfl ?_
          refine RL.skipG rfl rfl rfl ?_
          refine RL.step (d := some 114) rfl rfl (xj_pick rfl) ?_
          exact St.le_fg (fEq.upd (fEq.upd (fEq.upd (fEq.upd (fEq.upd (fEq.upd (fEq.upd (fEq.refl) rfl) rfl) rfl) rfl) rfl) rfl) rfl) rfl rfl rfl
        · intro hb10
          refine RL.stepG (d := some 109) rfl rfl rfl (xj_moveE rfl) ?_
          refine RL.stepG (d := some 110) rfl rfl rfl (xj_moveE rfl) ?_
          refine RL.stepG (d := some 111) rfl rfl rfl (XJ.cast (v' := .pv (pints (w.take i))) (xj_sliceTo i Try.underlying22 sz3 rfl rfl rfl (by omega) (by simp)) (by rw [← htk])) ?_
          refine RL.stepG (d := some 112) rfl rfl rfl (xj_moveE rfl) ?_
          refine RL.stepG (d := some 113) rfl rfl rfl (xj_call Try.call14 (mkin_spec (w.take i) w[i] (by simp; omega)) rfl) ?_
          refine RL.step (d := some 114) rfl rfl (xj_pick rfl) ?_
          exact St.le_fg (fEq.upd (fEq.upd (fEq.upd (fEq.upd (fEq.upd (fEq.upd (fEq.upd (fEq.refl) rfl) rfl) rfl) rfl) rfl) rfl) rfl) rfl rfl rfl
        repeat refine AW.seq ?_
        refine AW.cond rfl (fun hc114 => absurd hc114 (by rw [hwa]; rcases hat with ⟨h1, h2 | h2⟩ <;> simp [h1, h2])) (fun hc114 => ?_)
        refine AW.skip ?_
        repeat refine AW.seq ?_
        refine AW.region ?_
        refine RL.step (d := some 115) rfl rfl (xj_add rfl rfl (by omega)) ?_
        refine RL.step (d := some 88) rfl rfl (xj_moveE rfl) ?_
        exact ⟨(i + 1), St.le_mk ⟨rfl, rfl, rfl, rfl, rfl, trivial⟩ ⟨rfl, trivial⟩ rfl rfl, by omega, by omega⟩
      · repeat refine AW.seq ?_
        refine AW.exit ?_
        repeat refine AW.seq ?_
        refine AW.region ?_
        refine RL.step (d := some 116) rfl rfl (xj_call Try.call6 sane_spec rfl) ?_
        refine RL.step (d := some 2) rfl rfl (xj_assignE rfl) ?_
        repeat refine AW.seq ?_
        refine AW.ret ?_
        exact ⟨_, _, rfl, rfl, rfl⟩

end Go.Proofs.Ytkalgjnhaicabaa
