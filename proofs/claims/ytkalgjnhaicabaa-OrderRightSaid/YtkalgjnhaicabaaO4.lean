/-
  The package order: Children, Home, Width, Walk, in our step logic. No statement of the program is proved here.
-/
import Derived.Test.YtkalgjnhaicabaaO3
namespace Go.Proofs.Ytkalgjnhaicabaa
open Go.RowKit Mk
set_option maxRecDepth 100000
set_option maxHeartbeats 1000000

def childL (P : List Int) (v : Int) : List Int := (upZ P.length).filter fun a => P.getD a.toNat 0 == v
def badB (S : Sch) (P : List Int) (v : Int) : Bool := (v != -1 && !isB S P v) || (ordE S P != 0)
theorem children_spec (S : Sch) (hS : SB S) (P : List Int) (hn : P.length ≤ 1000000) (v : Int) : FnP Try.prog 23 [schP S, ordP P, .int .i64 v] (· = pints (if badB S P v = true then [] else childL P v)) := by
  refine FnP.of Try.func23 rfl Try.ntmps23 (by simp) fun m0 w0 F R0 => ?_
  repeat refine AW.seq ?_
  refine AW.region ?_
  refine RL.step (d := some 3) rfl rfl (xj_box 0 rfl rfl rfl (by rintro _ _ ⟨⟩) (by rintro _ _ _ ⟨⟩) (by rintro _ ⟨⟩)) ?_
  refine RL.step (d := some 4) rfl rfl (xj_box 1 rfl rfl rfl (by rintro _ _ ⟨⟩) (by rintro _ _ _ ⟨⟩) (by rintro _ ⟨⟩)) ?_
  refine RL.step (d := some 6) rfl rfl (xj_assignE rfl) ?_
  repeat refine AW.seq ?_
  refine AW.region ?_
  refine RL.step (d := some 10) rfl rfl (xj_moveE rfl) ?_
  refine RL.step (d := some 11) rfl rfl (xj_bin rfl rfl rfl) ?_
  refine RL.step (d := some 12) rfl rfl (xj_moveE rfl) ?_
  apply RL.andB 6 12 18 [13, 14, 15, 16, 17] rfl (by first | exact MonoK.le | exact MonoK.aw | exact MonoK.back)
  · intro hb2
    first | refine RL.stepG (d := some 13) rfl rfl rfl (xj_loadA ⟨_, Try.underlying30, rfl⟩ sz30 rfl rfl rfl rfl) ?_ | refine RL.stepG (d := some 13) rfl rfl rfl (xj_loadAP ⟨_, Try.underlying30, rfl⟩ sz30 rfl rfl rfl rfl) ?_ | refine RL.stepG (d := some 13) rfl rfl rfl (xj_loadAR ⟨_, Try.underlying30, rfl⟩ sz30 rfl rfl rfl) ?_
    first | refine RL.stepG (d := some 14) rfl rfl rfl (xj_loadA ⟨_, Try.underlying33, rfl⟩ sz33 rfl rfl rfl rfl) ?_ | refine RL.stepG (d := some 14) rfl rfl rfl (xj_loadAP ⟨_, Try.underlying33, rfl⟩ sz33 rfl rfl rfl rfl) ?_ | refine RL.stepG (d := some 14) rfl rfl rfl (xj_loadAR ⟨_, Try.underlying33, rfl⟩ sz33 rfl rfl rfl) ?_
    refine RL.stepG (d := some 15) rfl rfl rfl (xj_moveE rfl) ?_
    refine RL.stepG (d := some 16) rfl rfl rfl (xj_call Try.call36 (is_spec S hS P hn v) rfl) ?_
    refine RL.stepG (d := some 17) rfl rfl rfl (xj_not rfl) ?_
    refine RL.step (d := some 18) rfl rfl (xj_pick rfl) ?_
    exact St.le_fg (fEq.upd (fEq.upd (fEq.upd (fEq.upd (fEq.upd (fEq.upd (fEq.upd (fEq.refl) rfl) rfl) rfl) rfl) rfl) rfl) rfl) rfl rfl rfl
  · intro hb2
    refine RL.skipG rfl rfl rfl ?_
    refine RL.skipG rfl rfl rfl ?_
    refine RL.skipG rfl rfl rfl ?_
    refine RL.skipG rfl rfl rfl ?_
    refine RL.skipG rfl rfl rfl ?_
    refine RL.step (d := some 18) rfl rfl (xj_pick rfl) ?_
    exact St.le_fg (fEq.upd (fEq.upd (fEq.upd (fEq.upd (fEq.upd (fEq.upd (fEq.upd (fEq.refl) rfl) rfl) rfl) rfl) rfl) rfl) rfl) rfl rfl rfl
  refine RL.step (d := some 19) rfl rfl (xj_moveE rfl) ?_
  apply RL.orB 5 19 24 [20, 21, 22, 23] rfl (by first | exact MonoK.le | exact MonoK.aw | exact MonoK.back)
  · intro hb9
    refine RL.skipG rfl rfl rfl ?_
    refine RL.skipG rfl rfl rfl ?_
    refine RL.skipG rfl rfl rfl ?_
    refine RL.skipG rfl rfl rfl ?_
    refine RL.step (d := some 24) rfl rfl (xj_pick rfl) ?_
    exact St.le_fg (fEq.upd (fEq.upd (fEq.upd (fEq.upd (fEq.upd (fEq.upd (fEq.refl) rfl) rfl) rfl) rfl) rfl) rfl) rfl rfl rfl
  · intro hb9
    first | refine RL.stepG (d := some 20) rfl rfl rfl (xj_loadA ⟨_, Try.underlying30, rfl⟩ sz30 rfl rfl rfl rfl) ?_ | refine RL.stepG (d := some 20) rfl rfl rfl (xj_loadAP ⟨_, Try.underlying30, rfl⟩ sz30 rfl rfl rfl rfl) ?_ | refine RL.stepG (d := some 20) rfl rfl rfl (xj_loadAR ⟨_, Try.underlying30, rfl⟩ sz30 rfl rfl rfl) ?_
    first | refine RL.stepG (d := some 21) rfl rfl rfl (xj_loadA ⟨_, Try.underlying33, rfl⟩ sz33 rfl rfl rfl rfl) ?_ | refine RL.stepG (d := some 21) rfl rfl rfl (xj_loadAP ⟨_, Try.underlying33, rfl⟩ sz33 rfl rfl rfl rfl) ?_ | refine RL.stepG (d := some 21) rfl rfl rfl (xj_loadAR ⟨_, Try.underlying33, rfl⟩ sz33 rfl rfl rfl) ?_
    refine RL.stepG (d := some 22) rfl rfl rfl (xj_call Try.call11 (ocheck_spec S hS P hn) rfl) ?_
    refine RL.stepG (d := some 23) rfl rfl rfl (xj_bin rfl rfl rfl) ?_
    refine RL.step (d := some 24) rfl rfl (xj_pick rfl) ?_
    exact St.le_fg (fEq.upd (fEq.upd (fEq.upd (fEq.upd (fEq.upd (fEq.upd (fEq.refl) rfl) rfl) rfl) rfl) rfl) rfl) rfl rfl rfl
  repeat refine AW.seq ?_
  refine AW.cond rfl (fun hc24 => ?_) (fun hc24 => ?_)
  · repeat refine AW.seq ?_
    refine AW.region ?_
    refine RL.step (d := some 6) rfl rfl (xj_assignE rfl) ?_
    refine AW.weaken (St.le_fgS [6]) ?_
    repeat refine AW.seq ?_
    refine AW.ret ?_
    exact ⟨_, _, rfl, rfl, by unfold badB; rw [if_pos hc24]; rfl⟩
  · refine AW.skip ?_
    repeat refine AW.seq ?_
    refine AW.region ?_
    refine RL.step (d := some 7) rfl rfl (xj_assignE rfl) ?_
    refine AW.weaken (St.le_gro 7 2 1 3 rfl rfl) ?_
    repeat refine AW.seq ?_
    refine AW.region ?_
    first | refine RL.step (d := some 25) rfl rfl (xj_fieldAddr fo33_0 rfl rfl) ?_ | refine RL.step (d := some 25) rfl rfl (xj_fieldAddrR fo33_0 rfl) ?_
    first | refine RL.step (d := some 26) rfl rfl (xj_load1 ⟨_, Try.underlying22, rfl⟩ rfl rfl rfl) ?_ | refine RL.step (d := some 26) rfl rfl (xj_load1P ⟨_, Try.underlying22, rfl⟩ rfl rfl (by first | rfl | assumption)) ?_ | refine RL.step (d := some 26) rfl rfl (xj_loadR ⟨_, Try.underlying22, rfl⟩ rfl (by first | rfl | assumption)) ?_
    first | refine RL.step (d := some 27) rfl rfl (xj_len Try.underlying22 rfl) ?_ | refine RL.step (d := some 27) rfl rfl (xj_lenO Try.underlying22 rfl rfl) ?_ | refine RL.step (d := some 27) rfl rfl (xj_lenG Try.underlying22 rfl) ?_
    refine RL.step (d := some 28) rfl rfl (xj_moveE rfl) ?_
    repeat refine AW.seq ?_
    refine AW.block ?_
    repeat refine AW.seq ?_
    refine AW.loop (st := fun x_0 : Nat × List Int => mkS [(2, .pv (.int .i64 v)), (7, .gsl 2 1 x_0.2.length), (26, .pv (pints P)), (27, .pv (.int .i64 P.length)), (28, .pv (.int .i64 x_0.1))] [(2, .gro 3 (intsP x_0.2))] 3)
      (I := fun x_0 => x_0.1 ≤ P.length ∧ x_0.2 = (upZ x_0.1).filter (fun a => P.getD a.toNat 0 == v)) (μ := fun x_0 => P.length - x_0.1) (x0 := (0, [])) (St.le_mk ⟨rfl, rfl, rfl, rfl, rfl, trivial⟩ ⟨rfl, trivial⟩ rfl rfl) (⟨Nat.zero_le _, rfl⟩) ?_
    rintro ⟨k, L⟩ ⟨hk, hL⟩
    try simp only at hk hL ⊢
    repeat refine AW.seq ?_
    refine AW.region ?_
    refine RL.step (d := some 29) rfl rfl (xj_bin rfl rfl rfl) ?_
    repeat refine AW.seq ?_
    refine AW.condP rfl (fun hc29 => ?_) (fun hc29 => ?_)
    · have hlt : k < P.length := by omega
      have hva := pints_at hlt
      have hne := pints_ne hlt
      have hLl : L.length ≤ k := by rw [hL]; exact Nat.le_trans (List.length_filter_le _ _) (by rw [upZ_len]; exact Nat.le_refl _)
      have hsl : (intsP L).length = L.length * 1 := by simp
      have hfs := filter_snoc (fun a => P.getD a.toNat 0 == v) k
      have hgd : P.getD (k : Int).toNat 0 = P[k] := by simp [List.getD, hlt]
      rw [hgd] at hfs
      refine AW.skip ?_
      repeat refine AW.seq ?_
      refine AW.block ?_
      repeat refine AW.seq ?_
      refine AW.region ?_
      refine RL.step (d := some 30) rfl rfl (xj_moveE rfl) ?_
      first | refine RL.step (d := some 31) rfl rfl (xj_indexAddr _ Try.underlying22 sz3 rfl rfl rfl (by omega) (by assumption)) ?_ | refine RL.step (d := some 31) rfl rfl (xj_indexAddrO _ Try.underlying22 sz3 rfl rfl rfl rfl (by omega)) ?_
      first | refine RL.step (d := some 32) rfl rfl (xj_load1 ⟨_, Try.underlying3, rfl⟩ rfl rfl rfl) ?_ | refine RL.step (d := some 32) rfl rfl (xj_load1P ⟨_, Try.underlying3, rfl⟩ rfl rfl (by first | rfl | assumption)) ?_ | refine RL.step (d := some 32) rfl rfl (xj_loadR ⟨_, Try.underlying3, rfl⟩ rfl (by first | rfl | assumption)) ?_
      refine RL.step (d := some 8) rfl rfl (xj_assignE rfl) ?_
      refine RL.step (d := some 9) rfl rfl (xj_assignE rfl) ?_
      repeat refine AW.seq ?_
      refine AW.region ?_
      refine RL.step (d := some 33) rfl rfl (xj_moveE rfl) ?_
      refine RL.step (d := some 34) rfl rfl (xj_moveE rfl) ?_
      refine RL.step (d := some 35) rfl rfl (xj_bin rfl rfl rfl) ?_
      repeat refine AW.seq ?_
      refine AW.cond rfl (fun hc35 => ?_) (fun hc35 => ?_)
      · rw [if_pos hc35, ← hL] at hfs
        repeat refine AW.seq ?_
        refine AW.region ?_
        refine RL.step (d := some 36) rfl rfl (xj_moveE rfl) ?_
        refine RL.step (d := some 37) rfl rfl (xj_moveE rfl) ?_
        refine RL.step (d := some 38) rfl rfl (xj_buildSlice 3 el22 rfl (by decide) (by decide) rfl rfl rfl) ?_
        first | refine RL.step (d := some 39) rfl rfl (xj_append1 4 el22 rfl rfl (by first | assumption | simp) rfl rfl rfl rfl (by omega) rfl) ?_ | refine RL.step (d := some 39) rfl rfl (xj_append01 4 el22 rfl rfl rfl rfl rfl rfl) ?_ | refine RL.step (d := some 39) rfl rfl (xj_appendG1 4 el22 rfl rfl (by first | assumption | simp) rfl rfl rfl rfl (by omega) rfl) ?_
        refine RL.step (d := some 7) rfl rfl (xj_assignE rfl) ?_
        repeat refine AW.seq ?_
        refine AW.region ?_
        refine RL.step (d := some 40) rfl rfl (xj_add rfl rfl (by omega)) ?_
        refine RL.step (d := some 28) rfl rfl (xj_moveE rfl) ?_
        exact ⟨(k + 1, L ++ [(k : Int)]), St.le_mkR [0, 1, 4] ⟨rfl, by simp; rfl, rfl, rfl, rfl, trivial⟩ ⟨congrArg (fun c => some (Ob.gro 3 c)) (ints_snoc L k).symm, trivial⟩ rfl rfl (by decide) rfl, ⟨by simp only; omega, hfs.symm⟩, by simp only; omega⟩
      · rw [if_neg (by rw [hc35]; decide), ← hL, List.append_nil] at hfs
        refine AW.skip ?_
        repeat refine AW.seq ?_
        refine AW.region ?_
        refine RL.step (d := some 40) rfl rfl (xj_add rfl rfl (by omega)) ?_
        refine RL.step (d := some 28) rfl rfl (xj_moveE rfl) ?_
        exact ⟨(k + 1, L), St.le_mk ⟨rfl, rfl, rfl, rfl, rfl, trivial⟩ ⟨rfl, trivial⟩ rfl rfl, ⟨by simp only; omega, hfs.symm⟩, by simp only; omega⟩
    · repeat refine AW.seq ?_
      refine AW.exit ?_
      refine AW.weaken (St.le_pubA 2 rfl rfl) ?_
      repeat refine AW.seq ?_
      refine AW.region ?_
      refine RL.step (d := some 41) rfl rfl (xj_moveE rfl) ?_
      refine RL.step (d := some 6) rfl rfl (xj_assignE rfl) ?_
      repeat refine AW.seq ?_
      refine AW.ret ?_
      exact ⟨_, _, rfl, rfl, by unfold badB; rw [if_neg (by rw [hc24]; decide), show childL P v = L by rw [hL, show k = P.length by omega]; rfl]; simp [tk_all]; rfl⟩

def homeF (P : List Int) (h a : Int) : Int := if hiB P h a = true then a else h
def homeL (P : List Int) (l : List Int) : Int := l.foldl (homeF P) (l.getD 0 0)
def noRel (S : Sch) (P : List Int) (r : Int) : Bool := ((ordE S P != 0) || decide (r < 0)) || decide (r ≥ S.rels.length)
theorem home_spec (S : Sch) (hS : SB S) (P : List Int) (hn : P.length ≤ 1000000) (r : Int) : FnP Try.prog 12 [schP S, ordP P, .int .i64 r] (· = .int .i64 (if noRel S P r = true then -1 else homeL P (S.rels.getD r.toNat default).2)) := by
  refine FnP.of Try.func12 rfl Try.ntmps12 (by simp) fun m0 w0 F R0 => ?_
  repeat refine AW.seq ?_
  refine AW.region ?_
  refine RL.step (d := some 3) rfl rfl (xj_box 0 rfl rfl rfl (by rintro _ _ ⟨⟩) (by rintro _ _ _ ⟨⟩) (by rintro _ ⟨⟩)) ?_
  refine RL.step (d := some 4) rfl rfl (xj_box 1 rfl rfl rfl (by rintro _ _ ⟨⟩) (by rintro _ _ _ ⟨⟩) (by rintro _ ⟨⟩)) ?_
  refine RL.step (d := some 6) rfl rfl (xj_assignE rfl) ?_
  repeat refine AW.seq ?_
  refine AW.region ?_
  first | refine RL.step (d := some 11) rfl rfl (xj_loadA ⟨_, Try.underlying30, rfl⟩ sz30 rfl rfl rfl rfl) ?_ | refine RL.step (d := some 11) rfl rfl (xj_loadAP ⟨_, Try.underlying30, rfl⟩ sz30 rfl rfl rfl rfl) ?_ | refine RL.step (d := some 11) rfl rfl (xj_loadAR ⟨_, Try.underlying30, rfl⟩ sz30 rfl rfl rfl) ?_
  first | refine RL.step (d := some 12) rfl rfl (xj_loadA ⟨_, Try.underlying33, rfl⟩ sz33 rfl rfl rfl rfl) ?_ | refine RL.step (d := some 12) rfl rfl (xj_loadAP ⟨_, Try.underlying33, rfl⟩ sz33 rfl rfl rfl rfl) ?_ | refine RL.step (d := some 12) rfl rfl (xj_loadAR ⟨_, Try.underlying33, rfl⟩ sz33 rfl rfl rfl) ?_
  refine RL.step (d := some 13) rfl rfl (xj_call Try.call11 (ocheck_spec S hS P hn) rfl) ?_
  refine RL.step (d := some 14) rfl rfl (xj_bin rfl rfl rfl) ?_
  refine RL.step (d := some 15) rfl rfl (xj_moveE rfl) ?_
  apply RL.orB 3 15 18 [16, 17] rfl (by first | exact MonoK.le | exact MonoK.aw | exact MonoK.back)
  · intro hb4
    refine RL.skipG rfl rfl rfl ?_
    refine RL.skipG rfl rfl rfl ?_
    refine RL.step (d := some 18) rfl rfl (xj_pick rfl) ?_
    exact St.le_fg (fEq.upd (fEq.upd (fEq.upd (fEq.upd (fEq.refl) rfl) rfl) rfl) rfl) rfl rfl rfl
  · intro hb4
    refine RL.stepG (d := some 16) rfl rfl rfl (xj_moveE rfl) ?_
    refine RL.stepG (d := some 17) rfl rfl rfl (xj_bin rfl rfl rfl) ?_
    refine RL.step (d := some 18) rfl rfl (xj_pick rfl) ?_
    exact St.le_fg (fEq.upd (fEq.upd (fEq.upd (fEq.upd (fEq.refl) rfl) rfl) rfl) rfl) rfl rfl rfl
  refine RL.step (d := some 19) rfl rfl (xj_moveE rfl) ?_
  apply RL.orB 6 19 25 [20, 21, 22, 23, 24] rfl (by first | exact MonoK.le | exact MonoK.aw | exact MonoK.back)
  · intro hb8
    refine RL.skipG rfl rfl rfl ?_
    refine RL.skipG rfl rfl rfl ?_
    refine RL.skipG rfl rfl rfl ?_
    refine RL.skipG rfl rfl rfl ?_
    refine RL.skipG rfl rfl rfl ?_
    refine RL.step (d := some 25) rfl rfl (xj_pick rfl) ?_
    exact St.le_fg (fEq.upd (fEq.upd (fEq.upd (fEq.upd (fEq.upd (fEq.upd (fEq.upd (fEq.refl) rfl) rfl) rfl) rfl) rfl) rfl) rfl) rfl rfl rfl
  · intro hb8
    refine RL.stepG (d := some 20) rfl rfl rfl (xj_moveE rfl) ?_
    first | refine RL.stepG (d := some 21) rfl rfl rfl (xj_fieldAddr fo30_1 rfl rfl) ?_ | refine RL.stepG (d := some 21) rfl rfl rfl (xj_fieldAddrR fo30_1 rfl) ?_
    first | refine RL.stepG (d := some 22) rfl rfl rfl (xj_load1 ⟨_, Try.underlying27, rfl⟩ rfl rfl rfl) ?_ | refine RL.stepG (d := some 22) rfl rfl rfl (xj_load1P ⟨_, Try.underlying27, rfl⟩ rfl rfl (by first | rfl | assumption)) ?_ | refine RL.stepG (d := some 22) rfl rfl rfl (xj_loadR ⟨_, Try.underlying27, rfl⟩ rfl (by first | rfl | assumption)) ?_
    first | refine RL.stepG (d := some 23) rfl rfl rfl (xj_len Try.underlying27 rfl) ?_ | refine RL.stepG (d := some 23) rfl rfl rfl (xj_lenO Try.underlying27 rfl rfl) ?_ | refine RL.stepG (d := some 23) rfl rfl rfl (xj_lenG Try.underlying27 rfl) ?_
    refine RL.stepG (d := some 24) rfl rfl rfl (xj_bin rfl rfl rfl) ?_
    refine RL.step (d := some 25) rfl rfl (xj_pick rfl) ?_
    exact St.le_fg (fEq.upd (fEq.upd (fEq.upd (fEq.upd (fEq.upd (fEq.upd (fEq.upd (fEq.refl) rfl) rfl) rfl) rfl) rfl) rfl) rfl) rfl rfl rfl
  repeat refine AW.seq ?_
  refine AW.cond rfl (fun hc25 => ?_) (fun hc25 => ?_)
  · repeat refine AW.seq ?_
    refine AW.region ?_
    refine RL.step (d := some 6) rfl rfl (xj_assignE rfl) ?_
    repeat refine AW.seq ?_
    refine AW.ret ?_
    exact ⟨_, _, rfl, rfl, by unfold noRel; rw [if_pos hc25]; rfl⟩
  · have hno : noRel S P r = false := hc25
    have h3 : ordE S P = 0 ∧ 0 ≤ r ∧ r < S.rels.length := by unfold noRel at hno; simp at hno; omega
    have hok := (ordE_zero.1 h3.1).2
    have hP : ∀ p ∈ P, p < P.length := fun p hp => (hok.rng p hp).2
    obtain ⟨q, rfl⟩ := Int.eq_ofNat_of_zero_le h3.2.1
    have hql : q < S.rels.length := by omega
    have hrow : (relsC S.rels)[q * 2 + 1]? = some (pints S.rels[q].2) := flat_at _ 2 (fun _ => rfl) S.rels q 1 hql (by decide)
    have hrne := rel_ne hql
    have hrl := hS.rl _ (List.getElem_mem hql)
    have hrr : ∀ a ∈ S.rels[q].2, 0 ≤ a ∧ a < P.length := by rw [hok.len]; exact hok.val.rng _ (List.getElem_mem hql)
    have hrp : 0 < S.rels[q].2.length := List.length_pos_iff.2 (hok.val.ne _ (List.getElem_mem hql))
    have hv0 := pints_at hrp
    have hne := pints_ne hrp
    have hgd : S.rels.getD (q : Int).toNat default = S.rels[q] := by simp [List.getD, hql]
    refine AW.skip ?_
    repeat refine AW.seq ?_
    refine AW.region ?_
    first | refine RL.step (d := some 26) rfl rfl (xj_fieldAddr fo30_1 rfl rfl) ?_ | refine RL.step (d := some 26) rfl rfl (xj_fieldAddrR fo30_1 rfl) ?_
    first | refine RL.step (d := some 27) rfl rfl (xj_load1 ⟨_, Try.underlying27, rfl⟩ rfl rfl rfl) ?_ | refine RL.step (d := some 27) rfl rfl (xj_load1P ⟨_, Try.underlying27, rfl⟩ rfl rfl (by first | rfl | assumption)) ?_ | refine RL.step (d := some 27) rfl rfl (xj_loadR ⟨_, Try.underlying27, rfl⟩ rfl (by first | rfl | assumption)) ?_
    refine RL.step (d := some 28) rfl rfl (xj_moveE rfl) ?_
    first | refine RL.step (d := some 29) rfl rfl (xj_indexAddr _ Try.underlying27 sz40 rfl rfl rfl (by omega) (by assumption)) ?_ | refine RL.step (d := some 29) rfl rfl (xj_indexAddrO _ Try.underlying27 sz40 rfl rfl rfl rfl (by omega)) ?_
    first | refine RL.step (d := some 30) rfl rfl (xj_fieldAddr fo40_1 rfl rfl) ?_ | refine RL.step (d := some 30) rfl rfl (xj_fieldAddrR fo40_1 rfl) ?_
    first | refine RL.step (d := some 31) rfl rfl (xj_load1 ⟨_, Try.underlying22, rfl⟩ rfl rfl rfl) ?_ | refine RL.step (d := some 31) rfl rfl (xj_load1P ⟨_, Try.underlying22, rfl⟩ rfl rfl (by first | rfl | assumption)) ?_ | refine RL.step (d := some 31) rfl rfl (xj_loadR ⟨_, Try.underlying22, rfl⟩ rfl (by first | rfl | assumption)) ?_
    refine RL.step (d := some 7) rfl rfl (xj_assignE rfl) ?_
    repeat refine AW.seq ?_
    refine AW.region ?_
    refine RL.step (d := some 32) rfl rfl (xj_moveE rfl) ?_
    refine RL.step (d := some 33) rfl rfl (xj_indexAddr 0 Try.underlying22 sz3 rfl rfl rfl hrp hne) ?_
    first | refine RL.step (d := some 34) rfl rfl (xj_load1 ⟨_, Try.underlying3, rfl⟩ rfl rfl rfl) ?_ | refine RL.step (d := some 34) rfl rfl (xj_load1P ⟨_, Try.underlying3, rfl⟩ rfl rfl (by first | rfl | assumption)) ?_ | refine RL.step (d := some 34) rfl rfl (xj_loadR ⟨_, Try.underlying3, rfl⟩ rfl (by first | rfl | assumption)) ?_
    refine RL.step (d := some 8) rfl rfl (xj_assignE rfl) ?_
    repeat refine AW.seq ?_
    refine AW.region ?_
    refine RL.step (d := some 35) rfl rfl (xj_moveE rfl) ?_
    first | refine RL.step (d := some 36) rfl rfl (xj_len Try.underlying22 rfl) ?_ | refine RL.step (d := some 36) rfl rfl (xj_lenO Try.underlying22 rfl rfl) ?_ | refine RL.step (d := some 36) rfl rfl (xj_lenG Try.underlying22 rfl) ?_
    refine RL.step (d := some 37) rfl rfl (xj_moveE rfl) ?_
    repeat refine AW.seq ?_
    refine AW.block ?_
    repeat refine AW.seq ?_
    refine AW.loop (st := fun x_0 : Nat × Int => mkS [(4, .ptr 1 0), (8, .pv (.int .i64 x_0.2)), (35, .pv (pints S.rels[q].2)), (36, .pv (.int .i64 S.rels[q].2.length)), (37, .pv (.int .i64 x_0.1))] [(1, .mix 33 [.pv (pints P)])] 2)
      (I := fun x_0 => x_0.1 ≤ S.rels[q].2.length ∧ x_0.2 = (S.rels[q].2.take x_0.1).foldl (homeF P) (S.rels[q].2.getD 0 0)) (μ := fun x_0 => S.rels[q].2.length - x_0.1) (x0 := (0, S.rels[q].2[0])) (St.le_mk ⟨rfl, rfl, rfl, rfl, rfl, trivial⟩ ⟨rfl, trivial⟩ rfl rfl) (⟨Nat.zero_le _, by simp [List.getD, hrp]⟩) ?_
    rintro ⟨k, h⟩ ⟨hk, hh⟩
    try simp only at hk hh ⊢
    repeat refine AW.seq ?_
    refine AW.region ?_
    refine RL.step (d := some 38) rfl rfl (xj_bin rfl rfl rfl) ?_
    repeat refine AW.seq ?_
    refine AW.condP rfl (fun hc38 => ?_) (fun hc38 => ?_)
    · have hlt : k < S.rels[q].2.length := by omega
      have hva := pints_at hlt
      have hka := hrr _ (List.getElem_mem hlt)
      have hst : (S.rels[q].2.take (k + 1)).foldl (homeF P) (S.rels[q].2.getD 0 0) = homeF P h S.rels[q].2[k] := by rw [take_snoc hlt, List.foldl_append, ← hh]; rfl
      refine AW.skip ?_
      repeat refine AW.seq ?_
      refine AW.block ?_
      repeat refine AW.seq ?_
      refine AW.region ?_
      first | refine RL.step (d := some 39) rfl rfl (xj_indexAddr _ Try.underlying22 sz3 rfl rfl rfl (by omega) (by assumption)) ?_ | refine RL.step (d := some 39) rfl rfl (xj_indexAddrO _ Try.underlying22 sz3 rfl rfl rfl rfl (by omega)) ?_
      first | refine RL.step (d := some 40) rfl rfl (xj_load1 ⟨_, Try.underlying3, rfl⟩ rfl rfl rfl) ?_ | refine RL.step (d := some 40) rfl rfl (xj_load1P ⟨_, Try.underlying3, rfl⟩ rfl rfl (by first | rfl | assumption)) ?_ | refine RL.step (d := some 40) rfl rfl (xj_loadR ⟨_, Try.underlying3, rfl⟩ rfl (by first | rfl | assumption)) ?_
      refine RL.step (d := some 10) rfl rfl (xj_assignE rfl) ?_
      repeat refine AW.seq ?_
      refine AW.region ?_
      first | refine RL.step (d := some 41) rfl rfl (xj_loadA ⟨_, Try.underlying33, rfl⟩ sz33 rfl rfl rfl rfl) ?_ | refine RL.step (d := some 41) rfl rfl (xj_loadAP ⟨_, Try.underlying33, rfl⟩ sz33 rfl rfl rfl rfl) ?_ | refine RL.step (d := some 41) rfl rfl (xj_loadAR ⟨_, Try.underlying33, rfl⟩ sz33 rfl rfl rfl) ?_
      refine RL.step (d := some 42) rfl rfl (xj_moveE rfl) ?_
      refine RL.step (d := some 43) rfl rfl (xj_moveE rfl) ?_
      refine RL.step (d := some 44) rfl rfl (xj_call Try.call35 (higher_spec P h S.rels[q].2[k] hka.1 hka.2 hP hn) rfl) ?_
      repeat refine AW.seq ?_
      refine AW.cond rfl (fun hc44 => ?_) (fun hc44 => ?_)
      · rw [homeF, if_pos hc44] at hst
        repeat refine AW.seq ?_
        refine AW.region ?_
        refine RL.step (d := some 45) rfl rfl (xj_moveE rfl) ?_
        refine RL.step (d := some 8) rfl rfl (xj_assignE rfl) ?_
        repeat refine AW.seq ?_
        refine AW.region ?_
        refine RL.step (d := some 46) rfl rfl (xj_add rfl rfl (by omega)) ?_
        refine RL.step (d := some 37) rfl rfl (xj_moveE rfl) ?_
        exact ⟨(k + 1, S.rels[q].2[k]), St.le_mk ⟨rfl, rfl, rfl, rfl, rfl, trivial⟩ ⟨rfl, trivial⟩ rfl rfl, ⟨by simp only; omega, hst.symm⟩, by simp only; omega⟩
      · rw [homeF, if_neg (by rw [hc44]; decide)] at hst
        refine AW.skip ?_
        repeat refine AW.seq ?_
        refine AW.region ?_
        refine RL.step (d := some 46) rfl rfl (xj_add rfl rfl (by omega)) ?_
        refine RL.step (d := some 37) rfl rfl (xj_moveE rfl) ?_
        exact ⟨(k + 1, h), St.le_mk ⟨rfl, rfl, rfl, rfl, rfl, trivial⟩ ⟨rfl, trivial⟩ rfl rfl, ⟨by simp only; omega, hst.symm⟩, by simp only; omega⟩
    · repeat refine AW.seq ?_
      refine AW.exit ?_
      repeat refine AW.seq ?_
      refine AW.region ?_
      refine RL.step (d := some 47) rfl rfl (xj_moveE rfl) ?_
      refine RL.step (d := some 6) rfl rfl (xj_assignE rfl) ?_
      repeat refine AW.seq ?_
      refine AW.ret ?_
      exact ⟨_, _, rfl, rfl, by rw [if_neg (by rw [hno]; decide), hgd]; unfold homeL; rw [List.take_of_length_le (by omega)] at hh; rw [← hh]; rfl⟩

def widN (S : Sch) (P : List Int) : Nat → Int
  | 0 => 0
  | k + 1 => if ((keyL S P k).length : Int) > widN S P k then (keyL S P k).length else widN S P k
theorem widN_bd (S : Sch) (P : List Int) : ∀ k, 0 ≤ widN S P k ∧ widN S P k ≤ P.length
  | 0 => by simp [widN]
  | k + 1 => by
    have := widN_bd S P k
    have h2 : (keyL S P k).length ≤ P.length := by
      unfold keyL; rw [(sortI_perm _).length_eq]; exact Nat.le_trans (List.length_filter_le _ _) (abvL_len P k)
    simp only [widN]; split <;> omega
theorem width_spec (S : Sch) (hS : SB S) (P : List Int) (hn : P.length ≤ 1000000) : FnP Try.prog 19 [schP S, ordP P] (· = .tup [.int .i64 (if ordE S P = 0 then widN S P P.length + 1 else 0), .int .i64 (ordE S P)]) := by
  refine FnP.of Try.func19 rfl Try.ntmps19 (by simp) fun m0 w0 F R0 => ?_
  repeat refine AW.seq ?_
  refine AW.region ?_
  refine RL.step (d := some 2) rfl rfl (xj_box 0 rfl rfl rfl (by rintro _ _ ⟨⟩) (by rintro _ _ _ ⟨⟩) (by rintro _ ⟨⟩)) ?_
  refine RL.step (d := some 3) rfl rfl (xj_box 1 rfl rfl rfl (by rintro _ _ ⟨⟩) (by rintro _ _ _ ⟨⟩) (by rintro _ ⟨⟩)) ?_
  refine RL.step (d := some 4) rfl rfl (xj_assignE rfl) ?_
  refine RL.step (d := some 5) rfl rfl (xj_assignE rfl) ?_
  repeat refine AW.seq ?_
  refine AW.region ?_
  first | refine RL.step (d := some 9) rfl rfl (xj_loadA ⟨_, Try.underlying30, rfl⟩ sz30 rfl rfl rfl rfl) ?_ | refine RL.step (d := some 9) rfl rfl (xj_loadAP ⟨_, Try.underlying30, rfl⟩ sz30 rfl rfl rfl rfl) ?_ | refine RL.step (d := some 9) rfl rfl (xj_loadAR ⟨_, Try.underlying30, rfl⟩ sz30 rfl rfl rfl) ?_
  first | refine RL.step (d := some 10) rfl rfl (xj_loadA ⟨_, Try.underlying33, rfl⟩ sz33 rfl rfl rfl rfl) ?_ | refine RL.step (d := some 10) rfl rfl (xj_loadAP ⟨_, Try.underlying33, rfl⟩ sz33 rfl rfl rfl rfl) ?_ | refine RL.step (d := some 10) rfl rfl (xj_loadAR ⟨_, Try.underlying33, rfl⟩ sz33 rfl rfl rfl) ?_
  refine RL.step (d := some 11) rfl rfl (xj_call Try.call11 (ocheck_spec S hS P hn) rfl) ?_
  refine RL.step (d := some 6) rfl rfl (xj_assignE rfl) ?_
  repeat refine AW.seq ?_
  refine AW.region ?_
  refine RL.step (d := some 12) rfl rfl (xj_moveE rfl) ?_
  refine RL.step (d := some 13) rfl rfl (xj_bin rfl rfl rfl) ?_
  repeat refine AW.seq ?_
  refine AW.cond rfl (fun hc13 => ?_) (fun hc13 => ?_)
  · repeat refine AW.seq ?_
    refine AW.region ?_
    refine RL.step (d := some 14) rfl rfl (xj_moveE rfl) ?_
    refine RL.step (d := some 4) rfl rfl (xj_assignE rfl) ?_
    refine RL.step (d := some 5) rfl rfl (xj_assignE rfl) ?_
    repeat refine AW.seq ?_
    refine AW.ret ?_
    exact ⟨_, _, rfl, rfl, by rw [if_neg (inT hc13)]; rfl⟩
  · have h0 : ordE S P = 0 := inF hc13
    have hok := ordE_zero.1 h0
    have hP : ∀ p ∈ P, p < P.length := fun p hp => (hok.2.rng p hp).2
    have hn12 : P.length ≤ 12 := by rw [hok.2.len]; exact hok.2.val.n2
    refine AW.skip ?_
    repeat refine AW.seq ?_
    refine AW.region ?_
    refine RL.step (d := some 7) rfl rfl (xj_assignE rfl) ?_
    repeat refine AW.seq ?_
    refine AW.region ?_
    first | refine RL.step (d := some 15) rfl rfl (xj_fieldAddr fo33_0 rfl rfl) ?_ | refine RL.step (d := some 15) rfl rfl (xj_fieldAddrR fo33_0 rfl) ?_
    first | refine RL.step (d := some 16) rfl rfl (xj_load1 ⟨_, Try.underlying22, rfl⟩ rfl rfl rfl) ?_ | refine RL.step (d := some 16) rfl rfl (xj_load1P ⟨_, Try.underlying22, rfl⟩ rfl rfl (by first | rfl | assumption)) ?_ | refine RL.step (d := some 16) rfl rfl (xj_loadR ⟨_, Try.underlying22, rfl⟩ rfl (by first | rfl | assumption)) ?_
    first | refine RL.step (d := some 17) rfl rfl (xj_len Try.underlying22 rfl) ?_ | refine RL.step (d := some 17) rfl rfl (xj_lenO Try.underlying22 rfl rfl) ?_ | refine RL.step (d := some 17) rfl rfl (xj_lenG Try.underlying22 rfl) ?_
    refine RL.step (d := some 18) rfl rfl (xj_moveE rfl) ?_
    repeat refine AW.seq ?_
    refine AW.block ?_
    repeat refine AW.seq ?_
    refine AW.loop (st := fun x_0 : Nat => mkS [(2, .ptr 0 0), (3, .ptr 1 0), (7, .pv (.int .i64 (widN S P x_0))), (17, .pv (.int .i64 P.length)), (18, .pv (.int .i64 x_0))] [(0, .mix 30 [.pv (.sl none S.attrs.length (attrsC S.attrs)), .pv (.sl none S.rels.length (relsC S.rels)), .pv (.sl none S.feats.length (featsC S.feats)), .pv (.int .i64 S.label)]), (1, .mix 33 [.pv (pints P)])] 2)
      (I := fun x_0 => x_0 ≤ P.length) (μ := fun x_0 => P.length - x_0) (x0 := (0)) (St.le_mk ⟨rfl, rfl, rfl, rfl, rfl, trivial⟩ ⟨rfl, rfl, trivial⟩ rfl rfl) (Nat.zero_le _) ?_
    rintro k hk
    repeat refine AW.seq ?_
    refine AW.region ?_
    refine RL.step (d := some 19) rfl rfl (xj_bin rfl rfl rfl) ?_
    repeat refine AW.seq ?_
    refine AW.condP rfl (fun hc19 => ?_) (fun hc19 => ?_)
    · have hlt : k < P.length := by omega
      refine AW.skip ?_
      repeat refine AW.seq ?_
      refine AW.block ?_
      repeat refine AW.seq ?_
      refine AW.region ?_
      refine RL.step (d := some 20) rfl rfl (xj_moveE rfl) ?_
      refine RL.step (d := some 8) rfl rfl (xj_assignE rfl) ?_
      repeat refine AW.seq ?_
      refine AW.region ?_
      refine RL.step (d := some 21) rfl rfl (xj_moveE rfl) ?_
      first | refine RL.step (d := some 22) rfl rfl (xj_loadA ⟨_, Try.underlying30, rfl⟩ sz30 rfl rfl rfl rfl) ?_ | refine RL.step (d := some 22) rfl rfl (xj_loadAP ⟨_, Try.underlying30, rfl⟩ sz30 rfl rfl rfl rfl) ?_ | refine RL.step (d := some 22) rfl rfl (xj_loadAR ⟨_, Try.underlying30, rfl⟩ sz30 rfl rfl rfl) ?_
      first | refine RL.step (d := some 23) rfl rfl (xj_loadA ⟨_, Try.underlying33, rfl⟩ sz33 rfl rfl rfl rfl) ?_ | refine RL.step (d := some 23) rfl rfl (xj_loadAP ⟨_, Try.underlying33, rfl⟩ sz33 rfl rfl rfl rfl) ?_ | refine RL.step (d := some 23) rfl rfl (xj_loadAR ⟨_, Try.underlying33, rfl⟩ sz33 rfl rfl rfl) ?_
      refine RL.step (d := some 24) rfl rfl (xj_moveE rfl) ?_
      refine RL.step (d := some 25) rfl rfl (xj_call Try.call37 (key_spec S hS hok.1 P hP hn12 k hlt) rfl) ?_
      first | refine RL.step (d := some 26) rfl rfl (xj_len Try.underlying22 rfl) ?_ | refine RL.step (d := some 26) rfl rfl (xj_lenO Try.underlying22 rfl rfl) ?_ | refine RL.step (d := some 26) rfl rfl (xj_lenG Try.underlying22 rfl) ?_
      refine RL.step (d := some 27) rfl rfl (xj_max rfl rfl) ?_
      refine RL.step (d := some 7) rfl rfl (xj_assignE rfl) ?_
      repeat refine AW.seq ?_
      refine AW.region ?_
      refine RL.step (d := some 28) rfl rfl (xj_add rfl rfl (by omega)) ?_
      refine RL.step (d := some 18) rfl rfl (xj_moveE rfl) ?_
      exact ⟨(k + 1), St.le_mk ⟨rfl, rfl, rfl, rfl, rfl, trivial⟩ ⟨rfl, rfl, trivial⟩ rfl rfl, by omega, by omega⟩
    · have hwb := widN_bd S P k
      repeat refine AW.seq ?_
      refine AW.exit ?_
      repeat refine AW.seq ?_
      refine AW.region ?_
      refine RL.step (d := some 29) rfl rfl (xj_moveE rfl) ?_
      refine RL.step (d := some 30) rfl rfl (xj_add rfl rfl (by omega)) ?_
      refine RL.step (d := some 4) rfl rfl (xj_assignE rfl) ?_
      refine RL.step (d := some 5) rfl rfl (xj_assignE rfl) ?_
      repeat refine AW.seq ?_
      refine AW.ret ?_
      exact ⟨_, _, rfl, rfl, by rw [if_pos h0, h0, show P.length = k by omega]; rfl⟩

def walkF (P : List Int) : Nat → Int → List Int
  | 0, _ => []
  | f + 1, v => (upZ P.length).flatMap fun a => if P.getD a.toNat 0 = v then a :: walkF P f a else []
def walkG (P : List Int) (W : Int → List Int) (v : Int) (k : Nat) : List Int := (upZ k).flatMap fun a => if P.getD a.toNat 0 = v then a :: W a else []
theorem walkG_succ (P : List Int) (W : Int → List Int) (v : Int) {k : Nat} (hk : k < P.length) : walkG P W v (k + 1) = walkG P W v k ++ (if P[k] = v then (k : Int) :: W k else []) := by
  have hgd : P.getD (k : Int).toNat 0 = P[k] := by simp [List.getD, hk]
  unfold walkG
  rw [upZ_succ, List.flatMap_append]
  simp [hk, List.getD]
theorem walkG_len (P : List Int) (W : Int → List Int) (v : Int) {k n : Nat} (h : k ≤ n) (hn : n ≤ P.length) : (walkG P W v k).length ≤ (walkG P W v n).length := by
  induction n with
  | zero => have : k = 0 := by omega
            subst this; exact Nat.le_refl _
  | succ n ih =>
    by_cases e : k = n + 1
    · subst e; exact Nat.le_refl _
    · rw [walkG_succ P W v (by omega)]
      have := ih (by omega) (by omega)
      simp; omega

abbrev visF (P : List Int) : V := .fn (.func 39) [] [.pv (.rp [pints P] 0), .ptr big 0, .ptr 1000001 0]
abbrev visA (P : List Int) (v : Int) : List V := [.pv (.int .i64 v), .pv (.rp [pints P] 0), .ptr big 0, .ptr 1000001 0]
abbrev visO (P : List Int) (i : Nat) (L : List Int) : List (Nat × Ob) := [(big, .mix 22 [.gsl i 1 L.length]), (1000001, .mix 73 [visF P]), (i, .gro 3 (intsP L))]
section
variable {C : Ctx} {n : Nat} {σ : St} {dst : Option Tmp} {ty : TypeId} {ts : Array TypeId} {pos : String} {after : Array Edge} {gd : Option (Nat × Bool)}
/-- oj_callVO with the contract first. -/
theorem oj_callVF {f : FuncId} {xs : Array Operand} {y : Operand} {fs cs : List V} {args : List V} {os : List (Nat × Ob)} {k' : Nat} {Q : V → (Nat → Option Ob) → Prop} {K : St → Prop} (ids : List Nat) (base : Nat) (hc : CallOk C.P f) (hf : FnO C.P f ids.length k' args os Q) (hy : σ.ev n y = .fn (.func f) fs cs) (hargs : fs ++ xs.toList.map (σ.ev n) ++ cs = V.renL (renI ids base) args)
    (ha : V.allL (okR ids.length 0) args = true) (hos : os.map (·.1) = (List.range ids.length).map (big + ·)) (hob : os.all (fun p => p.2.all (okR ids.length 0)) = true) (hobs : allObR σ (renI ids base) os)
    (hnd : ids.Nodup) (hav : (nwO base k').all σ.av = true)
    (hk : ∀ v ob', Q v ob' → K (σ.app dst ⟨v.ren (renI ids base), wrO ids base k' ob', nwO base k'⟩)) :
    OJ C n ⟨dst, .call { callee := .value y, args := xs, argTypes := ts }, ty, pos, after, gd⟩ K σ := oj_callVO ids base hc hy hargs ha hos hob hobs hnd hav hf hk
end

theorem walk1_step (P : List Int) (hn : P.length ≤ 1000000) (W : Int → List Int) (v : Int)
    (hrec : ∀ (a : Nat) (ha : a < P.length) (L : List Int), P[a] = v → L.length + (W a).length ≤ 1000000 → FnO Try.prog 39 3 1 (visA P a) (visO P 1000002 L) (fun r ob' => r = .tup [] ∧ ob' = lookO (visO P 0 (L ++ W a))))
    (L : List Int) (hL : L.length + (walkG P W v P.length).length ≤ 1000000) :
    FnO Try.prog 39 3 1 (visA P v) (visO P 1000002 L) (fun r ob' => r = .tup [] ∧ ob' = lookO (visO P 0 (L ++ walkG P W v P.length))) := by
  refine FnO.of Try.func39 rfl Try.ntmps39 (by simp) fun m0 w0 F R0 => ?_
  repeat refine AW.seq ?_
  refine AW.region ?_
  first | refine RL.step (d := some 7) rfl rfl (xj_fieldAddr fo33_0 rfl rfl) ?_ | refine RL.step (d := some 7) rfl rfl (xj_fieldAddrR fo33_0 rfl) ?_
  first | refine RL.step (d := some 8) rfl rfl (xj_load1 ⟨_, Try.underlying22, rfl⟩ rfl rfl rfl) ?_ | refine RL.step (d := some 8) rfl rfl (xj_load1P ⟨_, Try.underlying22, rfl⟩ rfl rfl (by first | rfl | assumption)) ?_ | refine RL.step (d := some 8) rfl rfl (xj_loadR ⟨_, Try.underlying22, rfl⟩ rfl (by first | rfl | assumption)) ?_
  first | refine RL.step (d := some 9) rfl rfl (xj_len Try.underlying22 rfl) ?_ | refine RL.step (d := some 9) rfl rfl (xj_lenO Try.underlying22 rfl rfl) ?_ | refine RL.step (d := some 9) rfl rfl (xj_lenG Try.underlying22 rfl) ?_
  refine RL.step (d := some 10) rfl rfl (xj_moveE rfl) ?_
  repeat refine AW.seq ?_
  refine AW.block ?_
  repeat refine AW.seq ?_
  refine AW.loop (st := fun x_0 : Nat × List Int => mkS [(0, .pv (.int .i64 v)), (2, .ptr big 0), (3, .ptr 1000001 0), (8, .pv (pints P)), (9, .pv (.int .i64 P.length)), (10, .pv (.int .i64 x_0.1))] [(big, .mix 22 [.gsl 0 1 x_0.2.length]), (0, .gro 3 (intsP x_0.2)), (1000001, .mix 73 [visF P])] 1)
    (I := fun x_0 => x_0.1 ≤ P.length ∧ x_0.2 = L ++ walkG P W v x_0.1) (μ := fun x_0 => P.length - x_0.1) (x0 := (0, L)) (St.le_mkB [1000002] ⟨rfl, rfl, rfl, rfl, rfl, rfl, trivial⟩ ⟨rfl, rfl, rfl, trivial⟩ rfl rfl (by decide) rfl) (⟨Nat.zero_le _, by simp [walkG, upZ]⟩) ?_
  rintro ⟨k, M⟩ ⟨hk, hM⟩
  try simp only at hk hM ⊢
  repeat refine AW.seq ?_
  refine AW.region ?_
  refine RL.step (d := some 11) rfl rfl (xj_bin rfl rfl rfl) ?_
  repeat refine AW.seq ?_
  refine AW.condP rfl (fun hc11 => ?_) (fun hc11 => ?_)
  · have hlt : k < P.length := by omega
    have hva := pints_at hlt
    have hne := pints_ne hlt
    have hsl : (intsP M).length = M.length * 1 := by simp
    have hgs := walkG_succ P W v hlt
    have hle := walkG_len P W v (show k + 1 ≤ P.length by omega) (Nat.le_refl _)
    refine AW.skip ?_
    repeat refine AW.seq ?_
    refine AW.block ?_
    repeat refine AW.seq ?_
    refine AW.region ?_
    refine RL.step (d := some 12) rfl rfl (xj_moveE rfl) ?_
    first | refine RL.step (d := some 13) rfl rfl (xj_indexAddr _ Try.underlying22 sz3 rfl rfl rfl (by omega) (by assumption)) ?_ | refine RL.step (d := some 13) rfl rfl (xj_indexAddrO _ Try.underlying22 sz3 rfl rfl rfl rfl (by omega)) ?_
    first | refine RL.step (d := some 14) rfl rfl (xj_load1 ⟨_, Try.underlying3, rfl⟩ rfl rfl rfl) ?_ | refine RL.step (d := some 14) rfl rfl (xj_load1P ⟨_, Try.underlying3, rfl⟩ rfl rfl (by first | rfl | assumption)) ?_ | refine RL.step (d := some 14) rfl rfl (xj_loadR ⟨_, Try.underlying3, rfl⟩ rfl (by first | rfl | assumption)) ?_
    refine RL.step (d := some 5) rfl rfl (xj_assignE rfl) ?_
    refine RL.step (d := some 6) rfl rfl (xj_assignE rfl) ?_
    repeat refine AW.seq ?_
    refine AW.region ?_
    refine RL.step (d := some 15) rfl rfl (xj_moveE rfl) ?_
    refine RL.step (d := some 16) rfl rfl (xj_moveE rfl) ?_
    refine RL.step (d := some 17) rfl rfl (xj_bin rfl rfl rfl) ?_
    repeat refine AW.seq ?_
    refine AW.cond rfl (fun hc17 => ?_) (fun hc17 => ?_)
    · have hpv : P[k] = v := ibT hc17
      rw [if_pos hpv] at hgs
      have hMl : M.length + 1 + (W k).length ≤ 1000000 := by have : M.length = L.length + (walkG P W v k).length := (by rw [hM]; simp); rw [hgs] at hle; simp at hle; omega
      have hgo := hrec k hlt (M ++ [(k : Int)]) hpv (by simp; omega)
      have hfin : L ++ walkG P W v (k + 1) = (M ++ [(k : Int)]) ++ W k := by rw [hgs, hM]; simp
      have hM1 : (M ++ [(k : Int)]).length = M.length + 1 := by simp
      repeat refine AW.seq ?_
      refine AW.region ?_
      first | refine RL.step (d := some 18) rfl rfl (xj_load1 ⟨_, Try.underlying22, rfl⟩ rfl rfl rfl) ?_ | refine RL.step (d := some 18) rfl rfl (xj_load1P ⟨_, Try.underlying22, rfl⟩ rfl rfl (by first | rfl | assumption)) ?_ | refine RL.step (d := some 18) rfl rfl (xj_loadR ⟨_, Try.underlying22, rfl⟩ rfl (by first | rfl | assumption)) ?_
      refine RL.step (d := some 19) rfl rfl (xj_moveE rfl) ?_
      refine RL.step (d := some 20) rfl rfl (xj_buildSlice 1 el22 rfl (by decide) (by decide) rfl rfl rfl) ?_
      first | refine RL.step (d := some 21) rfl rfl (xj_append1 2 el22 rfl rfl (by first | assumption | simp) rfl rfl rfl rfl (by omega) rfl) ?_ | refine RL.step (d := some 21) rfl rfl (xj_append01 2 el22 rfl rfl rfl rfl rfl rfl) ?_ | refine RL.step (d := some 21) rfl rfl (xj_appendG1 2 el22 rfl rfl (by first | assumption | simp) rfl rfl rfl rfl (by omega) rfl) ?_
      first | refine RL.step (d := none) rfl rfl (xj_store sz22 rfl rfl rfl rfl (by first | (simp; done) | exact Nat.le_of_ble_eq_true rfl) rfl rfl) ?_ | refine RL.step (d := none) rfl rfl (xj_storeP sz22 rfl rfl rfl rfl (by simp; omega)) ?_
      repeat refine AW.seq ?_
      refine AW.region ?_
      first | refine RL.step (d := some 22) rfl rfl (xj_load1 ⟨_, Try.underlying73, rfl⟩ rfl rfl rfl) ?_ | refine RL.step (d := some 22) rfl rfl (xj_load1P ⟨_, Try.underlying73, rfl⟩ rfl rfl (by first | rfl | assumption)) ?_ | refine RL.step (d := some 22) rfl rfl (xj_loadR ⟨_, Try.underlying73, rfl⟩ rfl (by first | rfl | assumption)) ?_
      refine RL.step (d := some 23) rfl rfl (xj_moveE rfl) ?_
      refine RL.call rfl (oj_callVF [big, 1000001, 2] 3 Try.call39 hgo rfl rfl rfl rfl rfl ⟨by rw [hM1]; rfl, rfl, by rw [ints_snoc]; rfl, trivial⟩ (by decide) rfl ?_)
      rintro _ _ ⟨rfl, rfl⟩
      repeat refine AW.seq ?_
      refine AW.region ?_
      refine RL.step (d := some 25) rfl rfl (xj_add rfl rfl (by omega)) ?_
      refine RL.step (d := some 10) rfl rfl (xj_moveE rfl) ?_
      exact ⟨(k + 1, (M ++ [(k : Int)]) ++ W k), St.le_mkR [3] ⟨rfl, rfl, rfl, rfl, rfl, rfl, trivial⟩ ⟨by kernel_rfl, by kernel_rfl, by kernel_rfl, trivial⟩ rfl rfl (by decide) rfl, ⟨by simp only; omega, hfin.symm⟩, by simp only; omega⟩
    · rw [if_neg (ibF hc17), List.append_nil] at hgs
      refine AW.skip ?_
      repeat refine AW.seq ?_
      refine AW.region ?_
      refine RL.step (d := some 25) rfl rfl (xj_add rfl rfl (by omega)) ?_
      refine RL.step (d := some 10) rfl rfl (xj_moveE rfl) ?_
      exact ⟨(k + 1, M), St.le_mk ⟨rfl, rfl, rfl, rfl, rfl, rfl, trivial⟩ ⟨rfl, rfl, rfl, trivial⟩ rfl rfl, ⟨by simp only; omega, by rw [hgs]; exact hM⟩, by simp only; omega⟩
  · repeat refine AW.seq ?_
    refine AW.exit ?_
    exact ⟨[], visO P 0 (L ++ walkG P W v P.length), [], St.le_mk trivial (by rw [show P.length = k by omega, ← hM]; exact ⟨rfl, rfl, rfl, trivial⟩) rfl rfl, rfl, rfl, rfl, rfl, rfl⟩

end Go.Proofs.Ytkalgjnhaicabaa
