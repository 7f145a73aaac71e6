/-
  schema.Check answers checkE, in our step logic. No statement of the program is proved here.
-/
import Derived.Test.YtkalgjnhaicabaaS4
namespace Go.Proofs.Ytkalgjnhaicabaa
open Go.RowKit Mk
set_option maxRecDepth 100000
set_option maxHeartbeats 2000000

theorem lim_eq (S : Sch) : ((((((S.attrs.length : Int) == 0) || decide ((12 : Int) < S.attrs.length)) || ((S.rels.length : Int) == 0)) || decide ((6 : Int) < S.rels.length)) || decide ((8 : Int) < S.feats.length)) = true ↔ S.attrs.length = 0 ∨ 12 < S.attrs.length ∨ S.rels.length = 0 ∨ 6 < S.rels.length ∨ 8 < S.feats.length := by
  simp only [Bool.or_eq_true, beq_iff_eq, decide_eq_true_eq]
  omega

/-- The three checks, by their numbers. -/
def chkAt (S : Sch) : Nat → Int
  | 0 => scanE (attrE S) S.attrs.length
  | 1 => relsE S
  | _ => scanE (featE S) S.feats.length
def chkFn : Nat → FuncId
  | 0 => 44
  | 1 => 45
  | _ => 46
theorem chkFn_spec (S : Sch) (hS : SB S) (k : Nat) : FnP Try.prog (chkFn k) [schP S] (· = .int .i64 (chkAt S k)) := by
  match k with
  | 0 => exact attributes_spec S hS
  | 1 => exact relations_spec S hS
  | k + 2 => exact features_spec S hS
theorem chkFn_ok (k : Nat) : CallOk Try.prog (chkFn k) := by
  match k with
  | 0 => exact Try.call44
  | 1 => exact Try.call45
  | k + 2 => exact Try.call46
theorem chkFn_at (k : Nat) (hk : k < 3) : ([.fn (.func 44) [] [], .fn (.func 45) [] [], .fn (.func 46) [] []] : List PV)[k * 1]? = some (.fn (.func (chkFn k)) [] []) := by
  match k, hk with
  | 0, _ => rfl
  | 1, _ => rfl
  | 2, _ => rfl

theorem chk_stop {S : Sch} {k : Nat} (hlim : ¬ (S.attrs.length = 0 ∨ 12 < S.attrs.length ∨ S.rels.length = 0 ∨ 6 < S.rels.length ∨ 8 < S.feats.length)) (hk : k < 3) (hz : ∀ j, j < k → chkAt S j = 0) (h : ¬ chkAt S k = 0) : chkAt S k = checkE S := by
  unfold checkE
  rw [if_neg hlim]
  match k, hk with
  | 0, _ => rw [if_pos (show scanE (attrE S) S.attrs.length ≠ 0 from h)]; rfl
  | 1, _ => have h0 := hz 0 (by omega); rw [if_neg (fun e => e h0), if_pos (show relsE S ≠ 0 from h)]; rfl
  | 2, _ => have h0 := hz 0 (by omega); have h1 := hz 1 (by omega); rw [if_neg (fun e => e h0), if_neg (fun e => e h1), if_pos (show scanE (featE S) S.feats.length ≠ 0 from h)]; rfl
theorem chk_spec (S : Sch) (hS : SB S) : FnP Try.prog 28 [schP S] (· = .int .i64 (checkE S)) := by
  refine FnP.of Try.func28 rfl Try.ntmps28 (by simp) fun m0 w0 F R0 => ?_
  have hb := hS.a
  repeat refine AW.seq ?_
  refine AW.region ?_
  refine RL.step (d := some 1) rfl rfl (xj_box 0 rfl rfl rfl (by rintro _ _ ⟨⟩) (by rintro _ _ _ ⟨⟩) (by rintro _ ⟨⟩)) ?_
  refine RL.step (d := some 2) rfl rfl (xj_assignE rfl) ?_
  repeat refine AW.seq ?_
  refine AW.region ?_
  first | refine RL.step (d := some 6) rfl rfl (xj_fieldAddr fo30_0 rfl rfl) ?_ | refine RL.step (d := some 6) rfl rfl (xj_fieldAddrR fo30_0 rfl) ?_
  first | refine RL.step (d := some 7) rfl rfl (xj_load1 ⟨_, Try.underlying26, rfl⟩ rfl rfl rfl) ?_ | refine RL.step (d := some 7) rfl rfl (xj_load1P ⟨_, Try.underlying26, rfl⟩ rfl rfl (by first | rfl | assumption)) ?_ | refine RL.step (d := some 7) rfl rfl (xj_loadR ⟨_, Try.underlying26, rfl⟩ rfl (by first | rfl | assumption)) ?_
  first | refine RL.step (d := some 8) rfl rfl (xj_len Try.underlying26 rfl) ?_ | refine RL.step (d := some 8) rfl rfl (xj_lenO Try.underlying26 rfl rfl) ?_ | refine RL.step (d := some 8) rfl rfl (xj_lenG Try.underlying26 rfl) ?_
  refine RL.step (d := some 9) rfl rfl (xj_bin rfl rfl rfl) ?_
  refine RL.step (d := some 10) rfl rfl (xj_moveE rfl) ?_
  apply RL.orB 5 10 15 [11, 12, 13, 14] rfl (by first | exact MonoK.le | exact MonoK.aw | exact MonoK.back)
  · intro hb4
    refine RL.skipG rfl rfl rfl ?_
    refine RL.skipG rfl rfl rfl ?_
    refine RL.skipG rfl rfl rfl ?_
    refine RL.skipG rfl rfl rfl ?_
    refine RL.step (d := some 15) rfl rfl (xj_pick rfl) ?_
    exact St.le_fg (fEq.upd (fEq.upd (fEq.upd (fEq.upd (fEq.upd (fEq.upd (fEq.refl) rfl) rfl) rfl) rfl) rfl) rfl) rfl rfl rfl
  · intro hb4
    first | refine RL.stepG (d := some 11) rfl rfl rfl (xj_fieldAddr fo30_0 rfl rfl) ?_ | refine RL.stepG (d := some 11) rfl rfl rfl (xj_fieldAddrR fo30_0 rfl) ?_
    first | refine RL.stepG (d := some 12) rfl rfl rfl (xj_load1 ⟨_, Try.underlying26, rfl⟩ rfl rfl rfl) ?_ | refine RL.stepG (d := some 12) rfl rfl rfl (xj_load1P ⟨_, Try.underlying26, rfl⟩ rfl rfl (by first | rfl | assumption)) ?_ | refine RL.stepG (d := some 12) rfl rfl rfl (xj_loadR ⟨_, Try.underlying26, rfl⟩ rfl (by first | rfl | assumption)) ?_
    first | refine RL.stepG (d := some 13) rfl rfl rfl (xj_len Try.underlying26 rfl) ?_ | refine RL.stepG (d := some 13) rfl rfl rfl (xj_lenO Try.underlying26 rfl rfl) ?_ | refine RL.stepG (d := some 13) rfl rfl rfl (xj_lenG Try.underlying26 rfl) ?_
    refine RL.stepG (d := some 14) rfl rfl rfl (xj_bin rfl rfl rfl) ?_
    refine RL.step (d := some 15) rfl rfl (xj_pick rfl) ?_
    exact St.le_fg (fEq.upd (fEq.upd (fEq.upd (fEq.upd (fEq.upd (fEq.upd (fEq.refl) rfl) rfl) rfl) rfl) rfl) rfl) rfl rfl rfl
  refine RL.step (d := some 16) rfl rfl (xj_moveE rfl) ?_
  apply RL.orB 5 16 21 [17, 18, 19, 20] rfl (by first | exact MonoK.le | exact MonoK.aw | exact MonoK.back)
  · intro hb10
    refine RL.skipG rfl rfl rfl ?_
    refine RL.skipG rfl rfl rfl ?_
    refine RL.skipG rfl rfl rfl ?_
    refine RL.skipG rfl rfl rfl ?_
    refine RL.step (d := some 21) rfl rfl (xj_pick rfl) ?_
    exact St.le_fg (fEq.upd (fEq.upd (fEq.upd (fEq.upd (fEq.upd (fEq.upd (fEq.refl) rfl) rfl) rfl) rfl) rfl) rfl) rfl rfl rfl
  · intro hb10
    first | refine RL.stepG (d := some 17) rfl rfl rfl (xj_fieldAddr fo30_1 rfl rfl) ?_ | refine RL.stepG (d := some 17) rfl rfl rfl (xj_fieldAddrR fo30_1 rfl) ?_
    first | refine RL.stepG (d := some 18) rfl rfl rfl (xj_load1 ⟨_, Try.underlying27, rfl⟩ rfl rfl rfl) ?_ | refine RL.stepG (d := some 18) rfl rfl rfl (xj_load1P ⟨_, Try.underlying27, rfl⟩ rfl rfl (by first | rfl | assumption)) ?_ | refine RL.stepG (d := some 18) rfl rfl rfl (xj_loadR ⟨_, Try.underlying27, rfl⟩ rfl (by first | rfl | assumption)) ?_
    first | refine RL.stepG (d := some 19) rfl rfl rfl (xj_len Try.underlying27 rfl) ?_ | refine RL.stepG (d := some 19) rfl rfl rfl (xj_lenO Try.underlying27 rfl rfl) ?_ | refine RL.stepG (d := some 19) rfl rfl rfl (xj_lenG Try.underlying27 rfl) ?_
    refine RL.stepG (d := some 20) rfl rfl rfl (xj_bin rfl rfl rfl) ?_
    refine RL.step (d := some 21) rfl rfl (xj_pick rfl) ?_
    exact St.le_fg (fEq.upd (fEq.upd (fEq.upd (fEq.upd (fEq.upd (fEq.upd (fEq.refl) rfl) rfl) rfl) rfl) rfl) rfl) rfl rfl rfl
  refine RL.step (d := some 22) rfl rfl (xj_moveE rfl) ?_
  apply RL.orB 5 22 27 [23, 24, 25, 26] rfl (by first | exact MonoK.le | exact MonoK.aw | exact MonoK.back)
  · intro hb16
    refine RL.skipG rfl rfl rfl ?_
    refine RL.skipG rfl rfl rfl ?_
    refine RL.skipG rfl rfl rfl ?_
    refine RL.skipG rfl rfl rfl ?_
    refine RL.step (d := some 27) rfl rfl (xj_pick rfl) ?_
    exact St.le_fg (fEq.upd (fEq.upd (fEq.upd (fEq.upd (fEq.upd (fEq.upd (fEq.refl) rfl) rfl) rfl) rfl) rfl) rfl) rfl rfl rfl
  · intro hb16
    first | refine RL.stepG (d := some 23) rfl rfl rfl (xj_fieldAddr fo30_1 rfl rfl) ?_ | refine RL.stepG (d := some 23) rfl rfl rfl (xj_fieldAddrR fo30_1 rfl) ?_
    first | refine RL.stepG (d := some 24) rfl rfl rfl (xj_load1 ⟨_, Try.underlying27, rfl⟩ rfl rfl rfl) ?_ | refine RL.stepG (d := some 24) rfl rfl rfl (xj_load1P ⟨_, Try.underlying27, rfl⟩ rfl rfl (by first | rfl | assumption)) ?_ | refine RL.stepG (d := some 24) rfl rfl rfl (xj_loadR ⟨_, Try.underlying27, rfl⟩ rfl (by first | rfl | assumption)) ?_
    first | refine RL.stepG (d := some 25) rfl rfl rfl (xj_len Try.underlying27 rfl) ?_ | refine RL.stepG (d := some 25) rfl rfl rfl (xj_lenO Try.underlying27 rfl rfl) ?_ | refine RL.stepG (d := some 25) rfl rfl rfl (xj_lenG Try.underlying27 rfl) ?_
    refine RL.stepG (d := some 26) rfl rfl rfl (xj_bin rfl rfl rfl) ?_
    refine RL.step (d := some 27) rfl rfl (xj_pick rfl) ?_
    exact St.le_fg (fEq.upd (fEq.upd (fEq.upd (fEq.upd (fEq.upd (fEq.upd (fEq.refl) rfl) rfl) rfl) rfl) rfl) rfl) rfl rfl rfl
  refine RL.step (d := some 28) rfl rfl (xj_moveE rfl) ?_
  apply RL.orB 5 28 33 [29, 30, 31, 32] rfl (by first | exact MonoK.le | exact MonoK.aw | exact MonoK.back)
  · intro hb22
    refine RL.skipG rfl rfl rfl ?_
    refine RL.skipG rfl rfl rfl ?_
    refine RL.skipG rfl rfl rfl ?_
    refine RL.skipG rfl rfl rfl ?_
    refine RL.step (d := some 33) rfl rfl (xj_pick rfl) ?_
    exact St.le_fg (fEq.upd (fEq.upd (fEq.upd (fEq.upd (fEq.upd (fEq.upd (fEq.refl) rfl) rfl) rfl) rfl) rfl) rfl) rfl rfl rfl
  · intro hb22
    first | refine RL.stepG (d := some 29) rfl rfl rfl (xj_fieldAddr fo30_2 rfl rfl) ?_ | refine RL.stepG (d := some 29) rfl rfl rfl (xj_fieldAddrR fo30_2 rfl) ?_
    first | refine RL.stepG (d := some 30) rfl rfl rfl (xj_load1 ⟨_, Try.underlying28, rfl⟩ rfl rfl rfl) ?_ | refine RL.stepG (d := some 30) rfl rfl rfl (xj_load1P ⟨_, Try.underlying28, rfl⟩ rfl rfl (by first | rfl | assumption)) ?_ | refine RL.stepG (d := some 30) rfl rfl rfl (xj_loadR ⟨_, Try.underlying28, rfl⟩ rfl (by first | rfl | assumption)) ?_
    first | refine RL.stepG (d := some 31) rfl rfl rfl (xj_len Try.underlying28 rfl) ?_ | refine RL.stepG (d := some 31) rfl rfl rfl (xj_lenO Try.underlying28 rfl rfl) ?_ | refine RL.stepG (d := some 31) rfl rfl rfl (xj_lenG Try.underlying28 rfl) ?_
    refine RL.stepG (d := some 32) rfl rfl rfl (xj_bin rfl rfl rfl) ?_
    refine RL.step (d := some 33) rfl rfl (xj_pick rfl) ?_
    exact St.le_fg (fEq.upd (fEq.upd (fEq.upd (fEq.upd (fEq.upd (fEq.upd (fEq.refl) rfl) rfl) rfl) rfl) rfl) rfl) rfl rfl rfl
  repeat refine AW.seq ?_
  refine AW.cond rfl (fun hc33 => ?_) (fun hc33 => ?_)
  · repeat refine AW.seq ?_
    refine AW.region ?_
    refine RL.step (d := some 2) rfl rfl (xj_assignE rfl) ?_
    repeat refine AW.seq ?_
    refine AW.ret ?_
    exact ⟨_, _, rfl, rfl, congrArg (PV.int .i64) (by unfold checkE; rw [if_pos ((lim_eq S).1 hc33)])⟩
  · have hlim : ¬ (S.attrs.length = 0 ∨ 12 < S.attrs.length ∨ S.rels.length = 0 ∨ 6 < S.rels.length ∨ 8 < S.feats.length) := fun h => by rw [(lim_eq S).2 h] at hc33; cases hc33
    refine AW.skip ?_
    repeat refine AW.seq ?_
    refine AW.region ?_
    refine RL.step (d := some 34) rfl rfl (xj_buildSliceP none (by simp) el77 rfl (by decide) (by decide) rfl rfl) ?_
    first | refine RL.step (d := some 35) rfl rfl (xj_len Try.underlying77 rfl) ?_ | refine RL.step (d := some 35) rfl rfl (xj_lenO Try.underlying77 rfl rfl) ?_ | refine RL.step (d := some 35) rfl rfl (xj_lenG Try.underlying77 rfl) ?_
    refine RL.step (d := some 36) rfl rfl (xj_moveE rfl) ?_
    repeat refine AW.seq ?_
    refine AW.block ?_
    repeat refine AW.seq ?_
    refine AW.loop (st := fun x_0 : Nat => mkS [(1, .ptr 0 0), (34, .pv (.sl none 3 [.fn (.func 44) [] [], .fn (.func 45) [] [], .fn (.func 46) [] []])), (35, .pv (.int .i64 3)), (36, .pv (.int .i64 x_0))] [(0, .mix 30 [.pv (.sl none S.attrs.length (attrsC S.attrs)), .pv (.sl none S.rels.length (relsC S.rels)), .pv (.sl none S.feats.length (featsC S.feats)), .pv (.int .i64 S.label)])] 1)
      (I := fun x_0 => x_0 ≤ 3 ∧ ∀ j, j < x_0 → chkAt S j = 0) (μ := fun x_0 => 3 - x_0) (x0 := (0)) (St.le_mk ⟨rfl, rfl, rfl, rfl, trivial⟩ ⟨rfl, trivial⟩ rfl rfl) (⟨by omega, fun j hj => absurd hj (Nat.not_lt_zero _)⟩) ?_
    rintro k ⟨hk, hz⟩
    repeat refine AW.seq ?_
    refine AW.region ?_
    refine RL.step (d := some 37) rfl rfl (xj_bin rfl rfl rfl) ?_
    repeat refine AW.seq ?_
    refine AW.condP rfl (fun hc37 => ?_) (fun hc37 => ?_)
    · have hlt : k < 3 := by omega
      have hv := chkFn_at k hlt
      refine AW.skip ?_
      repeat refine AW.seq ?_
      refine AW.block ?_
      repeat refine AW.seq ?_
      refine AW.region ?_
      refine RL.step (d := some 38) rfl rfl (xj_indexAddr k Try.underlying77 sz64 rfl rfl rfl hlt (by simp)) ?_
      first | refine RL.step (d := some 39) rfl rfl (xj_load1 ⟨_, Try.underlying64, rfl⟩ rfl rfl rfl) ?_ | refine RL.step (d := some 39) rfl rfl (xj_load1P ⟨_, Try.underlying64, rfl⟩ rfl rfl (by first | rfl | assumption)) ?_ | refine RL.step (d := some 39) rfl rfl (xj_loadR ⟨_, Try.underlying64, rfl⟩ rfl (by first | rfl | assumption)) ?_
      refine RL.step (d := some 4) rfl rfl (xj_assignE rfl) ?_
      repeat refine AW.seq ?_
      refine AW.region ?_
      refine RL.step (d := some 40) rfl rfl (xj_moveE rfl) ?_
      first | refine RL.step (d := some 41) rfl rfl (xj_loadA ⟨_, Try.underlying30, rfl⟩ sz30 rfl rfl rfl rfl) ?_ | refine RL.step (d := some 41) rfl rfl (xj_loadAP ⟨_, Try.underlying30, rfl⟩ sz30 rfl rfl rfl rfl) ?_ | refine RL.step (d := some 41) rfl rfl (xj_loadAR ⟨_, Try.underlying30, rfl⟩ sz30 rfl rfl rfl) ?_
      refine RL.step (d := some 42) rfl rfl (xj_callV (chkFn_ok k) rfl (chkFn_spec S hS k) rfl) ?_
      refine RL.step (d := some 5) rfl rfl (xj_assignE rfl) ?_
      repeat refine AW.seq ?_
      refine AW.region ?_
      refine RL.step (d := some 43) rfl rfl (xj_moveE rfl) ?_
      refine RL.step (d := some 44) rfl rfl (xj_bin rfl rfl rfl) ?_
      repeat refine AW.seq ?_
      refine AW.cond rfl (fun hc44 => ?_) (fun hc44 => ?_)
      · repeat refine AW.seq ?_
        refine AW.region ?_
        refine RL.step (d := some 45) rfl rfl (xj_moveE rfl) ?_
        refine RL.step (d := some 2) rfl rfl (xj_assignE rfl) ?_
        repeat refine AW.seq ?_
        refine AW.ret ?_
        exact ⟨_, _, rfl, rfl, congrArg (PV.int .i64) (chk_stop hlim hlt hz (inT hc44))⟩
      · refine AW.skip ?_
        repeat refine AW.seq ?_
        refine AW.region ?_
        refine RL.step (d := some 46) rfl rfl (xj_add rfl rfl (by omega)) ?_
        refine RL.step (d := some 36) rfl rfl (xj_moveE rfl) ?_
        exact ⟨(k + 1), St.le_mk ⟨rfl, rfl, rfl, rfl, trivial⟩ ⟨rfl, trivial⟩ rfl rfl, ⟨by omega, fun j hj => by rcases Nat.lt_succ_iff_lt_or_eq.1 hj with h | rfl; exact hz j h; exact inF hc44⟩, by omega⟩
    · have h0 := hz 0 (by omega)
      have h1 := hz 1 (by omega)
      have h2 := hz 2 (by omega)
      have hcl := chk_label hlim h0 h1 h2
      repeat refine AW.seq ?_
      refine AW.exit ?_
      repeat refine AW.seq ?_
      refine AW.block ?_
      repeat refine AW.seq ?_
      refine AW.region ?_
      first | refine RL.step (d := some 48) rfl rfl (xj_fieldAddr fo30_3 rfl rfl) ?_ | refine RL.step (d := some 48) rfl rfl (xj_fieldAddrR fo30_3 rfl) ?_
      first | refine RL.step (d := some 49) rfl rfl (xj_load1 ⟨_, Try.underlying3, rfl⟩ rfl rfl rfl) ?_ | refine RL.step (d := some 49) rfl rfl (xj_load1P ⟨_, Try.underlying3, rfl⟩ rfl rfl (by first | rfl | assumption)) ?_ | refine RL.step (d := some 49) rfl rfl (xj_loadR ⟨_, Try.underlying3, rfl⟩ rfl (by first | rfl | assumption)) ?_
      refine RL.step (d := some 50) rfl rfl (xj_bin rfl rfl rfl) ?_
      refine RL.step (d := some 51) rfl rfl (xj_moveE rfl) ?_
      apply RL.orB 7 51 58 [52, 53, 54, 55, 56, 57] rfl (by first | exact MonoK.le | exact MonoK.aw | exact MonoK.back)
      · intro hb3
        refine RL.skipG rfl rfl rfl ?_
        refine RL.skipG rfl rfl rfl ?_
        refine RL.skipG rfl rfl rfl ?_
        refine RL.skipG rfl rfl rfl ?_
        refine RL.skipG rfl rfl rfl ?_
        refine RL.skipG rfl rfl rfl ?_
        refine RL.step (d := some 58) rfl rfl (xj_pick rfl) ?_
        exact St.le_fg (fEq.upd (fEq.upd (fEq.upd (fEq.upd (fEq.upd (fEq.upd (fEq.upd (fEq.upd (fEq.refl) rfl) rfl) rfl) rfl) rfl) rfl) rfl) rfl) rfl rfl rfl
      · intro hb3
        first | refine RL.stepG (d := some 52) rfl rfl rfl (xj_fieldAddr fo30_3 rfl rfl) ?_ | refine RL.stepG (d := some 52) rfl rfl rfl (xj_fieldAddrR fo30_3 rfl) ?_
        first | refine RL.stepG (d := some 53) rfl rfl rfl (xj_load1 ⟨_, Try.underlying3, rfl⟩ rfl rfl rfl) ?_ | refine RL.stepG (d := some 53) rfl rfl rfl (xj_load1P ⟨_, Try.underlying3, rfl⟩ rfl rfl (by first | rfl | assumption)) ?_ | refine RL.stepG (d := some 53) rfl rfl rfl (xj_loadR ⟨_, Try.underlying3, rfl⟩ rfl (by first | rfl | assumption)) ?_
        first | refine RL.stepG (d := some 54) rfl rfl rfl (xj_fieldAddr fo30_0 rfl rfl) ?_ | refine RL.stepG (d := some 54) rfl rfl rfl (xj_fieldAddrR fo30_0 rfl) ?_
        first | refine RL.stepG (d := some 55) rfl rfl rfl (xj_load1 ⟨_, Try.underlying26, rfl⟩ rfl rfl rfl) ?_ | refine RL.stepG (d := some 55) rfl rfl rfl (xj_load1P ⟨_, Try.underlying26, rfl⟩ rfl rfl (by first | rfl | assumption)) ?_ | refine RL.stepG (d := some 55) rfl rfl rfl (xj_loadR ⟨_, Try.underlying26, rfl⟩ rfl (by first | rfl | assumption)) ?_
        first | refine RL.stepG (d := some 56) rfl rfl rfl (xj_len Try.underlying26 rfl) ?_ | refine RL.stepG (d := some 56) rfl rfl rfl (xj_lenO Try.underlying26 rfl rfl) ?_ | refine RL.stepG (d := some 56) rfl rfl rfl (xj_lenG Try.underlying26 rfl) ?_
        refine RL.stepG (d := some 57) rfl rfl rfl (xj_bin rfl rfl rfl) ?_
        refine RL.step (d := some 58) rfl rfl (xj_pick rfl) ?_
        exact St.le_fg (fEq.upd (fEq.upd (fEq.upd (fEq.upd (fEq.upd (fEq.upd (fEq.upd (fEq.upd (fEq.refl) rfl) rfl) rfl) rfl) rfl) rfl) rfl) rfl) rfl rfl rfl
      refine RL.step (d := some 47) rfl rfl (xj_assignE rfl) ?_
      repeat refine AW.seq ?_
      refine AW.cond rfl (fun hc47 => ?_) (fun hc47 => ?_)
      · repeat refine AW.seq ?_
        refine AW.region ?_
        refine RL.step (d := some 2) rfl rfl (xj_assignE rfl) ?_
        repeat refine AW.seq ?_
        refine AW.ret ?_
        exact ⟨_, _, rfl, rfl, congrArg (PV.int .i64) (by rw [hcl, if_pos (by simpa using hc47)])⟩
      · have hn : ¬ (S.label < -1 ∨ (S.attrs.length : Int) ≤ S.label) := by simpa using hc47
        have hlv : 0 ≤ S.label → ∃ (a : Nat), S.label = (a : Int) ∧ a < S.attrs.length ∧ (attrsC S.attrs)[a * 2 + 1]? = some (.int .i64 (S.attrs.getD S.label.toNat default).2) := fun h => by obtain ⟨a, ha⟩ := Int.eq_ofNat_of_zero_le h; have hal : a < S.attrs.length := (by omega); refine ⟨a, ha, hal, ?_⟩; rw [ha]; simp only [Int.toNat_natCast, List.getD, List.getElem?_eq_getElem hal]; exact flat_at _ 2 (fun _ => rfl) S.attrs a 1 hal (by decide)
        repeat refine AW.seq ?_
        refine AW.region ?_
        first | refine RL.step (d := some 60) rfl rfl (xj_fieldAddr fo30_3 rfl rfl) ?_ | refine RL.step (d := some 60) rfl rfl (xj_fieldAddrR fo30_3 rfl) ?_
        first | refine RL.step (d := some 61) rfl rfl (xj_load1 ⟨_, Try.underlying3, rfl⟩ rfl rfl rfl) ?_ | refine RL.step (d := some 61) rfl rfl (xj_load1P ⟨_, Try.underlying3, rfl⟩ rfl rfl (by first | rfl | assumption)) ?_ | refine RL.step (d := some 61) rfl rfl (xj_loadR ⟨_, Try.underlying3, rfl⟩ rfl (by first | rfl | assumption)) ?_
        refine RL.step (d := some 62) rfl rfl (xj_bin rfl rfl rfl) ?_
        refine RL.step (d := some 63) rfl rfl (xj_moveE rfl) ?_
        apply RL.andB 9 63 72 [64, 65, 66, 67, 68, 69, 70, 71] rfl (by first | exact MonoK.le | exact MonoK.aw | exact MonoK.back)
        · intro hb3
          obtain ⟨a, ha, hal, hk2⟩ := hlv (of_decide_eq_true hb3)
          have hane := attr_ne hal
          first | refine RL.stepG (d := some 64) rfl rfl rfl (xj_fieldAddr fo30_0 rfl rfl) ?_ | refine RL.stepG (d := some 64) rfl rfl rfl (xj_fieldAddrR fo30_0 rfl) ?_
          first | refine RL.stepG (d := some 65) rfl rfl rfl (xj_load1 ⟨_, Try.underlying26, rfl⟩ rfl rfl rfl) ?_ | refine RL.stepG (d := some 65) rfl rfl rfl (xj_load1P ⟨_, Try.underlying26, rfl⟩ rfl rfl (by first | rfl | assumption)) ?_ | refine RL.stepG (d := some 65) rfl rfl rfl (xj_loadR ⟨_, Try.underlying26, rfl⟩ rfl (by first | rfl | assumption)) ?_
          first | refine RL.stepG (d := some 66) rfl rfl rfl (xj_fieldAddr fo30_3 rfl rfl) ?_ | refine RL.stepG (d := some 66) rfl rfl rfl (xj_fieldAddrR fo30_3 rfl) ?_
          first | refine RL.stepG (d := some 67) rfl rfl rfl (xj_load1 ⟨_, Try.underlying3, rfl⟩ rfl rfl rfl) ?_ | refine RL.stepG (d := some 67) rfl rfl rfl (xj_load1P ⟨_, Try.underlying3, rfl⟩ rfl rfl (by first | rfl | assumption)) ?_ | refine RL.stepG (d := some 67) rfl rfl rfl (xj_loadR ⟨_, Try.underlying3, rfl⟩ rfl (by first | rfl | assumption)) ?_
          refine RL.stepG (d := some 68) rfl rfl rfl (xj_indexAddr a Try.underlying26 sz61 rfl rfl ha hal hane) ?_
          first | refine RL.stepG (d := some 69) rfl rfl rfl (xj_fieldAddr fo61_1 rfl rfl) ?_ | refine RL.stepG (d := some 69) rfl rfl rfl (xj_fieldAddrR fo61_1 rfl) ?_
          first | refine RL.stepG (d := some 70) rfl rfl rfl (xj_load1 ⟨_, Try.underlying3, rfl⟩ rfl rfl rfl) ?_ | refine RL.stepG (d := some 70) rfl rfl rfl (xj_load1P ⟨_, Try.underlying3, rfl⟩ rfl rfl (by first | rfl | assumption)) ?_ | refine RL.stepG (d := some 70) rfl rfl rfl (xj_loadR ⟨_, Try.underlying3, rfl⟩ rfl (by first | rfl | assumption)) ?_
          refine RL.stepG (d := some 71) rfl rfl rfl (xj_bin rfl rfl rfl) ?_
          refine RL.step (d := some 72) rfl rfl (xj_pick rfl) ?_
          exact St.le_fg (fEq.upd (fEq.upd (fEq.upd (fEq.upd (fEq.upd (fEq.upd (fEq.upd (fEq.upd (fEq.upd (fEq.upd (fEq.refl) rfl) rfl) rfl) rfl) rfl) rfl) rfl) rfl) rfl) rfl) rfl rfl rfl
        · intro hb3
          refine RL.skipG rfl rfl rfl ?_
          refine RL.skipG rfl rfl rfl ?_
          refine RL.skipG rfl rfl rfl ?_
          refine RL.skipG rfl rfl rfl ?_
          refine RL.skipG rfl rfl rfl ?_
          refine RL.skipG rfl rfl rfl ?_
          refine RL.skipG rfl rfl rfl ?_
          refine RL.skipG rfl rfl rfl ?_
          refine RL.step (d := some 72) rfl rfl (xj_pick rfl) ?_
          exact St.le_fg (fEq.upd (fEq.upd (fEq.upd (fEq.upd (fEq.upd (fEq.upd (fEq.upd (fEq.upd (fEq.upd (fEq.upd (fEq.refl) rfl) rfl) rfl) rfl) rfl) rfl) rfl) rfl) rfl) rfl) rfl rfl rfl
        refine RL.step (d := some 59) rfl rfl (xj_assignE rfl) ?_
        repeat refine AW.seq ?_
        refine AW.cond rfl (fun hc59 => ?_) (fun hc59 => ?_)
        · repeat refine AW.seq ?_
          refine AW.region ?_
          refine RL.step (d := some 2) rfl rfl (xj_assignE rfl) ?_
          repeat refine AW.seq ?_
          refine AW.ret ?_
          exact ⟨_, _, rfl, rfl, congrArg (PV.int .i64) (by rw [hcl, if_neg hn, if_pos (by simpa using hc59)])⟩
        · refine AW.skip ?_
          repeat refine AW.seq ?_
          refine AW.region ?_
          refine RL.step (d := some 2) rfl rfl (xj_assignE rfl) ?_
          repeat refine AW.seq ?_
          refine AW.ret ?_
          exact ⟨_, _, rfl, rfl, congrArg (PV.int .i64) (by rw [hcl, if_neg hn, if_neg (by rintro ⟨h1, h2⟩; rw [decide_eq_true (show S.label ≥ 0 from h1), Bool.true_and, bne_eq_false_iff_eq] at hc59; exact h2 hc59)])⟩

end Go.Proofs.Ytkalgjnhaicabaa
