/-
  order.Walk, the example of the chapter (law08.path, sane), in our step logic. No statement of the program is proved here.
-/
import Derived.Test.YtkalgjnhaicabaaP3
namespace Go.Proofs.Ytkalgjnhaicabaa
open Go.RowKit Mk
set_option maxRecDepth 100000
set_option maxHeartbeats 1000000

theorem walk_all (P : List Int) (hP : UpOk P) (hn : P.length ≤ 1000000) : ∀ (f : Nat) (v : Int) (L : List Int), (∀ a (ha : a < P.length), P[a] = v → P.length + 1 ≤ (abvL P a).length + f) → L.length + (walkF P f v).length ≤ 1000000 →
    FnO Try.prog 39 3 1 (visA P v) (visO P 1000002 L) (fun r ob' => r = .tup [] ∧ ob' = lookO (visO P 0 (L ++ walkF P f v)))
  | 0, v, L, hf, hL => by
    have hno : ∀ a (ha : a < P.length), P[a] ≠ v := fun a ha e => by have := hf a ha e; have := abvL_len P a; omega
    have hz : walkG P (fun _ => []) v P.length = [] := by
      unfold walkG
      rw [List.flatMap_eq_nil_iff]
      intro x hx
      obtain ⟨a, ha, rfl⟩ := upZ_mem.1 hx
      rw [if_neg]
      simp only [Int.toNat_natCast, getD_eq ha]
      exact hno a ha
    have := walk1_step P hn (fun _ => []) v (fun a ha L e _ => absurd e (hno a ha)) L (by rw [hz]; simpa [walkF] using hL)
    rw [hz] at this
    exact this
  | f + 1, v, L, hf, hL => walk1_step P hn (walkF P f) v (fun a ha L' e hL' => walk_all P hP hn f a L' (fun b hb e2 => by
      have h1 := hf a ha e
      rw [abvL_cons hP hb ha e2]; simp; omega) hL') L hL

theorem walkL_len {P : List Int} (hP : UpOk P) : (walkL P).length = P.length := by rw [(walk_perm hP).length_eq, upZ_len]
theorem owalk_spec (S : Sch) (hS : SB S) (P : List Int) (hn : P.length ≤ 1000000) : FnP Try.prog 15 [schP S, ordP P] (· = pints (if ordE S P = 0 then walkL P else [])) := by
  refine FnP.of Try.func15 rfl Try.ntmps15 (by simp) fun m0 w0 F R0 => ?_
  repeat refine AW.seq ?_
  refine AW.region ?_
  refine RL.step (d := some 2) rfl rfl (xj_box 0 rfl rfl rfl (by rintro _ _ ⟨⟩) (by rintro _ _ _ ⟨⟩) (by rintro _ ⟨⟩)) ?_
  refine RL.step (d := some 3) rfl rfl (xj_box 1 rfl rfl rfl (by rintro _ _ ⟨⟩) (by rintro _ _ _ ⟨⟩) (by rintro _ ⟨⟩)) ?_
  refine RL.step (d := some 4) rfl rfl (xj_assignE rfl) ?_
  repeat refine AW.seq ?_
  refine AW.region ?_
  first | refine RL.step (d := some 7) rfl rfl (xj_loadA ⟨_, Try.underlying30, rfl⟩ sz30 rfl rfl rfl rfl) ?_ | refine RL.step (d := some 7) rfl rfl (xj_loadAP ⟨_, Try.underlying30, rfl⟩ sz30 rfl rfl rfl rfl) ?_ | refine RL.step (d := some 7) rfl rfl (xj_loadAR ⟨_, Try.underlying30, rfl⟩ sz30 rfl rfl rfl) ?_
  first | refine RL.step (d := some 8) rfl rfl (xj_loadA ⟨_, Try.underlying33, rfl⟩ sz33 rfl rfl rfl rfl) ?_ | refine RL.step (d := some 8) rfl rfl (xj_loadAP ⟨_, Try.underlying33, rfl⟩ sz33 rfl rfl rfl rfl) ?_ | refine RL.step (d := some 8) rfl rfl (xj_loadAR ⟨_, Try.underlying33, rfl⟩ sz33 rfl rfl rfl) ?_
  refine RL.step (d := some 9) rfl rfl (xj_call Try.call11 (ocheck_spec S hS P hn) rfl) ?_
  refine RL.step (d := some 10) rfl rfl (xj_bin rfl rfl rfl) ?_
  repeat refine AW.seq ?_
  refine AW.cond rfl (fun hc10 => ?_) (fun hc10 => ?_)
  · repeat refine AW.seq ?_
    refine AW.region ?_
    refine RL.step (d := some 4) rfl rfl (xj_assignE rfl) ?_
    refine AW.weaken (St.le_fgS [4]) ?_
    repeat refine AW.seq ?_
    refine AW.ret ?_
    exact ⟨_, _, rfl, rfl, by rw [if_neg (inT hc10)]; rfl⟩
  · have h0 : ordE S P = 0 := inF hc10
    have hU := (ordE_zero.1 h0).2.upOk
    have hwl := walkL_len hU
    have hgo := walk_all P hU hn (P.length + 1) (-1) [] (fun a ha e => by omega) (by show 0 + (walkL P).length ≤ 1000000; omega)
    refine AW.skip ?_
    refine AW.weaken (St.le_ppA 1 rfl rfl) ?_
    repeat refine AW.seq ?_
    refine AW.region ?_
    refine RL.step (d := some 5) rfl rfl (xj_alloc 2 zero22 rfl rfl) ?_
    refine AW.weaken (St.le_groC 2 0 4 1 3 rfl rfl rfl) ?_
    repeat refine AW.seq ?_
    refine AW.region ?_
    refine RL.step (d := some 6) rfl rfl (xj_alloc 5 zero73 rfl rfl) ?_
    repeat refine AW.seq ?_
    refine AW.region ?_
    refine RL.step (d := some 11) rfl rfl (xj_makeFunc) ?_
    first | refine RL.step (d := none) rfl rfl (xj_store sz73 rfl rfl rfl rfl (by first | (simp; done) | exact Nat.le_of_ble_eq_true rfl) rfl rfl) ?_ | refine RL.step (d := none) rfl rfl (xj_storeP sz73 rfl rfl rfl rfl (by simp; omega)) ?_
    repeat refine AW.seq ?_
    refine AW.region ?_
    first | refine RL.step (d := some 12) rfl rfl (xj_load1 ⟨_, Try.underlying73, rfl⟩ rfl rfl rfl) ?_ | refine RL.step (d := some 12) rfl rfl (xj_load1P ⟨_, Try.underlying73, rfl⟩ rfl rfl (by first | rfl | assumption)) ?_ | refine RL.step (d := some 12) rfl rfl (xj_loadR ⟨_, Try.underlying73, rfl⟩ rfl (by first | rfl | assumption)) ?_
    refine RL.call rfl (oj_callVF [2, 5, 4] 6 Try.call39 hgo rfl rfl rfl rfl rfl ⟨rfl, rfl, rfl, trivial⟩ (by decide) rfl ?_)
    rintro _ _ ⟨rfl, rfl⟩
    refine AW.weaken (St.le_pubA (o := .gro 3 (intsP (walkL P))) 6 (by kernel_rfl) rfl) ?_
    repeat refine AW.seq ?_
    refine AW.region ?_
    first | refine RL.step (d := some 14) rfl rfl (xj_load1 ⟨_, Try.underlying22, rfl⟩ rfl rfl rfl) ?_ | refine RL.step (d := some 14) rfl rfl (xj_load1P ⟨_, Try.underlying22, rfl⟩ rfl rfl (by first | rfl | assumption)) ?_ | refine RL.step (d := some 14) rfl rfl (xj_loadR ⟨_, Try.underlying22, rfl⟩ rfl (by first | rfl | assumption)) ?_
    refine RL.step (d := some 4) rfl rfl (xj_assignE rfl) ?_
    repeat refine AW.seq ?_
    refine AW.ret ?_
    exact ⟨_, _, rfl, rfl, by rw [if_pos h0]; rfl⟩

def pathS : Sch := ⟨[(⟨#[97]⟩, 1), (⟨#[98]⟩, 1), (⟨#[99]⟩, 1)], [(⟨#[114]⟩, [0, 1]), (⟨#[113]⟩, [1, 2])], [], -1⟩
theorem path_spec : FnP Try.prog 21 [] (· = schP pathS) := by
  refine FnP.fg2 (FnP.ofC Try.func21 rfl Try.ntmps21 (by simp) fun m0 w0 F R0 => ?_)
  repeat refine AW.seq ?_
  refine AW.region ?_
  refine RL.step (d := some 0) rfl rfl (xj_alloc 0 zero30 rfl rfl) ?_
  repeat refine AW.seq ?_
  refine AW.region ?_
  refine RL.step (d := some 1) rfl rfl (xj_build bi61 rfl) ?_
  refine RL.step (d := some 2) rfl rfl (xj_build bi61 rfl) ?_
  refine RL.step (d := some 3) rfl rfl (xj_build bi61 rfl) ?_
  refine RL.step (d := some 4) rfl rfl (xj_buildSliceP none (by simp) el26 rfl (by decide) (by decide) rfl rfl) ?_
  refine RL.step (d := some 5) rfl rfl (xj_buildSliceP none (by simp) el22 rfl (by decide) (by decide) rfl rfl) ?_
  refine RL.step (d := some 6) rfl rfl (xj_build bi40 rfl) ?_
  refine RL.step (d := some 7) rfl rfl (xj_buildSliceP none (by simp) el22 rfl (by decide) (by decide) rfl rfl) ?_
  refine RL.step (d := some 8) rfl rfl (xj_build bi40 rfl) ?_
  refine RL.step (d := some 9) rfl rfl (xj_buildSliceP none (by simp) el27 rfl (by decide) (by decide) rfl rfl) ?_
  refine RL.step (d := some 10) rfl rfl (xj_build bi30 rfl) ?_
  first | refine RL.step (d := none) rfl rfl (xj_store sz30 rfl rfl rfl rfl (by first | (simp; done) | exact Nat.le_of_ble_eq_true rfl) rfl rfl) ?_ | refine RL.step (d := none) rfl rfl (xj_storeP sz30 rfl rfl rfl rfl (by simp; omega)) ?_
  repeat refine AW.seq ?_
  refine AW.ret ?_
  exact ⟨_, _, rfl, rfl, ⟨cellOk1 ⟨_, Try.underlying30, rfl⟩ sz30 rfl rfl rfl, trivial⟩, rfl⟩
theorem path_sb : SB pathS := ⟨by decide, by decide, by decide, by decide, by decide, by decide⟩
theorem path_ok : checkE pathS = 0 := by decide
abbrev pathP : List Int := [1, -1, 1]
theorem path_ord : ordE pathS pathP = 0 := by decide

theorem path_val : Valid pathS := valid_of path_ok
abbrev pathQ : List Int := [1, 0, 2]
theorem path_perm : pathQ.Perm (upZ pathS.attrs.length) := by
  show [1, 0, 2].Perm [(0 : Int), 1, 2]
  exact List.Perm.swap 0 1 [2]
theorem path_is : IsOrd 3 (adjS pathS) (posQ pathQ) pathP := by
  have p0 : posQ pathQ 0 = 1 := by decide
  have p1 : posQ pathQ 1 = 0 := by decide
  have p2 : posQ pathQ 2 = 2 := by decide
  refine ⟨rfl, fun b hb => ?_⟩
  match b, hb with
  | 0, _ =>
    refine .inr ⟨1, by decide, rfl, ⟨by rw [p0, p1]; decide, .one ⟨by decide, by decide⟩ (by rw [p0, p1]; decide)⟩, fun a ha h => ?_⟩
    have h1 := h.1
    rw [p0] at h1
    match a, ha with
    | 0, _ => rw [p0] at h1; omega
    | 1, _ => exact .inl rfl
    | 2, _ => rw [p2] at h1; omega
  | 1, _ =>
    refine .inl ⟨rfl, fun a ha h => ?_⟩
    have h1 := h.1
    rw [p1] at h1; omega
  | 2, _ =>
    refine .inr ⟨1, by decide, rfl, ⟨by rw [p1, p2]; decide, .one ⟨by decide, by decide⟩ (by rw [p1, p2]; decide)⟩, fun a ha h => ?_⟩
    match a, ha with
    | 0, _ =>
      exfalso
      have hst := (h.2.stay (inn := fun x => x = 0) rfl (fun x y hx hxy hy => by
        subst hx
        have hy3 := (link_lt path_val hxy.2).2.2
        have hy3 : y < 3 := by have : (y : Int) < 3 := hy3; omega
        match y, hy3 with
        | 0, _ => rfl
        | 1, _ => rw [p0, p1] at hy; omega
        | 2, _ => exact absurd hxy.2 (by decide))).2
      omega
    | 1, _ => exact .inl rfl
    | 2, _ => have h1 := h.1; omega
theorem path_ordL : ordL pathS pathQ = pathP := (ordL_ord path_val path_perm).unique path_is
theorem of_path : FnP Try.prog 9 [schP pathS, pints pathQ] (· = .tup [ordP pathP, .int .i64 0]) := by
  have h := oof_spec pathS path_sb pathQ (by decide)
  have e : ofV pathS pathQ = .tup [ordP pathP, .int .i64 0] := by
    unfold ofV
    rw [perm_ofE path_ok path_perm, if_pos rfl, path_ordL]
  rw [e] at h
  exact h
theorem sort_one (a : Int) : sortI [a] = [a] := (sortI_eq (List.Perm.refl [a]) (by simp)).symm
theorem sort_nil : sortI [] = [] := (sortI_eq (List.Perm.refl []) (by simp)).symm
theorem key_p0 : keyL pathS pathP 0 = [1] := by unfold keyL; rw [show keyU pathS pathP 0 = [1] by decide, sort_one]
theorem key_p1 : keyL pathS pathP 1 = [] := by unfold keyL; rw [show keyU pathS pathP 1 = [] by decide, sort_nil]
theorem key_p2 : keyL pathS pathP 2 = [1] := by unfold keyL; rw [show keyU pathS pathP 2 = [1] by decide, sort_one]
theorem width_path : FnP Try.prog 19 [schP pathS, ordP pathP] (· = .tup [.int .i64 2, .int .i64 0]) := by
  have h := width_spec pathS path_sb pathP (by decide)
  rw [path_ord, if_pos rfl] at h
  have e : widN pathS pathP 3 = 1 := by
    have e0 : ((keyL pathS pathP ((0 : Nat) : Int)).length : Int) = 1 := by rw [show ((0 : Nat) : Int) = 0 from rfl, key_p0]; rfl
    have e1 : ((keyL pathS pathP ((1 : Nat) : Int)).length : Int) = 0 := by rw [show ((1 : Nat) : Int) = 1 from rfl, key_p1]; rfl
    have e2 : ((keyL pathS pathP ((2 : Nat) : Int)).length : Int) = 1 := by rw [show ((2 : Nat) : Int) = 2 from rfl, key_p2]; rfl
    simp only [widN, e0, e1, e2]
    decide
  rw [show pathP.length = 3 from rfl, e] at h
  exact h
theorem key_path : FnP Try.prog 13 [schP pathS, ordP pathP, .int .i64 0] (· = pints [1]) := by
  have h := keyU_spec pathS path_sb pathP (by decide) 0
  rw [if_pos (isB_iff.2 ⟨path_ord, by decide, by decide⟩), key_p0] at h
  exact h
theorem chi_path : FnP Try.prog 23 [schP pathS, ordP pathP, .int .i64 1] (· = pints [0, 2]) := by
  have h := children_spec pathS path_sb pathP (by decide) 1
  rw [if_neg (by unfold badB; rw [isB_iff.2 ⟨path_ord, by decide, by decide⟩, path_ord]; decide), show childL pathP 1 = [0, 2] by decide] at h
  exact h
theorem home_path : FnP Try.prog 12 [schP pathS, ordP pathP, .int .i64 1] (· = .int .i64 2) := by
  have h := home_spec pathS path_sb pathP (by decide) 1
  rw [if_neg (by unfold noRel; rw [path_ord]; decide), show homeL pathP (pathS.rels.getD (1 : Int).toNat default).2 = 2 by decide] at h
  exact h
theorem walk_path : FnP Try.prog 15 [schP pathS, ordP pathP] (· = pints [1, 0, 2]) := by
  have h := owalk_spec pathS path_sb pathP (by decide)
  rw [if_pos path_ord, show walkL pathP = [1, 0, 2] by decide] at h
  exact h
theorem below_path : FnP Try.prog 18 [schP pathS, ordP pathP, .int .i64 1] (· = pints [0, 1, 2]) := by
  have h := belowU_spec pathS path_sb pathP (by decide) 1
  rw [if_pos (isB_iff.2 ⟨path_ord, by decide, by decide⟩), show belowL pathP 1 = [0, 1, 2] by decide] at h
  exact h
theorem chk_path : FnP Try.prog 11 [schP pathS, ordP pathP] (· = .int .i64 0) := by
  have h := ocheck_spec pathS path_sb pathP (by decide)
  rw [path_ord] at h
  exact h
theorem ints_same (l : List Int) (hl : l.length ≤ 1000000000) : FnP Try.prog 22 [pints l, pints l] (· = .bool true) := by
  have h := ints_spec l l hl hl
  rw [decide_eq_true rfl] at h
  exact h

end Go.Proofs.Ytkalgjnhaicabaa
