/-
  The package order: is, below, key, Children, Home, Width, in our step logic. No statement of the program is proved here.
-/
import Derived.Test.YtkalgjnhaicabaaSo
namespace Go.Proofs.Ytkalgjnhaicabaa
open Go.RowKit Mk
set_option maxRecDepth 100000
set_option maxHeartbeats 1000000

def isB (S : Sch) (P : List Int) (v : Int) : Bool := ((ordE S P == 0) && decide (v ≥ 0)) && decide (v < P.length)
theorem isB_iff {S : Sch} {P : List Int} {v : Int} : isB S P v = true ↔ ordE S P = 0 ∧ 0 ≤ v ∧ v < P.length := by
  unfold isB
  simp [and_assoc]
theorem is_spec (S : Sch) (hS : SB S) (P : List Int) (hn : P.length ≤ 1000000) (v : Int) : FnP Try.prog 36 [schP S, ordP P, .int .i64 v] (· = .bool (isB S P v)) := by
  refine FnP.of Try.func36 rfl Try.ntmps36 (by simp) fun m0 w0 F R0 => ?_
  repeat refine AW.seq ?_
  refine AW.region ?_
  refine RL.step (d := some 3) rfl rfl (xj_box 0 rfl rfl rfl (by rintro _ _ ⟨⟩) (by rintro _ _ _ ⟨⟩) (by rintro _ ⟨⟩)) ?_
  refine RL.step (d := some 4) rfl rfl (xj_box 1 rfl rfl rfl (by rintro _ _ ⟨⟩) (by rintro _ _ _ ⟨⟩) (by rintro _ ⟨⟩)) ?_
  refine RL.step (d := some 6) rfl rfl (xj_assignE rfl) ?_
  repeat refine AW.seq ?_
  refine AW.region ?_
  first | refine RL.step (d := some 7) rfl rfl (xj_loadA ⟨_, Try.underlying30, rfl⟩ sz30 rfl rfl rfl rfl) ?_ | refine RL.step (d := some 7) rfl rfl (xj_loadAP ⟨_, Try.underlying30, rfl⟩ sz30 rfl rfl rfl rfl) ?_ | refine RL.step (d := some 7) rfl rfl (xj_loadAR ⟨_, Try.underlying30, rfl⟩ sz30 rfl rfl rfl) ?_
  first | refine RL.step (d := some 8) rfl rfl (xj_loadA ⟨_, Try.underlying33, rfl⟩ sz33 rfl rfl rfl rfl) ?_ | refine RL.step (d := some 8) rfl rfl (xj_loadAP ⟨_, Try.underlying33, rfl⟩ sz33 rfl rfl rfl rfl) ?_ | refine RL.step (d := some 8) rfl rfl (xj_loadAR ⟨_, Try.underlying33, rfl⟩ sz33 rfl rfl rfl) ?_
  refine RL.step (d := some 9) rfl rfl (xj_call Try.call11 (ocheck_spec S hS P hn) rfl) ?_
  refine RL.step (d := some 10) rfl rfl (xj_bin rfl rfl rfl) ?_
  refine RL.step (d := some 11) rfl rfl (xj_moveE rfl) ?_
  apply RL.andB 3 11 14 [12, 13] rfl (by first | exact MonoK.le | exact MonoK.aw | exact MonoK.back)
  · intro hb4
    refine RL.stepG (d := some 12) rfl rfl rfl (xj_moveE rfl) ?_
    refine RL.stepG (d := some 13) rfl rfl rfl (xj_bin rfl rfl rfl) ?_
    refine RL.step (d := some 14) rfl rfl (xj_pick rfl) ?_
    exact St.le_fg (fEq.upd (fEq.upd (fEq.upd (fEq.upd (fEq.refl) rfl) rfl) rfl) rfl) rfl rfl rfl
  · intro hb4
    refine RL.skipG rfl rfl rfl ?_
    refine RL.skipG rfl rfl rfl ?_
    refine RL.step (d := some 14) rfl rfl (xj_pick rfl) ?_
    exact St.le_fg (fEq.upd (fEq.upd (fEq.upd (fEq.upd (fEq.refl) rfl) rfl) rfl) rfl) rfl rfl rfl
  refine RL.step (d := some 15) rfl rfl (xj_moveE rfl) ?_
  apply RL.andB 6 15 21 [16, 17, 18, 19, 20] rfl (by first | exact MonoK.le | exact MonoK.aw | exact MonoK.back)
  · intro hb8
    refine RL.stepG (d := some 16) rfl rfl rfl (xj_moveE rfl) ?_
    first | refine RL.stepG (d := some 17) rfl rfl rfl (xj_fieldAddr fo33_0 rfl rfl) ?_ | refine RL.stepG (d := some 17) rfl rfl rfl (xj_fieldAddrR fo33_0 rfl) ?_
    first | refine RL.stepG (d := some 18) rfl rfl rfl (xj_load1 ⟨_, Try.underlying22, rfl⟩ rfl rfl rfl) ?_ | refine RL.stepG (d := some 18) rfl rfl rfl (xj_load1P ⟨_, Try.underlying22, rfl⟩ rfl rfl (by first | rfl | assumption)) ?_ | refine RL.stepG (d := some 18) rfl rfl rfl (xj_loadR ⟨_, Try.underlying22, rfl⟩ rfl (by first | rfl | assumption)) ?_
    first | refine RL.stepG (d := some 19) rfl rfl rfl (xj_len Try.underlying22 rfl) ?_ | refine RL.stepG (d := some 19) rfl rfl rfl (xj_lenO Try.underlying22 rfl rfl) ?_ | refine RL.stepG (d := some 19) rfl rfl rfl (xj_lenG Try.underlying22 rfl) ?_
    refine RL.stepG (d := some 20) rfl rfl rfl (xj_bin rfl rfl rfl) ?_
    refine RL.step (d := some 21) rfl rfl (xj_pick rfl) ?_
    exact St.le_fg (fEq.upd (fEq.upd (fEq.upd (fEq.upd (fEq.upd (fEq.upd (fEq.upd (fEq.refl) rfl) rfl) rfl) rfl) rfl) rfl) rfl) rfl rfl rfl
  · intro hb8
    refine RL.skipG rfl rfl rfl ?_
    refine RL.skipG rfl rfl rfl ?_
    refine RL.skipG rfl rfl rfl ?_
    refine RL.skipG rfl rfl rfl ?_
    refine RL.skipG rfl rfl rfl ?_
    refine RL.step (d := some 21) rfl rfl (xj_pick rfl) ?_
    exact St.le_fg (fEq.upd (fEq.upd (fEq.upd (fEq.upd (fEq.upd (fEq.upd (fEq.upd (fEq.refl) rfl) rfl) rfl) rfl) rfl) rfl) rfl) rfl rfl rfl
  refine RL.step (d := some 6) rfl rfl (xj_assignE rfl) ?_
  repeat refine AW.seq ?_
  refine AW.ret ?_
  exact ⟨_, _, rfl, rfl, rfl⟩

/-- What order.Check says of an order that is right. -/
structure OrdOk (S : Sch) (P : List Int) : Prop where
  val : Valid S
  len : P.length = S.attrs.length
  rng : ∀ p ∈ P, -1 ≤ p ∧ p < P.length
  up : ∀ v, v < P.length → (abv P (v : Int)).isSome = true
  rt : ∀ r ∈ S.rels, rightB P r.2 = true
theorem ordE_zero {S : Sch} {P : List Int} : ordE S P = 0 ↔ checkE S = 0 ∧ OrdOk S P := by
  unfold ordE
  constructor
  · intro h
    split at h
    · rename_i h1; exact absurd h h1
    · rename_i h0
      have h0 : checkE S = 0 := Classical.byContradiction h0
      split at h
      · cases h
      · rename_i h1
        split at h
        · cases h
        · rename_i h2
          split at h
          · cases h
          · rename_i h3
            split at h
            · cases h
            · rename_i h4
              have h1 : P.length = S.attrs.length := Classical.byContradiction h1
              have h2 : (P.any fun p => decide (p < -1) || decide ((P.length : Int) ≤ p)) = false := by simpa using h2
              have h3 : ((List.range P.length).all fun v => (abv P v).isSome) = true := by rw [Bool.not_eq_false] at h3; exact h3
              have h4 : (S.rels.all fun r => rightB P r.2) = true := by simpa using h4
              refine ⟨h0, valid_of h0, h1, fun p hp => ?_, fun v hv => List.all_eq_true.1 h3 v (List.mem_range.2 hv), fun r hr => List.all_eq_true.1 h4 r hr⟩
              have := List.any_eq_false.1 h2 p hp
              simp at this; omega
  · rintro ⟨h0, h⟩
    rw [if_neg (fun e => e h0), if_neg (fun e => e h.len), if_neg, if_neg, if_neg]
    · rw [List.all_eq_true.2 fun r hr => h.rt r hr]; decide
    · rw [List.all_eq_true.2 fun v hv => h.up v (List.mem_range.1 hv)]; decide
    · rw [List.any_eq_true]
      rintro ⟨p, hp, h2⟩
      have := h.rng p hp
      simp at h2; omega

theorem filter_snoc (p : Int → Bool) (k : Nat) : (upZ (k + 1)).filter p = (upZ k).filter p ++ (if p k = true then [(k : Int)] else []) := by
  rw [upZ_succ, List.filter_append]
  congr 1
  by_cases h : p k = true <;> simp [h]

theorem below_spec (P : List Int) (v : Int) (hP : ∀ p ∈ P, p < P.length) (hn : P.length ≤ 1000000) : FnP Try.prog 41 [ordP P, .int .i64 v] (· = pints (belowL P v)) := by
  refine FnP.of Try.func41 rfl Try.ntmps41 (by simp) fun m0 w0 F R0 => ?_
  repeat refine AW.seq ?_
  refine AW.region ?_
  refine RL.step (d := some 2) rfl rfl (xj_box 0 rfl rfl rfl (by rintro _ _ ⟨⟩) (by rintro _ _ _ ⟨⟩) (by rintro _ ⟨⟩)) ?_
  refine RL.step (d := some 4) rfl rfl (xj_assignE rfl) ?_
  repeat refine AW.seq ?_
  refine AW.region ?_
  refine RL.step (d := some 5) rfl rfl (xj_assignE rfl) ?_
  refine AW.weaken (St.le_gro 5 1 1 3 rfl rfl) ?_
  repeat refine AW.seq ?_
  refine AW.region ?_
  first | refine RL.step (d := some 7) rfl rfl (xj_fieldAddr fo33_0 rfl rfl) ?_ | refine RL.step (d := some 7) rfl rfl (xj_fieldAddrR fo33_0 rfl) ?_
  first | refine RL.step (d := some 8) rfl rfl (xj_load1 ⟨_, Try.underlying22, rfl⟩ rfl rfl rfl) ?_ | refine RL.step (d := some 8) rfl rfl (xj_load1P ⟨_, Try.underlying22, rfl⟩ rfl rfl (by first | rfl | assumption)) ?_ | refine RL.step (d := some 8) rfl rfl (xj_loadR ⟨_, Try.underlying22, rfl⟩ rfl (by first | rfl | assumption)) ?_
  first | refine RL.step (d := some 9) rfl rfl (xj_len Try.underlying22 rfl) ?_ | refine RL.step (d := some 9) rfl rfl (xj_lenO Try.underlying22 rfl rfl) ?_ | refine RL.step (d := some 9) rfl rfl (xj_lenG Try.underlying22 rfl) ?_
  refine RL.step (d := some 10) rfl rfl (xj_moveE rfl) ?_
  repeat refine AW.seq ?_
  refine AW.block ?_
  repeat refine AW.seq ?_
  refine AW.loop (st := fun x_0 : Nat × List Int => mkS [(1, .pv (.int .i64 v)), (2, .ptr 0 0), (5, .gsl 1 1 x_0.2.length), (9, .pv (.int .i64 P.length)), (10, .pv (.int .i64 x_0.1))] [(0, .mix 33 [.pv (pints P)]), (1, .gro 3 (intsP x_0.2))] 2)
    (I := fun x_0 => x_0.1 ≤ P.length ∧ x_0.2 = (upZ x_0.1).filter (fun a => a == v || hiB P v a)) (μ := fun x_0 => P.length - x_0.1) (x0 := (0, [])) (St.le_mk ⟨rfl, rfl, rfl, rfl, rfl, trivial⟩ ⟨rfl, rfl, trivial⟩ rfl rfl) (⟨Nat.zero_le _, rfl⟩) ?_
  rintro ⟨k, L⟩ ⟨hk, hL⟩
  try simp only at hk hL ⊢
  repeat refine AW.seq ?_
  refine AW.region ?_
  refine RL.step (d := some 11) rfl rfl (xj_bin rfl rfl rfl) ?_
  repeat refine AW.seq ?_
  refine AW.condP rfl (fun hc11 => ?_) (fun hc11 => ?_)
  · have hlt : k < P.length := by omega
    have hLl : L.length ≤ k := by rw [hL]; exact Nat.le_trans (List.length_filter_le _ _) (by rw [upZ_len]; exact Nat.le_refl _)
    have hsl : (intsP L).length = L.length * 1 := by simp
    have hfs := filter_snoc (fun a => a == v || hiB P v a) k
    refine AW.skip ?_
    repeat refine AW.seq ?_
    refine AW.block ?_
    repeat refine AW.seq ?_
    refine AW.region ?_
    refine RL.step (d := some 12) rfl rfl (xj_moveE rfl) ?_
    refine RL.step (d := some 6) rfl rfl (xj_assignE rfl) ?_
    repeat refine AW.seq ?_
    refine AW.region ?_
    refine RL.step (d := some 13) rfl rfl (xj_moveE rfl) ?_
    refine RL.step (d := some 14) rfl rfl (xj_moveE rfl) ?_
    refine RL.step (d := some 15) rfl rfl (xj_bin rfl rfl rfl) ?_
    refine RL.step (d := some 16) rfl rfl (xj_moveE rfl) ?_
    apply RL.orB 5 16 21 [17, 18, 19, 20] rfl (by first | exact MonoK.le | exact MonoK.aw | exact MonoK.back)
    · intro hb3
      refine RL.skipG rfl rfl rfl ?_
      refine RL.skipG rfl rfl rfl ?_
      refine RL.skipG rfl rfl rfl ?_
      refine RL.skipG rfl rfl rfl ?_
      refine RL.step (d := some 21) rfl rfl (xj_pick rfl) ?_
      exact St.le_fg (fEq.upd (fEq.upd (fEq.upd (fEq.upd (fEq.upd (fEq.upd (fEq.refl) rfl) rfl) rfl) rfl) rfl) rfl) rfl rfl rfl
    · intro hb3
      first | refine RL.stepG (d := some 17) rfl rfl rfl (xj_loadA ⟨_, Try.underlying33, rfl⟩ sz33 rfl rfl rfl rfl) ?_ | refine RL.stepG (d := some 17) rfl rfl rfl (xj_loadAP ⟨_, Try.underlying33, rfl⟩ sz33 rfl rfl rfl rfl) ?_ | refine RL.stepG (d := some 17) rfl rfl rfl (xj_loadAR ⟨_, Try.underlying33, rfl⟩ sz33 rfl rfl rfl) ?_
      refine RL.stepG (d := some 18) rfl rfl rfl (xj_moveE rfl) ?_
      refine RL.stepG (d := some 19) rfl rfl rfl (xj_moveE rfl) ?_
      refine RL.stepG (d := some 20) rfl rfl rfl (xj_call Try.call35 (higher_spec P v k (by omega) (by omega) hP hn) rfl) ?_
      refine RL.step (d := some 21) rfl rfl (xj_pick rfl) ?_
      exact St.le_fg (fEq.upd (fEq.upd (fEq.upd (fEq.upd (fEq.upd (fEq.upd (fEq.refl) rfl) rfl) rfl) rfl) rfl) rfl) rfl rfl rfl
    repeat refine AW.seq ?_
    refine AW.cond rfl (fun hc21 => ?_) (fun hc21 => ?_)
    · rw [if_pos hc21, ← hL] at hfs
      repeat refine AW.seq ?_
      refine AW.region ?_
      refine RL.step (d := some 22) rfl rfl (xj_moveE rfl) ?_
      refine RL.step (d := some 23) rfl rfl (xj_moveE rfl) ?_
      refine RL.step (d := some 24) rfl rfl (xj_buildSlice 2 el22 rfl (by decide) (by decide) rfl rfl rfl) ?_
      first | refine RL.step (d := some 25) rfl rfl (xj_append1 3 el22 rfl rfl (by first | assumption | simp) rfl rfl rfl rfl (by omega) rfl) ?_ | refine RL.step (d := some 25) rfl rfl (xj_append01 3 el22 rfl rfl rfl rfl rfl rfl) ?_ | refine RL.step (d := some 25) rfl rfl (xj_appendG1 3 el22 rfl rfl (by first | assumption | simp) rfl rfl rfl rfl (by omega) rfl) ?_
      refine RL.step (d := some 5) rfl rfl (xj_assignE rfl) ?_
      repeat refine AW.seq ?_
      refine AW.region ?_
      refine RL.step (d := some 26) rfl rfl (xj_add rfl rfl (by omega)) ?_
      refine RL.step (d := some 10) rfl rfl (xj_moveE rfl) ?_
      exact ⟨(k + 1, L ++ [(k : Int)]), St.le_mkR [0, 3] ⟨rfl, rfl, by simp; rfl, rfl, rfl, trivial⟩ ⟨rfl, congrArg (fun c => some (Ob.gro 3 c)) (ints_snoc L k).symm, trivial⟩ rfl rfl (by decide) rfl, ⟨by simp only; omega, hfs.symm⟩, by simp only; omega⟩
    · rw [if_neg (by rw [hc21]; decide), ← hL, List.append_nil] at hfs
      refine AW.skip ?_
      repeat refine AW.seq ?_
      refine AW.region ?_
      refine RL.step (d := some 26) rfl rfl (xj_add rfl rfl (by omega)) ?_
      refine RL.step (d := some 10) rfl rfl (xj_moveE rfl) ?_
      exact ⟨(k + 1, L), St.le_mk ⟨rfl, rfl, rfl, rfl, rfl, trivial⟩ ⟨rfl, rfl, trivial⟩ rfl rfl, ⟨by simp only; omega, hfs.symm⟩, by simp only; omega⟩
  · repeat refine AW.seq ?_
    refine AW.exit ?_
    refine AW.weaken (St.le_pubA 1 rfl rfl) ?_
    repeat refine AW.seq ?_
    refine AW.region ?_
    refine RL.step (d := some 27) rfl rfl (xj_moveE rfl) ?_
    refine RL.step (d := some 4) rfl rfl (xj_assignE rfl) ?_
    repeat refine AW.seq ?_
    refine AW.ret ?_
    exact ⟨_, _, rfl, rfl, by rw [show belowL P v = L by rw [hL, show k = P.length by omega]; rfl]; simp [tk_all]; rfl⟩
theorem belowU_spec (S : Sch) (hS : SB S) (P : List Int) (hn : P.length ≤ 1000000) (v : Int) : FnP Try.prog 18 [schP S, ordP P, .int .i64 v] (· = pints (if isB S P v = true then belowL P v else [])) := by
  refine FnP.of Try.func18 rfl Try.ntmps18 (by simp) fun m0 w0 F R0 => ?_
  repeat refine AW.seq ?_
  refine AW.region ?_
  refine RL.step (d := some 3) rfl rfl (xj_box 0 rfl rfl rfl (by rintro _ _ ⟨⟩) (by rintro _ _ _ ⟨⟩) (by rintro _ ⟨⟩)) ?_
  refine RL.step (d := some 4) rfl rfl (xj_box 1 rfl rfl rfl (by rintro _ _ ⟨⟩) (by rintro _ _ _ ⟨⟩) (by rintro _ ⟨⟩)) ?_
  refine RL.step (d := some 6) rfl rfl (xj_assignE rfl) ?_
  repeat refine AW.seq ?_
  refine AW.region ?_
  first | refine RL.step (d := some 7) rfl rfl (xj_loadA ⟨_, Try.underlying30, rfl⟩ sz30 rfl rfl rfl rfl) ?_ | refine RL.step (d := some 7) rfl rfl (xj_loadAP ⟨_, Try.underlying30, rfl⟩ sz30 rfl rfl rfl rfl) ?_ | refine RL.step (d := some 7) rfl rfl (xj_loadAR ⟨_, Try.underlying30, rfl⟩ sz30 rfl rfl rfl) ?_
  first | refine RL.step (d := some 8) rfl rfl (xj_loadA ⟨_, Try.underlying33, rfl⟩ sz33 rfl rfl rfl rfl) ?_ | refine RL.step (d := some 8) rfl rfl (xj_loadAP ⟨_, Try.underlying33, rfl⟩ sz33 rfl rfl rfl rfl) ?_ | refine RL.step (d := some 8) rfl rfl (xj_loadAR ⟨_, Try.underlying33, rfl⟩ sz33 rfl rfl rfl) ?_
  refine RL.step (d := some 9) rfl rfl (xj_moveE rfl) ?_
  refine RL.step (d := some 10) rfl rfl (xj_call Try.call36 (is_spec S hS P hn v) rfl) ?_
  refine RL.step (d := some 11) rfl rfl (xj_not rfl) ?_
  repeat refine AW.seq ?_
  refine AW.cond rfl (fun hc11 => ?_) (fun hc11 => ?_)
  · repeat refine AW.seq ?_
    refine AW.region ?_
    refine RL.step (d := some 6) rfl rfl (xj_assignE rfl) ?_
    refine AW.weaken (St.le_fgS [6]) ?_
    repeat refine AW.seq ?_
    refine AW.ret ?_
    exact ⟨_, _, rfl, rfl, by rw [if_neg (by simpa using hc11)]; rfl⟩
  · have hi : isB S P v = true := by simpa using hc11
    have hok := (ordE_zero.1 (isB_iff.1 hi).1).2
    refine AW.skip ?_
    repeat refine AW.seq ?_
    refine AW.region ?_
    first | refine RL.step (d := some 12) rfl rfl (xj_loadA ⟨_, Try.underlying33, rfl⟩ sz33 rfl rfl rfl rfl) ?_ | refine RL.step (d := some 12) rfl rfl (xj_loadAP ⟨_, Try.underlying33, rfl⟩ sz33 rfl rfl rfl rfl) ?_ | refine RL.step (d := some 12) rfl rfl (xj_loadAR ⟨_, Try.underlying33, rfl⟩ sz33 rfl rfl rfl) ?_
    refine RL.step (d := some 13) rfl rfl (xj_moveE rfl) ?_
    refine RL.step (d := some 14) rfl rfl (xj_call Try.call41 (below_spec P v (fun p hp => (hok.rng p hp).2) hn) rfl) ?_
    refine RL.step (d := some 6) rfl rfl (xj_assignE rfl) ?_
    repeat refine AW.seq ?_
    refine AW.ret ?_
    exact ⟨_, _, rfl, rfl, by rw [if_pos hi]; rfl⟩

theorem has_spec (r : ByteArray × List Int) (a : Int) (hl : r.2.length ≤ 1000000) : FnP Try.prog 69 [relP r, .int .i64 a] (· = .bool (decide (a ∈ r.2))) := by
  refine FnP.of Try.func69 rfl Try.ntmps69 (by simp) fun m0 w0 F R0 => ?_
  repeat refine AW.seq ?_
  refine AW.region ?_
  refine RL.step (d := some 2) rfl rfl (xj_box 0 rfl rfl rfl (by rintro _ _ ⟨⟩) (by rintro _ _ _ ⟨⟩) (by rintro _ ⟨⟩)) ?_
  refine RL.step (d := some 4) rfl rfl (xj_assignE rfl) ?_
  repeat refine AW.seq ?_
  refine AW.region ?_
  first | refine RL.step (d := some 5) rfl rfl (xj_fieldAddr fo40_1 rfl rfl) ?_ | refine RL.step (d := some 5) rfl rfl (xj_fieldAddrR fo40_1 rfl) ?_
  first | refine RL.step (d := some 6) rfl rfl (xj_load1 ⟨_, Try.underlying22, rfl⟩ rfl rfl rfl) ?_ | refine RL.step (d := some 6) rfl rfl (xj_load1P ⟨_, Try.underlying22, rfl⟩ rfl rfl (by first | rfl | assumption)) ?_ | refine RL.step (d := some 6) rfl rfl (xj_loadR ⟨_, Try.underlying22, rfl⟩ rfl (by first | rfl | assumption)) ?_
  refine RL.step (d := some 7) rfl rfl (xj_moveE rfl) ?_
  refine RL.step (d := some 8) rfl rfl (xj_call Try.call29 (contains_spec r.2 a (by omega)) rfl) ?_
  refine RL.step (d := some 4) rfl rfl (xj_assignE rfl) ?_
  repeat refine AW.seq ?_
  refine AW.ret ?_
  exact ⟨_, _, rfl, rfl, rfl⟩
theorem link1_spec (r : ByteArray × List Int) (a b : Int) (hl : r.2.length ≤ 1000000) : FnP Try.prog 68 [relP r, .rp [.int .i64 a] 0, .rp [.int .i64 b] 0] (· = .bool (decide (a ∈ r.2) && decide (b ∈ r.2))) := by
  refine FnP.of Try.func68 rfl Try.ntmps68 (by simp) fun m0 w0 F R0 => ?_
  repeat refine AW.seq ?_
  refine AW.region ?_
  refine RL.step (d := some 3) rfl rfl (xj_box 0 rfl rfl rfl (by rintro _ _ ⟨⟩) (by rintro _ _ _ ⟨⟩) (by rintro _ ⟨⟩)) ?_
  refine RL.step (d := some 4) rfl rfl (xj_assignE rfl) ?_
  repeat refine AW.seq ?_
  refine AW.region ?_
  first | refine RL.step (d := some 5) rfl rfl (xj_loadA ⟨_, Try.underlying40, rfl⟩ sz40 rfl rfl rfl rfl) ?_ | refine RL.step (d := some 5) rfl rfl (xj_loadAP ⟨_, Try.underlying40, rfl⟩ sz40 rfl rfl rfl rfl) ?_ | refine RL.step (d := some 5) rfl rfl (xj_loadAR ⟨_, Try.underlying40, rfl⟩ sz40 rfl rfl rfl) ?_
  first | refine RL.step (d := some 6) rfl rfl (xj_load1 ⟨_, Try.underlying3, rfl⟩ rfl rfl rfl) ?_ | refine RL.step (d := some 6) rfl rfl (xj_load1P ⟨_, Try.underlying3, rfl⟩ rfl rfl (by first | rfl | assumption)) ?_ | refine RL.step (d := some 6) rfl rfl (xj_loadR ⟨_, Try.underlying3, rfl⟩ rfl (by first | rfl | assumption)) ?_
  refine RL.step (d := some 7) rfl rfl (xj_call Try.call69 (has_spec r a hl) rfl) ?_
  refine RL.step (d := some 8) rfl rfl (xj_moveE rfl) ?_
  apply RL.andB 4 8 12 [9, 10, 11] rfl (by first | exact MonoK.le | exact MonoK.aw | exact MonoK.back)
  · intro hb3
    first | refine RL.stepG (d := some 9) rfl rfl rfl (xj_loadA ⟨_, Try.underlying40, rfl⟩ sz40 rfl rfl rfl rfl) ?_ | refine RL.stepG (d := some 9) rfl rfl rfl (xj_loadAP ⟨_, Try.underlying40, rfl⟩ sz40 rfl rfl rfl rfl) ?_ | refine RL.stepG (d := some 9) rfl rfl rfl (xj_loadAR ⟨_, Try.underlying40, rfl⟩ sz40 rfl rfl rfl) ?_
    first | refine RL.stepG (d := some 10) rfl rfl rfl (xj_load1 ⟨_, Try.underlying3, rfl⟩ rfl rfl rfl) ?_ | refine RL.stepG (d := some 10) rfl rfl rfl (xj_load1P ⟨_, Try.underlying3, rfl⟩ rfl rfl (by first | rfl | assumption)) ?_ | refine RL.stepG (d := some 10) rfl rfl rfl (xj_loadR ⟨_, Try.underlying3, rfl⟩ rfl (by first | rfl | assumption)) ?_
    refine RL.stepG (d := some 11) rfl rfl rfl (xj_call Try.call69 (has_spec r b hl) rfl) ?_
    refine RL.step (d := some 12) rfl rfl (xj_pick rfl) ?_
    exact St.le_fg (fEq.upd (fEq.upd (fEq.upd (fEq.upd (fEq.upd (fEq.refl) rfl) rfl) rfl) rfl) rfl) rfl rfl rfl
  · intro hb3
    refine RL.skipG rfl rfl rfl ?_
    refine RL.skipG rfl rfl rfl ?_
    refine RL.skipG rfl rfl rfl ?_
    refine RL.step (d := some 12) rfl rfl (xj_pick rfl) ?_
    exact St.le_fg (fEq.upd (fEq.upd (fEq.upd (fEq.upd (fEq.upd (fEq.refl) rfl) rfl) rfl) rfl) rfl) rfl rfl rfl
  refine RL.step (d := some 4) rfl rfl (xj_assignE rfl) ?_
  repeat refine AW.seq ?_
  refine AW.ret ?_
  exact ⟨_, _, rfl, rfl, rfl⟩
theorem linked_spec (S : Sch) (hS : SB S) (h0 : checkE S = 0) (a b : Int) : FnP Try.prog 57 [schP S, .int .i64 a, .int .i64 b] (· = .bool (linkB S a b)) := by
  refine FnP.of Try.func57 rfl Try.ntmps57 (by simp) fun m0 w0 F R0 => ?_
  have hal : ∀ r ∈ S.rels, FnP Try.prog 68 ([] ++ [relP r] ++ [.rp [.int .i64 a] 0, .rp [.int .i64 b] 0]) (· = .bool (decide (a ∈ r.2) && decide (b ∈ r.2))) := fun r hr => link1_spec r a b (hS.rl r hr)
  repeat refine AW.seq ?_
  refine AW.region ?_
  refine RL.step (d := some 3) rfl rfl (xj_box 0 rfl rfl rfl (by rintro _ _ ⟨⟩) (by rintro _ _ _ ⟨⟩) (by rintro _ ⟨⟩)) ?_
  refine RL.step (d := some 4) rfl rfl (xj_box 1 rfl rfl rfl (by rintro _ _ ⟨⟩) (by rintro _ _ _ ⟨⟩) (by rintro _ ⟨⟩)) ?_
  refine RL.step (d := some 5) rfl rfl (xj_box 2 rfl rfl rfl (by rintro _ _ ⟨⟩) (by rintro _ _ _ ⟨⟩) (by rintro _ ⟨⟩)) ?_
  refine RL.step (d := some 6) rfl rfl (xj_assignE rfl) ?_
  refine AW.weaken (St.le_ppA 1 rfl rfl) ?_
  refine AW.weaken (St.le_ppA 2 rfl rfl) ?_
  repeat refine AW.seq ?_
  refine AW.region ?_
  first | refine RL.step (d := some 7) rfl rfl (xj_loadA ⟨_, Try.underlying30, rfl⟩ sz30 rfl rfl rfl rfl) ?_ | refine RL.step (d := some 7) rfl rfl (xj_loadAP ⟨_, Try.underlying30, rfl⟩ sz30 rfl rfl rfl rfl) ?_ | refine RL.step (d := some 7) rfl rfl (xj_loadAR ⟨_, Try.underlying30, rfl⟩ sz30 rfl rfl rfl) ?_
  refine RL.step (d := some 8) rfl rfl (xj_call Try.call28 (chk_spec S hS) rfl) ?_
  refine RL.step (d := some 9) rfl rfl (xj_bin rfl rfl rfl) ?_
  refine RL.step (d := some 10) rfl rfl (xj_moveE rfl) ?_
  apply RL.andB 5 10 15 [11, 12, 13, 14] rfl (by first | exact MonoK.le | exact MonoK.aw | exact MonoK.back)
  · intro hb3
    first | refine RL.stepG (d := some 11) rfl rfl rfl (xj_fieldAddr fo30_1 rfl rfl) ?_ | refine RL.stepG (d := some 11) rfl rfl rfl (xj_fieldAddrR fo30_1 rfl) ?_
    first | refine RL.stepG (d := some 12) rfl rfl rfl (xj_load1 ⟨_, Try.underlying27, rfl⟩ rfl rfl rfl) ?_ | refine RL.stepG (d := some 12) rfl rfl rfl (xj_load1P ⟨_, Try.underlying27, rfl⟩ rfl rfl (by first | rfl | assumption)) ?_ | refine RL.stepG (d := some 12) rfl rfl rfl (xj_loadR ⟨_, Try.underlying27, rfl⟩ rfl (by first | rfl | assumption)) ?_
    refine RL.stepG (d := some 13) rfl rfl rfl (xj_makeFunc) ?_
    refine RL.stepG (d := some 14) rfl rfl rfl (xj_call Try.call32 (containsR_spec S.rels 68 [.rp [.int .i64 a] 0, .rp [.int .i64 b] 0] (fun r => decide (a ∈ r.2) && decide (b ∈ r.2)) hS.r Try.call68 hal) rfl) ?_
    refine RL.step (d := some 15) rfl rfl (xj_pick rfl) ?_
    exact St.le_fg (fEq.upd (fEq.upd (fEq.upd (fEq.upd (fEq.upd (fEq.upd (fEq.refl) rfl) rfl) rfl) rfl) rfl) rfl) rfl rfl rfl
  · intro hb3
    refine RL.skipG rfl rfl rfl ?_
    refine RL.skipG rfl rfl rfl ?_
    refine RL.skipG rfl rfl rfl ?_
    refine RL.skipG rfl rfl rfl ?_
    refine RL.step (d := some 15) rfl rfl (xj_pick rfl) ?_
    exact St.le_fg (fEq.upd (fEq.upd (fEq.upd (fEq.upd (fEq.upd (fEq.upd (fEq.refl) rfl) rfl) rfl) rfl) rfl) rfl) rfl rfl rfl
  refine RL.step (d := some 6) rfl rfl (xj_assignE rfl) ?_
  repeat refine AW.seq ?_
  refine AW.ret ?_
  exact ⟨_, _, rfl, rfl, congrArg PV.bool (by rw [h0]; exact Bool.true_and _)⟩

theorem idxI_spec (l : List Int) (g : FuncId) (caps : List PV) (p : Int → Bool) (hl : l.length ≤ 1000000) (hc : CallOk Try.prog g) (hg : ∀ f ∈ l, FnP Try.prog g ([] ++ [.int .i64 f] ++ caps) (· = .bool (p f))) :
    FnP Try.prog 67 [pints l, .fn (.func g) [] caps] (fun v => ∃ i : Int, v = .int .i64 i ∧ decide (0 ≤ i) = l.any p) := by
  refine FnP.of Try.func67 rfl Try.ntmps67 (by simp) fun m0 w0 F R0 => ?_
  repeat refine AW.seq ?_
  refine AW.region ?_
  refine RL.step (d := some 4) rfl rfl (xj_assignE rfl) ?_
  repeat refine AW.seq ?_
  refine AW.region ?_
  refine RL.step (d := some 6) rfl rfl (xj_moveE rfl) ?_
  first | refine RL.step (d := some 7) rfl rfl (xj_len Try.underlying22 rfl) ?_ | refine RL.step (d := some 7) rfl rfl (xj_lenO Try.underlying22 rfl rfl) ?_ | refine RL.step (d := some 7) rfl rfl (xj_lenG Try.underlying22 rfl) ?_
  refine RL.step (d := some 8) rfl rfl (xj_moveE rfl) ?_
  repeat refine AW.seq ?_
  refine AW.block ?_
  repeat refine AW.seq ?_
  refine AW.loop (st := fun x_0 : Nat => mkS [(0, .pv (pints l)), (1, .pv (.fn (.func g) [] caps)), (7, .pv (.int .i64 l.length)), (8, .pv (.int .i64 x_0))] [] 0)
    (I := fun x_0 => x_0 ≤ l.length ∧ (l.take x_0).any p = false) (μ := fun x_0 => l.length - x_0) (x0 := (0)) (St.le_mk ⟨rfl, rfl, rfl, rfl, trivial⟩ trivial rfl rfl) (⟨Nat.zero_le _, rfl⟩) ?_
  rintro k ⟨hk, hno⟩
  repeat refine AW.seq ?_
  refine AW.region ?_
  refine RL.step (d := some 9) rfl rfl (xj_bin rfl rfl rfl) ?_
  repeat refine AW.seq ?_
  refine AW.condP rfl (fun hc9 => ?_) (fun hc9 => ?_)
  · have hlt : k < l.length := by omega
    have hv := pints_at hlt
    have hne := pints_ne hlt
    have hgk := hg _ (List.getElem_mem hlt)
    refine AW.skip ?_
    repeat refine AW.seq ?_
    refine AW.block ?_
    repeat refine AW.seq ?_
    refine AW.region ?_
    refine RL.step (d := some 10) rfl rfl (xj_moveE rfl) ?_
    refine RL.step (d := some 5) rfl rfl (xj_assignE rfl) ?_
    repeat refine AW.seq ?_
    refine AW.region ?_
    refine RL.step (d := some 11) rfl rfl (xj_moveE rfl) ?_
    refine RL.step (d := some 12) rfl rfl (xj_moveE rfl) ?_
    refine RL.step (d := some 13) rfl rfl (xj_moveE rfl) ?_
    first | refine RL.step (d := some 14) rfl rfl (xj_indexAddr _ Try.underlying22 sz3 rfl rfl rfl (by omega) (by assumption)) ?_ | refine RL.step (d := some 14) rfl rfl (xj_indexAddrO _ Try.underlying22 sz3 rfl rfl rfl rfl (by omega)) ?_
    first | refine RL.step (d := some 15) rfl rfl (xj_load1 ⟨_, Try.underlying3, rfl⟩ rfl rfl rfl) ?_ | refine RL.step (d := some 15) rfl rfl (xj_load1P ⟨_, Try.underlying3, rfl⟩ rfl rfl (by first | rfl | assumption)) ?_ | refine RL.step (d := some 15) rfl rfl (xj_loadR ⟨_, Try.underlying3, rfl⟩ rfl (by first | rfl | assumption)) ?_
    refine RL.step (d := some 16) rfl rfl (xj_callV hc rfl hgk rfl) ?_
    repeat refine AW.seq ?_
    refine AW.cond rfl (fun hc16 => ?_) (fun hc16 => ?_)
    · repeat refine AW.seq ?_
      refine AW.region ?_
      refine RL.step (d := some 17) rfl rfl (xj_moveE rfl) ?_
      refine RL.step (d := some 4) rfl rfl (xj_assignE rfl) ?_
      repeat refine AW.seq ?_
      refine AW.ret ?_
      exact ⟨_, _, rfl, rfl, _, rfl, by rw [any_at hlt hc16]; exact decide_eq_true (by omega)⟩
    · refine AW.skip ?_
      repeat refine AW.seq ?_
      refine AW.region ?_
      refine RL.step (d := some 18) rfl rfl (xj_add rfl rfl (by omega)) ?_
      refine RL.step (d := some 8) rfl rfl (xj_moveE rfl) ?_
      exact ⟨(k + 1), St.le_mk ⟨rfl, rfl, rfl, rfl, trivial⟩ trivial rfl rfl, ⟨by omega, any_take hlt hno hc16⟩, by omega⟩
  · repeat refine AW.seq ?_
    refine AW.exit ?_
    repeat refine AW.seq ?_
    refine AW.region ?_
    refine RL.step (d := some 4) rfl rfl (xj_assignE rfl) ?_
    repeat refine AW.seq ?_
    refine AW.ret ?_
    exact ⟨_, _, rfl, rfl, _, rfl, by rw [List.take_of_length_le (by omega)] at hno; rw [hno]; rfl⟩
theorem containsI_spec (l : List Int) (g : FuncId) (caps : List PV) (p : Int → Bool) (hl : l.length ≤ 1000000) (hc : CallOk Try.prog g) (hg : ∀ f ∈ l, FnP Try.prog g ([] ++ [.int .i64 f] ++ caps) (· = .bool (p f))) :
    FnP Try.prog 55 [pints l, .fn (.func g) [] caps] (· = .bool (l.any p)) := by
  refine FnP.of Try.func55 rfl Try.ntmps55 (by simp) fun m0 w0 F R0 => ?_
  repeat refine AW.seq ?_
  refine AW.region ?_
  refine RL.step (d := some 4) rfl rfl (xj_assignE rfl) ?_
  repeat refine AW.seq ?_
  refine AW.region ?_
  refine RL.step (d := some 5) rfl rfl (xj_moveE rfl) ?_
  refine RL.step (d := some 6) rfl rfl (xj_moveE rfl) ?_
  refine RL.call rfl (oj_call Try.call67 (idxI_spec l g caps p hl hc hg) rfl ?_)
  rintro _ ⟨i, rfl, hi⟩
  refine RL.step (d := some 8) rfl rfl (xj_bin rfl rfl rfl) ?_
  refine RL.step (d := some 4) rfl rfl (xj_assignE rfl) ?_
  repeat refine AW.seq ?_
  refine AW.ret ?_
  exact ⟨_, _, rfl, rfl, congrArg PV.bool hi⟩
theorem key1_spec (S : Sch) (hS : SB S) (h0 : checkE S = 0) (a b : Int) : FnP Try.prog 56 [.int .i64 b, .rp (schC S) 0, .rp [.int .i64 a] 0] (· = .bool (linkB S a b)) := by
  refine FnP.of Try.func56 rfl Try.ntmps56 (by simp) fun m0 w0 F R0 => ?_
  repeat refine AW.seq ?_
  refine AW.region ?_
  refine RL.step (d := some 4) rfl rfl (xj_assignE rfl) ?_
  repeat refine AW.seq ?_
  refine AW.region ?_
  first | refine RL.step (d := some 5) rfl rfl (xj_loadA ⟨_, Try.underlying30, rfl⟩ sz30 rfl rfl rfl rfl) ?_ | refine RL.step (d := some 5) rfl rfl (xj_loadAP ⟨_, Try.underlying30, rfl⟩ sz30 rfl rfl rfl rfl) ?_ | refine RL.step (d := some 5) rfl rfl (xj_loadAR ⟨_, Try.underlying30, rfl⟩ sz30 rfl rfl rfl) ?_
  first | refine RL.step (d := some 6) rfl rfl (xj_load1 ⟨_, Try.underlying3, rfl⟩ rfl rfl rfl) ?_ | refine RL.step (d := some 6) rfl rfl (xj_load1P ⟨_, Try.underlying3, rfl⟩ rfl rfl (by first | rfl | assumption)) ?_ | refine RL.step (d := some 6) rfl rfl (xj_loadR ⟨_, Try.underlying3, rfl⟩ rfl (by first | rfl | assumption)) ?_
  refine RL.step (d := some 7) rfl rfl (xj_moveE rfl) ?_
  refine RL.step (d := some 8) rfl rfl (xj_call Try.call57 (linked_spec S hS h0 a b) rfl) ?_
  refine RL.step (d := some 4) rfl rfl (xj_assignE rfl) ?_
  repeat refine AW.seq ?_
  refine AW.ret ?_
  exact ⟨_, _, rfl, rfl, rfl⟩

theorem ins0_spec : FnP Try.prog 79 [pints [], .int .i64 0, .int .i64 0] (· = .tup []) := by
  refine FnP.of Try.func79 rfl Try.ntmps79 (by simp) fun m0 w0 F R0 => ?_
  repeat refine AW.seq ?_
  refine AW.region ?_
  refine RL.step (d := some 8) rfl rfl (xj_moveE rfl) ?_
  refine RL.step (d := some 9) rfl rfl (xj_add rfl rfl (by omega)) ?_
  refine RL.step (d := some 6) rfl rfl (xj_assignE rfl) ?_
  repeat refine AW.seq ?_
  refine AW.block ?_
  repeat refine AW.seq ?_
  refine AW.loop (st := fun x_0 : Unit => mkS [(0, .pv (pints [])), (1, .pv (.int .i64 0)), (2, .pv (.int .i64 0)), (6, .pv (.int .i64 1))] [] 0)
    (I := fun x_0 => True) (μ := fun x_0 => 0) (x0 := (())) (St.le_mk ⟨rfl, rfl, rfl, rfl, trivial⟩ trivial rfl rfl) (trivial) ?_
  rintro u hI
  repeat refine AW.seq ?_
  refine AW.region ?_
  refine RL.step (d := some 10) rfl rfl (xj_moveE rfl) ?_
  refine RL.step (d := some 11) rfl rfl (xj_moveE rfl) ?_
  refine RL.step (d := some 12) rfl rfl (xj_bin rfl rfl rfl) ?_
  repeat refine AW.seq ?_
  refine AW.condP rfl (fun hc12 => absurd hc12 (by omega)) (fun hc12 => ?_)
  repeat refine AW.seq ?_
  refine AW.exit ?_
  exact ⟨[], _, rfl, rfl, rfl⟩
theorem pdq0_spec (e : Int) : FnP Try.prog 70 [pints [], .int .i64 0, .int .i64 0, .int .i64 e] (· = .tup []) := by
  refine FnP.of Try.func70 rfl Try.ntmps70 (by simp) fun m0 w0 F R0 => ?_
  repeat refine AW.seq ?_
  refine AW.region ?_
  refine RL.step (d := some 8) rfl rfl (xj_assignE rfl) ?_
  repeat refine AW.seq ?_
  refine AW.region ?_
  refine RL.step (d := some 9) rfl rfl (xj_assignE rfl) ?_
  repeat refine AW.seq ?_
  refine AW.block ?_
  repeat refine AW.seq ?_
  refine AW.loop (st := fun x_0 : Unit => mkS [(0, .pv (pints [])), (1, .pv (.int .i64 0)), (2, .pv (.int .i64 0)), (3, .pv (.int .i64 e)), (8, .pv (.bool true)), (9, .pv (.bool true))] [] 0)
    (I := fun x_0 => True) (μ := fun x_0 => 0) (x0 := (())) (St.le_mk ⟨rfl, rfl, rfl, rfl, rfl, rfl, trivial⟩ trivial rfl rfl) (trivial) ?_
  rintro u hI
  repeat refine AW.seq ?_
  refine AW.block ?_
  repeat refine AW.seq ?_
  refine AW.region ?_
  refine RL.step (d := some 19) rfl rfl (xj_moveE rfl) ?_
  refine RL.step (d := some 20) rfl rfl (xj_moveE rfl) ?_
  refine RL.step (d := some 21) rfl rfl (xj_sub rfl rfl (by omega)) ?_
  refine RL.step (d := some 10) rfl rfl (xj_assignE rfl) ?_
  repeat refine AW.seq ?_
  refine AW.region ?_
  refine RL.step (d := some 22) rfl rfl (xj_moveE rfl) ?_
  refine RL.step (d := some 23) rfl rfl (xj_bin rfl rfl rfl) ?_
  repeat refine AW.seq ?_
  refine AW.condP rfl (fun hc23 => ?_) (fun hc23 => absurd hc23 (fun h => h (by omega)))
  repeat refine AW.seq ?_
  refine AW.region ?_
  refine RL.step (d := some 24) rfl rfl (xj_moveE rfl) ?_
  refine RL.step (d := some 25) rfl rfl (xj_moveE rfl) ?_
  refine RL.step (d := some 26) rfl rfl (xj_moveE rfl) ?_
  refine RL.step (d := some 27) rfl rfl (xj_call Try.call79 ins0_spec rfl) ?_
  repeat refine AW.seq ?_
  refine AW.ret ?_
  exact ⟨[], _, rfl, rfl, rfl⟩
theorem sort0_spec : FnP Try.prog 58 [pints []] (· = .tup []) := by
  refine FnP.of Try.func58 rfl Try.ntmps58 (by simp) fun m0 w0 F R0 => ?_
  repeat refine AW.seq ?_
  refine AW.region ?_
  refine RL.step (d := some 3) rfl rfl (xj_moveE rfl) ?_
  first | refine RL.step (d := some 4) rfl rfl (xj_len Try.underlying22 rfl) ?_ | refine RL.step (d := some 4) rfl rfl (xj_lenO Try.underlying22 rfl rfl) ?_ | refine RL.step (d := some 4) rfl rfl (xj_lenG Try.underlying22 rfl) ?_
  refine RL.step (d := some 2) rfl rfl (xj_assignE rfl) ?_
  repeat refine AW.seq ?_
  refine AW.region ?_
  refine RL.step (d := some 5) rfl rfl (xj_moveE rfl) ?_
  refine RL.step (d := some 6) rfl rfl (xj_moveE rfl) ?_
  refine RL.step (d := some 7) rfl rfl (xj_moveE rfl) ?_
  refine RL.step (d := some 8) rfl rfl (xj_conv Try.underlying3 Try.underlying83 rfl) ?_
  refine RL.call rfl (oj_call Try.call71 (len_spec 0 (by omega)) rfl ?_)
  rintro _ ⟨e, rfl⟩
  refine RL.step (d := some 10) rfl rfl (xj_call Try.call70 (pdq0_spec e) rfl) ?_
  exact ⟨[], _, rfl, rfl, rfl⟩

def keyL (S : Sch) (P : List Int) (v : Int) : List Int := sortI (keyU S P v)
theorem key_spec (S : Sch) (hS : SB S) (h0 : checkE S = 0) (P : List Int) (hP : ∀ p ∈ P, p < P.length) (hn : P.length ≤ 12) (v : Nat) (hv : v < P.length) : FnP Try.prog 37 [schP S, ordP P, .int .i64 v] (· = pints (keyL S P v)) := by
  refine FnP.of Try.func37 rfl Try.ntmps37 (by simp) fun m0 w0 F R0 => ?_
  have hUl := abvL_len P v
  have hBl : (belowL P v).length ≤ 12 := Nat.le_trans (List.length_filter_le _ _) (by simp; omega)
  repeat refine AW.seq ?_
  refine AW.region ?_
  refine RL.step (d := some 3) rfl rfl (xj_box 0 rfl rfl rfl (by rintro _ _ ⟨⟩) (by rintro _ _ _ ⟨⟩) (by rintro _ ⟨⟩)) ?_
  refine RL.step (d := some 4) rfl rfl (xj_box 1 rfl rfl rfl (by rintro _ _ ⟨⟩) (by rintro _ _ _ ⟨⟩) (by rintro _ ⟨⟩)) ?_
  refine RL.step (d := some 6) rfl rfl (xj_assignE rfl) ?_
  repeat refine AW.seq ?_
  refine AW.region ?_
  first | refine RL.step (d := some 13) rfl rfl (xj_loadA ⟨_, Try.underlying33, rfl⟩ sz33 rfl rfl rfl rfl) ?_ | refine RL.step (d := some 13) rfl rfl (xj_loadAP ⟨_, Try.underlying33, rfl⟩ sz33 rfl rfl rfl rfl) ?_ | refine RL.step (d := some 13) rfl rfl (xj_loadAR ⟨_, Try.underlying33, rfl⟩ sz33 rfl rfl rfl) ?_
  refine RL.step (d := some 14) rfl rfl (xj_moveE rfl) ?_
  refine RL.step (d := some 15) rfl rfl (xj_call Try.call41 (below_spec P v hP (by omega)) rfl) ?_
  refine RL.step (d := some 7) rfl rfl (xj_assignE rfl) ?_
  repeat refine AW.seq ?_
  refine AW.region ?_
  refine RL.step (d := some 8) rfl rfl (xj_assignE rfl) ?_
  refine AW.weaken (St.le_gro 8 2 1 3 rfl rfl) ?_
  repeat refine AW.seq ?_
  refine AW.region ?_
  first | refine RL.step (d := some 17) rfl rfl (xj_loadA ⟨_, Try.underlying33, rfl⟩ sz33 rfl rfl rfl rfl) ?_ | refine RL.step (d := some 17) rfl rfl (xj_loadAP ⟨_, Try.underlying33, rfl⟩ sz33 rfl rfl rfl rfl) ?_ | refine RL.step (d := some 17) rfl rfl (xj_loadAR ⟨_, Try.underlying33, rfl⟩ sz33 rfl rfl rfl) ?_
  refine RL.step (d := some 18) rfl rfl (xj_moveE rfl) ?_
  refine RL.step (d := some 19) rfl rfl (xj_call Try.call31 (above_spec P v hv hP (by omega)) rfl) ?_
  refine RL.step (d := some 16) rfl rfl (xj_moveE rfl) ?_
  first | refine RL.step (d := some 20) rfl rfl (xj_extractP rfl rfl) ?_ | refine RL.step (d := some 20) rfl rfl (xj_extract rfl rfl) ?_
  first | refine RL.step (d := some 21) rfl rfl (xj_extractP rfl rfl) ?_ | refine RL.step (d := some 21) rfl rfl (xj_extract rfl rfl) ?_
  refine RL.step (d := some 9) rfl rfl (xj_assignE rfl) ?_
  refine RL.step (d := some 10) rfl rfl (xj_assignE rfl) ?_
  refine AW.weaken (St.le_ppA 0 rfl rfl) ?_
  repeat refine AW.seq ?_
  refine AW.region ?_
  refine RL.step (d := some 22) rfl rfl (xj_moveE rfl) ?_
  first | refine RL.step (d := some 23) rfl rfl (xj_len Try.underlying22 rfl) ?_ | refine RL.step (d := some 23) rfl rfl (xj_lenO Try.underlying22 rfl rfl) ?_ | refine RL.step (d := some 23) rfl rfl (xj_lenG Try.underlying22 rfl) ?_
  refine RL.step (d := some 24) rfl rfl (xj_moveE rfl) ?_
  repeat refine AW.seq ?_
  refine AW.block ?_
  repeat refine AW.seq ?_
  refine AW.loop (st := fun x_0 : Nat × List Int => mkS [(3, .pv (.rp (schC S) 0)), (7, .pv (pints (belowL P v))), (8, .gsl 2 1 x_0.2.length), (22, .pv (pints (abvL P v))), (23, .pv (.int .i64 (abvL P v).length)), (24, .pv (.int .i64 x_0.1))] [(2, .gro 3 (intsP x_0.2))] 3)
    (I := fun x_0 => x_0.1 ≤ (abvL P v).length ∧ x_0.2 = ((abvL P v).take x_0.1).filter (fun a => (belowL P v).any fun b => linkB S a b)) (μ := fun x_0 => (abvL P v).length - x_0.1) (x0 := (0, [])) (St.le_mk ⟨rfl, rfl, rfl, rfl, rfl, rfl, trivial⟩ ⟨rfl, trivial⟩ rfl rfl) (⟨Nat.zero_le _, rfl⟩) ?_
  rintro ⟨k, L⟩ ⟨hk, hL⟩
  try simp only at hk hL ⊢
  repeat refine AW.seq ?_
  refine AW.region ?_
  refine RL.step (d := some 25) rfl rfl (xj_bin rfl rfl rfl) ?_
  repeat refine AW.seq ?_
  refine AW.condP rfl (fun hc25 => ?_) (fun hc25 => ?_)
  · have hlt : k < (abvL P v).length := by omega
    have hva := pints_at hlt
    have hne := pints_ne hlt
    have hLl : L.length ≤ k := by rw [hL]; exact Nat.le_trans (List.length_filter_le _ _) (by simp; omega)
    have hsl : (intsP L).length = L.length * 1 := by simp
    have hfs : ((abvL P v).take (k + 1)).filter (fun a => (belowL P v).any fun b => linkB S a b) = L ++ (if ((belowL P v).any fun b => linkB S (abvL P v)[k] b) = true then [(abvL P v)[k]] else []) := by rw [take_snoc hlt, List.filter_append, ← hL]; congr 1; by_cases h : ((belowL P v).any fun b => linkB S (abvL P v)[k] b) = true <;> simp [h]
    refine AW.skip ?_
    repeat refine AW.seq ?_
    refine AW.block ?_
    repeat refine AW.seq ?_
    refine AW.region ?_
    first | refine RL.step (d := some 26) rfl rfl (xj_indexAddr _ Try.underlying22 sz3 rfl rfl rfl (by omega) (by assumption)) ?_ | refine RL.step (d := some 26) rfl rfl (xj_indexAddrO _ Try.underlying22 sz3 rfl rfl rfl rfl (by omega)) ?_
    first | refine RL.step (d := some 27) rfl rfl (xj_load1 ⟨_, Try.underlying3, rfl⟩ rfl rfl rfl) ?_ | refine RL.step (d := some 27) rfl rfl (xj_load1P ⟨_, Try.underlying3, rfl⟩ rfl rfl (by first | rfl | assumption)) ?_ | refine RL.step (d := some 27) rfl rfl (xj_loadR ⟨_, Try.underlying3, rfl⟩ rfl (by first | rfl | assumption)) ?_
    refine RL.step (d := some 12) rfl rfl (xj_alloc 3 zero3 rfl rfl) ?_
    first | refine RL.step (d := none) rfl rfl (xj_store sz3 rfl rfl rfl rfl (by first | (simp; done) | exact Nat.le_of_ble_eq_true rfl) rfl rfl) ?_ | refine RL.step (d := none) rfl rfl (xj_storeP sz3 rfl rfl rfl rfl (by simp; omega)) ?_
    refine AW.weaken (St.le_ppA 3 rfl rfl) ?_
    repeat refine AW.seq ?_
    refine AW.region ?_
    refine RL.step (d := some 28) rfl rfl (xj_moveE rfl) ?_
    refine RL.step (d := some 29) rfl rfl (xj_makeFunc) ?_
    refine RL.step (d := some 30) rfl rfl (xj_call Try.call55 (containsI_spec (belowL P v) 56 [.rp (schC S) 0, .rp [.int .i64 (abvL P v)[k]] 0] (fun b => linkB S (abvL P v)[k] b) (by omega) Try.call56 (fun b _ => key1_spec S hS h0 (abvL P v)[k] b)) rfl) ?_
    repeat refine AW.seq ?_
    refine AW.cond rfl (fun hc30 => ?_) (fun hc30 => ?_)
    · rw [if_pos hc30] at hfs
      repeat refine AW.seq ?_
      refine AW.region ?_
      refine RL.step (d := some 31) rfl rfl (xj_moveE rfl) ?_
      first | refine RL.step (d := some 32) rfl rfl (xj_load1 ⟨_, Try.underlying3, rfl⟩ rfl rfl rfl) ?_ | refine RL.step (d := some 32) rfl rfl (xj_load1P ⟨_, Try.underlying3, rfl⟩ rfl rfl (by first | rfl | assumption)) ?_ | refine RL.step (d := some 32) rfl rfl (xj_loadR ⟨_, Try.underlying3, rfl⟩ rfl (by first | rfl | assumption)) ?_
      refine RL.step (d := some 33) rfl rfl (xj_buildSlice 4 el22 rfl (by decide) (by decide) rfl rfl rfl) ?_
      first | refine RL.step (d := some 34) rfl rfl (xj_append1 5 el22 rfl rfl (by first | assumption | simp) rfl rfl rfl rfl (by omega) rfl) ?_ | refine RL.step (d := some 34) rfl rfl (xj_append01 5 el22 rfl rfl rfl rfl rfl rfl) ?_ | refine RL.step (d := some 34) rfl rfl (xj_appendG1 5 el22 rfl rfl (by first | assumption | simp) rfl rfl rfl rfl (by omega) rfl) ?_
      refine RL.step (d := some 8) rfl rfl (xj_assignE rfl) ?_
      repeat refine AW.seq ?_
      refine AW.region ?_
      refine RL.step (d := some 35) rfl rfl (xj_add rfl rfl (by omega)) ?_
      refine RL.step (d := some 24) rfl rfl (xj_moveE rfl) ?_
      exact ⟨(k + 1, L ++ [(abvL P v)[k]]), St.le_mkR [0, 1, 5] ⟨rfl, rfl, by simp; rfl, rfl, rfl, rfl, trivial⟩ ⟨congrArg (fun c => some (Ob.gro 3 c)) (ints_snoc L _).symm, trivial⟩ rfl rfl (by decide) rfl, ⟨by simp only; omega, hfs.symm⟩, by simp only; omega⟩
    · rw [if_neg (by rw [hc30]; decide), List.append_nil] at hfs
      refine AW.skip ?_
      repeat refine AW.seq ?_
      refine AW.region ?_
      refine RL.step (d := some 35) rfl rfl (xj_add rfl rfl (by omega)) ?_
      refine RL.step (d := some 24) rfl rfl (xj_moveE rfl) ?_
      exact ⟨(k + 1, L), St.le_mk ⟨rfl, rfl, rfl, rfl, rfl, rfl, trivial⟩ ⟨rfl, trivial⟩ rfl rfl, ⟨by simp only; omega, hfs.symm⟩, by simp only; omega⟩
  · have hLe : L = keyU S P v := by rw [hL, List.take_of_length_le (by omega)]; rfl
    have hLl : L.length ≤ 12 := by rw [hLe]; exact Nat.le_trans (List.length_filter_le _ _) (by omega)
    repeat refine AW.seq ?_
    refine AW.exit ?_
    by_cases h : L = []
    · subst h
      refine AW.weaken (St.le_pubA 2 rfl rfl) ?_
      repeat refine AW.seq ?_
      refine AW.region ?_
      refine RL.step (d := some 36) rfl rfl (xj_moveE rfl) ?_
      refine RL.step (d := some 37) rfl rfl (xj_call Try.call58 sort0_spec rfl) ?_
      repeat refine AW.seq ?_
      refine AW.region ?_
      refine RL.step (d := some 38) rfl rfl (xj_moveE rfl) ?_
      refine RL.step (d := some 6) rfl rfl (xj_assignE rfl) ?_
      repeat refine AW.seq ?_
      refine AW.ret ?_
      exact ⟨_, _, rfl, rfl, by unfold keyL; rw [← hLe, show sortI [] = [] by simp [sortI]]; rfl⟩
    · refine AW.weaken (St.le_own 8 rfl rfl (by cases L with | nil => exact absurd rfl h | cons a l => simp) (by simpa using h)) ?_
      repeat refine AW.seq ?_
      refine AW.region ?_
      refine RL.step (d := some 36) rfl rfl (xj_moveE rfl) ?_
      refine RL.call rfl (oj_callF1 [2] 3 Try.call58 (sort_spec L L.length rfl hLl) rfl rfl rfl rfl ⟨rfl, trivial⟩ (by decide) rfl ?_)
      rintro _ _ ⟨rfl, rfl⟩
      refine AW.weaken (St.le_pubA 2 rfl rfl) ?_
      repeat refine AW.seq ?_
      refine AW.region ?_
      refine RL.step (d := some 38) rfl rfl (xj_moveE rfl) ?_
      refine RL.step (d := some 6) rfl rfl (xj_assignE rfl) ?_
      refine AW.weaken (St.le_fgS [6]) ?_
      repeat refine AW.seq ?_
      refine AW.ret ?_
      exact ⟨_, _, rfl, rfl, by unfold keyL; rw [← hLe]; show PV.sl none L.length (intsP (sortI L)) = _; rw [← (sortI_perm L).length_eq]⟩
theorem keyU_spec (S : Sch) (hS : SB S) (P : List Int) (hn : P.length ≤ 1000000) (v : Int) : FnP Try.prog 13 [schP S, ordP P, .int .i64 v] (· = pints (if isB S P v = true then keyL S P v else [])) := by
  refine FnP.of Try.func13 rfl Try.ntmps13 (by simp) fun m0 w0 F R0 => ?_
  repeat refine AW.seq ?_
  refine AW.region ?_
  refine RL.step (d := some 3) rfl rfl (xj_box 0 rfl rfl rfl (by rintro _ _ ⟨⟩) (by rintro _ _ _ ⟨⟩) (by rintro _ ⟨⟩)) ?_
  refine RL.step (d := some 4) rfl rfl (xj_box 1 rfl rfl rfl (by rintro _ _ ⟨⟩) (by rintro _ _ _ ⟨⟩) (by rintro _ ⟨⟩)) ?_
  refine RL.step (d := some 6) rfl rfl (xj_assignE rfl) ?_
  repeat refine AW.seq ?_
  refine AW.region ?_
  first | refine RL.step (d := some 7) rfl rfl (xj_loadA ⟨_, Try.underlying30, rfl⟩ sz30 rfl rfl rfl rfl) ?_ | refine RL.step (d := some 7) rfl rfl (xj_loadAP ⟨_, Try.underlying30, rfl⟩ sz30 rfl rfl rfl rfl) ?_ | refine RL.step (d := some 7) rfl rfl (xj_loadAR ⟨_, Try.underlying30, rfl⟩ sz30 rfl rfl rfl) ?_
  first | refine RL.step (d := some 8) rfl rfl (xj_loadA ⟨_, Try.underlying33, rfl⟩ sz33 rfl rfl rfl rfl) ?_ | refine RL.step (d := some 8) rfl rfl (xj_loadAP ⟨_, Try.underlying33, rfl⟩ sz33 rfl rfl rfl rfl) ?_ | refine RL.step (d := some 8) rfl rfl (xj_loadAR ⟨_, Try.underlying33, rfl⟩ sz33 rfl rfl rfl) ?_
  refine RL.step (d := some 9) rfl rfl (xj_moveE rfl) ?_
  refine RL.step (d := some 10) rfl rfl (xj_call Try.call36 (is_spec S hS P hn v) rfl) ?_
  refine RL.step (d := some 11) rfl rfl (xj_not rfl) ?_
  repeat refine AW.seq ?_
  refine AW.cond rfl (fun hc11 => ?_) (fun hc11 => ?_)
  · repeat refine AW.seq ?_
    refine AW.region ?_
    refine RL.step (d := some 6) rfl rfl (xj_assignE rfl) ?_
    refine AW.weaken (St.le_fgS [6]) ?_
    repeat refine AW.seq ?_
    refine AW.ret ?_
    exact ⟨_, _, rfl, rfl, by rw [if_neg (by simpa using hc11)]; rfl⟩
  · have hi : isB S P v = true := by simpa using hc11
    have hi2 := isB_iff.1 hi
    have hok := ordE_zero.1 hi2.1
    obtain ⟨a, rfl⟩ := Int.eq_ofNat_of_zero_le hi2.2.1
    have hks := key_spec S hS hok.1 P (fun p hp => (hok.2.rng p hp).2) (by rw [hok.2.len]; exact hok.2.val.n2) a (by omega)
    refine AW.skip ?_
    repeat refine AW.seq ?_
    refine AW.region ?_
    first | refine RL.step (d := some 12) rfl rfl (xj_loadA ⟨_, Try.underlying30, rfl⟩ sz30 rfl rfl rfl rfl) ?_ | refine RL.step (d := some 12) rfl rfl (xj_loadAP ⟨_, Try.underlying30, rfl⟩ sz30 rfl rfl rfl rfl) ?_ | refine RL.step (d := some 12) rfl rfl (xj_loadAR ⟨_, Try.underlying30, rfl⟩ sz30 rfl rfl rfl) ?_
    first | refine RL.step (d := some 13) rfl rfl (xj_loadA ⟨_, Try.underlying33, rfl⟩ sz33 rfl rfl rfl rfl) ?_ | refine RL.step (d := some 13) rfl rfl (xj_loadAP ⟨_, Try.underlying33, rfl⟩ sz33 rfl rfl rfl rfl) ?_ | refine RL.step (d := some 13) rfl rfl (xj_loadAR ⟨_, Try.underlying33, rfl⟩ sz33 rfl rfl rfl) ?_
    refine RL.step (d := some 14) rfl rfl (xj_moveE rfl) ?_
    refine RL.step (d := some 15) rfl rfl (xj_call Try.call37 hks rfl) ?_
    refine RL.step (d := some 6) rfl rfl (xj_assignE rfl) ?_
    repeat refine AW.seq ?_
    refine AW.ret ?_
    exact ⟨_, _, rfl, rfl, by rw [if_pos hi]; rfl⟩

end Go.Proofs.Ytkalgjnhaicabaa
