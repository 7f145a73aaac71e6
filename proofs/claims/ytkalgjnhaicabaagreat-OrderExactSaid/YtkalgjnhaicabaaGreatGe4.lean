/-
  Texts of ours, joined: O3, O4, B1, Gr, B2, B3, B4, P1, P2, P3, R8, R9, R11. No statement of the program is proved here.
-/
import Derived.Test.YtkalgjnhaicabaaGreatGe3
namespace Go.Proofs.YtkalgjnhaicabaaGreat
open Go.RowKit Mk
set_option maxRecDepth 100000
set_option maxHeartbeats 1000000
def isB (S : Sch) (P : List Int) (v : Int) : Bool := ((ordE S P == 0) && decide (v ≥ 0)) && decide (v < P.length)
theorem isB_iff {S : Sch} {P : List Int} {v : Int} : isB S P v = true ↔ ordE S P = 0 ∧ 0 ≤ v ∧ v < P.length := by
  unfold isB
  simp [and_assoc]
theorem is_spec (S : Sch) (hS : SB S) (P : List Int) (hn : P.length ≤ 1000000) (v : Int) : FnP Tryz.prog 60 [schP S, ordP P, .int .i64 v] (· = .bool (isB S P v)) := by
  refine FnP.of Tryz.func60 rfl Tryz.ntmps60 (by simp) fun m0 w0 F R0 => ?_
  repeat refine AW.seq ?_
  refine AW.region ?_
  iterate 3 refine A1 rfl ?_
  repeat refine AW.seq ?_
  refine AW.region ?_
  iterate 2 refine A1 rfl ?_
  refine RL.step (d := some 9) rfl rfl (xj_call Tryz.call22 (ocheck_spec S hS P hn) rfl) ?_
  iterate 2 refine A1 rfl ?_
  apply RL.andB 3 11 14 [12, 13] rfl (by first | exact MonoK.le | exact MonoK.aw | exact MonoK.back)
  · intro hb4
    iterate 3 refine A1 rfl ?_
    exact St.le_fg (fEq.upd (fEq.upd (fEq.upd (fEq.upd (fEq.refl) rfl) rfl) rfl) rfl) rfl rfl rfl
  · intro hb4
    iterate 3 refine A1 rfl ?_
    exact St.le_fg (fEq.upd (fEq.upd (fEq.upd (fEq.upd (fEq.refl) rfl) rfl) rfl) rfl) rfl rfl rfl
  refine A1 rfl ?_
  apply RL.andB 6 15 21 [16, 17, 18, 19, 20] rfl (by first | exact MonoK.le | exact MonoK.aw | exact MonoK.back)
  · intro hb8
    iterate 6 refine A1 rfl ?_
    exact St.le_fg (fEq.upd (fEq.upd (fEq.upd (fEq.upd (fEq.upd (fEq.upd (fEq.upd (fEq.refl) rfl) rfl) rfl) rfl) rfl) rfl) rfl) rfl rfl rfl
  · intro hb8
    iterate 6 refine A1 rfl ?_
    exact St.le_fg (fEq.upd (fEq.upd (fEq.upd (fEq.upd (fEq.upd (fEq.upd (fEq.upd (fEq.refl) rfl) rfl) rfl) rfl) rfl) rfl) rfl) rfl rfl rfl
  refine A1 rfl ?_
  repeat refine AW.seq ?_
  refine AW.ret ?_
  exact ⟨_, _, rfl, rfl, rfl⟩
/-- What order.Check says of an order that is right. -/
structure OrdOk (S : Sch) (P : List Int) : Prop where
  val : Valid S
  len : P.length = S.attrs.length
  rng : ∀ p ∈ P, -1 ≤ p ∧ p < P.length
  up : ∀ v, v < P.length → (abv P (v : Int)).isSome = true
  rt : ∀ r ∈ S.rels, rightB P r.2 = true
theorem ordE_zero {S : Sch} {P : List Int} : ordE S P = 0 ↔ checkE S = 0 ∧ OrdOk S P := by
  unfold ordE
  constructor
  · intro h
    split at h
    · rename_i h1; exact absurd h h1
    · rename_i h0
      have h0 : checkE S = 0 := Classical.byContradiction h0
      split at h
      · cases h
      · rename_i h1
        split at h
        · cases h
        · rename_i h2
          split at h
          · cases h
          · rename_i h3
            split at h
            · cases h
            · rename_i h4
              have h1 : P.length = S.attrs.length := Classical.byContradiction h1
              have h2 : (P.any fun p => decide (p < -1) || decide ((P.length : Int) ≤ p)) = false := by simpa using h2
              have h3 : ((List.range P.length).all fun v => (abv P v).isSome) = true := by rw [Bool.not_eq_false] at h3; exact h3
              have h4 : (S.rels.all fun r => rightB P r.2) = true := by simpa using h4
              refine ⟨h0, valid_of h0, h1, fun p hp => ?_, fun v hv => List.all_eq_true.1 h3 v (List.mem_range.2 hv), fun r hr => List.all_eq_true.1 h4 r hr⟩
              have := List.any_eq_false.1 h2 p hp
              simp at this; omega
  · rintro ⟨h0, h⟩
    rw [if_neg (fun e => e h0), if_neg (fun e => e h.len), if_neg, if_neg, if_neg]
    · rw [List.all_eq_true.2 fun r hr => h.rt r hr]; decide
    · rw [List.all_eq_true.2 fun v hv => h.up v (List.mem_range.1 hv)]; decide
    · rw [List.any_eq_true]
      rintro ⟨p, hp, h2⟩
      have := h.rng p hp
      simp at h2; omega
theorem filter_snoc (p : Int → Bool) (k : Nat) : (upZ (k + 1)).filter p = (upZ k).filter p ++ (if p k = true then [(k : Int)] else []) := by
  rw [upZ_succ, List.filter_append]
  congr 1
  by_cases h : p k = true <;> simp [h]
theorem below_spec (P : List Int) (v : Int) (hP : ∀ p ∈ P, p < P.length) (hn : P.length ≤ 1000000) : FnP Tryz.prog 61 [ordP P, .int .i64 v] (· = pints (belowL P v)) := by
  refine FnP.of Tryz.func61 rfl Tryz.ntmps61 (by simp) fun m0 w0 F R0 => ?_
  repeat refine AW.seq ?_
  refine AW.region ?_
  iterate 2 refine A1 rfl ?_
  repeat refine AW.seq ?_
  refine AW.region ?_
  refine A1 rfl ?_
  refine AW.weaken (St.le_gro 5 1 1 3 rfl rfl) ?_
  repeat refine AW.seq ?_
  refine AW.region ?_
  iterate 4 refine A1 rfl ?_
  repeat refine AW.seq ?_
  refine AW.block ?_
  repeat refine AW.seq ?_
  refine AW.loop (st := fun x_0 : Nat × List Int => mkS [(1, .pv (.int .i64 v)), (2, .ptr 0 0), (5, .gsl 1 1 x_0.2.length), (9, .pv (.int .i64 P.length)), (10, .pv (.int .i64 x_0.1))] [(0, .mix 29 [.pv (pints P)]), (1, .gro 3 (intsP x_0.2))] 2)
    (I := fun x_0 => x_0.1 ≤ P.length ∧ x_0.2 = (upZ x_0.1).filter (fun a => a == v || hiB P v a)) (μ := fun x_0 => P.length - x_0.1) (x0 := (0, [])) (St.le_mk ⟨rfl, rfl, rfl, rfl, rfl, trivial⟩ ⟨rfl, rfl, trivial⟩ rfl rfl) (⟨Nat.zero_le _, rfl⟩) ?_
  rintro ⟨k, L⟩ ⟨hk, hL⟩
  try simp only at hk hL ⊢
  repeat refine AW.seq ?_
  refine AW.region ?_
  refine A1 rfl ?_
  repeat refine AW.seq ?_
  refine AW.condP rfl (fun hc11 => ?_) (fun hc11 => ?_)
  · have hlt : k < P.length := by omega
    have hLl : L.length ≤ k := by rw [hL]; exact Nat.le_trans (List.length_filter_le _ _) (by rw [upZ_len]; exact Nat.le_refl _)
    have hsl : (intsP L).length = L.length * 1 := by simp
    have hfs := filter_snoc (fun a => a == v || hiB P v a) k
    refine AW.skip ?_
    repeat refine AW.seq ?_
    refine AW.block ?_
    repeat refine AW.seq ?_
    refine AW.region ?_
    iterate 2 refine A1 rfl ?_
    repeat refine AW.seq ?_
    refine AW.region ?_
    iterate 4 refine A1 rfl ?_
    apply RL.orB 5 16 21 [17, 18, 19, 20] rfl (by first | exact MonoK.le | exact MonoK.aw | exact MonoK.back)
    · intro hb3
      iterate 5 refine A1 rfl ?_
      exact St.le_fg (fEq.upd (fEq.upd (fEq.upd (fEq.upd (fEq.upd (fEq.upd (fEq.refl) rfl) rfl) rfl) rfl) rfl) rfl) rfl rfl rfl
    · intro hb3
      iterate 3 refine A1 rfl ?_
      refine RL.stepG (d := some 20) rfl rfl rfl (xj_call Tryz.call62 (higher_spec P v k (by omega) (by omega) hP hn) rfl) ?_
      refine A1 rfl ?_
      exact St.le_fg (fEq.upd (fEq.upd (fEq.upd (fEq.upd (fEq.upd (fEq.upd (fEq.refl) rfl) rfl) rfl) rfl) rfl) rfl) rfl rfl rfl
    repeat refine AW.seq ?_
    refine AW.cond rfl (fun hc21 => ?_) (fun hc21 => ?_)
    · rw [if_pos hc21, ← hL] at hfs
      repeat refine AW.seq ?_
      refine AW.region ?_
      iterate 5 refine A1 rfl ?_
      repeat refine AW.seq ?_
      refine AW.region ?_
      iterate 2 refine A1 rfl ?_
      exact ⟨(k + 1, L ++ [(k : Int)]), St.le_mkR [0, 3] ⟨rfl, rfl, by simp; rfl, rfl, rfl, trivial⟩ ⟨rfl, congrArg (fun c => some (Ob.gro 3 c)) (ints_snoc L k).symm, trivial⟩ rfl rfl (by decide) rfl, ⟨by simp only; omega, hfs.symm⟩, by simp only; omega⟩
    · rw [if_neg (by rw [hc21]; decide), ← hL, List.append_nil] at hfs
      refine AW.skip ?_
      repeat refine AW.seq ?_
      refine AW.region ?_
      iterate 2 refine A1 rfl ?_
      exact ⟨(k + 1, L), St.le_mk ⟨rfl, rfl, rfl, rfl, rfl, trivial⟩ ⟨rfl, rfl, trivial⟩ rfl rfl, ⟨by simp only; omega, hfs.symm⟩, by simp only; omega⟩
  · repeat refine AW.seq ?_
    refine AW.exit ?_
    refine AW.weaken (St.le_pubA 1 rfl rfl) ?_
    repeat refine AW.seq ?_
    refine AW.region ?_
    iterate 2 refine A1 rfl ?_
    repeat refine AW.seq ?_
    refine AW.ret ?_
    exact ⟨_, _, rfl, rfl, by rw [show belowL P v = L by rw [hL, show k = P.length by omega]; rfl]; simp [tk_all]; rfl⟩
theorem belowU_spec (S : Sch) (hS : SB S) (P : List Int) (hn : P.length ≤ 1000000) (v : Int) : FnP Tryz.prog 29 [schP S, ordP P, .int .i64 v] (· = pints (if isB S P v = true then belowL P v else [])) := by
  refine FnP.of Tryz.func29 rfl Tryz.ntmps29 (by simp) fun m0 w0 F R0 => ?_
  repeat refine AW.seq ?_
  refine AW.region ?_
  iterate 3 refine A1 rfl ?_
  repeat refine AW.seq ?_
  refine AW.region ?_
  iterate 3 refine A1 rfl ?_
  refine RL.step (d := some 10) rfl rfl (xj_call Tryz.call60 (is_spec S hS P hn v) rfl) ?_
  refine A1 rfl ?_
  repeat refine AW.seq ?_
  refine AW.cond rfl (fun hc11 => ?_) (fun hc11 => ?_)
  · repeat refine AW.seq ?_
    refine AW.region ?_
    refine A1 rfl ?_
    refine AW.weaken (St.le_fgS [6]) ?_
    repeat refine AW.seq ?_
    refine AW.ret ?_
    exact ⟨_, _, rfl, rfl, by rw [if_neg (by simpa using hc11)]; rfl⟩
  · have hi : isB S P v = true := by simpa using hc11
    have hok := (ordE_zero.1 (isB_iff.1 hi).1).2
    refine AW.skip ?_
    repeat refine AW.seq ?_
    refine AW.region ?_
    iterate 2 refine A1 rfl ?_
    refine RL.step (d := some 14) rfl rfl (xj_call Tryz.call61 (below_spec P v (fun p hp => (hok.rng p hp).2) hn) rfl) ?_
    refine A1 rfl ?_
    repeat refine AW.seq ?_
    refine AW.ret ?_
    exact ⟨_, _, rfl, rfl, by rw [if_pos hi]; rfl⟩
theorem has_spec (r : ByteArray × List Int) (a : Int) (hl : r.2.length ≤ 1000000) : FnP Tryz.prog 89 [relP r, .int .i64 a] (· = .bool (decide (a ∈ r.2))) := by
  refine FnP.of Tryz.func89 rfl Tryz.ntmps89 (by simp) fun m0 w0 F R0 => ?_
  repeat refine AW.seq ?_
  refine AW.region ?_
  iterate 2 refine A1 rfl ?_
  repeat refine AW.seq ?_
  refine AW.region ?_
  iterate 3 refine A1 rfl ?_
  refine RL.step (d := some 8) rfl rfl (xj_call Tryz.call49 (contains_spec r.2 a (by omega)) rfl) ?_
  refine A1 rfl ?_
  repeat refine AW.seq ?_
  refine AW.ret ?_
  exact ⟨_, _, rfl, rfl, rfl⟩
theorem link1_spec (r : ByteArray × List Int) (a b : Int) (hl : r.2.length ≤ 1000000) : FnP Tryz.prog 88 [relP r, .rp [.int .i64 a] 0, .rp [.int .i64 b] 0] (· = .bool (decide (a ∈ r.2) && decide (b ∈ r.2))) := by
  refine FnP.of Tryz.func88 rfl Tryz.ntmps88 (by simp) fun m0 w0 F R0 => ?_
  repeat refine AW.seq ?_
  refine AW.region ?_
  iterate 2 refine A1 rfl ?_
  repeat refine AW.seq ?_
  refine AW.region ?_
  refine A1 rfl ?_
  first | refine A1 rfl ?_ | refine A2 rfl (by assumption) ?_
  refine RL.step (d := some 7) rfl rfl (xj_call Tryz.call89 (has_spec r a hl) rfl) ?_
  refine A1 rfl ?_
  apply RL.andB 4 8 12 [9, 10, 11] rfl (by first | exact MonoK.le | exact MonoK.aw | exact MonoK.back)
  · intro hb3
    refine A1 rfl ?_
    first | refine A1 rfl ?_ | refine A2 rfl (by assumption) ?_
    refine RL.stepG (d := some 11) rfl rfl rfl (xj_call Tryz.call89 (has_spec r b hl) rfl) ?_
    refine A1 rfl ?_
    exact St.le_fg (fEq.upd (fEq.upd (fEq.upd (fEq.upd (fEq.upd (fEq.refl) rfl) rfl) rfl) rfl) rfl) rfl rfl rfl
  · intro hb3
    iterate 4 refine A1 rfl ?_
    exact St.le_fg (fEq.upd (fEq.upd (fEq.upd (fEq.upd (fEq.upd (fEq.refl) rfl) rfl) rfl) rfl) rfl) rfl rfl rfl
  refine A1 rfl ?_
  repeat refine AW.seq ?_
  refine AW.ret ?_
  exact ⟨_, _, rfl, rfl, rfl⟩
theorem linked_spec (S : Sch) (hS : SB S) (h0 : checkE S = 0) (a b : Int) : FnP Tryz.prog 79 [schP S, .int .i64 a, .int .i64 b] (· = .bool (linkB S a b)) := by
  refine FnP.of Tryz.func79 rfl Tryz.ntmps79 (by simp) fun m0 w0 F R0 => ?_
  have hal : ∀ r ∈ S.rels, FnP Tryz.prog 88 ([] ++ [relP r] ++ [.rp [.int .i64 a] 0, .rp [.int .i64 b] 0]) (· = .bool (decide (a ∈ r.2) && decide (b ∈ r.2))) := fun r hr => link1_spec r a b (hS.rl r hr)
  repeat refine AW.seq ?_
  refine AW.region ?_
  iterate 4 refine A1 rfl ?_
  refine AW.weaken (St.le_ppA 1 rfl rfl) ?_
  refine AW.weaken (St.le_ppA 2 rfl rfl) ?_
  repeat refine AW.seq ?_
  refine AW.region ?_
  refine A1 rfl ?_
  refine RL.step (d := some 8) rfl rfl (xj_call Tryz.call42 (chk_spec S hS) rfl) ?_
  iterate 2 refine A1 rfl ?_
  apply RL.andB 5 10 15 [11, 12, 13, 14] rfl (by first | exact MonoK.le | exact MonoK.aw | exact MonoK.back)
  · intro hb3
    iterate 3 refine A1 rfl ?_
    refine RL.stepG (d := some 14) rfl rfl rfl (xj_call Tryz.call53 (containsR_spec S.rels 88 [.rp [.int .i64 a] 0, .rp [.int .i64 b] 0] (fun r => decide (a ∈ r.2) && decide (b ∈ r.2)) hS.r Tryz.call88 hal) rfl) ?_
    refine A1 rfl ?_
    exact St.le_fg (fEq.upd (fEq.upd (fEq.upd (fEq.upd (fEq.upd (fEq.upd (fEq.refl) rfl) rfl) rfl) rfl) rfl) rfl) rfl rfl rfl
  · intro hb3
    iterate 5 refine A1 rfl ?_
    exact St.le_fg (fEq.upd (fEq.upd (fEq.upd (fEq.upd (fEq.upd (fEq.upd (fEq.refl) rfl) rfl) rfl) rfl) rfl) rfl) rfl rfl rfl
  refine A1 rfl ?_
  repeat refine AW.seq ?_
  refine AW.ret ?_
  exact ⟨_, _, rfl, rfl, congrArg PV.bool (by rw [h0]; exact Bool.true_and _)⟩
theorem idxI_spec (l : List Int) (g : FuncId) (caps : List PV) (p : Int → Bool) (hl : l.length ≤ 1000000) (hc : CallOk Tryz.prog g) (hg : ∀ f ∈ l, FnP Tryz.prog g ([] ++ [.int .i64 f] ++ caps) (· = .bool (p f))) :
    FnP Tryz.prog 87 [pints l, .fn (.func g) [] caps] (fun v => ∃ i : Int, v = .int .i64 i ∧ decide (0 ≤ i) = l.any p) := by
  refine FnP.of Tryz.func87 rfl Tryz.ntmps87 (by simp) fun m0 w0 F R0 => ?_
  repeat refine AW.seq ?_
  refine AW.region ?_
  refine A1 rfl ?_
  repeat refine AW.seq ?_
  refine AW.region ?_
  iterate 3 refine A1 rfl ?_
  repeat refine AW.seq ?_
  refine AW.block ?_
  repeat refine AW.seq ?_
  refine AW.loop (st := fun x_0 : Nat => mkS [(0, .pv (pints l)), (1, .pv (.fn (.func g) [] caps)), (7, .pv (.int .i64 l.length)), (8, .pv (.int .i64 x_0))] [] 0)
    (I := fun x_0 => x_0 ≤ l.length ∧ (l.take x_0).any p = false) (μ := fun x_0 => l.length - x_0) (x0 := (0)) (St.le_mk ⟨rfl, rfl, rfl, rfl, trivial⟩ trivial rfl rfl) (⟨Nat.zero_le _, rfl⟩) ?_
  rintro k ⟨hk, hno⟩
  repeat refine AW.seq ?_
  refine AW.region ?_
  refine A1 rfl ?_
  repeat refine AW.seq ?_
  refine AW.condP rfl (fun hc9 => ?_) (fun hc9 => ?_)
  · have hlt : k < l.length := by omega
    have hv := pints_at hlt
    have hne := pints_ne hlt
    have hgk := hg _ (List.getElem_mem hlt)
    refine AW.skip ?_
    repeat refine AW.seq ?_
    refine AW.block ?_
    repeat refine AW.seq ?_
    refine AW.region ?_
    iterate 2 refine A1 rfl ?_
    repeat refine AW.seq ?_
    refine AW.region ?_
    iterate 4 refine A1 rfl ?_
    first | refine A2 rfl (by assumption) ?_ | refine A1 rfl ?_
    refine RL.step (d := some 16) rfl rfl (xj_callV hc rfl hgk rfl) ?_
    repeat refine AW.seq ?_
    refine AW.cond rfl (fun hc16 => ?_) (fun hc16 => ?_)
    · repeat refine AW.seq ?_
      refine AW.region ?_
      iterate 2 refine A1 rfl ?_
      repeat refine AW.seq ?_
      refine AW.ret ?_
      exact ⟨_, _, rfl, rfl, _, rfl, by rw [any_at hlt hc16]; exact decide_eq_true (by omega)⟩
    · refine AW.skip ?_
      repeat refine AW.seq ?_
      refine AW.region ?_
      iterate 2 refine A1 rfl ?_
      exact ⟨(k + 1), St.le_mk ⟨rfl, rfl, rfl, rfl, trivial⟩ trivial rfl rfl, ⟨by omega, any_take hlt hno hc16⟩, by omega⟩
  · repeat refine AW.seq ?_
    refine AW.exit ?_
    repeat refine AW.seq ?_
    refine AW.region ?_
    refine A1 rfl ?_
    repeat refine AW.seq ?_
    refine AW.ret ?_
    exact ⟨_, _, rfl, rfl, _, rfl, by rw [List.take_of_length_le (by omega)] at hno; rw [hno]; rfl⟩
theorem containsI_spec (l : List Int) (g : FuncId) (caps : List PV) (p : Int → Bool) (hl : l.length ≤ 1000000) (hc : CallOk Tryz.prog g) (hg : ∀ f ∈ l, FnP Tryz.prog g ([] ++ [.int .i64 f] ++ caps) (· = .bool (p f))) :
    FnP Tryz.prog 77 [pints l, .fn (.func g) [] caps] (· = .bool (l.any p)) := by
  refine FnP.of Tryz.func77 rfl Tryz.ntmps77 (by simp) fun m0 w0 F R0 => ?_
  repeat refine AW.seq ?_
  refine AW.region ?_
  refine A1 rfl ?_
  repeat refine AW.seq ?_
  refine AW.region ?_
  iterate 2 refine A1 rfl ?_
  refine RL.call rfl (oj_call Tryz.call87 (idxI_spec l g caps p hl hc hg) rfl ?_)
  rintro _ ⟨i, rfl, hi⟩
  iterate 2 refine A1 rfl ?_
  repeat refine AW.seq ?_
  refine AW.ret ?_
  exact ⟨_, _, rfl, rfl, congrArg PV.bool hi⟩
theorem key1_spec (S : Sch) (hS : SB S) (h0 : checkE S = 0) (a b : Int) : FnP Tryz.prog 78 [.int .i64 b, .rp (schC S) 0, .rp [.int .i64 a] 0] (· = .bool (linkB S a b)) := by
  refine FnP.of Tryz.func78 rfl Tryz.ntmps78 (by simp) fun m0 w0 F R0 => ?_
  repeat refine AW.seq ?_
  refine AW.region ?_
  refine A1 rfl ?_
  repeat refine AW.seq ?_
  refine AW.region ?_
  first | refine A1 rfl ?_ | refine A3 rfl (by assumption) ?_
  first | refine A1 rfl ?_ | refine A2 rfl (by assumption) ?_
  refine A1 rfl ?_
  refine RL.step (d := some 8) rfl rfl (xj_call Tryz.call79 (linked_spec S hS h0 a b) rfl) ?_
  refine A1 rfl ?_
  repeat refine AW.seq ?_
  refine AW.ret ?_
  exact ⟨_, _, rfl, rfl, rfl⟩
theorem ins0_spec : FnP Tryz.prog 97 [pints [], .int .i64 0, .int .i64 0] (· = .tup []) := by
  refine FnP.of Tryz.func97 rfl Tryz.ntmps97 (by simp) fun m0 w0 F R0 => ?_
  repeat refine AW.seq ?_
  refine AW.region ?_
  iterate 3 refine A1 rfl ?_
  repeat refine AW.seq ?_
  refine AW.block ?_
  repeat refine AW.seq ?_
  refine AW.loop (st := fun x_0 : Unit => mkS [(0, .pv (pints [])), (1, .pv (.int .i64 0)), (2, .pv (.int .i64 0)), (6, .pv (.int .i64 1))] [] 0)
    (I := fun x_0 => True) (μ := fun x_0 => 0) (x0 := (())) (St.le_mk ⟨rfl, rfl, rfl, rfl, trivial⟩ trivial rfl rfl) (trivial) ?_
  rintro u hI
  repeat refine AW.seq ?_
  refine AW.region ?_
  iterate 3 refine A1 rfl ?_
  repeat refine AW.seq ?_
  refine AW.condP rfl (fun hc12 => absurd hc12 (by omega)) (fun hc12 => ?_)
  repeat refine AW.seq ?_
  refine AW.exit ?_
  exact ⟨[], _, rfl, rfl, rfl⟩
theorem pdq0_spec (e : Int) : FnP Tryz.prog 90 [pints [], .int .i64 0, .int .i64 0, .int .i64 e] (· = .tup []) := by
  refine FnP.of Tryz.func90 rfl Tryz.ntmps90 (by simp) fun m0 w0 F R0 => ?_
  repeat refine AW.seq ?_
  refine AW.region ?_
  refine A1 rfl ?_
  repeat refine AW.seq ?_
  refine AW.region ?_
  refine A1 rfl ?_
  repeat refine AW.seq ?_
  refine AW.block ?_
  repeat refine AW.seq ?_
  refine AW.loop (st := fun x_0 : Unit => mkS [(0, .pv (pints [])), (1, .pv (.int .i64 0)), (2, .pv (.int .i64 0)), (3, .pv (.int .i64 e)), (8, .pv (.bool true)), (9, .pv (.bool true))] [] 0)
    (I := fun x_0 => True) (μ := fun x_0 => 0) (x0 := (())) (St.le_mk ⟨rfl, rfl, rfl, rfl, rfl, rfl, trivial⟩ trivial rfl rfl) (trivial) ?_
  rintro u hI
  repeat refine AW.seq ?_
  refine AW.block ?_
  repeat refine AW.seq ?_
  refine AW.region ?_
  iterate 4 refine A1 rfl ?_
  repeat refine AW.seq ?_
  refine AW.region ?_
  iterate 2 refine A1 rfl ?_
  repeat refine AW.seq ?_
  refine AW.condP rfl (fun hc23 => ?_) (fun hc23 => absurd hc23 (fun h => h (by omega)))
  repeat refine AW.seq ?_
  refine AW.region ?_
  iterate 3 refine A1 rfl ?_
  refine RL.step (d := some 27) rfl rfl (xj_call Tryz.call97 ins0_spec rfl) ?_
  repeat refine AW.seq ?_
  refine AW.ret ?_
  exact ⟨[], _, rfl, rfl, rfl⟩
theorem sort0_spec : FnP Tryz.prog 80 [pints []] (· = .tup []) := by
  refine FnP.of Tryz.func80 rfl Tryz.ntmps80 (by simp) fun m0 w0 F R0 => ?_
  repeat refine AW.seq ?_
  refine AW.region ?_
  iterate 3 refine A1 rfl ?_
  repeat refine AW.seq ?_
  refine AW.region ?_
  iterate 4 refine A1 rfl ?_
  refine RL.call rfl (oj_call Tryz.call91 (len_spec 0 (by omega)) rfl ?_)
  rintro _ ⟨e, rfl⟩
  refine RL.step (d := some 10) rfl rfl (xj_call Tryz.call90 (pdq0_spec e) rfl) ?_
  exact ⟨[], _, rfl, rfl, rfl⟩
def keyL (S : Sch) (P : List Int) (v : Int) : List Int := sortI (keyU S P v)
theorem key_spec (S : Sch) (hS : SB S) (h0 : checkE S = 0) (P : List Int) (hP : ∀ p ∈ P, p < P.length) (hn : P.length ≤ 12) (v : Nat) (hv : v < P.length) : FnP Tryz.prog 51 [schP S, ordP P, .int .i64 v] (· = pints (keyL S P v)) := by
  refine FnP.of Tryz.func51 rfl Tryz.ntmps51 (by simp) fun m0 w0 F R0 => ?_
  have hUl := abvL_len P v
  have hBl : (belowL P v).length ≤ 12 := Nat.le_trans (List.length_filter_le _ _) (by simp; omega)
  repeat refine AW.seq ?_
  refine AW.region ?_
  iterate 3 refine A1 rfl ?_
  repeat refine AW.seq ?_
  refine AW.region ?_
  iterate 2 refine A1 rfl ?_
  refine RL.step (d := some 15) rfl rfl (xj_call Tryz.call61 (below_spec P v hP (by omega)) rfl) ?_
  refine A1 rfl ?_
  repeat refine AW.seq ?_
  refine AW.region ?_
  refine A1 rfl ?_
  refine AW.weaken (St.le_gro 8 2 1 3 rfl rfl) ?_
  repeat refine AW.seq ?_
  refine AW.region ?_
  iterate 2 refine A1 rfl ?_
  refine RL.step (d := some 19) rfl rfl (xj_call Tryz.call52 (above_spec P v hv hP (by omega)) rfl) ?_
  iterate 5 refine A1 rfl ?_
  refine AW.weaken (St.le_ppA 0 rfl rfl) ?_
  repeat refine AW.seq ?_
  refine AW.region ?_
  iterate 3 refine A1 rfl ?_
  repeat refine AW.seq ?_
  refine AW.block ?_
  repeat refine AW.seq ?_
  refine AW.loop (st := fun x_0 : Nat × List Int => mkS [(3, .pv (.rp (schC S) 0)), (7, .pv (pints (belowL P v))), (8, .gsl 2 1 x_0.2.length), (22, .pv (pints (abvL P v))), (23, .pv (.int .i64 (abvL P v).length)), (24, .pv (.int .i64 x_0.1))] [(2, .gro 3 (intsP x_0.2))] 3)
    (I := fun x_0 => x_0.1 ≤ (abvL P v).length ∧ x_0.2 = ((abvL P v).take x_0.1).filter (fun a => (belowL P v).any fun b => linkB S a b)) (μ := fun x_0 => (abvL P v).length - x_0.1) (x0 := (0, [])) (St.le_mk ⟨rfl, rfl, rfl, rfl, rfl, rfl, trivial⟩ ⟨rfl, trivial⟩ rfl rfl) (⟨Nat.zero_le _, rfl⟩) ?_
  rintro ⟨k, L⟩ ⟨hk, hL⟩
  try simp only at hk hL ⊢
  repeat refine AW.seq ?_
  refine AW.region ?_
  refine A1 rfl ?_
  repeat refine AW.seq ?_
  refine AW.condP rfl (fun hc25 => ?_) (fun hc25 => ?_)
  · have hlt : k < (abvL P v).length := by omega
    have hva := pints_at hlt
    have hne := pints_ne hlt
    have hLl : L.length ≤ k := by rw [hL]; exact Nat.le_trans (List.length_filter_le _ _) (by simp; omega)
    have hsl : (intsP L).length = L.length * 1 := by simp
    have hfs : ((abvL P v).take (k + 1)).filter (fun a => (belowL P v).any fun b => linkB S a b) = L ++ (if ((belowL P v).any fun b => linkB S (abvL P v)[k] b) = true then [(abvL P v)[k]] else []) := by rw [take_snoc hlt, List.filter_append, ← hL]; congr 1; by_cases h : ((belowL P v).any fun b => linkB S (abvL P v)[k] b) = true <;> simp [h]
    refine AW.skip ?_
    repeat refine AW.seq ?_
    refine AW.block ?_
    repeat refine AW.seq ?_
    refine AW.region ?_
    refine A1 rfl ?_
    first | refine A2 rfl (by assumption) ?_ | refine A1 rfl ?_
    iterate 2 refine A1 rfl ?_
    refine AW.weaken (St.le_ppA 3 rfl rfl) ?_
    repeat refine AW.seq ?_
    refine AW.region ?_
    iterate 2 refine A1 rfl ?_
    refine RL.step (d := some 30) rfl rfl (xj_call Tryz.call77 (containsI_spec (belowL P v) 78 [.rp (schC S) 0, .rp [.int .i64 (abvL P v)[k]] 0] (fun b => linkB S (abvL P v)[k] b) (by omega) Tryz.call78 (fun b _ => key1_spec S hS h0 (abvL P v)[k] b)) rfl) ?_
    repeat refine AW.seq ?_
    refine AW.cond rfl (fun hc30 => ?_) (fun hc30 => ?_)
    · rw [if_pos hc30] at hfs
      repeat refine AW.seq ?_
      refine AW.region ?_
      iterate 5 refine A1 rfl ?_
      repeat refine AW.seq ?_
      refine AW.region ?_
      iterate 2 refine A1 rfl ?_
      exact ⟨(k + 1, L ++ [(abvL P v)[k]]), St.le_mkR [0, 1, 5] ⟨rfl, rfl, by simp; rfl, rfl, rfl, rfl, trivial⟩ ⟨congrArg (fun c => some (Ob.gro 3 c)) (ints_snoc L _).symm, trivial⟩ rfl rfl (by decide) rfl, ⟨by simp only; omega, hfs.symm⟩, by simp only; omega⟩
    · rw [if_neg (by rw [hc30]; decide), List.append_nil] at hfs
      refine AW.skip ?_
      repeat refine AW.seq ?_
      refine AW.region ?_
      iterate 2 refine A1 rfl ?_
      exact ⟨(k + 1, L), St.le_mk ⟨rfl, rfl, rfl, rfl, rfl, rfl, trivial⟩ ⟨rfl, trivial⟩ rfl rfl, ⟨by simp only; omega, hfs.symm⟩, by simp only; omega⟩
  · have hLe : L = keyU S P v := by rw [hL, List.take_of_length_le (by omega)]; rfl
    have hLl : L.length ≤ 12 := by rw [hLe]; exact Nat.le_trans (List.length_filter_le _ _) (by omega)
    repeat refine AW.seq ?_
    refine AW.exit ?_
    by_cases h : L = []
    · subst h
      refine AW.weaken (St.le_pubA 2 rfl rfl) ?_
      repeat refine AW.seq ?_
      refine AW.region ?_
      refine A1 rfl ?_
      refine RL.step (d := some 37) rfl rfl (xj_call Tryz.call80 sort0_spec rfl) ?_
      repeat refine AW.seq ?_
      refine AW.region ?_
      iterate 2 refine A1 rfl ?_
      repeat refine AW.seq ?_
      refine AW.ret ?_
      exact ⟨_, _, rfl, rfl, by unfold keyL; rw [← hLe, show sortI [] = [] by simp [sortI]]; rfl⟩
    · refine AW.weaken (St.le_own 8 rfl rfl (by cases L with | nil => exact absurd rfl h | cons a l => simp) (by simpa using h)) ?_
      repeat refine AW.seq ?_
      refine AW.region ?_
      refine A1 rfl ?_
      refine RL.call rfl (oj_callF1 [2] 3 Tryz.call80 (sort_spec L L.length rfl hLl) rfl rfl rfl rfl ⟨rfl, trivial⟩ (by decide) rfl ?_)
      rintro _ _ ⟨rfl, rfl⟩
      refine AW.weaken (St.le_pubA 2 rfl rfl) ?_
      repeat refine AW.seq ?_
      refine AW.region ?_
      iterate 2 refine A1 rfl ?_
      refine AW.weaken (St.le_fgS [6]) ?_
      repeat refine AW.seq ?_
      refine AW.ret ?_
      exact ⟨_, _, rfl, rfl, by unfold keyL; rw [← hLe]; show PV.sl none L.length (intsP (sortI L)) = _; rw [← (sortI_perm L).length_eq]⟩
theorem keyU_spec (S : Sch) (hS : SB S) (P : List Int) (hn : P.length ≤ 1000000) (v : Int) : FnP Tryz.prog 27 [schP S, ordP P, .int .i64 v] (· = pints (if isB S P v = true then keyL S P v else [])) := by
  refine FnP.of Tryz.func27 rfl Tryz.ntmps27 (by simp) fun m0 w0 F R0 => ?_
  repeat refine AW.seq ?_
  refine AW.region ?_
  iterate 3 refine A1 rfl ?_
  repeat refine AW.seq ?_
  refine AW.region ?_
  iterate 3 refine A1 rfl ?_
  refine RL.step (d := some 10) rfl rfl (xj_call Tryz.call60 (is_spec S hS P hn v) rfl) ?_
  refine A1 rfl ?_
  repeat refine AW.seq ?_
  refine AW.cond rfl (fun hc11 => ?_) (fun hc11 => ?_)
  · repeat refine AW.seq ?_
    refine AW.region ?_
    refine A1 rfl ?_
    refine AW.weaken (St.le_fgS [6]) ?_
    repeat refine AW.seq ?_
    refine AW.ret ?_
    exact ⟨_, _, rfl, rfl, by rw [if_neg (by simpa using hc11)]; rfl⟩
  · have hi : isB S P v = true := by simpa using hc11
    have hi2 := isB_iff.1 hi
    have hok := ordE_zero.1 hi2.1
    obtain ⟨a, rfl⟩ := Int.eq_ofNat_of_zero_le hi2.2.1
    have hks := key_spec S hS hok.1 P (fun p hp => (hok.2.rng p hp).2) (by rw [hok.2.len]; exact hok.2.val.n2) a (by omega)
    refine AW.skip ?_
    repeat refine AW.seq ?_
    refine AW.region ?_
    iterate 3 refine A1 rfl ?_
    refine RL.step (d := some 15) rfl rfl (xj_call Tryz.call51 hks rfl) ?_
    refine A1 rfl ?_
    repeat refine AW.seq ?_
    refine AW.ret ?_
    exact ⟨_, _, rfl, rfl, by rw [if_pos hi]; rfl⟩
end Go.Proofs.YtkalgjnhaicabaaGreat
namespace Go.Proofs.YtkalgjnhaicabaaGreat
open Go.RowKit Mk
set_option maxRecDepth 100000
set_option maxHeartbeats 1000000
def childL (P : List Int) (v : Int) : List Int := (upZ P.length).filter fun a => P.getD a.toNat 0 == v
def badB (S : Sch) (P : List Int) (v : Int) : Bool := (v != -1 && !isB S P v) || (ordE S P != 0)
theorem children_spec (S : Sch) (hS : SB S) (P : List Int) (hn : P.length ≤ 1000000) (v : Int) : FnP Tryz.prog 31 [schP S, ordP P, .int .i64 v] (· = pints (if badB S P v = true then [] else childL P v)) := by
  refine FnP.of Tryz.func31 rfl Tryz.ntmps31 (by simp) fun m0 w0 F R0 => ?_
  repeat refine AW.seq ?_
  refine AW.region ?_
  iterate 3 refine A1 rfl ?_
  repeat refine AW.seq ?_
  refine AW.region ?_
  iterate 3 refine A1 rfl ?_
  apply RL.andB 6 12 18 [13, 14, 15, 16, 17] rfl (by first | exact MonoK.le | exact MonoK.aw | exact MonoK.back)
  · intro hb2
    iterate 3 refine A1 rfl ?_
    refine RL.stepG (d := some 16) rfl rfl rfl (xj_call Tryz.call60 (is_spec S hS P hn v) rfl) ?_
    iterate 2 refine A1 rfl ?_
    exact St.le_fg (fEq.upd (fEq.upd (fEq.upd (fEq.upd (fEq.upd (fEq.upd (fEq.upd (fEq.refl) rfl) rfl) rfl) rfl) rfl) rfl) rfl) rfl rfl rfl
  · intro hb2
    iterate 6 refine A1 rfl ?_
    exact St.le_fg (fEq.upd (fEq.upd (fEq.upd (fEq.upd (fEq.upd (fEq.upd (fEq.upd (fEq.refl) rfl) rfl) rfl) rfl) rfl) rfl) rfl) rfl rfl rfl
  refine A1 rfl ?_
  apply RL.orB 5 19 24 [20, 21, 22, 23] rfl (by first | exact MonoK.le | exact MonoK.aw | exact MonoK.back)
  · intro hb9
    iterate 5 refine A1 rfl ?_
    exact St.le_fg (fEq.upd (fEq.upd (fEq.upd (fEq.upd (fEq.upd (fEq.upd (fEq.refl) rfl) rfl) rfl) rfl) rfl) rfl) rfl rfl rfl
  · intro hb9
    iterate 2 refine A1 rfl ?_
    refine RL.stepG (d := some 22) rfl rfl rfl (xj_call Tryz.call22 (ocheck_spec S hS P hn) rfl) ?_
    iterate 2 refine A1 rfl ?_
    exact St.le_fg (fEq.upd (fEq.upd (fEq.upd (fEq.upd (fEq.upd (fEq.upd (fEq.refl) rfl) rfl) rfl) rfl) rfl) rfl) rfl rfl rfl
  repeat refine AW.seq ?_
  refine AW.cond rfl (fun hc24 => ?_) (fun hc24 => ?_)
  · repeat refine AW.seq ?_
    refine AW.region ?_
    refine A1 rfl ?_
    refine AW.weaken (St.le_fgS [6]) ?_
    repeat refine AW.seq ?_
    refine AW.ret ?_
    exact ⟨_, _, rfl, rfl, by unfold badB; rw [if_pos hc24]; rfl⟩
  · refine AW.skip ?_
    repeat refine AW.seq ?_
    refine AW.region ?_
    refine A1 rfl ?_
    refine AW.weaken (St.le_gro 7 2 1 3 rfl rfl) ?_
    repeat refine AW.seq ?_
    refine AW.region ?_
    iterate 4 refine A1 rfl ?_
    repeat refine AW.seq ?_
    refine AW.block ?_
    repeat refine AW.seq ?_
    refine AW.loop (st := fun x_0 : Nat × List Int => mkS [(2, .pv (.int .i64 v)), (7, .gsl 2 1 x_0.2.length), (26, .pv (pints P)), (27, .pv (.int .i64 P.length)), (28, .pv (.int .i64 x_0.1))] [(2, .gro 3 (intsP x_0.2))] 3)
      (I := fun x_0 => x_0.1 ≤ P.length ∧ x_0.2 = (upZ x_0.1).filter (fun a => P.getD a.toNat 0 == v)) (μ := fun x_0 => P.length - x_0.1) (x0 := (0, [])) (St.le_mk ⟨rfl, rfl, rfl, rfl, rfl, trivial⟩ ⟨rfl, trivial⟩ rfl rfl) (⟨Nat.zero_le _, rfl⟩) ?_
    rintro ⟨k, L⟩ ⟨hk, hL⟩
    try simp only at hk hL ⊢
    repeat refine AW.seq ?_
    refine AW.region ?_
    refine A1 rfl ?_
    repeat refine AW.seq ?_
    refine AW.condP rfl (fun hc29 => ?_) (fun hc29 => ?_)
    · have hlt : k < P.length := by omega
      have hva := pints_at hlt
      have hne := pints_ne hlt
      have hLl : L.length ≤ k := by rw [hL]; exact Nat.le_trans (List.length_filter_le _ _) (by rw [upZ_len]; exact Nat.le_refl _)
      have hsl : (intsP L).length = L.length * 1 := by simp
      have hfs := filter_snoc (fun a => P.getD a.toNat 0 == v) k
      have hgd : P.getD (k : Int).toNat 0 = P[k] := by simp [List.getD, hlt]
      rw [hgd] at hfs
      refine AW.skip ?_
      repeat refine AW.seq ?_
      refine AW.block ?_
      repeat refine AW.seq ?_
      refine AW.region ?_
      iterate 2 refine A1 rfl ?_
      first | refine A2 rfl (by assumption) ?_ | refine A1 rfl ?_
      iterate 2 refine A1 rfl ?_
      repeat refine AW.seq ?_
      refine AW.region ?_
      iterate 3 refine A1 rfl ?_
      repeat refine AW.seq ?_
      refine AW.cond rfl (fun hc35 => ?_) (fun hc35 => ?_)
      · rw [if_pos hc35, ← hL] at hfs
        repeat refine AW.seq ?_
        refine AW.region ?_
        iterate 5 refine A1 rfl ?_
        repeat refine AW.seq ?_
        refine AW.region ?_
        iterate 2 refine A1 rfl ?_
        exact ⟨(k + 1, L ++ [(k : Int)]), St.le_mkR [0, 1, 4] ⟨rfl, by simp; rfl, rfl, rfl, rfl, trivial⟩ ⟨congrArg (fun c => some (Ob.gro 3 c)) (ints_snoc L k).symm, trivial⟩ rfl rfl (by decide) rfl, ⟨by simp only; omega, hfs.symm⟩, by simp only; omega⟩
      · rw [if_neg (by rw [hc35]; decide), ← hL, List.append_nil] at hfs
        refine AW.skip ?_
        repeat refine AW.seq ?_
        refine AW.region ?_
        iterate 2 refine A1 rfl ?_
        exact ⟨(k + 1, L), St.le_mk ⟨rfl, rfl, rfl, rfl, rfl, trivial⟩ ⟨rfl, trivial⟩ rfl rfl, ⟨by simp only; omega, hfs.symm⟩, by simp only; omega⟩
    · repeat refine AW.seq ?_
      refine AW.exit ?_
      refine AW.weaken (St.le_pubA 2 rfl rfl) ?_
      repeat refine AW.seq ?_
      refine AW.region ?_
      iterate 2 refine A1 rfl ?_
      repeat refine AW.seq ?_
      refine AW.ret ?_
      exact ⟨_, _, rfl, rfl, by unfold badB; rw [if_neg (by rw [hc24]; decide), show childL P v = L by rw [hL, show k = P.length by omega]; rfl]; simp [tk_all]; rfl⟩
def homeF (P : List Int) (h a : Int) : Int := if hiB P h a = true then a else h
def homeL (P : List Int) (l : List Int) : Int := l.foldl (homeF P) (l.getD 0 0)
def noRel (S : Sch) (P : List Int) (r : Int) : Bool := ((ordE S P != 0) || decide (r < 0)) || decide (r ≥ S.rels.length)
theorem home_spec (S : Sch) (hS : SB S) (P : List Int) (hn : P.length ≤ 1000000) (r : Int) : FnP Tryz.prog 33 [schP S, ordP P, .int .i64 r] (· = .int .i64 (if noRel S P r = true then -1 else homeL P (S.rels.getD r.toNat default).2)) := by
  refine FnP.of Tryz.func33 rfl Tryz.ntmps33 (by simp) fun m0 w0 F R0 => ?_
  repeat refine AW.seq ?_
  refine AW.region ?_
  iterate 3 refine A1 rfl ?_
  repeat refine AW.seq ?_
  refine AW.region ?_
  iterate 2 refine A1 rfl ?_
  refine RL.step (d := some 13) rfl rfl (xj_call Tryz.call22 (ocheck_spec S hS P hn) rfl) ?_
  iterate 2 refine A1 rfl ?_
  apply RL.orB 3 15 18 [16, 17] rfl (by first | exact MonoK.le | exact MonoK.aw | exact MonoK.back)
  · intro hb4
    iterate 3 refine A1 rfl ?_
    exact St.le_fg (fEq.upd (fEq.upd (fEq.upd (fEq.upd (fEq.refl) rfl) rfl) rfl) rfl) rfl rfl rfl
  · intro hb4
    iterate 3 refine A1 rfl ?_
    exact St.le_fg (fEq.upd (fEq.upd (fEq.upd (fEq.upd (fEq.refl) rfl) rfl) rfl) rfl) rfl rfl rfl
  refine A1 rfl ?_
  apply RL.orB 6 19 25 [20, 21, 22, 23, 24] rfl (by first | exact MonoK.le | exact MonoK.aw | exact MonoK.back)
  · intro hb8
    iterate 6 refine A1 rfl ?_
    exact St.le_fg (fEq.upd (fEq.upd (fEq.upd (fEq.upd (fEq.upd (fEq.upd (fEq.upd (fEq.refl) rfl) rfl) rfl) rfl) rfl) rfl) rfl) rfl rfl rfl
  · intro hb8
    iterate 6 refine A1 rfl ?_
    exact St.le_fg (fEq.upd (fEq.upd (fEq.upd (fEq.upd (fEq.upd (fEq.upd (fEq.upd (fEq.refl) rfl) rfl) rfl) rfl) rfl) rfl) rfl) rfl rfl rfl
  repeat refine AW.seq ?_
  refine AW.cond rfl (fun hc25 => ?_) (fun hc25 => ?_)
  · repeat refine AW.seq ?_
    refine AW.region ?_
    refine A1 rfl ?_
    repeat refine AW.seq ?_
    refine AW.ret ?_
    exact ⟨_, _, rfl, rfl, by unfold noRel; rw [if_pos hc25]; rfl⟩
  · have hno : noRel S P r = false := hc25
    have h3 : ordE S P = 0 ∧ 0 ≤ r ∧ r < S.rels.length := by unfold noRel at hno; simp at hno; omega
    have hok := (ordE_zero.1 h3.1).2
    have hP : ∀ p ∈ P, p < P.length := fun p hp => (hok.rng p hp).2
    obtain ⟨q, rfl⟩ := Int.eq_ofNat_of_zero_le h3.2.1
    have hql : q < S.rels.length := by omega
    have hrow : (relsC S.rels)[q * 2 + 1]? = some (pints S.rels[q].2) := flat_at _ 2 (fun _ => rfl) S.rels q 1 hql (by decide)
    have hrne := rel_ne hql
    have hrl := hS.rl _ (List.getElem_mem hql)
    have hrr : ∀ a ∈ S.rels[q].2, 0 ≤ a ∧ a < P.length := by rw [hok.len]; exact hok.val.rng _ (List.getElem_mem hql)
    have hrp : 0 < S.rels[q].2.length := List.length_pos_iff.2 (hok.val.ne _ (List.getElem_mem hql))
    have hv0 := pints_at hrp
    have hne := pints_ne hrp
    have hgd : S.rels.getD (q : Int).toNat default = S.rels[q] := by simp [List.getD, hql]
    refine AW.skip ?_
    repeat refine AW.seq ?_
    refine AW.region ?_
    iterate 5 refine A1 rfl ?_
    first | refine A2 rfl (by assumption) ?_ | refine A1 rfl ?_
    refine A1 rfl ?_
    repeat refine AW.seq ?_
    refine AW.region ?_
    refine A1 rfl ?_
    refine RL.step (d := some 33) rfl rfl (xj_indexAddr 0 Tryz.underlying22 sz3 rfl rfl rfl hrp hne) ?_
    first | refine A2 rfl (by assumption) ?_ | refine A1 rfl ?_
    refine A1 rfl ?_
    repeat refine AW.seq ?_
    refine AW.region ?_
    iterate 3 refine A1 rfl ?_
    repeat refine AW.seq ?_
    refine AW.block ?_
    repeat refine AW.seq ?_
    refine AW.loop (st := fun x_0 : Nat × Int => mkS [(4, .ptr 1 0), (8, .pv (.int .i64 x_0.2)), (35, .pv (pints S.rels[q].2)), (36, .pv (.int .i64 S.rels[q].2.length)), (37, .pv (.int .i64 x_0.1))] [(1, .mix 29 [.pv (pints P)])] 2)
      (I := fun x_0 => x_0.1 ≤ S.rels[q].2.length ∧ x_0.2 = (S.rels[q].2.take x_0.1).foldl (homeF P) (S.rels[q].2.getD 0 0)) (μ := fun x_0 => S.rels[q].2.length - x_0.1) (x0 := (0, S.rels[q].2[0])) (St.le_mk ⟨rfl, rfl, rfl, rfl, rfl, trivial⟩ ⟨rfl, trivial⟩ rfl rfl) (⟨Nat.zero_le _, by simp [List.getD, hrp]⟩) ?_
    rintro ⟨k, h⟩ ⟨hk, hh⟩
    try simp only at hk hh ⊢
    repeat refine AW.seq ?_
    refine AW.region ?_
    refine A1 rfl ?_
    repeat refine AW.seq ?_
    refine AW.condP rfl (fun hc38 => ?_) (fun hc38 => ?_)
    · have hlt : k < S.rels[q].2.length := by omega
      have hva := pints_at hlt
      have hka := hrr _ (List.getElem_mem hlt)
      have hst : (S.rels[q].2.take (k + 1)).foldl (homeF P) (S.rels[q].2.getD 0 0) = homeF P h S.rels[q].2[k] := by rw [take_snoc hlt, List.foldl_append, ← hh]; rfl
      refine AW.skip ?_
      repeat refine AW.seq ?_
      refine AW.block ?_
      repeat refine AW.seq ?_
      refine AW.region ?_
      refine A1 rfl ?_
      first | refine A2 rfl (by assumption) ?_ | refine A1 rfl ?_
      refine A1 rfl ?_
      repeat refine AW.seq ?_
      refine AW.region ?_
      iterate 3 refine A1 rfl ?_
      refine RL.step (d := some 44) rfl rfl (xj_call Tryz.call62 (higher_spec P h S.rels[q].2[k] hka.1 hka.2 hP hn) rfl) ?_
      repeat refine AW.seq ?_
      refine AW.cond rfl (fun hc44 => ?_) (fun hc44 => ?_)
      · rw [homeF, if_pos hc44] at hst
        repeat refine AW.seq ?_
        refine AW.region ?_
        iterate 2 refine A1 rfl ?_
        repeat refine AW.seq ?_
        refine AW.region ?_
        iterate 2 refine A1 rfl ?_
        exact ⟨(k + 1, S.rels[q].2[k]), St.le_mk ⟨rfl, rfl, rfl, rfl, rfl, trivial⟩ ⟨rfl, trivial⟩ rfl rfl, ⟨by simp only; omega, hst.symm⟩, by simp only; omega⟩
      · rw [homeF, if_neg (by rw [hc44]; decide)] at hst
        refine AW.skip ?_
        repeat refine AW.seq ?_
        refine AW.region ?_
        iterate 2 refine A1 rfl ?_
        exact ⟨(k + 1, h), St.le_mk ⟨rfl, rfl, rfl, rfl, rfl, trivial⟩ ⟨rfl, trivial⟩ rfl rfl, ⟨by simp only; omega, hst.symm⟩, by simp only; omega⟩
    · repeat refine AW.seq ?_
      refine AW.exit ?_
      repeat refine AW.seq ?_
      refine AW.region ?_
      iterate 2 refine A1 rfl ?_
      repeat refine AW.seq ?_
      refine AW.ret ?_
      exact ⟨_, _, rfl, rfl, by rw [if_neg (by rw [hno]; decide), hgd]; unfold homeL; rw [List.take_of_length_le (by omega)] at hh; rw [← hh]; rfl⟩
def widN (S : Sch) (P : List Int) : Nat → Int
  | 0 => 0
  | k + 1 => if ((keyL S P k).length : Int) > widN S P k then (keyL S P k).length else widN S P k
theorem widN_bd (S : Sch) (P : List Int) : ∀ k, 0 ≤ widN S P k ∧ widN S P k ≤ P.length
  | 0 => by simp [widN]
  | k + 1 => by
    have := widN_bd S P k
    have h2 : (keyL S P k).length ≤ P.length := by
      unfold keyL; rw [(sortI_perm _).length_eq]; exact Nat.le_trans (List.length_filter_le _ _) (abvL_len P k)
    simp only [widN]; split <;> omega
theorem width_spec (S : Sch) (hS : SB S) (P : List Int) (hn : P.length ≤ 1000000) : FnP Tryz.prog 20 [schP S, ordP P] (· = .tup [.int .i64 (if ordE S P = 0 then widN S P P.length + 1 else 0), .int .i64 (ordE S P)]) := by
  refine FnP.of Tryz.func20 rfl Tryz.ntmps20 (by simp) fun m0 w0 F R0 => ?_
  repeat refine AW.seq ?_
  refine AW.region ?_
  iterate 4 refine A1 rfl ?_
  repeat refine AW.seq ?_
  refine AW.region ?_
  iterate 2 refine A1 rfl ?_
  refine RL.step (d := some 11) rfl rfl (xj_call Tryz.call22 (ocheck_spec S hS P hn) rfl) ?_
  refine A1 rfl ?_
  repeat refine AW.seq ?_
  refine AW.region ?_
  iterate 2 refine A1 rfl ?_
  repeat refine AW.seq ?_
  refine AW.cond rfl (fun hc13 => ?_) (fun hc13 => ?_)
  · repeat refine AW.seq ?_
    refine AW.region ?_
    iterate 3 refine A1 rfl ?_
    repeat refine AW.seq ?_
    refine AW.ret ?_
    exact ⟨_, _, rfl, rfl, by rw [if_neg (inT hc13)]; rfl⟩
  · have h0 : ordE S P = 0 := inF hc13
    have hok := ordE_zero.1 h0
    have hP : ∀ p ∈ P, p < P.length := fun p hp => (hok.2.rng p hp).2
    have hn12 : P.length ≤ 12 := by rw [hok.2.len]; exact hok.2.val.n2
    refine AW.skip ?_
    repeat refine AW.seq ?_
    refine AW.region ?_
    refine A1 rfl ?_
    repeat refine AW.seq ?_
    refine AW.region ?_
    iterate 4 refine A1 rfl ?_
    repeat refine AW.seq ?_
    refine AW.block ?_
    repeat refine AW.seq ?_
    refine AW.loop (st := fun x_0 : Nat => mkS [(2, .ptr 0 0), (3, .ptr 1 0), (7, .pv (.int .i64 (widN S P x_0))), (17, .pv (.int .i64 P.length)), (18, .pv (.int .i64 x_0))] [(0, .mix 27 [.pv (.sl none S.attrs.length (attrsC S.attrs)), .pv (.sl none S.rels.length (relsC S.rels)), .pv (.sl none S.feats.length (featsC S.feats)), .pv (.int .i64 S.label)]), (1, .mix 29 [.pv (pints P)])] 2)
      (I := fun x_0 => x_0 ≤ P.length) (μ := fun x_0 => P.length - x_0) (x0 := (0)) (St.le_mk ⟨rfl, rfl, rfl, rfl, rfl, trivial⟩ ⟨rfl, rfl, trivial⟩ rfl rfl) (Nat.zero_le _) ?_
    rintro k hk
    repeat refine AW.seq ?_
    refine AW.region ?_
    refine A1 rfl ?_
    repeat refine AW.seq ?_
    refine AW.condP rfl (fun hc19 => ?_) (fun hc19 => ?_)
    · have hlt : k < P.length := by omega
      refine AW.skip ?_
      repeat refine AW.seq ?_
      refine AW.block ?_
      repeat refine AW.seq ?_
      refine AW.region ?_
      iterate 2 refine A1 rfl ?_
      repeat refine AW.seq ?_
      refine AW.region ?_
      iterate 4 refine A1 rfl ?_
      refine RL.step (d := some 25) rfl rfl (xj_call Tryz.call51 (key_spec S hS hok.1 P hP hn12 k hlt) rfl) ?_
      iterate 3 refine A1 rfl ?_
      repeat refine AW.seq ?_
      refine AW.region ?_
      iterate 2 refine A1 rfl ?_
      exact ⟨(k + 1), St.le_mk ⟨rfl, rfl, rfl, rfl, rfl, trivial⟩ ⟨rfl, rfl, trivial⟩ rfl rfl, by omega, by omega⟩
    · have hwb := widN_bd S P k
      repeat refine AW.seq ?_
      refine AW.exit ?_
      repeat refine AW.seq ?_
      refine AW.region ?_
      iterate 4 refine A1 rfl ?_
      repeat refine AW.seq ?_
      refine AW.ret ?_
      exact ⟨_, _, rfl, rfl, by rw [if_pos h0, h0, show P.length = k by omega]; rfl⟩
def walkF (P : List Int) : Nat → Int → List Int
  | 0, _ => []
  | f + 1, v => (upZ P.length).flatMap fun a => if P.getD a.toNat 0 = v then a :: walkF P f a else []
def walkG (P : List Int) (W : Int → List Int) (v : Int) (k : Nat) : List Int := (upZ k).flatMap fun a => if P.getD a.toNat 0 = v then a :: W a else []
theorem walkG_succ (P : List Int) (W : Int → List Int) (v : Int) {k : Nat} (hk : k < P.length) : walkG P W v (k + 1) = walkG P W v k ++ (if P[k] = v then (k : Int) :: W k else []) := by
  have hgd : P.getD (k : Int).toNat 0 = P[k] := by simp [List.getD, hk]
  unfold walkG
  rw [upZ_succ, List.flatMap_append]
  simp [hk, List.getD]
theorem walkG_len (P : List Int) (W : Int → List Int) (v : Int) {k n : Nat} (h : k ≤ n) (hn : n ≤ P.length) : (walkG P W v k).length ≤ (walkG P W v n).length := by
  induction n with
  | zero => have : k = 0 := by omega
            subst this; exact Nat.le_refl _
  | succ n ih =>
    by_cases e : k = n + 1
    · subst e; exact Nat.le_refl _
    · rw [walkG_succ P W v (by omega)]
      have := ih (by omega) (by omega)
      simp; omega
abbrev visF (P : List Int) : V := .fn (.func 57) [] [.pv (.rp [pints P] 0), .ptr big 0, .ptr 1000001 0]
abbrev visA (P : List Int) (v : Int) : List V := [.pv (.int .i64 v), .pv (.rp [pints P] 0), .ptr big 0, .ptr 1000001 0]
abbrev visO (P : List Int) (i : Nat) (L : List Int) : List (Nat × Ob) := [(big, .mix 22 [.gsl i 1 L.length]), (1000001, .mix 89 [visF P]), (i, .gro 3 (intsP L))]
section
variable {C : Ctx} {n : Nat} {σ : St} {dst : Option Tmp} {ty : TypeId} {ts : Array TypeId} {pos : String} {after : Array Edge} {gd : Option (Nat × Bool)}
/-- oj_callVO with the contract first. -/
theorem oj_callVF {f : FuncId} {xs : Array Operand} {y : Operand} {fs cs : List V} {args : List V} {os : List (Nat × Ob)} {k' : Nat} {Q : V → (Nat → Option Ob) → Prop} {K : St → Prop} (ids : List Nat) (base : Nat) (hc : CallOk C.P f) (hf : FnO C.P f ids.length k' args os Q) (hy : σ.ev n y = .fn (.func f) fs cs) (hargs : fs ++ xs.toList.map (σ.ev n) ++ cs = V.renL (renI ids base) args)
    (ha : V.allL (okR ids.length 0) args = true) (hos : os.map (·.1) = (List.range ids.length).map (big + ·)) (hob : os.all (fun p => p.2.all (okR ids.length 0)) = true) (hobs : allObR σ (renI ids base) os)
    (hnd : ids.Nodup) (hav : (nwO base k').all σ.av = true)
    (hk : ∀ v ob', Q v ob' → K (σ.app dst ⟨v.ren (renI ids base), wrO ids base k' ob', nwO base k'⟩)) :
    OJ C n ⟨dst, .call { callee := .value y, args := xs, argTypes := ts }, ty, pos, after, gd⟩ K σ := oj_callVO ids base hc hy hargs ha hos hob hobs hnd hav hf hk
end
theorem walk1_step (P : List Int) (hn : P.length ≤ 1000000) (W : Int → List Int) (v : Int)
    (hrec : ∀ (a : Nat) (ha : a < P.length) (L : List Int), P[a] = v → L.length + (W a).length ≤ 1000000 → FnO Tryz.prog 57 3 1 (visA P a) (visO P 1000002 L) (fun r ob' => r = .tup [] ∧ ob' = lookO (visO P 0 (L ++ W a))))
    (L : List Int) (hL : L.length + (walkG P W v P.length).length ≤ 1000000) :
    FnO Tryz.prog 57 3 1 (visA P v) (visO P 1000002 L) (fun r ob' => r = .tup [] ∧ ob' = lookO (visO P 0 (L ++ walkG P W v P.length))) := by
  refine FnO.of Tryz.func57 rfl Tryz.ntmps57 (by simp) fun m0 w0 F R0 => ?_
  repeat refine AW.seq ?_
  refine AW.region ?_
  refine A1 rfl ?_
  first | refine A1 rfl ?_ | refine A2 rfl (by assumption) ?_
  iterate 2 refine A1 rfl ?_
  repeat refine AW.seq ?_
  refine AW.block ?_
  repeat refine AW.seq ?_
  refine AW.loop (st := fun x_0 : Nat × List Int => mkS [(0, .pv (.int .i64 v)), (2, .ptr big 0), (3, .ptr 1000001 0), (8, .pv (pints P)), (9, .pv (.int .i64 P.length)), (10, .pv (.int .i64 x_0.1))] [(big, .mix 22 [.gsl 0 1 x_0.2.length]), (0, .gro 3 (intsP x_0.2)), (1000001, .mix 89 [visF P])] 1)
    (I := fun x_0 => x_0.1 ≤ P.length ∧ x_0.2 = L ++ walkG P W v x_0.1) (μ := fun x_0 => P.length - x_0.1) (x0 := (0, L)) (St.le_mkB [1000002] ⟨rfl, rfl, rfl, rfl, rfl, rfl, trivial⟩ ⟨rfl, rfl, rfl, trivial⟩ rfl rfl (by decide) rfl) (⟨Nat.zero_le _, by simp [walkG, upZ]⟩) ?_
  rintro ⟨k, M⟩ ⟨hk, hM⟩
  try simp only at hk hM ⊢
  repeat refine AW.seq ?_
  refine AW.region ?_
  refine A1 rfl ?_
  repeat refine AW.seq ?_
  refine AW.condP rfl (fun hc11 => ?_) (fun hc11 => ?_)
  · have hlt : k < P.length := by omega
    have hva := pints_at hlt
    have hne := pints_ne hlt
    have hsl : (intsP M).length = M.length * 1 := by simp
    have hgs := walkG_succ P W v hlt
    have hle := walkG_len P W v (show k + 1 ≤ P.length by omega) (Nat.le_refl _)
    refine AW.skip ?_
    repeat refine AW.seq ?_
    refine AW.block ?_
    repeat refine AW.seq ?_
    refine AW.region ?_
    iterate 2 refine A1 rfl ?_
    first | refine A2 rfl (by assumption) ?_ | refine A1 rfl ?_
    iterate 2 refine A1 rfl ?_
    repeat refine AW.seq ?_
    refine AW.region ?_
    iterate 3 refine A1 rfl ?_
    repeat refine AW.seq ?_
    refine AW.cond rfl (fun hc17 => ?_) (fun hc17 => ?_)
    · have hpv : P[k] = v := ibT hc17
      rw [if_pos hpv] at hgs
      have hMl : M.length + 1 + (W k).length ≤ 1000000 := by have : M.length = L.length + (walkG P W v k).length := (by rw [hM]; simp); rw [hgs] at hle; simp at hle; omega
      have hgo := hrec k hlt (M ++ [(k : Int)]) hpv (by simp; omega)
      have hfin : L ++ walkG P W v (k + 1) = (M ++ [(k : Int)]) ++ W k := by rw [hgs, hM]; simp
      have hM1 : (M ++ [(k : Int)]).length = M.length + 1 := by simp
      repeat refine AW.seq ?_
      refine AW.region ?_
      first | refine A1 rfl ?_ | refine A2 rfl (by assumption) ?_
      iterate 4 refine A1 rfl ?_
      repeat refine AW.seq ?_
      refine AW.region ?_
      first | refine A1 rfl ?_ | refine A2 rfl (by assumption) ?_
      refine A1 rfl ?_
      refine RL.call rfl (oj_callVF [big, 1000001, 2] 3 Tryz.call57 hgo rfl rfl rfl rfl rfl ⟨by rw [hM1]; rfl, rfl, by rw [ints_snoc]; rfl, trivial⟩ (by decide) rfl ?_)
      rintro _ _ ⟨rfl, rfl⟩
      repeat refine AW.seq ?_
      refine AW.region ?_
      iterate 2 refine A1 rfl ?_
      exact ⟨(k + 1, (M ++ [(k : Int)]) ++ W k), St.le_mkR [3] ⟨rfl, rfl, rfl, rfl, rfl, rfl, trivial⟩ ⟨by kernel_rfl, by kernel_rfl, by kernel_rfl, trivial⟩ rfl rfl (by decide) rfl, ⟨by simp only; omega, hfin.symm⟩, by simp only; omega⟩
    · rw [if_neg (ibF hc17), List.append_nil] at hgs
      refine AW.skip ?_
      repeat refine AW.seq ?_
      refine AW.region ?_
      iterate 2 refine A1 rfl ?_
      exact ⟨(k + 1, M), St.le_mk ⟨rfl, rfl, rfl, rfl, rfl, rfl, trivial⟩ ⟨rfl, rfl, rfl, trivial⟩ rfl rfl, ⟨by simp only; omega, by rw [hgs]; exact hM⟩, by simp only; omega⟩
  · repeat refine AW.seq ?_
    refine AW.exit ?_
    exact ⟨[], visO P 0 (L ++ walkG P W v P.length), [], St.le_mk trivial (by rw [show P.length = k by omega, ← hM]; exact ⟨rfl, rfl, rfl, trivial⟩) rfl rfl, rfl, rfl, rfl, rfl, rfl⟩
end Go.Proofs.YtkalgjnhaicabaaGreat
namespace Go.Proofs.YtkalgjnhaicabaaGreat
open Go.RowKit Mk
set_option maxRecDepth 100000
set_option maxHeartbeats 1000000
abbrev B64 := BitVec 64
abbrev setP (x : B64) : PV := .int .u64 (x.toNat : Int)
theorem u64_wrap (i : Int) : IntKind.u64.wrap i = i % 18446744073709551616 := by
  unfold IntKind.wrap
  simp [IntKind.signed, IntKind.bits]
theorem wrap64 (x : B64) : IntKind.u64.wrap (x.toNat : Int) = x.toNat := by
  rw [u64_wrap]
  have := x.isLt
  omega
theorem ofInt64 (x : B64) : BitVec.ofInt IntKind.u64.bits (x.toNat : Int) = x := by
  show BitVec.ofInt 64 _ = x
  rw [BitVec.ofInt_natCast, BitVec.ofNat_toNat, BitVec.setWidth_eq]
section
variable {C : Ctx} {n : Nat} {σ : St} {dst : Option Tmp} {ty t t' : TypeId} {pos : String} {after : Array Edge} {gd : Option (Nat × Bool)} {x y : Operand} {X Y : B64}
theorem xj_andV (hx : σ.ev n x = .pv (setP X)) (hy : σ.ev n y = .pv (setP Y)) : XJ C n ⟨dst, .binOp .and t x y t', ty, pos, after, gd⟩ σ ⟨.pv (setP (X &&& Y)), [], []⟩ :=
  xj_bin hx hy (by simp only [binI, ofInt64]; exact congrArg (fun i => some (PV.int .u64 i)) (wrap64 _))
theorem xj_orV (hx : σ.ev n x = .pv (setP X)) (hy : σ.ev n y = .pv (setP Y)) : XJ C n ⟨dst, .binOp .or t x y t', ty, pos, after, gd⟩ σ ⟨.pv (setP (X ||| Y)), [], []⟩ :=
  xj_bin hx hy (by simp only [binI, ofInt64]; exact congrArg (fun i => some (PV.int .u64 i)) (wrap64 _))
theorem xj_andNotV (hx : σ.ev n x = .pv (setP X)) (hy : σ.ev n y = .pv (setP Y)) : XJ C n ⟨dst, .binOp .andNot t x y t', ty, pos, after, gd⟩ σ ⟨.pv (setP (X &&& ~~~Y)), [], []⟩ :=
  xj_bin hx hy (by simp only [binI, ofInt64]; exact congrArg (fun i => some (PV.int .u64 i)) (wrap64 _))
theorem xj_subV (hx : σ.ev n x = .pv (setP X)) (hy : σ.ev n y = .pv (setP Y)) : XJ C n ⟨dst, .binOp .sub t x y t', ty, pos, after, gd⟩ σ ⟨.pv (setP (X - Y)), [], []⟩ :=
  xj_bin hx hy (by
    simp only [binI, u64_wrap]
    refine congrArg (fun i => some (PV.int .u64 i)) ?_
    have := X.isLt
    have := Y.isLt
    rw [BitVec.toNat_sub]
    omega)
theorem setP_beq (X Y : B64) : ((X.toNat : Int) == (Y.toNat : Int)) = decide (X = Y) := by
  rw [Bool.eq_iff_iff]
  simp only [beq_iff_eq, decide_eq_true_eq]
  exact ⟨fun h => BitVec.eq_of_toNat_eq (by omega), fun h => by rw [h]⟩
theorem xj_eqlV (hx : σ.ev n x = .pv (setP X)) (hy : σ.ev n y = .pv (setP Y)) : XJ C n ⟨dst, .binOp .eql t x y t', ty, pos, after, gd⟩ σ ⟨.pv (.bool (decide (X = Y))), [], []⟩ :=
  xj_bin hx hy (by simp only [binI, setP_beq])
theorem xj_neqV (hx : σ.ev n x = .pv (setP X)) (hy : σ.ev n y = .pv (setP Y)) : XJ C n ⟨dst, .binOp .neq t x y t', ty, pos, after, gd⟩ σ ⟨.pv (.bool (decide (X ≠ Y))), [], []⟩ :=
  xj_bin hx hy (by simp only [binI, bne, setP_beq, decide_not])
theorem xj_shlV (a : Nat) {i : Int} {k' : IntKind} (hx : σ.ev n x = .pv (setP 1#64)) (hy : σ.ev n y = .pv (.int k' i)) (hi : i = (a : Int)) (ha : a < 64) : XJ C n ⟨dst, .binOp .shl t x y t', ty, pos, after, gd⟩ σ ⟨.pv (setP (BitVec.twoPow 64 a)), [], []⟩ := by
  subst hi
  refine XJ.cast (xj_shl hx hy (by omega)) ?_
  refine congrArg (fun i => V.pv (PV.int .u64 i)) ?_
  show IntKind.u64.wrap (1 * 2 ^ (min (Int.toNat (a : Int)) 64)) = _
  rw [show min (Int.toNat (a : Int)) 64 = a by omega, BitVec.toNat_twoPow, u64_wrap]
  simp
theorem xj_shrV (a : Nat) {i : Int} {k' : IntKind} (hx : σ.ev n x = .pv (setP X)) (hy : σ.ev n y = .pv (.int k' i)) (hi : i = (a : Int)) (ha : a < 64) : XJ C n ⟨dst, .binOp .shr t x y t', ty, pos, after, gd⟩ σ ⟨.pv (setP (X >>> a)), [], []⟩ := by
  subst hi
  refine XJ.cast (xj_shr hx hy (by omega)) ?_
  refine congrArg (fun i => V.pv (PV.int .u64 i)) ?_
  show Int.fdiv (X.toNat : Int) (2 ^ (min (Int.toNat (a : Int)) 64)) = _
  rw [show min (Int.toNat (a : Int)) 64 = a by omega, BitVec.toNat_ushiftRight, Nat.shiftRight_eq_div_pow]
  have e : (2 : Int) ^ a = ((2 ^ a : Nat) : Int) := by simp
  rw [e, Int.fdiv_eq_ediv_of_nonneg _ (Int.natCast_nonneg _)]
  simp
end
theorem has_bit (X : B64) (a : Nat) : decide ((X >>> a) &&& 1#64 = 1#64) = X.getLsbD a := by
  rw [Bool.eq_iff_iff, decide_eq_true_eq]
  constructor
  · intro h
    have := congrArg (fun z : B64 => z.getLsbD 0) h
    simpa using this
  · intro h
    apply BitVec.eq_of_getLsbD_eq
    intro i hi
    rw [BitVec.getLsbD_and, BitVec.getLsbD_one]
    by_cases e : i = 0
    · subst e; simp [h]
    · simp [e]
theorem of_spec (a : Nat) (ha : a < 64) : FnP Tryz.prog 71 [.int .i64 a] (· = setP (BitVec.twoPow 64 a)) := by
  refine FnP.of Tryz.func71 rfl Tryz.ntmps71 (by simp) fun m0 w0 F R0 => ?_
  repeat refine AW.seq ?_
  refine AW.region ?_
  refine A1 rfl ?_
  repeat refine AW.seq ?_
  refine AW.region ?_
  refine A1 rfl ?_
  refine RL.step (d := some 4) rfl rfl (xj_shlV a rfl rfl rfl ha) ?_
  refine A1 rfl ?_
  repeat refine AW.seq ?_
  refine AW.ret ?_
  exact ⟨_, _, rfl, rfl, rfl⟩
theorem has_sp (X : B64) (a : Nat) (ha : a < 64) : FnP Tryz.prog 69 [setP X, .int .i64 a] (· = .bool (X.getLsbD a)) := by
  refine FnP.of Tryz.func69 rfl Tryz.ntmps69 (by simp) fun m0 w0 F R0 => ?_
  repeat refine AW.seq ?_
  refine AW.region ?_
  refine A1 rfl ?_
  repeat refine AW.seq ?_
  refine AW.region ?_
  iterate 2 refine A1 rfl ?_
  refine RL.step (d := some 7) rfl rfl (xj_shrV a rfl rfl rfl ha) ?_
  refine RL.step (d := some 8) rfl rfl (xj_andV (Y := 1#64) rfl rfl) ?_
  refine RL.step (d := some 9) rfl rfl (xj_eqlV (Y := 1#64) rfl rfl) ?_
  refine A1 rfl ?_
  repeat refine AW.seq ?_
  refine AW.ret ?_
  exact ⟨_, _, rfl, rfl, congrArg PV.bool (has_bit X a)⟩
abbrev setsP (G : List B64) : List PV := G.map setP
abbrev psets (G : List B64) : PV := .sl none G.length (setsP G)
theorem psets_at {l : List B64} {k : Nat} (h : k < l.length) : (setsP l)[k * 1]? = some (setP l[k]) := by simp [h]
theorem psets_ne {l : List B64} {k : Nat} (h : k < l.length) : setsP l ≠ [] := by intro e; simp at e; subst e; simp at h
def allB (n : Nat) : B64 := BitVec.twoPow 64 n - 1#64
theorem allB_bit {n : Nat} (hn : n < 64) (i : Nat) : (allB n).getLsbD i = decide (i < n) := by
  have e : allB n = BitVec.ofNat 64 (2 ^ n - 1) := by
    apply BitVec.eq_of_toNat_eq
    unfold allB
    have h1 : 2 ^ n < 2 ^ 64 := Nat.pow_lt_pow_right (by decide) hn
    have h2 : 0 < 2 ^ n := Nat.pow_pos (by decide)
    rw [BitVec.toNat_sub, BitVec.toNat_twoPow, BitVec.toNat_ofNat, Nat.mod_eq_of_lt h1]
    simp only [BitVec.toNat_ofNat]
    omega
  rw [e, BitVec.getLsbD_ofNat, Nat.testBit_two_pow_sub_one]
  by_cases h : i < n
  · simp [h]; omega
  · simp [h]
theorem allB_spec (G : List B64) (hn : G.length < 64) : FnP Tryz.prog 67 [psets G] (· = setP (allB G.length)) := by
  refine FnP.of Tryz.func67 rfl Tryz.ntmps67 (by simp) fun m0 w0 F R0 => ?_
  repeat refine AW.seq ?_
  refine AW.region ?_
  refine A1 rfl ?_
  repeat refine AW.seq ?_
  refine AW.region ?_
  iterate 2 refine A1 rfl ?_
  refine RL.step (d := some 5) rfl rfl (xj_call Tryz.call71 (of_spec G.length hn) rfl) ?_
  refine RL.step (d := some 6) rfl rfl (xj_subV (Y := 1#64) rfl rfl) ?_
  refine A1 rfl ?_
  repeat refine AW.seq ?_
  refine AW.ret ?_
  exact ⟨_, _, rfl, rfl, rfl⟩
end Go.Proofs.YtkalgjnhaicabaaGreat
namespace Go.Proofs.YtkalgjnhaicabaaGreat
theorem bits_ex (f : Nat → Bool) : ∀ w : Nat, ∃ x : BitVec w, ∀ i, i < w → x.getLsbD i = f i
  | 0 => ⟨0#0, fun i h => absurd h (Nat.not_lt_zero _)⟩
  | w + 1 => by
    obtain ⟨x, hx⟩ := bits_ex f w
    refine ⟨BitVec.cons (f w) x, fun i hi => ?_⟩
    rw [BitVec.getLsbD_cons]
    by_cases e : i = w
    · rw [if_pos e, e]
    · rw [if_neg e, hx i (by omega)]
/-- The set of the numbers below 64 that f has. -/
noncomputable def bitsOf (f : Nat → Bool) : BitVec 64 := Classical.choose (bits_ex f 64)
theorem bitsOf_bit (f : Nat → Bool) {i : Nat} (h : i < 64) : (bitsOf f).getLsbD i = f i := Classical.choose_spec (bits_ex f 64) i h
theorem bits_lt {x : BitVec 64} {i : Nat} (h : x.getLsbD i = true) : i < 64 := Classical.byContradiction fun e => by
  rw [BitVec.getLsbD_of_ge _ _ (by omega)] at h; cases h
/-- What is reached from a, where all that is entered lies in rest. -/
inductive Reach (G : List (BitVec 64)) (rest : BitVec 64) (a : Nat) : Nat → Prop
  | refl : Reach G rest a a
  | step {b c : Nat} : Reach G rest a b → (G.getD b 0#64).getLsbD c = true → rest.getLsbD c = true → Reach G rest a c
noncomputable def compB (G : List (BitVec 64)) (rest : BitVec 64) (a : Nat) : BitVec 64 := bitsOf fun b => @decide (Reach G rest a b) (Classical.propDecidable _)
theorem compB_bit {G : List (BitVec 64)} {rest : BitVec 64} {a b : Nat} (hb : b < 64) : (compB G rest a).getLsbD b = true ↔ Reach G rest a b := by
  unfold compB
  rw [bitsOf_bit _ hb]
  exact @decide_eq_true_iff _ (Classical.propDecidable _)
theorem compB_reach {G : List (BitVec 64)} {rest : BitVec 64} {a b : Nat} (h : (compB G rest a).getLsbD b = true) : Reach G rest a b := (compB_bit (bits_lt h)).1 h
theorem Reach.lt {G : List (BitVec 64)} {rest : BitVec 64} {a b : Nat} (h : Reach G rest a b) (ha : a < 64) : b < 64 := by
  cases h with
  | refl => exact ha
  | step _ _ h => exact bits_lt h
structure CInv (G : List (BitVec 64)) (rest : BitVec 64) (a : Nat) (out next : BitVec 64) : Prop where
  h1 : out.getLsbD a = true
  h2 : ∀ b, out.getLsbD b = true → Reach G rest a b
  h3 : ∀ b, next.getLsbD b = true → out.getLsbD b = true
  h4 : ∀ b c, out.getLsbD b = true → next.getLsbD b = false → (G.getD b 0#64).getLsbD c = true → rest.getLsbD c = true → out.getLsbD c = true
theorem CInv.first {G : List (BitVec 64)} {rest : BitVec 64} {a : Nat} (ha : a < 64) : CInv G rest a (BitVec.twoPow 64 a) (BitVec.twoPow 64 a) := by
  refine ⟨by rw [BitVec.getLsbD_twoPow]; simp [ha], fun b hb => ?_, fun _ h => h, fun b c h1 h2 => by rw [h1] at h2; cases h2⟩
  rw [BitVec.getLsbD_twoPow] at hb
  have : a = b := by simpa [ha] using hb
  subst this
  exact .refl
theorem CInv.last {G : List (BitVec 64)} {rest : BitVec 64} {a : Nat} {out : BitVec 64} (h : CInv G rest a out 0#64) : out = compB G rest a := by
  apply BitVec.eq_of_getLsbD_eq
  intro i hi
  rw [Bool.eq_iff_iff, compB_bit hi]
  refine ⟨h.h2 i, fun hr => ?_⟩
  clear hi
  induction hr with
  | refl => exact h.h1
  | step _ h1 h2 ih => exact h.h4 _ _ ih (by simp) h1 h2
theorem CInv.next {G : List (BitVec 64)} {rest : BitVec 64} {a : Nat} {out next near : BitVec 64} (h : CInv G rest a out next)
    (hn : ∀ c, near.getLsbD c = (List.range G.length).any fun b => next.getLsbD b && (G.getD b 0#64).getLsbD c) :
    CInv G rest a (out ||| (near &&& rest &&& ~~~out)) (near &&& rest &&& ~~~out) := by
  have hnear : ∀ c, near.getLsbD c = true ↔ ∃ b, next.getLsbD b = true ∧ (G.getD b 0#64).getLsbD c = true := by
    intro c
    rw [hn, List.any_eq_true]
    constructor
    · rintro ⟨b, _, h⟩
      rw [Bool.and_eq_true] at h
      exact ⟨b, h⟩
    · rintro ⟨b, h1, h2⟩
      refine ⟨b, ?_, by rw [h1, h2]; rfl⟩
      rw [List.mem_range]
      apply Classical.byContradiction
      intro e
      rw [List.getD, List.getElem?_eq_none (by omega)] at h2
      simp at h2
  have hbit : ∀ c, (near &&& rest &&& ~~~out).getLsbD c = true ↔ near.getLsbD c = true ∧ rest.getLsbD c = true ∧ out.getLsbD c = false := by
    intro c
    rw [BitVec.getLsbD_and, BitVec.getLsbD_and, BitVec.getLsbD_not]
    constructor
    · intro h; simp at h; exact ⟨h.1.1, h.1.2, h.2.2⟩
    · rintro ⟨h1, h2, h3⟩; have := bits_lt h1; rw [h1, h2, h3, decide_eq_true this]; rfl
  have hor : ∀ c, (out ||| (near &&& rest &&& ~~~out)).getLsbD c = true ↔ out.getLsbD c = true ∨ (near &&& rest &&& ~~~out).getLsbD c = true := by
    intro c; rw [BitVec.getLsbD_or, Bool.or_eq_true]
  refine ⟨(hor _).2 (.inl h.h1), fun b hb => ?_, fun b hb => (hor b).2 (.inr hb), fun b c h1 h2 h3 h4 => ?_⟩
  · rcases (hor b).1 hb with h1 | h1
    · exact h.h2 b h1
    · obtain ⟨g1, g2, _⟩ := (hbit b).1 h1
      obtain ⟨d, g3, g4⟩ := (hnear b).1 g1
      exact .step (h.h2 d (h.h3 d g3)) g4 g2
  · rw [hor]
    by_cases hc : out.getLsbD c = true
    · exact .inl hc
    · right
      have hb : out.getLsbD b = true := by
        rcases (hor b).1 h1 with h5 | h5
        · exact h5
        · rw [h5] at h2; cases h2
      rw [hbit]
      refine ⟨?_, h4, by simpa using hc⟩
      rw [hnear]
      by_cases hnb : next.getLsbD b = true
      · exact ⟨b, hnb, h3⟩
      · exact absurd (h.h4 b c hb (by simpa using hnb) h3 h4) hc
/-- How many of the 64 are not in a set. -/
def zerosB (x : BitVec 64) : Nat := (List.range 64).countP fun i => !x.getLsbD i
theorem countP_lt {α : Type} {p q : α → Bool} : ∀ {l : List α}, (∀ a ∈ l, p a = true → q a = true) → (∃ a ∈ l, p a = false ∧ q a = true) → l.countP p < l.countP q
  | [], _, ⟨a, h, _⟩ => by cases h
  | x :: l, h, ⟨a, ha, h1, h2⟩ => by
    have hm : l.countP p ≤ l.countP q := List.countP_mono_left fun y hy => h y (List.mem_cons_of_mem _ hy)
    rw [List.countP_cons, List.countP_cons]
    by_cases e : a = x
    · subst e
      rw [h1, h2]
      simp; omega
    · have hr := countP_lt (l := l) (fun y hy => h y (List.mem_cons_of_mem _ hy)) ⟨a, (List.mem_cons.1 ha).resolve_left e, h1, h2⟩
      have := h x (List.mem_cons_self ..)
      by_cases ep : p x = true
      · rw [ep, this ep]; simp; omega
      · by_cases eq : q x = true <;> simp [ep, eq] <;> omega
theorem zeros_lt {x y : BitVec 64} (h : ∀ i, x.getLsbD i = true → y.getLsbD i = true) {j : Nat} (h1 : x.getLsbD j = false) (h2 : y.getLsbD j = true) : zerosB y < zerosB x := by
  refine countP_lt (fun a _ ha => ?_) ⟨j, List.mem_range.2 (bits_lt h2), by rw [h2]; rfl, by rw [h1]; rfl⟩
  cases hx : x.getLsbD a with
  | false => rfl
  | true => rw [h a hx] at ha; cases ha
theorem ne_bit {x : BitVec 64} (h : x ≠ 0#64) : ∃ i, x.getLsbD i = true := by
  apply Classical.byContradiction
  intro hn
  apply h
  apply BitVec.eq_of_getLsbD_eq
  intro i _
  rw [BitVec.getLsbD_zero]
  cases e : x.getLsbD i with
  | false => rfl
  | true => exact absurd ⟨i, e⟩ hn
def measB (out next : BitVec 64) : Nat := 2 * zerosB out + (if next = 0#64 then 0 else 1)
theorem meas_lt {out next x rest : BitVec 64} (hn : next ≠ 0#64) : measB (out ||| (x &&& rest &&& ~~~out)) (x &&& rest &&& ~~~out) < measB out next := by
  unfold measB
  rw [if_neg hn]
  by_cases e : (x &&& rest &&& ~~~out) = 0#64
  · rw [if_pos e, e]
    have : out ||| 0#64 = out := by simp
    rw [this]; omega
  · rw [if_neg e]
    obtain ⟨i, hi⟩ := ne_bit e
    have h1 : out.getLsbD i = false := by
      rw [BitVec.getLsbD_and, BitVec.getLsbD_not] at hi
      simp at hi; exact hi.2.2
    have := zeros_lt (x := out) (y := out ||| (x &&& rest &&& ~~~out)) (fun j hj => by rw [BitVec.getLsbD_or, hj]; rfl) h1 (by rw [BitVec.getLsbD_or, hi, Bool.or_true])
    omega
/-- The components of a set, and what is left of it, when the first k numbers are done. -/
noncomputable def compsN (G : List (BitVec 64)) (rest : BitVec 64) : Nat → List (BitVec 64) × BitVec 64
  | 0 => ([], rest)
  | k + 1 => if (compsN G rest k).2.getLsbD k = true then ((compsN G rest k).1 ++ [compB G (compsN G rest k).2 k], (compsN G rest k).2 &&& ~~~compB G (compsN G rest k).2 k) else compsN G rest k
/-- The graph of a schema. -/
structure IsG (S : Sch) (G : List (BitVec 64)) : Prop where
  len : G.length = S.attrs.length
  bit : ∀ a, a < G.length → ∀ b : Nat, (G.getD a 0#64).getLsbD b = (decide (a ≠ b) && linkB S a b)
end Go.Proofs.YtkalgjnhaicabaaGreat
namespace Go.Proofs.YtkalgjnhaicabaaGreat
open Go.RowKit Mk
set_option maxRecDepth 100000
set_option maxHeartbeats 1000000
theorem getD_eq {α : Type} {l : List α} {k : Nat} (h : k < l.length) (d : α) : l.getD k d = l[k] := by simp [List.getD, h]
/-- A graph under way. -/
def GInv (n : Nat) (G : List B64) (p : Nat → Nat → Bool) : Prop := G.length = n ∧ ∀ a, a < n → ∀ b : Nat, (G.getD a 0#64).getLsbD b = p a b
theorem GInv.zero (n : Nat) : GInv n (List.replicate n 0#64) (fun _ _ => false) := ⟨by simp, fun a ha b => by simp [List.getD, ha]⟩
theorem GInv.congr {n : Nat} {G : List B64} {p q : Nat → Nat → Bool} (h : GInv n G p) (e : ∀ a, a < n → ∀ b, p a b = q a b) : GInv n G q := ⟨h.1, fun a ha b => by rw [h.2 a ha b, e a ha b]⟩
theorem GInv.or {n : Nat} {G : List B64} {p : Nat → Nat → Bool} (h : GInv n G p) {i : Nat} (hi : i < n) (x : B64) : GInv n (G.set i (G[i]'(by rw [h.1]; exact hi) ||| x)) (fun a b => p a b || (decide (a = i) && x.getLsbD b)) := by
  refine ⟨by simp [h.1], fun a ha b => ?_⟩
  have hl : i < G.length := by rw [h.1]; exact hi
  by_cases e : a = i
  · subst e
    have := h.2 a ha b
    rw [getD_eq hl] at this
    simp [List.getD, hl, BitVec.getLsbD_or, this]
  · have := h.2 a ha b
    simp only [List.getD] at this ⊢
    rw [List.getElem?_set_ne (fun e' => e e'.symm), this]; simp [e]
def linkA (rs : List (ByteArray × List Int)) (a b : Nat) : Bool := rs.any fun r => decide ((a : Int) ∈ r.2) && decide ((b : Int) ∈ r.2)
theorem mem_take_succ {l : List Int} {q i : Nat} (hq : q < l.length) (hi : l[q] = (i : Int)) (a : Nat) : (a : Int) ∈ l.take (q + 1) ↔ (a : Int) ∈ l.take q ∨ a = i := by
  rw [take_snoc hq, List.mem_append, List.mem_singleton, hi]
  exact or_congr Iff.rfl ⟨fun h => by omega, fun h => by rw [h]⟩
theorem new_next {rs : List (ByteArray × List Int)} {l : List Int} {q i a b : Nat} {all : B64} (hq : q < l.length) (hi : l[q] = (i : Int)) (hall : ∀ b : Nat, all.getLsbD b = decide ((b : Int) ∈ l)) :
    ((decide (a ≠ b) && (linkA rs a b || (decide ((a : Int) ∈ l.take q) && decide ((b : Int) ∈ l)))) || (decide (a = i) && (all &&& ~~~(BitVec.twoPow 64 i)).getLsbD b)) =
    (decide (a ≠ b) && (linkA rs a b || (decide ((a : Int) ∈ l.take (q + 1)) && decide ((b : Int) ∈ l)))) := by
  have hm : decide ((a : Int) ∈ l.take (q + 1)) = (decide ((a : Int) ∈ l.take q) || decide (a = i)) := by
    rw [Bool.eq_iff_iff, Bool.or_eq_true, decide_eq_true_iff, decide_eq_true_iff, decide_eq_true_iff, mem_take_succ hq hi]
  rw [hm, BitVec.getLsbD_and, BitVec.getLsbD_not, BitVec.getLsbD_twoPow, hall]
  by_cases hb : (b : Int) ∈ l
  · have hb64 : b < 64 := bits_lt (x := all) (by rw [hall]; simpa using hb)
    by_cases e : a = i
    · subst e
      by_cases e2 : a = b
      · subst e2; simp [hb64]
      · simp [e2, hb, hb64]
    · simp [e]
  · simp [hb]
theorem linkA_succ {rs : List (ByteArray × List Int)} {k a b : Nat} (hk : k < rs.length) : linkA (rs.take (k + 1)) a b = (linkA (rs.take k) a b || (decide ((a : Int) ∈ rs[k].2) && decide ((b : Int) ∈ rs[k].2))) := by
  unfold linkA
  rw [take_snoc hk]; simp only [List.any_append, List.any_cons, List.any_nil, Bool.or_false]
theorem ounew_spec (S : Sch) (hS : SB S) (hV : Valid S) : FnP Tryz.prog 66 [schP S] (fun v => ∃ G, v = psets G ∧ IsG S G) := by
  refine FnP.of Tryz.func66 rfl Tryz.ntmps66 (by simp) fun m0 w0 F R0 => ?_
  have hb := hV.n2
  have hb2 := hV.r2
  repeat refine AW.seq ?_
  refine AW.region ?_
  iterate 2 refine A1 rfl ?_
  repeat refine AW.seq ?_
  refine AW.region ?_
  iterate 5 refine A1 rfl ?_
  repeat refine AW.seq ?_
  refine AW.region ?_
  iterate 4 refine A1 rfl ?_
  repeat refine AW.seq ?_
  refine AW.block ?_
  repeat refine AW.seq ?_
  refine AW.loop (st := fun x_0 : Nat × List B64 => mkS [(3, .osl 1 1 S.attrs.length), (16, .pv (.sl none S.rels.length (relsC S.rels))), (17, .pv (.int .i64 S.rels.length)), (18, .pv (.int .i64 x_0.1))] [(1, .cells 101 (setsP x_0.2))] 2)
    (I := fun x_0 => x_0.1 ≤ S.rels.length ∧ GInv S.attrs.length x_0.2 (fun a b => decide (a ≠ b) && linkA (S.rels.take x_0.1) a b)) (μ := fun x_0 => S.rels.length - x_0.1) (x0 := (0, List.replicate S.attrs.length 0#64)) (St.le_mk ⟨rfl, rfl, rfl, rfl, trivial⟩ ⟨congrArg (fun c => some (Ob.cells 101 c)) ((mkZ_one (.int .u64 0) (S.attrs.length * 1)).trans (by simp)), trivial⟩ rfl rfl) (⟨Nat.zero_le _, (GInv.zero _).congr (fun a _ b => by simp [linkA])⟩) ?_
  rintro ⟨k, G⟩ ⟨hk, hG⟩
  try simp only at hk hG ⊢
  repeat refine AW.seq ?_
  refine AW.region ?_
  refine A1 rfl ?_
  repeat refine AW.seq ?_
  refine AW.condP rfl (fun hc19 => ?_) (fun hc19 => ?_)
  · have hlt : k < S.rels.length := by omega
    have hrow := rel_row hlt
    have hne := rel_ne hlt
    have hll := hS.rl _ (List.getElem_mem hlt)
    have hrng := hV.rng _ (List.getElem_mem hlt)
    refine AW.skip ?_
    repeat refine AW.seq ?_
    refine AW.block ?_
    repeat refine AW.seq ?_
    refine AW.region ?_
    refine A1 rfl ?_
    refine RL.step (d := some 21) rfl rfl (xj_loadAR ⟨_, Tryz.underlying62, rfl⟩ sz62 rfl hrow rfl) ?_
    iterate 2 refine A1 rfl ?_
    repeat refine AW.seq ?_
    refine AW.region ?_
    refine A1 rfl ?_
    repeat refine AW.seq ?_
    refine AW.region ?_
    iterate 4 refine A1 rfl ?_
    repeat refine AW.seq ?_
    refine AW.block ?_
    repeat refine AW.seq ?_
    refine AW.loop (st := fun x_1 : Nat × B64 => mkS [(3, .osl 1 1 S.attrs.length), (5, .ptr 2 0), (6, .pv (setP x_1.2)), (16, .pv (.sl none S.rels.length (relsC S.rels))), (17, .pv (.int .i64 S.rels.length)), (18, .pv (.int .i64 k)), (23, .pv (pints S.rels[k].2)), (24, .pv (.int .i64 S.rels[k].2.length)), (25, .pv (.int .i64 x_1.1))] [(1, .cells 101 (setsP G)), (2, .mix 62 [.pv (.str S.rels[k].1), .pv (pints S.rels[k].2)])] 3)
      (I := fun x_1 => x_1.1 ≤ S.rels[k].2.length ∧ ∀ b : Nat, x_1.2.getLsbD b = decide ((b : Int) ∈ S.rels[k].2.take x_1.1)) (μ := fun x_1 => S.rels[k].2.length - x_1.1) (x0 := (0, 0#64)) (St.le_mk ⟨rfl, rfl, rfl, rfl, rfl, rfl, rfl, rfl, rfl, trivial⟩ ⟨rfl, rfl, trivial⟩ rfl rfl) (⟨Nat.zero_le _, fun b => by simp⟩) ?_
    rintro ⟨q, all⟩ ⟨hq, hall⟩
    try simp only at hq hall ⊢
    repeat refine AW.seq ?_
    refine AW.region ?_
    refine A1 rfl ?_
    repeat refine AW.seq ?_
    refine AW.condP rfl (fun hc26 => ?_) (fun hc26 => ?_)
    · have hql : q < S.rels[k].2.length := by omega
      have hv := pints_at hql
      have hne2 := pints_ne hql
      have hrq := hrng _ (List.getElem_mem hql)
      obtain ⟨i, hi⟩ := Int.eq_ofNat_of_zero_le hrq.1
      have hof : FnP Tryz.prog 71 [.int .i64 S.rels[k].2[q]] (· = setP (BitVec.twoPow 64 i)) := by rw [hi]; exact of_spec i (by omega)
      refine AW.skip ?_
      repeat refine AW.seq ?_
      refine AW.block ?_
      repeat refine AW.seq ?_
      refine AW.region ?_
      refine A1 rfl ?_
      first | refine A2 rfl (by assumption) ?_ | refine A1 rfl ?_
      refine A1 rfl ?_
      repeat refine AW.seq ?_
      refine AW.region ?_
      iterate 2 refine A1 rfl ?_
      refine RL.step (d := some 31) rfl rfl (xj_call Tryz.call71 hof rfl) ?_
      refine RL.step (d := some 32) rfl rfl (xj_orV rfl rfl) ?_
      refine A1 rfl ?_
      repeat refine AW.seq ?_
      refine AW.region ?_
      iterate 2 refine A1 rfl ?_
      exact ⟨(q + 1, all ||| BitVec.twoPow 64 i), St.le_mk ⟨rfl, rfl, rfl, rfl, rfl, rfl, rfl, rfl, rfl, trivial⟩ ⟨rfl, rfl, trivial⟩ rfl rfl, ⟨by simp only; omega, fun b => by simp only; rw [BitVec.getLsbD_or, hall, BitVec.getLsbD_twoPow, Bool.eq_iff_iff, Bool.or_eq_true, decide_eq_true_iff, decide_eq_true_iff, mem_take_succ hql hi, Bool.and_eq_true, decide_eq_true_iff, decide_eq_true_iff]; exact or_congr Iff.rfl ⟨fun h => h.2.symm, fun h => ⟨by omega, h.symm⟩⟩⟩, by simp only; omega⟩
    · rw [List.take_of_length_le (by omega)] at hall
      repeat refine AW.seq ?_
      refine AW.exit ?_
      repeat refine AW.seq ?_
      refine AW.region ?_
      iterate 4 refine A1 rfl ?_
      repeat refine AW.seq ?_
      refine AW.block ?_
      repeat refine AW.seq ?_
      refine AW.loop (st := fun x_2 : Nat × List B64 => mkS [(3, .osl 1 1 S.attrs.length), (6, .pv (setP all)), (16, .pv (.sl none S.rels.length (relsC S.rels))), (17, .pv (.int .i64 S.rels.length)), (18, .pv (.int .i64 k)), (35, .pv (pints S.rels[k].2)), (36, .pv (.int .i64 S.rels[k].2.length)), (37, .pv (.int .i64 x_2.1))] [(1, .cells 101 (setsP x_2.2))] 3)
        (I := fun x_2 => x_2.1 ≤ S.rels[k].2.length ∧ GInv S.attrs.length x_2.2 (fun a b => decide (a ≠ b) && (linkA (S.rels.take k) a b || (decide ((a : Int) ∈ S.rels[k].2.take x_2.1) && decide ((b : Int) ∈ S.rels[k].2))))) (μ := fun x_2 => S.rels[k].2.length - x_2.1) (x0 := (0, G)) (St.le_mk ⟨rfl, rfl, rfl, rfl, rfl, rfl, rfl, rfl, trivial⟩ ⟨rfl, trivial⟩ rfl rfl) (⟨Nat.zero_le _, hG.congr (fun a _ b => by simp)⟩) ?_
      rintro ⟨q2, G2⟩ ⟨hq2, hG2⟩
      try simp only at hq2 hG2 ⊢
      repeat refine AW.seq ?_
      refine AW.region ?_
      refine A1 rfl ?_
      repeat refine AW.seq ?_
      refine AW.condP rfl (fun hc38 => ?_) (fun hc38 => ?_)
      · have hql : q2 < S.rels[k].2.length := by omega
        have hv := pints_at hql
        have hne2 := pints_ne hql
        have hrq := hrng _ (List.getElem_mem hql)
        obtain ⟨i, hi⟩ := Int.eq_ofNat_of_zero_le hrq.1
        have hil : i < G2.length := by rw [hG2.1]; omega
        have hgl := hG2.1
        have hvi := psets_at hil
        have hof : FnP Tryz.prog 71 [.int .i64 S.rels[k].2[q2]] (· = setP (BitVec.twoPow 64 i)) := by rw [hi]; exact of_spec i (by omega)
        refine AW.skip ?_
        repeat refine AW.seq ?_
        refine AW.block ?_
        repeat refine AW.seq ?_
        refine AW.region ?_
        refine A1 rfl ?_
        first | refine A2 rfl (by assumption) ?_ | refine A1 rfl ?_
        refine A1 rfl ?_
        repeat refine AW.seq ?_
        refine AW.draw follows [[], [], [1, 0], [2, 1, 0], [], [], [5], [6, 4, 5], [7, 3, 2, 1, 0, 6, 4, 5], [8, 7, 6, 5, 4, 3, 2, 1, 0], [9, 8, 7, 6, 5, 4, 3, 2, 1, 0]] [0, 1, 2, 3, 4, 5, 6, 7, 8, 9, 10] (by kernel_rfl) (by kernel_rfl) ?_
        iterate 2 refine D1 rfl rfl ?_
        refine DL.step (d := some 43) [_] rfl rfl rfl (fun τ h => xj_indexAddrO i Tryz.underlying96 sz101 ((h.e 0 _ rfl).trans rfl) ((h.o 0 _ rfl).trans rfl) ((h.e 1 _ rfl).trans rfl) hi (by omega)) rfl (by kernel_rfl) ?_
        refine DL.step (d := some 44) [_] rfl rfl rfl (fun τ h => xj_load1P ⟨_, Tryz.underlying101, rfl⟩ ((h.e 0 _ rfl).trans rfl) ((h.o 0 _ rfl).trans rfl) hvi) rfl (by kernel_rfl) ?_
        iterate 2 refine D1 rfl rfl ?_
        refine DL.step (d := some 47) [] rfl rfl rfl (fun τ h => xj_call Tryz.call71 hof (h.argsP rfl)) rfl (by kernel_rfl) ?_
        refine DL.step (d := some 48) [] rfl rfl rfl (fun τ h => xj_andNotV ((h.e 0 _ rfl).trans rfl) ((h.e 1 _ rfl).trans rfl)) rfl (by kernel_rfl) ?_
        refine DL.step (d := some 49) [] rfl rfl rfl (fun τ h => xj_orV ((h.e 0 _ rfl).trans rfl) ((h.e 1 _ rfl).trans rfl)) rfl (by kernel_rfl) ?_
        refine DL.step (d := some 50) [_] rfl rfl rfl (fun τ h => xj_indexAddrO i Tryz.underlying96 sz101 ((h.e 0 _ rfl).trans rfl) ((h.o 0 _ rfl).trans rfl) ((h.e 1 _ rfl).trans rfl) hi (by omega)) rfl (by kernel_rfl) ?_
        refine DL.step (d := none) [_] rfl rfl rfl (fun τ h => xj_storeP sz101 ((h.e 0 _ rfl).trans rfl) ((h.o 0 _ rfl).trans rfl) ((h.e 1 _ rfl).trans rfl) rfl (by simp; omega)) rfl (by kernel_rfl) ?_
        refine ⟨by kernel_rfl, ?_⟩
        repeat refine AW.seq ?_
        refine AW.region ?_
        iterate 2 refine A1 rfl ?_
        exact ⟨(q2 + 1, G2.set i (G2[i] ||| (all &&& ~~~(BitVec.twoPow 64 i)))), St.le_mk ⟨rfl, rfl, rfl, rfl, rfl, rfl, rfl, rfl, trivial⟩ ⟨by show some (Ob.cells _ _) = _; simp [List.map_set], trivial⟩ rfl rfl, ⟨by simp only; omega, (hG2.or (by omega) _).congr (fun a _ b => new_next hql hi hall)⟩, by simp only; omega⟩
      · have hG3 := hG2.congr (q := fun a b => decide (a ≠ b) && linkA (S.rels.take (k + 1)) a b) (fun a _ b => by rw [show S.rels[k].2.take q2 = S.rels[k].2 from List.take_of_length_le (by omega), linkA_succ hlt])
        repeat refine AW.seq ?_
        refine AW.exit ?_
        repeat refine AW.seq ?_
        refine AW.region ?_
        iterate 2 refine A1 rfl ?_
        exact ⟨(k + 1, G2), St.le_mk ⟨rfl, rfl, rfl, rfl, trivial⟩ ⟨rfl, trivial⟩ rfl rfl, ⟨by simp only; omega, hG3⟩, by simp only; omega⟩
  · rw [List.take_of_length_le (by omega)] at hG
    repeat refine AW.seq ?_
    refine AW.exit ?_
    refine AW.weaken (St.le_pubA 1 rfl rfl) ?_
    repeat refine AW.seq ?_
    refine AW.region ?_
    iterate 2 refine A1 rfl ?_
    refine AW.weaken (St.le_fgS [2]) ?_
    repeat refine AW.seq ?_
    refine AW.ret ?_
    exact ⟨_, _, rfl, rfl, G, by show PV.sl none S.attrs.length (setsP G) = _; rw [← hG.1], hG.1, fun a ha b => by rw [hG.2 a (by rw [← hG.1]; exact ha) b]; rfl⟩
theorem near_next {G : List B64} {next : B64} {k c : Nat} {near : B64} (h : near.getLsbD c = (List.range k).any fun b => next.getLsbD b && (G.getD b 0#64).getLsbD c) (hk : k < G.length) :
    (next.getLsbD k = true → (near ||| G[k]).getLsbD c = (List.range (k + 1)).any fun b => next.getLsbD b && (G.getD b 0#64).getLsbD c) ∧
    (next.getLsbD k = false → near.getLsbD c = (List.range (k + 1)).any fun b => next.getLsbD b && (G.getD b 0#64).getLsbD c) := by
  rw [List.range_succ, List.any_append, ← h, BitVec.getLsbD_or]
  simp only [List.any_cons, List.any_nil, Bool.or_false, getD_eq hk]
  exact ⟨fun e => by rw [e]; simp, fun e => by rw [e]; simp⟩
theorem comp_spec (G : List B64) (hG : G.length ≤ 12) (rest : B64) (a : Nat) (ha : a < 64) : FnP Tryz.prog 70 [psets G, setP rest, .int .i64 a] (· = setP (compB G rest a)) := by
  refine FnP.of Tryz.func70 rfl Tryz.ntmps70 (by simp) fun m0 w0 F R0 => ?_
  repeat refine AW.seq ?_
  refine AW.region ?_
  refine A1 rfl ?_
  repeat refine AW.seq ?_
  refine AW.region ?_
  refine A1 rfl ?_
  refine RL.step (d := some 13) rfl rfl (xj_call Tryz.call71 (of_spec a ha) rfl) ?_
  refine A1 rfl ?_
  repeat refine AW.seq ?_
  refine AW.region ?_
  iterate 2 refine A1 rfl ?_
  repeat refine AW.seq ?_
  refine AW.block ?_
  repeat refine AW.seq ?_
  refine AW.loop (st := fun x_0 : B64 × B64 => mkS [(0, .pv (psets G)), (1, .pv (setP rest)), (7, .pv (setP x_0.1)), (8, .pv (setP x_0.2))] [] 0)
    (I := fun x_0 => CInv G rest a x_0.1 x_0.2) (μ := fun x_0 => measB x_0.1 x_0.2) (x0 := (BitVec.twoPow 64 a, BitVec.twoPow 64 a)) (St.le_mk ⟨rfl, rfl, rfl, rfl, trivial⟩ trivial rfl rfl) (CInv.first ha) ?_
  rintro ⟨out, next⟩ hI
  try simp only at hI ⊢
  repeat refine AW.seq ?_
  refine AW.region ?_
  refine A1 rfl ?_
  refine RL.step (d := some 16) rfl rfl (xj_neqV (Y := 0#64) rfl rfl) ?_
  repeat refine AW.seq ?_
  refine AW.condP rfl (fun hc16 => ?_) (fun hc16 => ?_)
  · refine AW.skip ?_
    repeat refine AW.seq ?_
    refine AW.block ?_
    repeat refine AW.seq ?_
    refine AW.region ?_
    refine A1 rfl ?_
    repeat refine AW.seq ?_
    refine AW.region ?_
    iterate 3 refine A1 rfl ?_
    repeat refine AW.seq ?_
    refine AW.block ?_
    repeat refine AW.seq ?_
    refine AW.loop (st := fun x_1 : Nat × B64 => mkS [(0, .pv (psets G)), (1, .pv (setP rest)), (7, .pv (setP out)), (8, .pv (setP next)), (9, .pv (setP x_1.2)), (17, .pv (psets G)), (18, .pv (.int .i64 G.length)), (19, .pv (.int .i64 x_1.1))] [] 0)
      (I := fun x_1 => x_1.1 ≤ G.length ∧ ∀ c, x_1.2.getLsbD c = (List.range x_1.1).any fun b => next.getLsbD b && (G.getD b 0#64).getLsbD c) (μ := fun x_1 => G.length - x_1.1) (x0 := (0, 0#64)) (St.le_mk ⟨rfl, rfl, rfl, rfl, rfl, rfl, rfl, rfl, trivial⟩ trivial rfl rfl) (⟨Nat.zero_le _, fun c => by simp⟩) ?_
    rintro ⟨k, near⟩ ⟨hk, hnear⟩
    try simp only at hk hnear ⊢
    repeat refine AW.seq ?_
    refine AW.region ?_
    refine A1 rfl ?_
    repeat refine AW.seq ?_
    refine AW.condP rfl (fun hc20 => ?_) (fun hc20 => ?_)
    · have hlt : k < G.length := by omega
      have hv := psets_at hlt
      have hne := psets_ne hlt
      refine AW.skip ?_
      repeat refine AW.seq ?_
      refine AW.block ?_
      repeat refine AW.seq ?_
      refine AW.region ?_
      iterate 2 refine A1 rfl ?_
      first | refine A2 rfl (by assumption) ?_ | refine A1 rfl ?_
      iterate 2 refine A1 rfl ?_
      repeat refine AW.seq ?_
      refine AW.region ?_
      iterate 2 refine A1 rfl ?_
      refine RL.step (d := some 26) rfl rfl (xj_call Tryz.call69 (has_sp next k (by omega)) rfl) ?_
      repeat refine AW.seq ?_
      refine AW.cond rfl (fun hc26 => ?_) (fun hc26 => ?_)
      · repeat refine AW.seq ?_
        refine AW.region ?_
        iterate 2 refine A1 rfl ?_
        refine RL.step (d := some 29) rfl rfl (xj_orV rfl rfl) ?_
        refine A1 rfl ?_
        repeat refine AW.seq ?_
        refine AW.region ?_
        iterate 2 refine A1 rfl ?_
        exact ⟨(k + 1, near ||| G[k]), St.le_mk ⟨rfl, rfl, rfl, rfl, rfl, rfl, rfl, rfl, trivial⟩ trivial rfl rfl, ⟨by simp only; omega, fun c => (near_next (hnear c) hlt).1 hc26⟩, by simp only; omega⟩
      · refine AW.skip ?_
        repeat refine AW.seq ?_
        refine AW.region ?_
        iterate 2 refine A1 rfl ?_
        exact ⟨(k + 1, near), St.le_mk ⟨rfl, rfl, rfl, rfl, rfl, rfl, rfl, rfl, trivial⟩ trivial rfl rfl, ⟨by simp only; omega, fun c => (near_next (hnear c) hlt).2 hc26⟩, by simp only; omega⟩
    · have hkG : k = G.length := by omega
      rw [hkG] at hnear
      repeat refine AW.seq ?_
      refine AW.exit ?_
      repeat refine AW.seq ?_
      refine AW.region ?_
      iterate 2 refine A1 rfl ?_
      refine RL.step (d := some 33) rfl rfl (xj_andV rfl rfl) ?_
      refine A1 rfl ?_
      refine RL.step (d := some 35) rfl rfl (xj_andNotV rfl rfl) ?_
      refine A1 rfl ?_
      repeat refine AW.seq ?_
      refine AW.region ?_
      iterate 2 refine A1 rfl ?_
      refine RL.step (d := some 38) rfl rfl (xj_orV rfl rfl) ?_
      refine A1 rfl ?_
      exact ⟨(out ||| (near &&& rest &&& ~~~out), near &&& rest &&& ~~~out), St.le_mk ⟨rfl, rfl, rfl, rfl, trivial⟩ trivial rfl rfl, hI.next hnear, meas_lt hc16⟩
  · have hz : next = 0#64 := Classical.byContradiction hc16
    subst hz
    repeat refine AW.seq ?_
    refine AW.exit ?_
    repeat refine AW.seq ?_
    refine AW.region ?_
    iterate 2 refine A1 rfl ?_
    repeat refine AW.seq ?_
    refine AW.ret ?_
    exact ⟨_, _, rfl, rfl, congrArg (fun x => setP x) hI.last⟩
theorem comps_len (G : List B64) (rest : B64) : ∀ k, (compsN G rest k).1.length ≤ k
  | 0 => Nat.le_refl _
  | k + 1 => by
    have := comps_len G rest k
    simp only [compsN]
    split
    · simp; omega
    · omega
theorem sets_snoc (L : List B64) (x : B64) : setsP (L ++ [x]) = setsP L ++ [setP x] := by simp
theorem comps_spec (G : List B64) (hG : G.length ≤ 12) (rest : B64) : FnP Tryz.prog 73 [psets G, setP rest] (· = psets (compsN G rest G.length).1) := by
  refine FnP.of Tryz.func73 rfl Tryz.ntmps73 (by simp) fun m0 w0 F R0 => ?_
  repeat refine AW.seq ?_
  refine AW.region ?_
  refine A1 rfl ?_
  repeat refine AW.seq ?_
  refine AW.region ?_
  refine A1 rfl ?_
  refine AW.weaken (St.le_gro 5 0 1 101 rfl rfl) ?_
  repeat refine AW.seq ?_
  refine AW.region ?_
  iterate 3 refine A1 rfl ?_
  repeat refine AW.seq ?_
  refine AW.block ?_
  repeat refine AW.seq ?_
  refine AW.loop (st := fun x_0 : Nat × List B64 × B64 => mkS [(0, .pv (psets G)), (1, .pv (setP x_0.2.2)), (5, .gsl 0 1 x_0.2.1.length), (9, .pv (.int .i64 G.length)), (10, .pv (.int .i64 x_0.1))] [(0, .gro 101 (setsP x_0.2.1))] 1)
    (I := fun x_0 => x_0.1 ≤ G.length ∧ compsN G rest x_0.1 = (x_0.2.1, x_0.2.2)) (μ := fun x_0 => G.length - x_0.1) (x0 := (0, [], rest)) (St.le_mk ⟨rfl, rfl, rfl, rfl, rfl, trivial⟩ ⟨rfl, trivial⟩ rfl rfl) (⟨Nat.zero_le _, rfl⟩) ?_
  rintro ⟨k, L, R⟩ ⟨hk, hc⟩
  try simp only at hk hc ⊢
  repeat refine AW.seq ?_
  refine AW.region ?_
  refine A1 rfl ?_
  repeat refine AW.seq ?_
  refine AW.condP rfl (fun hc11 => ?_) (fun hc11 => ?_)
  · have hlt : k < G.length := by omega
    have hsl : (setsP L).length = L.length * 1 := by simp
    have hLl : L.length ≤ k := by have := comps_len G rest k; rw [hc] at this; exact this
    have hn : compsN G rest (k + 1) = if R.getLsbD k = true then (L ++ [compB G R k], R &&& ~~~compB G R k) else (L, R) := by simp only [compsN, hc]
    refine AW.skip ?_
    repeat refine AW.seq ?_
    refine AW.block ?_
    repeat refine AW.seq ?_
    refine AW.region ?_
    iterate 2 refine A1 rfl ?_
    repeat refine AW.seq ?_
    refine AW.region ?_
    iterate 2 refine A1 rfl ?_
    refine RL.step (d := some 15) rfl rfl (xj_call Tryz.call69 (has_sp R k (by omega)) rfl) ?_
    repeat refine AW.seq ?_
    refine AW.cond rfl (fun hc15 => ?_) (fun hc15 => ?_)
    · rw [if_pos hc15] at hn
      repeat refine AW.seq ?_
      refine AW.region ?_
      iterate 3 refine A1 rfl ?_
      refine RL.step (d := some 19) rfl rfl (xj_call Tryz.call70 (comp_spec G hG R k (by omega)) rfl) ?_
      refine A1 rfl ?_
      repeat refine AW.seq ?_
      refine AW.region ?_
      iterate 5 refine A1 rfl ?_
      repeat refine AW.seq ?_
      refine AW.region ?_
      iterate 2 refine A1 rfl ?_
      refine RL.step (d := some 26) rfl rfl (xj_andNotV rfl rfl) ?_
      refine A1 rfl ?_
      repeat refine AW.seq ?_
      refine AW.region ?_
      iterate 2 refine A1 rfl ?_
      exact ⟨(k + 1, L ++ [compB G R k], R &&& ~~~compB G R k), St.le_mkR [2] ⟨rfl, rfl, by simp; rfl, rfl, rfl, trivial⟩ ⟨congrArg (fun c => some (Ob.gro 101 c)) (sets_snoc L _).symm, trivial⟩ rfl rfl (by decide) rfl, ⟨by simp only; omega, hn⟩, by simp only; omega⟩
    · rw [if_neg (by rw [hc15]; decide)] at hn
      refine AW.skip ?_
      repeat refine AW.seq ?_
      refine AW.region ?_
      iterate 2 refine A1 rfl ?_
      exact ⟨(k + 1, L, R), St.le_mk ⟨rfl, rfl, rfl, rfl, rfl, trivial⟩ ⟨rfl, trivial⟩ rfl rfl, ⟨by simp only; omega, hn⟩, by simp only; omega⟩
  · repeat refine AW.seq ?_
    refine AW.exit ?_
    refine AW.weaken (St.le_pubA 0 rfl rfl) ?_
    repeat refine AW.seq ?_
    refine AW.region ?_
    iterate 2 refine A1 rfl ?_
    repeat refine AW.seq ?_
    refine AW.ret ?_
    exact ⟨_, _, rfl, rfl, by rw [show G.length = k by omega, hc]; simp; rfl⟩
end Go.Proofs.YtkalgjnhaicabaaGreat
namespace Go.Proofs.YtkalgjnhaicabaaGreat
open Go.RowKit Mk
set_option maxRecDepth 100000
set_option maxHeartbeats 1000000
section
variable {C : Ctx} {n : Nat} {σ τ : St} {ops : Array Oper} {dst : Option Tmp} {ty : TypeId} {ts : Array TypeId} {pos : String} {after : Array Edge} {gd : Option (Nat × Bool)}
theorem Agr.argsV {s : OS} {rd : List Nat} {y : Operand} {xs : Array Operand} (h : Agr n ops ⟨dst, .call { callee := .value y, args := xs, argTypes := ts }, ty, pos, after, gd⟩ σ τ s rd) : xs.toList.map (τ.ev n) = xs.toList.map (σ.ev n) := by
  apply List.map_congr_left
  intro x hx
  obtain ⟨i, hi⟩ := List.getElem?_of_mem hx
  exact h.e (i + 1) x (by simpa [Op.operands, Call.operands, Nat.add_comm] using hi)
/-- A call of a function value that is handed places, if it always leaves the same. -/
theorem xj_callVF {f : FuncId} {xs : Array Operand} {y : Operand} {fs cs : List V} {args : List V} {os : List (Nat × Ob)} {k' : Nat} {r : V} {X : Nat → Option Ob} {vs : List V} (ids : List Nat) (base : Nat) (hc : CallOk C.P f) (hf : FnO C.P f ids.length k' args os (fun v ob' => v = r ∧ ob' = X)) (hy : σ.ev n y = .fn (.func f) fs cs) (hxs : xs.toList.map (σ.ev n) = vs) (hargs : fs ++ vs ++ cs = V.renL (renI ids base) args)
    (ha : V.allL (okR ids.length 0) args = true) (hos : os.map (·.1) = (List.range ids.length).map (big + ·)) (hob : os.all (fun p => p.2.all (okR ids.length 0)) = true) (hobs : allObR σ (renI ids base) os)
    (hnd : ids.Nodup) (hav : (nwO base k').all σ.av = true) :
    XJ C n ⟨dst, .call { callee := .value y, args := xs, argTypes := ts }, ty, pos, after, gd⟩ σ ⟨r.ren (renI ids base), wrO ids base k' X, nwO base k'⟩ :=
  oj_callVO ids base hc hy (by rw [hxs]; exact hargs) ha hos hob hobs hnd hav hf (by rintro _ _ ⟨rfl, rfl⟩; rfl)
end
/-- What a component adds to the parents: its first number in q has the parent par; the rest of it is placed by W. -/
def placeC (q : List Int) (W : B64 → Int → List Int → List Int) (par : Int) (P : List Int) (c : B64) : List Int :=
  match q.find? (fun a => c.getLsbD a.toNat) with
  | some a => W (c &&& ~~~(BitVec.twoPow 64 a.toNat)) a (P.set a.toNat par)
  | none => P
noncomputable def placeF (G : List B64) (q : List Int) : Nat → B64 → Int → List Int → List Int
  | 0, _, _, P => P
  | f + 1, rest, par, P => (compsN G rest G.length).1.foldl (placeC q (placeF G q f) par) P
abbrev plF (G : List B64) (q : List Int) : V := .fn (.func 72) [] [.pv (.rp [psets G] 0), .pv (.rp [pints q] 0), .ptr big 0, .ptr 1000001 0]
abbrev plA (G : List B64) (q : List Int) (rest : B64) (par : Int) : List V := [.pv (setP rest), .pv (.int .i64 par), .pv (.rp [psets G] 0), .pv (.rp [pints q] 0), .ptr big 0, .ptr 1000001 0]
abbrev plO (G : List B64) (q : List Int) (P : List Int) : List (Nat × Ob) := [(big, .mix 29 [.osl 1000002 1 G.length]), (1000001, .mix 107 [plF G q]), (1000002, intsO P)]
theorem find_take {q : List Int} {p : Int → Bool} {k : Nat} (hk : k < q.length) (hno : q.take k |>.all (fun a => !p a)) (h : p q[k] = true) : q.find? p = some q[k] := by
  rw [List.find?_eq_some_iff_append]
  refine ⟨h, q.take k, q.drop (k + 1), ?_, fun a ha => List.all_eq_true.1 hno a ha⟩
  conv => lhs; rw [← List.take_append_drop k q]
  rw [List.drop_eq_getElem_cons hk]
theorem place_step (G : List B64) (hG : G.length ≤ 12) (q : List Int) (hq : ∀ a ∈ q, 0 ≤ a ∧ a < G.length) (hql : q.length ≤ 1000) (W : B64 → Int → List Int → List Int) (hWl : ∀ r p P, (W r p P).length = P.length) (rest : B64) (par : Int)
    (hrec : ∀ c ∈ (compsN G rest G.length).1, ∀ (a : Nat) (P : List Int), a < G.length → c.getLsbD a = true → P.length = G.length → FnO Tryz.prog 72 3 0 (plA G q (c &&& ~~~(BitVec.twoPow 64 a)) a) (plO G q P) (fun r ob' => r = .tup [] ∧ ob' = lookO (plO G q (W (c &&& ~~~(BitVec.twoPow 64 a)) a P))))
    (P : List Int) (hP : P.length = G.length) :
    FnO Tryz.prog 72 3 0 (plA G q rest par) (plO G q P) (fun r ob' => r = .tup [] ∧ ob' = lookO (plO G q ((compsN G rest G.length).1.foldl (placeC q W par) P))) := by
  refine FnO.of Tryz.func72 rfl Tryz.ntmps72 (by simp) fun m0 w0 F R0 => ?_
  have hcl := comps_len G rest G.length
  have hlen : ∀ (Q : List Int) c, (placeC q W par Q c).length = Q.length := by
    intro Q c; unfold placeC; split
    · rw [hWl]; simp
    · rfl
  repeat refine AW.seq ?_
  refine AW.region ?_
  first | refine A1 rfl ?_ | refine A2 rfl (by assumption) ?_
  refine A1 rfl ?_
  refine RL.step (d := some 14) rfl rfl (xj_call Tryz.call73 (comps_spec G hG rest) rfl) ?_
  iterate 2 refine A1 rfl ?_
  repeat refine AW.seq ?_
  refine AW.block ?_
  repeat refine AW.seq ?_
  refine AW.loop (st := fun x_0 : Nat × List Int => mkS [(1, .pv (.int .i64 par)), (3, .pv (.rp [pints q] 0)), (4, .ptr big 0), (5, .ptr 1000001 0), (14, .pv (psets (compsN G rest G.length).1)), (15, .pv (.int .i64 (compsN G rest G.length).1.length)), (16, .pv (.int .i64 x_0.1))] [(big, .mix 29 [.osl 1000002 1 G.length]), (1000001, .mix 107 [plF G q]), (1000002, intsO x_0.2)] 0)
    (I := fun x_0 => x_0.1 ≤ (compsN G rest G.length).1.length ∧ x_0.2.length = P.length ∧ x_0.2 = ((compsN G rest G.length).1.take x_0.1).foldl (placeC q W par) P) (μ := fun x_0 => (compsN G rest G.length).1.length - x_0.1) (x0 := (0, P)) (St.le_mk ⟨rfl, rfl, rfl, rfl, rfl, rfl, rfl, trivial⟩ ⟨rfl, rfl, rfl, trivial⟩ rfl rfl) (⟨Nat.zero_le _, rfl, rfl⟩) ?_
  rintro ⟨k, Q⟩ ⟨hk, hQl, hQ⟩
  try simp only at hk hQl hQ ⊢
  repeat refine AW.seq ?_
  refine AW.region ?_
  refine A1 rfl ?_
  repeat refine AW.seq ?_
  refine AW.condP rfl (fun hc17 => ?_) (fun hc17 => ?_)
  · have hlt : k < (compsN G rest G.length).1.length := by omega
    have hv := psets_at hlt
    have hne := psets_ne hlt
    have hcm := List.getElem_mem hlt
    have hfs : ((compsN G rest G.length).1.take (k + 1)).foldl (placeC q W par) P = placeC q W par Q (compsN G rest G.length).1[k] := by rw [take_snoc hlt, List.foldl_append, ← hQ]; rfl
    generalize hcd : (compsN G rest G.length).1[k] = c at *
    refine AW.skip ?_
    repeat refine AW.seq ?_
    refine AW.block ?_
    repeat refine AW.seq ?_
    refine AW.region ?_
    refine A1 rfl ?_
    first | refine A2 rfl (by assumption) ?_ | refine A1 rfl ?_
    refine A1 rfl ?_
    repeat refine AW.seq ?_
    refine AW.region ?_
    first | refine A1 rfl ?_ | refine A2 rfl (by assumption) ?_
    iterate 2 refine A1 rfl ?_
    repeat refine AW.seq ?_
    refine AW.block ?_
    repeat refine AW.seq ?_
    refine AW.loop (st := fun x_1 : Nat => mkS [(1, .pv (.int .i64 par)), (3, .pv (.rp [pints q] 0)), (4, .ptr big 0), (5, .ptr 1000001 0), (9, .pv (setP c)), (14, .pv (psets (compsN G rest G.length).1)), (15, .pv (.int .i64 (compsN G rest G.length).1.length)), (16, .pv (.int .i64 k)), (20, .pv (pints q)), (21, .pv (.int .i64 q.length)), (22, .pv (.int .i64 x_1))] [(big, .mix 29 [.osl 1000002 1 G.length]), (1000001, .mix 107 [plF G q]), (1000002, intsO Q)] 0)
      (I := fun x_1 => x_1 ≤ q.length ∧ (q.take x_1).all (fun a => !c.getLsbD a.toNat) = true) (μ := fun x_1 => q.length - x_1) (x0 := (0)) (St.le_mk ⟨rfl, rfl, rfl, rfl, rfl, rfl, rfl, rfl, rfl, rfl, rfl, trivial⟩ ⟨rfl, rfl, rfl, trivial⟩ rfl rfl) (⟨Nat.zero_le _, rfl⟩) ?_
    rintro j ⟨hj, hno⟩
    repeat refine AW.seq ?_
    refine AW.region ?_
    refine A1 rfl ?_
    repeat refine AW.seq ?_
    refine AW.condP rfl (fun hc23 => ?_) (fun hc23 => ?_)
    · have hjl : j < q.length := by omega
      have hvj := pints_at hjl
      have hnej := pints_ne hjl
      have hqj := hq _ (List.getElem_mem hjl)
      obtain ⟨a, ha⟩ := Int.eq_ofNat_of_zero_le hqj.1
      have hat : q[j].toNat = a := by omega
      have hhas : FnP Tryz.prog 69 [setP c, .int .i64 q[j]] (· = .bool (c.getLsbD a)) := by rw [ha]; exact has_sp c a (by omega)
      have hof : FnP Tryz.prog 71 [.int .i64 q[j]] (· = setP (BitVec.twoPow 64 a)) := by rw [ha]; exact of_spec a (by omega)
      refine AW.skip ?_
      repeat refine AW.seq ?_
      refine AW.block ?_
      repeat refine AW.seq ?_
      refine AW.region ?_
      refine A1 rfl ?_
      first | refine A2 rfl (by assumption) ?_ | refine A1 rfl ?_
      refine A1 rfl ?_
      repeat refine AW.seq ?_
      refine AW.region ?_
      iterate 2 refine A1 rfl ?_
      refine RL.step (d := some 28) rfl rfl (xj_call Tryz.call69 hhas rfl) ?_
      repeat refine AW.seq ?_
      refine AW.cond rfl (fun hc28 => ?_) (fun hc28 => ?_)
      · have hgo := hrec c hcm a (Q.set a par) (by omega) hc28 (by simp; omega)
        have hpl : placeC q W par Q c = W (c &&& ~~~(BitVec.twoPow 64 a)) a (Q.set a par) := by unfold placeC; rw [find_take hjl hno (by rw [hat]; exact hc28)]; simp only [hat, ha, Int.toNat_natCast]
        have hlW : (W (c &&& ~~~(BitVec.twoPow 64 a)) a (Q.set a par)).length = P.length := by rw [hWl]; simp; omega
        have hset : intsP (Q.set a par) = (intsP Q).set (a * 1) (.int .i64 par) := by simp [List.map_set]
        repeat refine AW.seq ?_
        refine AW.region ?_
        refine A1 rfl ?_
        first | refine A1 rfl ?_ | refine A2 rfl (by assumption) ?_
        iterate 2 refine A1 rfl ?_
        refine RL.step (d := some 33) rfl rfl (xj_indexAddrO a Tryz.underlying22 sz3 rfl rfl rfl ha (by omega)) ?_
        refine RL.step (d := none) rfl rfl (xj_storeP sz3 rfl rfl rfl rfl (by simp; omega)) ?_
        repeat refine AW.seq ?_
        refine AW.draw follows [[], [], [], [2], [3, 1, 2], [], [5, 4, 0, 3, 1, 2]] [0, 1, 2, 3, 4, 5, 6] (by kernel_rfl) (by kernel_rfl) ?_
        first | refine D1 rfl rfl ?_ | refine D2 rfl rfl (by assumption) ?_
        iterate 2 refine D1 rfl rfl ?_
        refine DL.step (d := some 37) [] rfl rfl rfl (fun τ h => xj_call Tryz.call71 hof (h.argsP rfl)) rfl (by kernel_rfl) ?_
        refine DL.step (d := some 38) [] rfl rfl rfl (fun τ h => xj_andNotV ((h.e 0 _ rfl).trans rfl) ((h.e 1 _ rfl).trans rfl)) rfl (by kernel_rfl) ?_
        refine D1 rfl rfl ?_
        refine DL.step (d := some 40) [big, 1000001, 1000002] rfl rfl rfl (fun τ h => xj_callVF [big, 1000001, 1000002] 0 Tryz.call72 hgo ((h.e 0 _ rfl).trans rfl) (h.argsV.trans rfl) (by rw [← ha]; rfl) rfl rfl rfl ⟨((h.o 0 _ rfl).trans rfl), ((h.o 1 _ rfl).trans rfl), ((h.o 2 _ rfl).trans (congrArg (fun c => some (Ob.cells 3 c)) hset.symm)), trivial⟩ (by decide) rfl) rfl (by kernel_rfl) ?_
        refine ⟨by kernel_rfl, ?_⟩
        repeat refine AW.seq ?_
        refine AW.exit ?_
        repeat refine AW.seq ?_
        refine AW.region ?_
        iterate 2 refine A1 rfl ?_
        exact ⟨(k + 1, W (c &&& ~~~(BitVec.twoPow 64 a)) a (Q.set a par)), St.le_mk ⟨rfl, rfl, rfl, rfl, rfl, rfl, rfl, trivial⟩ ⟨rfl, rfl, rfl, trivial⟩ rfl rfl, ⟨by simp only; omega, hlW, by simp only; rw [hfs, hpl]⟩, by simp only; omega⟩
      · refine AW.skip ?_
        repeat refine AW.seq ?_
        refine AW.region ?_
        iterate 2 refine A1 rfl ?_
        exact ⟨(j + 1), St.le_mk ⟨rfl, rfl, rfl, rfl, rfl, rfl, rfl, rfl, rfl, rfl, rfl, trivial⟩ ⟨rfl, rfl, rfl, trivial⟩ rfl rfl, ⟨by omega, all_take hjl hno (by rw [hat, hc28]; rfl)⟩, by omega⟩
    · have hnone : q.find? (fun a => c.getLsbD a.toNat) = none := by rw [List.take_of_length_le (by omega)] at hno; rw [List.find?_eq_none]; intro x hx; have := List.all_eq_true.1 hno x hx; simpa using this
      have hpl : placeC q W par Q c = Q := by unfold placeC; rw [hnone]
      repeat refine AW.seq ?_
      refine AW.exit ?_
      repeat refine AW.seq ?_
      refine AW.region ?_
      iterate 2 refine A1 rfl ?_
      exact ⟨(k + 1, Q), St.le_mk ⟨rfl, rfl, rfl, rfl, rfl, rfl, rfl, trivial⟩ ⟨rfl, rfl, rfl, trivial⟩ rfl rfl, ⟨by simp only; omega, hQl, by simp only; rw [hfs, hpl]⟩, by simp only; omega⟩
  · repeat refine AW.seq ?_
    refine AW.exit ?_
    exact ⟨[], plO G q ((compsN G rest G.length).1.foldl (placeC q W par) P), [], St.le_mk trivial (by rw [List.take_of_length_le (by omega)] at hQ; rw [← hQ]; exact ⟨by kernel_rfl, by kernel_rfl, by kernel_rfl, trivial⟩) rfl rfl, rfl, rfl, rfl, rfl, rfl⟩
theorem compB_sub {G : List B64} {R : B64} {a i : Nat} (ha : R.getLsbD a = true) (h : (compB G R a).getLsbD i = true) : R.getLsbD i = true := by
  cases compB_reach h with
  | refl => exact ha
  | step _ _ h => exact h
theorem comps_sub (G : List B64) (rest : B64) : ∀ k, (∀ i, (compsN G rest k).2.getLsbD i = true → rest.getLsbD i = true) ∧ ∀ c ∈ (compsN G rest k).1, ∀ i, c.getLsbD i = true → rest.getLsbD i = true
  | 0 => ⟨fun _ h => h, fun c hc => by simp [compsN] at hc⟩
  | k + 1 => by
    obtain ⟨h1, h2⟩ := comps_sub G rest k
    simp only [compsN]
    split
    · rename_i hk
      refine ⟨fun i hi => ?_, fun c hc i hi => ?_⟩
      · rw [BitVec.getLsbD_and, Bool.and_eq_true] at hi; exact h1 i hi.1
      · rcases List.mem_append.1 hc with h | h
        · exact h2 c h i hi
        · rw [List.mem_singleton.1 h] at hi; exact h1 i (compB_sub hk hi)
    · exact ⟨h1, h2⟩
def popB (x : B64) : Nat := (List.range 64).countP fun i => x.getLsbD i
theorem pop_lt {x y : B64} (h : ∀ i, x.getLsbD i = true → y.getLsbD i = true) {j : Nat} (h1 : x.getLsbD j = false) (h2 : y.getLsbD j = true) : popB x < popB y :=
  countP_lt (fun a _ ha => h a ha) ⟨j, List.mem_range.2 (bits_lt h2), h1, h2⟩
theorem diff_bit (c : B64) (a i : Nat) : (c &&& ~~~(BitVec.twoPow 64 a)).getLsbD i = (c.getLsbD i && decide (a ≠ i)) := by
  rw [BitVec.getLsbD_and, BitVec.getLsbD_not, BitVec.getLsbD_twoPow]
  by_cases hi : i < 64
  · by_cases e : a = i
    · subst e; simp [hi]
    · simp [hi, e]
  · rw [BitVec.getLsbD_of_ge c i (by omega)]; rfl
theorem pop_step {G : List B64} {rest c : B64} {k a : Nat} (hc : c ∈ (compsN G rest k).1) (ha : c.getLsbD a = true) : popB (c &&& ~~~(BitVec.twoPow 64 a)) < popB rest := by
  have hs := (comps_sub G rest k).2 c hc
  refine pop_lt (fun i hi => ?_) (j := a) ?_ (hs a ha)
  · rw [diff_bit, Bool.and_eq_true] at hi; exact hs i hi.1
  · rw [diff_bit]; simp
theorem pop_zero {x : B64} (h : popB x = 0) (i : Nat) : x.getLsbD i = false := by
  cases e : x.getLsbD i with
  | false => rfl
  | true =>
    have := List.countP_eq_zero.1 h i (List.mem_range.2 (bits_lt e))
    exact absurd e this
theorem comps_zero (G : List B64) {rest : B64} (h : ∀ i, rest.getLsbD i = false) : ∀ k, compsN G rest k = ([], rest)
  | 0 => rfl
  | k + 1 => by simp only [compsN, comps_zero G h k, h k]; simp
theorem place_len (G : List B64) (q : List Int) : ∀ (f : Nat) (rest : B64) (par : Int) (P : List Int), (placeF G q f rest par P).length = P.length
  | 0, _, _, _ => rfl
  | f + 1, rest, par, P => by
    simp only [placeF]
    generalize (compsN G rest G.length).1 = cs
    induction cs generalizing P with
    | nil => rfl
    | cons c cs ih =>
      rw [List.foldl_cons, ih]
      unfold placeC; split
      · rw [place_len G q f]; simp
      · rfl
theorem place_all (G : List B64) (hG : G.length ≤ 12) (q : List Int) (hq : ∀ a ∈ q, 0 ≤ a ∧ a < G.length) (hql : q.length ≤ 1000) : ∀ (f : Nat) (rest : B64) (par : Int) (P : List Int), popB rest ≤ f → P.length = G.length →
    FnO Tryz.prog 72 3 0 (plA G q rest par) (plO G q P) (fun r ob' => r = .tup [] ∧ ob' = lookO (plO G q (placeF G q f rest par P)))
  | 0, rest, par, P, hf, hP => by
    have hz := comps_zero G (pop_zero (Nat.le_zero.1 hf)) G.length
    have := place_step G hG q hq hql (fun _ _ P => P) (fun _ _ _ => rfl) rest par (by rw [hz]; intro c hc; cases hc) P hP
    rw [hz] at this
    exact this
  | f + 1, rest, par, P, hf, hP => place_step G hG q hq hql (placeF G q f) (place_len G q f) rest par (fun c hc a P' ha hca hP' => place_all G hG q hq hql f _ _ P' (by have := pop_step hc hca; omega) hP') P hP
theorem pop_le (x : B64) : popB x ≤ 64 := Nat.le_trans List.countP_le_length (by simp)
noncomputable def ofL (G : List B64) (q : List Int) : List Int := placeF G q 64 (allB G.length) (-1) (List.replicate G.length 0)
theorem ofL_len (G : List B64) (q : List Int) : (ofL G q).length = G.length := by unfold ofL; rw [place_len]; simp
theorem ouOf_spec (S : Sch) (hS : SB S) (hV : Valid S) (q : List Int) (hq : ∀ a ∈ q, 0 ≤ a ∧ a < S.attrs.length) (hql : q.length ≤ 1000) : FnP Tryz.prog 44 [schP S, pints q] (fun v => ∃ G, IsG S G ∧ v = ordP (ofL G q)) := by
  refine FnP.fg2 (FnP.ofC Tryz.func44 rfl Tryz.ntmps44 (by simp) fun m0 w0 F R0 => ?_)
  have hn12 := hV.n2
  repeat refine AW.seq ?_
  refine AW.region ?_
  iterate 3 refine A1 rfl ?_
  repeat refine AW.seq ?_
  refine AW.region ?_
  refine A1 rfl ?_
  refine RL.call rfl (oj_call Tryz.call66 (ounew_spec S hS hV) rfl ?_)
  rintro _ ⟨G, rfl, hG⟩
  have hGl := hG.len
  iterate 2 refine A1 rfl ?_
  repeat refine AW.seq ?_
  refine AW.region ?_
  iterate 6 refine A1 rfl ?_
  repeat refine AW.seq ?_
  refine AW.region ?_
  refine A1 rfl ?_
  refine AW.weaken (St.le_ppA 1 rfl rfl) ?_
  refine AW.weaken (St.le_ppA 3 rfl rfl) ?_
  have hgo := place_all G (by omega) q (by rw [hGl]; exact hq) hql 64 (allB G.length) (-1) (List.replicate G.length 0) (pop_le _) (by simp)
  repeat refine AW.seq ?_
  refine AW.region ?_
  iterate 2 refine A1 rfl ?_
  repeat refine AW.seq ?_
  refine AW.draw follows [[], [], [1], [2, 0, 1]] [0, 1, 2, 3] (by kernel_rfl) (by kernel_rfl) ?_
  iterate 2 refine D1 rfl rfl ?_
  refine DL.step (d := some 17) [] rfl rfl rfl (fun τ h => xj_call Tryz.call67 (allB_spec G (by omega)) (h.argsP rfl)) rfl (by kernel_rfl) ?_
  refine DL.step (d := some 18) [5, 6, 4] rfl rfl rfl (fun τ h => xj_callVF [5, 6, 4] 7 Tryz.call72 hgo ((h.e 0 _ rfl).trans rfl) (h.argsV.trans rfl) rfl rfl rfl rfl ⟨((h.o 0 _ rfl).trans rfl), ((h.o 1 _ rfl).trans rfl), ((h.o 2 _ rfl).trans (congrArg (fun c => some (Ob.cells 3 c)) ((mkZ_one (.int .i64 0) (G.length * 1)).trans (by simp)))), trivial⟩ (by decide) rfl) rfl (by kernel_rfl) ?_
  refine ⟨by kernel_rfl, ?_⟩
  repeat refine AW.seq ?_
  refine AW.region ?_
  iterate 2 refine A1 rfl ?_
  repeat refine AW.seq ?_
  refine AW.ret ?_
  exact ⟨_, _, rfl, rfl, ⟨cellOk1 ⟨_, Tryz.underlying29, rfl⟩ sz29 rfl rfl rfl, trivial⟩, G, hG, by show PV.agg [.sl none G.length (intsP (ofL G q))] = _; rw [ordP, pints, ofL_len]⟩
end Go.Proofs.YtkalgjnhaicabaaGreat
namespace Go.Proofs.YtkalgjnhaicabaaGreat
open Go.RowKit Mk
set_option maxRecDepth 100000
set_option maxHeartbeats 1000000
/-- The graph of a schema. -/
noncomputable def gr (S : Sch) : List B64 := (List.range S.attrs.length).map fun a => bitsOf fun b => decide (a ≠ b) && linkB S a b
theorem gr_len (S : Sch) : (gr S).length = S.attrs.length := by simp [gr]
theorem link_lt {S : Sch} (hV : Valid S) {a b : Int} (h : linkB S a b = true) : (0 ≤ a ∧ a < S.attrs.length) ∧ (0 ≤ b ∧ b < S.attrs.length) := by
  unfold linkB at h
  obtain ⟨r, hr, h2⟩ := List.any_eq_true.1 h
  simp at h2
  exact ⟨hV.rng r hr a h2.1, hV.rng r hr b h2.2⟩
theorem gr_bit {S : Sch} (hV : Valid S) {a : Nat} (ha : a < S.attrs.length) (b : Nat) : ((gr S).getD a 0#64).getLsbD b = (decide (a ≠ b) && linkB S a b) := by
  have e : (gr S).getD a 0#64 = bitsOf fun b => decide (a ≠ b) && linkB S a b := by simp [gr, List.getD, ha]
  rw [e]
  by_cases hb : b < 64
  · rw [bitsOf_bit _ hb]
  · rw [BitVec.getLsbD_of_ge _ _ (by omega)]
    cases hl : linkB S a b with
    | false => simp
    | true => have := (link_lt hV hl).2; have := hV.n2; omega
theorem isG_eq {S : Sch} (hV : Valid S) {G : List B64} (h : IsG S G) : G = gr S := by
  apply List.ext_getElem
  · rw [h.len, gr_len]
  · intro a h1 h2
    apply BitVec.eq_of_getLsbD_eq
    intro b _
    have e1 := h.bit a h1 b
    have e2 := gr_bit hV (a := a) (by rw [← h.len]; exact h1) b
    rw [getD_eq h1] at e1
    rw [getD_eq h2] at e2
    rw [e1, e2]
noncomputable def ordL (S : Sch) (q : List Int) : List Int := ofL (gr S) q
theorem ouOf_sp (S : Sch) (hS : SB S) (hV : Valid S) (q : List Int) (hq : ∀ a ∈ q, 0 ≤ a ∧ a < S.attrs.length) (hql : q.length ≤ 1000) : FnP Tryz.prog 44 [schP S, pints q] (· = ordP (ordL S q)) :=
  (ouOf_spec S hS hV q hq hql).mono fun v ⟨G, hG, e⟩ => by rw [e, isG_eq hV hG]; rfl
theorem ordL_len (S : Sch) (q : List Int) : (ordL S q).length = S.attrs.length := by rw [ordL, ofL_len, gr_len]
def dupB (q : List Int) : Nat → Bool
  | 0 => false
  | k + 1 => dupB q k || decide (q.getD k 0 ∈ q.take k)
theorem dup_at {q : List Int} {k n : Nat} (hk : k < n) (h : decide (q.getD k 0 ∈ q.take k) = true) : dupB q n = true := by
  induction n with
  | zero => omega
  | succ n ih =>
    simp only [dupB, Bool.or_eq_true]
    by_cases e : k = n
    · subst e; exact .inr h
    · exact .inl (ih (by omega))
/-- What order.Of says of a permutation. -/
def ofE (S : Sch) (q : List Int) : Int :=
  if checkE S ≠ 0 then checkE S
  else if q.length ≠ S.attrs.length then 5
  else if (q.any fun a => decide (a < 0) || decide (a ≥ (q.length : Int))) = true then 2
  else if dupB q q.length = true then 9 else 0
noncomputable def ofV (S : Sch) (q : List Int) : PV := .tup [ordP (if ofE S q = 0 then ordL S q else []), .int .i64 (ofE S q)]
theorem ofV_bad {S : Sch} {q : List Int} {e : Int} (h : ofE S q = e) (h0 : e ≠ 0) : ofV S q = .tup [ordP [], .int .i64 e] := by
  unfold ofV; rw [h, if_neg h0]
theorem oof_spec (S : Sch) (hS : SB S) (q : List Int) (hql : q.length ≤ 1000000) : FnP Tryz.prog 15 [schP S, pints q] (· = ofV S q) := by
  refine FnP.fg2 (FnP.ofC Tryz.func15 rfl Tryz.ntmps15 (by simp) fun m0 w0 F R0 => ?_)
  have hb := hS.a
  repeat refine AW.seq ?_
  refine AW.region ?_
  iterate 3 refine A1 rfl ?_
  repeat refine AW.seq ?_
  refine AW.region ?_
  refine A1 rfl ?_
  refine RL.step (d := some 12) rfl rfl (xj_call Tryz.call42 (chk_spec S hS) rfl) ?_
  refine A1 rfl ?_
  repeat refine AW.seq ?_
  refine AW.region ?_
  iterate 2 refine A1 rfl ?_
  repeat refine AW.seq ?_
  refine AW.cond rfl (fun hc14 => ?_) (fun hc14 => ?_)
  · repeat refine AW.seq ?_
    refine AW.region ?_
    iterate 4 refine A1 rfl ?_
    repeat refine AW.seq ?_
    refine AW.ret ?_
    exact ⟨_, _, rfl, rfl, ⟨cellOk1 ⟨_, Tryz.underlying29, rfl⟩ sz29 rfl rfl rfl, trivial⟩, (ofV_bad (by unfold ofE; rw [if_pos (inT hc14)]) (inT hc14)).symm⟩
  · have h0 : checkE S = 0 := inF hc14
    have hV := valid_of h0
    refine AW.skip ?_
    repeat refine AW.seq ?_
    refine AW.region ?_
    iterate 6 refine A1 rfl ?_
    repeat refine AW.seq ?_
    refine AW.cond rfl (fun hc22 => ?_) (fun hc22 => ?_)
    · have hne0 : ¬ q.length = S.attrs.length := by have := inT hc22; omega
      repeat refine AW.seq ?_
      refine AW.region ?_
      iterate 3 refine A1 rfl ?_
      repeat refine AW.seq ?_
      refine AW.ret ?_
      exact ⟨_, _, rfl, rfl, ⟨cellOk1 ⟨_, Tryz.underlying29, rfl⟩ sz29 rfl rfl rfl, trivial⟩, (ofV_bad (by unfold ofE; rw [if_neg (fun h => h h0), if_pos hne0]) (by decide)).symm⟩
    · have heq : q.length = S.attrs.length := by have := inF hc22; omega
      refine AW.skip ?_
      repeat refine AW.seq ?_
      refine AW.region ?_
      iterate 3 refine A1 rfl ?_
      repeat refine AW.seq ?_
      refine AW.block ?_
      repeat refine AW.seq ?_
      refine AW.loop (st := fun x_0 : Nat => mkS [(1, .pv (pints q)), (2, .ptr 0 0), (4, .ptr 1 0), (24, .pv (pints q)), (25, .pv (.int .i64 q.length)), (26, .pv (.int .i64 x_0))] [(0, .mix 27 [.pv (.sl none S.attrs.length (attrsC S.attrs)), .pv (.sl none S.rels.length (relsC S.rels)), .pv (.sl none S.feats.length (featsC S.feats)), .pv (.int .i64 S.label)]), (1, .mix 29 [.pv (.sl (some true) 0 [])])] 2)
        (I := fun x_0 => x_0 ≤ q.length ∧ ((q.take x_0).any fun a => decide (a < 0) || decide (a ≥ (q.length : Int))) = false) (μ := fun x_0 => q.length - x_0) (x0 := (0)) (St.le_mk ⟨rfl, rfl, rfl, rfl, rfl, rfl, trivial⟩ ⟨rfl, rfl, trivial⟩ rfl rfl) (⟨Nat.zero_le _, rfl⟩) ?_
      rintro k ⟨hk, hany⟩
      repeat refine AW.seq ?_
      refine AW.region ?_
      refine A1 rfl ?_
      repeat refine AW.seq ?_
      refine AW.condP rfl (fun hc27 => ?_) (fun hc27 => ?_)
      · have hlt : k < q.length := by omega
        have hva := pints_at hlt
        have hne := pints_ne hlt
        refine AW.skip ?_
        repeat refine AW.seq ?_
        refine AW.block ?_
        repeat refine AW.seq ?_
        refine AW.region ?_
        refine A1 rfl ?_
        first | refine A2 rfl (by assumption) ?_ | refine A1 rfl ?_
        refine A1 rfl ?_
        repeat refine AW.seq ?_
        refine AW.region ?_
        iterate 3 refine A1 rfl ?_
        apply RL.orB 5 32 37 [33, 34, 35, 36] rfl (by first | exact MonoK.le | exact MonoK.aw | exact MonoK.back)
        · intro hb2
          iterate 5 refine A1 rfl ?_
          exact St.le_fg (fEq.upd (fEq.upd (fEq.upd (fEq.upd (fEq.upd (fEq.upd (fEq.refl) rfl) rfl) rfl) rfl) rfl) rfl) rfl rfl rfl
        · intro hb2
          iterate 5 refine A1 rfl ?_
          exact St.le_fg (fEq.upd (fEq.upd (fEq.upd (fEq.upd (fEq.upd (fEq.upd (fEq.refl) rfl) rfl) rfl) rfl) rfl) rfl) rfl rfl rfl
        repeat refine AW.seq ?_
        refine AW.cond rfl (fun hc37 => ?_) (fun hc37 => ?_)
        · repeat refine AW.seq ?_
          refine AW.region ?_
          iterate 3 refine A1 rfl ?_
          repeat refine AW.seq ?_
          refine AW.ret ?_
          exact ⟨_, _, rfl, rfl, ⟨cellOk1 ⟨_, Tryz.underlying29, rfl⟩ sz29 rfl rfl rfl, trivial⟩, (ofV_bad (by unfold ofE; rw [if_neg (fun h => h h0), if_neg (fun h => h heq), if_pos (any_at hlt hc37)]) (by decide)).symm⟩
        · refine AW.skip ?_
          repeat refine AW.seq ?_
          refine AW.region ?_
          iterate 2 refine A1 rfl ?_
          exact ⟨(k + 1), St.le_mk ⟨rfl, rfl, rfl, rfl, rfl, rfl, trivial⟩ ⟨rfl, rfl, trivial⟩ rfl rfl, ⟨by omega, any_take hlt hany hc37⟩, by omega⟩
      · rw [List.take_of_length_le (by omega)] at hany
        have hq : ∀ a ∈ q, 0 ≤ a ∧ a < S.attrs.length := fun a ha => by have := List.any_eq_false.1 hany a ha; simp at this; omega
        repeat refine AW.seq ?_
        refine AW.exit ?_
        repeat refine AW.seq ?_
        refine AW.region ?_
        iterate 3 refine A1 rfl ?_
        repeat refine AW.seq ?_
        refine AW.block ?_
        repeat refine AW.seq ?_
        refine AW.loop (st := fun x_1 : Nat => mkS [(1, .pv (pints q)), (2, .ptr 0 0), (4, .ptr 1 0), (40, .pv (pints q)), (41, .pv (.int .i64 q.length)), (42, .pv (.int .i64 x_1))] [(0, .mix 27 [.pv (.sl none S.attrs.length (attrsC S.attrs)), .pv (.sl none S.rels.length (relsC S.rels)), .pv (.sl none S.feats.length (featsC S.feats)), .pv (.int .i64 S.label)]), (1, .mix 29 [.pv (.sl (some true) 0 [])])] 2)
          (I := fun x_1 => x_1 ≤ q.length ∧ dupB q x_1 = false) (μ := fun x_1 => q.length - x_1) (x0 := (0)) (St.le_mk ⟨rfl, rfl, rfl, rfl, rfl, rfl, trivial⟩ ⟨rfl, rfl, trivial⟩ rfl rfl) (⟨Nat.zero_le _, rfl⟩) ?_
        rintro j ⟨hj, hdup⟩
        repeat refine AW.seq ?_
        refine AW.region ?_
        refine A1 rfl ?_
        repeat refine AW.seq ?_
        refine AW.condP rfl (fun hc43 => ?_) (fun hc43 => ?_)
        · have hlt : j < q.length := by omega
          have hva := pints_at hlt
          have hne := pints_ne hlt
          have hgd := getD_eq hlt (0 : Int)
          have htk : PV.sl none j ((intsP q).take (j * 1)) = pints (q.take j) := by simp [pints, List.map_take]; omega
          refine AW.skip ?_
          repeat refine AW.seq ?_
          refine AW.block ?_
          repeat refine AW.seq ?_
          refine AW.region ?_
          iterate 2 refine A1 rfl ?_
          first | refine A2 rfl (by assumption) ?_ | refine A1 rfl ?_
          iterate 2 refine A1 rfl ?_
          repeat refine AW.seq ?_
          refine AW.region ?_
          iterate 2 refine A1 rfl ?_
          refine RL.step (d := some 49) rfl rfl (XJ.cast (v' := .pv (pints (q.take j))) (xj_sliceTo j Tryz.underlying22 sz3 rfl rfl rfl (by omega) (by simp)) (by rw [← htk])) ?_
          refine A1 rfl ?_
          refine RL.step (d := some 51) rfl rfl (xj_call Tryz.call49 (contains_spec (q.take j) q[j] (by simp; omega)) rfl) ?_
          repeat refine AW.seq ?_
          refine AW.cond rfl (fun hc51 => ?_) (fun hc51 => ?_)
          · repeat refine AW.seq ?_
            refine AW.region ?_
            iterate 3 refine A1 rfl ?_
            repeat refine AW.seq ?_
            refine AW.ret ?_
            exact ⟨_, _, rfl, rfl, ⟨cellOk1 ⟨_, Tryz.underlying29, rfl⟩ sz29 rfl rfl rfl, trivial⟩, (ofV_bad (by unfold ofE; rw [if_neg (fun h => h h0), if_neg (fun h => h heq), if_neg (by rw [hany]; decide), if_pos (dup_at hlt (by rw [hgd]; exact hc51))]) (by decide)).symm⟩
          · refine AW.skip ?_
            repeat refine AW.seq ?_
            refine AW.region ?_
            iterate 2 refine A1 rfl ?_
            exact ⟨(j + 1), St.le_mk ⟨rfl, rfl, rfl, rfl, rfl, rfl, trivial⟩ ⟨rfl, rfl, trivial⟩ rfl rfl, ⟨by omega, by simp only [dupB, hdup, hgd, hc51]; rfl⟩, by omega⟩
        · have he : ofE S q = 0 := by unfold ofE; rw [if_neg (fun h => h h0), if_neg (fun h => h heq), if_neg (by rw [hany]; decide), if_neg (by rw [show q.length = j by omega, hdup]; decide)]
          have hn12 := hV.n2
          repeat refine AW.seq ?_
          refine AW.exit ?_
          repeat refine AW.seq ?_
          refine AW.region ?_
          iterate 2 refine A1 rfl ?_
          refine RL.step (d := some 56) rfl rfl (xj_call Tryz.call44 (ouOf_sp S hS hV q hq (by omega)) rfl) ?_
          iterate 2 refine A1 rfl ?_
          repeat refine AW.seq ?_
          refine AW.ret ?_
          exact ⟨_, _, rfl, rfl, ⟨cellOk1 ⟨_, Tryz.underlying29, rfl⟩ sz29 rfl rfl rfl, trivial⟩, by unfold ofV; rw [he, if_pos rfl]; rfl⟩
theorem perm_ofE {S : Sch} {q : List Int} (h0 : checkE S = 0) (hq : q.Perm (upZ S.attrs.length)) : ofE S q = 0 := by
  have hl : q.length = S.attrs.length := by rw [hq.length_eq, upZ_len]
  have hr : ∀ a ∈ q, 0 ≤ a ∧ a < S.attrs.length := by
    intro a ha
    have := hq.mem_iff.1 ha
    unfold upZ at this
    obtain ⟨i, hi, rfl⟩ := List.mem_map.1 this
    have := List.mem_range.1 hi
    simp; omega
  have hnd : q.Nodup := hq.nodup_iff.2 (by unfold upZ; exact List.Pairwise.map _ (fun a b h e => h (Int.ofNat.inj e)) List.nodup_range)
  have hd : ∀ k, k ≤ q.length → dupB q k = false := by
    intro k
    induction k with
    | zero => intro _; rfl
    | succ k ih =>
      intro hk
      simp only [dupB, ih (by omega), Bool.false_or, decide_eq_false_iff_not, getD_eq (show k < q.length by omega)]
      intro hm
      obtain ⟨i, hi, e⟩ := List.mem_take_iff_getElem.1 hm
      have hi2 : i < k := by omega
      have := List.pairwise_iff_getElem.1 hnd i k (by omega) (by omega) hi2
      exact this e
  unfold ofE
  rw [if_neg (fun h => h h0), if_neg (fun h => h hl), if_neg, if_neg (by rw [hd _ (Nat.le_refl _)]; decide)]
  rw [List.any_eq_true]
  rintro ⟨a, ha, h⟩
  have := hr a ha
  simp at h; omega
end Go.Proofs.YtkalgjnhaicabaaGreat
namespace Go.Proofs.YtkalgjnhaicabaaGreat
set_option maxHeartbeats 1000000
theorem nodup_perm {α : Type} [DecidableEq α] {l r : List α} (hl : l.Nodup) (hr : r.Nodup) (h : ∀ a, a ∈ l ↔ a ∈ r) : l.Perm r := by
  rw [List.perm_iff_count]
  intro a
  rw [hl.count, hr.count]
  by_cases e : a ∈ l
  · rw [if_pos e, if_pos ((h a).1 e)]
  · rw [if_neg e, if_neg (fun x => e ((h a).2 x))]
theorem upZ_mem {n : Nat} {x : Int} : x ∈ upZ n ↔ ∃ a : Nat, a < n ∧ x = (a : Int) := by
  unfold upZ
  rw [List.mem_map]
  constructor
  · rintro ⟨a, ha, rfl⟩; exact ⟨a, List.mem_range.1 ha, rfl⟩
  · rintro ⟨a, ha, rfl⟩; exact ⟨a, List.mem_range.2 ha, rfl⟩
theorem upZ_nodup (n : Nat) : (upZ n).Nodup := by
  unfold upZ; exact List.Pairwise.map _ (fun a b h e => h (Int.ofNat.inj e)) List.nodup_range
theorem upZ_pw (n : Nat) : (upZ n).Pairwise (· < ·) := by
  unfold upZ
  exact List.Pairwise.map _ (fun a b h => by simpa using h) List.pairwise_lt_range
structure UpOk (P : List Int) : Prop where
  rng : ∀ p ∈ P, -1 ≤ p ∧ p < P.length
  up : ∀ v, v < P.length → (abv P (v : Int)).isSome = true
theorem upF_mono {P : List Int} : ∀ {k : Nat} {x : Int} {l : List Int}, upF P k x = some l → upF P (k + 1) x = some l
  | 0, x, l, h => by
    simp only [upF] at h ⊢
    split at h
    · rename_i hx; rw [if_pos hx]; exact h
    · cases h
  | k + 1, x, l, h => by
    simp only [upF] at h
    unfold upF
    split at h
    · rename_i hx; rw [if_pos hx]; exact h
    · rename_i hx
      rw [if_neg hx]
      cases e : upF P k (P.getD x.toNat 0) with
      | none => rw [e] at h; cases h
      | some l' =>
        rw [e] at h
        rw [upF_mono e]; exact h
section
variable {P : List Int} (hP : UpOk P)
include hP
theorem par_cases {v : Nat} (hv : v < P.length) : P[v] = -1 ∨ ∃ a : Nat, a < P.length ∧ P[v] = (a : Int) := by
  have := hP.rng _ (List.getElem_mem hv)
  by_cases h : P[v] = -1
  · exact .inl h
  · obtain ⟨a, ha⟩ := Int.eq_ofNat_of_zero_le (show 0 ≤ P[v] by omega)
    exact .inr ⟨a, by omega, ha⟩
omit hP in
theorem abv_eq {v : Nat} (hv : v < P.length) : abv P v = upF P P.length P[v] := by simp [abv, List.getD, hv]
omit hP in
theorem abvL_root {v : Nat} (hv : v < P.length) (h : P[v] = -1) : abvL P v = [] := by
  unfold abvL
  rw [abv_eq hv, h, upF_neg (by decide)]; rfl
theorem abvL_cons {v a : Nat} (hv : v < P.length) (ha : a < P.length) (h : P[v] = (a : Int)) : abvL P v = (a : Int) :: abvL P a := by
  have hs := hP.up v hv
  have e := abv_eq hv
  rw [h] at e
  obtain ⟨k, hk⟩ : ∃ k, P.length = k + 1 := ⟨P.length - 1, by omega⟩
  rw [hk, upF_nat ha] at e
  cases e2 : upF P k P[a] with
  | none => rw [e, e2] at hs; cases hs
  | some l =>
    have e3 : abv P a = some l := by rw [abv_eq ha, hk]; exact upF_mono e2
    unfold abvL
    rw [e, e2, e3]; rfl
theorem up_ind {motive : Nat → Prop} (root : ∀ v (hv : v < P.length), P[v] = -1 → abvL P v = [] → motive v)
    (step : ∀ v (hv : v < P.length) a (_ : a < P.length), P[v] = (a : Int) → abvL P v = (a : Int) :: abvL P a → motive a → motive v) : ∀ v, v < P.length → motive v := by
  have key : ∀ m v, v < P.length → (abvL P v).length ≤ m → motive v := by
    intro m
    induction m with
    | zero =>
      intro v hv hl
      rcases par_cases hP hv with h | ⟨a, ha, h⟩
      · exact root v hv h (abvL_root hv h)
      · rw [abvL_cons hP hv ha h] at hl; simp at hl
    | succ m ih =>
      intro v hv hl
      rcases par_cases hP hv with h | ⟨a, ha, h⟩
      · exact root v hv h (abvL_root hv h)
      · have e := abvL_cons hP hv ha h
        rw [e] at hl
        exact step v hv a ha h e (ih a ha (by simpa using hl))
  exact fun v hv => key _ v hv (Nat.le_refl _)
theorem abvL_mem : ∀ v, v < P.length → ∀ x ∈ abvL P v, ∃ a : Nat, a < P.length ∧ x = (a : Int) ∧ ∃ pre, abvL P v = pre ++ (a : Int) :: abvL P a := by
  refine up_ind hP (fun v hv h e x hx => ?_) (fun v hv a ha h e ih x hx => ?_)
  · rw [e] at hx; cases hx
  · rw [e] at hx ⊢
    rcases List.mem_cons.1 hx with rfl | hx
    · exact ⟨a, ha, rfl, [], rfl⟩
    · obtain ⟨b, hb, rfl, pre, e2⟩ := ih x hx
      exact ⟨b, hb, rfl, (a : Int) :: pre, by rw [e2]; rfl⟩
theorem hi_len {v a : Nat} (hv : v < P.length) (h : (a : Int) ∈ abvL P v) : a < P.length ∧ (abvL P a).length < (abvL P v).length := by
  obtain ⟨b, hb, e, pre, e2⟩ := abvL_mem hP v hv _ h
  have : a = b := by omega
  subst this
  refine ⟨hb, ?_⟩
  rw [e2]; simp; omega
theorem hi_irr {v : Nat} (hv : v < P.length) : (v : Int) ∉ abvL P v := fun h => Nat.lt_irrefl _ (hi_len hP hv h).2
theorem hi_trans {a b c : Nat} (hc : c < P.length) (h1 : (a : Int) ∈ abvL P b) (h2 : (b : Int) ∈ abvL P c) : (a : Int) ∈ abvL P c := by
  obtain ⟨b', hb, e, pre, e2⟩ := abvL_mem hP c hc _ h2
  have : b = b' := by omega
  subst this
  rw [e2]
  exact List.mem_append_right _ (List.mem_cons_of_mem _ h1)
theorem abvL_nodup : ∀ v, v < P.length → ((v : Int) :: abvL P v).Nodup := by
  refine up_ind hP (fun v hv h e => by rw [e]; simp) (fun v hv a ha h e ih => ?_)
  rw [List.nodup_cons]
  refine ⟨hi_irr hP hv, ?_⟩
  rw [e]; exact ih
/-- The parents of a variable and of its ancestors. -/
theorem chain_par : ∀ v, v < P.length → ((v : Int) :: abvL P v).map (fun a => P.getD a.toNat 0) = abvL P v ++ [-1] := by
  refine up_ind hP (fun v hv h e => ?_) (fun v hv a ha h e ih => ?_)
  · rw [e]; simp [List.getD, hv, h]
  · rw [e, List.map_cons, ih]
    simp [List.getD, hv, h]
theorem chain_sub {v : Nat} (hv : v < P.length) {x : Int} (h : x ∈ (v : Int) :: abvL P v) : ∃ a : Nat, a < P.length ∧ x = (a : Int) := by
  rcases List.mem_cons.1 h with rfl | h
  · exact ⟨v, hv, rfl⟩
  · obtain ⟨a, ha, e, _⟩ := abvL_mem hP v hv x h
    exact ⟨a, ha, e⟩
theorem upm_nodup {v : Nat} (hv : v < P.length) : (abvL P v ++ [-1]).Nodup := by
  rw [List.nodup_append]
  refine ⟨(List.nodup_cons.1 (abvL_nodup hP v hv)).2, by simp, ?_⟩
  intro a ha b hb
  rw [List.mem_singleton.1 hb]
  obtain ⟨c, _, rfl⟩ := chain_sub hP hv (List.mem_cons_of_mem _ ha)
  omega
omit hP in
theorem sum_ite {α : Type} (p : α → Bool) : ∀ l : List α, (l.map fun a => if p a = true then 1 else 0).sum = l.countP p
  | [] => rfl
  | a :: l => by rw [List.map_cons, List.sum_cons, sum_ite p l, List.countP_cons]; omega
theorem chain_filter {v : Nat} (hv : v < P.length) : ((upZ P.length).filter fun a => decide (a ∈ (v : Int) :: abvL P v)).Perm ((v : Int) :: abvL P v) := by
  refine nodup_perm (List.Pairwise.sublist List.filter_sublist (upZ_nodup _)) (abvL_nodup hP v hv) fun a => ?_
  rw [List.mem_filter, decide_eq_true_iff, upZ_mem]
  exact ⟨fun h => h.2, fun h => ⟨chain_sub hP hv h, h⟩⟩
/-- How often a number stands in the walk. -/
theorem walk_count : ∀ (f : Nat) (v : Int), (∀ a (ha : a < P.length), P[a] = v → P.length + 1 ≤ (abvL P a).length + f) → ∀ x, x < P.length → (walkF P f v).count (x : Int) = if v ∈ abvL P x ++ [-1] then 1 else 0 := by
  intro f
  induction f with
  | zero =>
    intro v hf x hx
    rw [if_neg]
    · rfl
    · intro hm
      rw [← chain_par hP x hx] at hm
      obtain ⟨a, ha, e⟩ := List.mem_map.1 hm
      obtain ⟨b, hb, rfl⟩ := chain_sub hP hx ha
      have h1 := hf b hb (by simpa [List.getD, hb] using e)
      have := abvL_len P (b : Int)
      omega
  | succ f ih =>
    intro v hf x hx
    have term : ∀ a ∈ upZ P.length, (List.count (x : Int) ∘ fun a => if P.getD a.toNat 0 = v then a :: walkF P f a else []) a = if (decide (P.getD a.toNat 0 = v) && decide (a ∈ (x : Int) :: abvL P x)) = true then 1 else 0 := by
      intro a ha
      obtain ⟨b, hb, rfl⟩ := upZ_mem.1 ha
      have hgd : P.getD (b : Int).toNat 0 = P[b] := by simp [List.getD, hb]
      simp only [Function.comp, hgd]
      by_cases e : P[b] = v
      · rw [if_pos e, List.count_cons, ih (b : Int) ?_ x hx]
        · simp only [e, decide_true, Bool.true_and, decide_eq_true_eq, List.mem_cons, List.mem_append, List.mem_singleton]
          by_cases e1 : b = x
          · subst e1
            rw [if_neg]
            · simp
            · rintro (h | h)
              · exact hi_irr hP hb h
              · simp at h
          · have e2 : ¬ (b : Int) = x := by omega
            have e3 : ¬ (b : Int) = -1 := by omega
            have e4 : ((b : Int) == (x : Int)) = false := by simpa using e2
            simp [e2, e3, e4]
        · intro c hc hcb
          have h1 := hf b hb e
          rw [abvL_cons hP hc hb hcb]
          simp; omega
      · rw [if_neg e]; simp [e]
    unfold walkF
    rw [List.count_flatMap, List.map_congr_left term, sum_ite, ← List.countP_filter, (chain_filter hP hx).countP_eq]
    have e1 : List.countP (fun a => decide (P.getD a.toNat 0 = v)) ((x : Int) :: abvL P x) = List.count v (((x : Int) :: abvL P x).map fun a => P.getD a.toNat 0) := by
      rw [List.count, List.countP_map]
      refine List.countP_congr fun a _ => ?_
      simp
    rw [e1, chain_par hP x hx, (upm_nodup hP hx).count]
omit hP in
theorem walk_rng : ∀ (f : Nat) (v : Int), ∀ x ∈ walkF P f v, ∃ a : Nat, a < P.length ∧ x = (a : Int)
  | 0, v, x, hx => by simp [walkF] at hx
  | f + 1, v, x, hx => by
    simp only [walkF] at hx
    obtain ⟨a, ha, hx⟩ := List.mem_flatMap.1 hx
    split at hx
    · rcases List.mem_cons.1 hx with rfl | hx
      · exact upZ_mem.1 ha
      · exact walk_rng f a x hx
    · cases hx
def walkL (P : List Int) : List Int := walkF P (P.length + 1) (-1)
theorem walk_perm : (walkL P).Perm (upZ P.length) := by
  rw [List.perm_iff_count]
  intro x
  rw [(upZ_nodup _).count]
  by_cases h : x ∈ upZ P.length
  · rw [if_pos h]
    obtain ⟨a, ha, rfl⟩ := upZ_mem.1 h
    unfold walkL
    rw [walk_count hP _ _ (fun b hb e => by omega) a ha, if_pos (by simp)]
  · rw [if_neg h, List.count_eq_zero]
    exact fun hx => h (upZ_mem.2 (walk_rng _ _ x hx))
end
/-- In w each one's parent is v or stands before it. -/
def Bef (P : List Int) (v : Int) (w : List Int) : Prop := ∀ pre x post, w = pre ++ x :: post → P.getD x.toNat 0 = v ∨ P.getD x.toNat 0 ∈ pre
theorem Bef.nil {P : List Int} {v : Int} : Bef P v [] := fun pre x post h => by simp at h
theorem Bef.append {P : List Int} {v : Int} {w1 w2 : List Int} (h1 : Bef P v w1) (h2 : Bef P v w2) : Bef P v (w1 ++ w2) := by
  intro pre x post e
  rcases List.append_eq_append_iff.1 e with ⟨us, e1, e2⟩ | ⟨bs, e1, e2⟩
  · rcases h2 us x post e2 with h | h
    · exact .inl h
    · right; rw [e1]; exact List.mem_append_right _ h
  · cases bs with
    | nil =>
      simp at e1 e2
      rcases h2 [] x post (by simpa using e2.symm) with h | h
      · exact .inl h
      · cases h
    | cons b bs =>
      simp at e2
      exact h1 pre x bs (by rw [e1, ← e2.1])
theorem Bef.cons {P : List Int} {v a : Int} {w : List Int} (ha : P.getD a.toNat 0 = v) (h : Bef P a w) : Bef P v (a :: w) := by
  intro pre x post e
  cases pre with
  | nil => simp at e; rw [← e.1]; exact .inl ha
  | cons b pre =>
    simp at e
    rcases h pre x post e.2 with h | h
    · right; rw [h, e.1]; exact List.mem_cons_self ..
    · right; exact List.mem_cons_of_mem _ h
theorem Bef.flat {P : List Int} {v : Int} {f : Int → List Int} : ∀ {l : List Int}, (∀ a ∈ l, Bef P v (f a)) → Bef P v (l.flatMap f)
  | [], _ => Bef.nil
  | a :: l, h => by
    rw [List.flatMap_cons]
    exact (h a (List.mem_cons_self ..)).append (Bef.flat fun b hb => h b (List.mem_cons_of_mem _ hb))
theorem below_mem {P : List Int} {v b : Int} : b ∈ belowL P v ↔ (∃ a : Nat, a < P.length ∧ b = (a : Int)) ∧ (b = v ∨ v ∈ abvL P b) := by
  have e : belowL P v = (upZ P.length).filter fun a => a == v || hiB P v a := rfl
  rw [e, List.mem_filter, upZ_mem]
  simp [hiB]
theorem link_of {S : Sch} {r : ByteArray × List Int} (hr : r ∈ S.rels) {a b : Int} (ha : a ∈ r.2) (hb : b ∈ r.2) : linkB S a b = true := by
  unfold linkB; rw [List.any_eq_true]; exact ⟨r, hr, by simp [ha, hb]⟩
theorem right_pair {P l : List Int} (h : rightB P l = true) {a b : Int} (ha : a ∈ l) (hb : b ∈ l) : a = b ∨ a ∈ abvL P b ∨ b ∈ abvL P a := by
  unfold rightB at h
  have := List.all_eq_true.1 (List.all_eq_true.1 h a ha) b hb
  simp [hiB, or_assoc] at this
  exact this
theorem home_fold {P l : List Int} (hP : UpOk P) (hr : ∀ a ∈ l, 0 ≤ a ∧ a < P.length) (hl : rightB P l = true) : ∀ (k : List Int) (done : List Int) (h : Int), (∀ a ∈ k, a ∈ l) → (∀ a ∈ done, a ∈ l) → h ∈ l → (∀ a ∈ done, a = h ∨ a ∈ abvL P h) →
    k.foldl (homeF P) h ∈ l ∧ ∀ a, a ∈ done ∨ a ∈ k → a = k.foldl (homeF P) h ∨ a ∈ abvL P (k.foldl (homeF P) h)
  | [], done, h, _, _, hh, hd => ⟨hh, fun a ha => hd a (ha.resolve_right (by simp))⟩
  | x :: k, done, h, hk, hdn, hh, hd => by
    have hx := hk x (List.mem_cons_self ..)
    have nat : ∀ {a : Int}, a ∈ l → ∃ n : Nat, n < P.length ∧ a = (n : Int) := fun {a} ha => by
      obtain ⟨n, hn⟩ := Int.eq_ofNat_of_zero_le (hr a ha).1
      have := (hr a ha).2
      exact ⟨n, by omega, hn⟩
    have step : homeF P h x ∈ l ∧ ∀ a ∈ done ++ [x], a = homeF P h x ∨ a ∈ abvL P (homeF P h x) := by
      unfold homeF
      by_cases e : hiB P h x = true
      · rw [if_pos e]
        have e' : h ∈ abvL P x := by simpa [hiB] using e
        refine ⟨hx, fun a ha => ?_⟩
        rcases List.mem_append.1 ha with had | ha
        · right
          rcases hd a had with rfl | h3
          · exact e'
          · obtain ⟨n, _, rfl⟩ := nat hh
            obtain ⟨m, hm, rfl⟩ := nat hx
            obtain ⟨p, _, rfl⟩ := nat (hdn a had)
            exact hi_trans hP hm h3 e'
        · left; exact List.mem_singleton.1 ha
      · rw [if_neg e]
        have e' : h ∉ abvL P x := by simpa [hiB] using e
        refine ⟨hh, fun a ha => ?_⟩
        rcases List.mem_append.1 ha with ha | ha
        · exact hd a ha
        · rw [List.mem_singleton.1 ha]
          rcases right_pair hl hx hh with h1 | h1 | h1
          · exact .inl h1
          · exact .inr h1
          · exact absurd h1 e'
    have := home_fold hP hr hl k (done ++ [x]) (homeF P h x) (fun a ha => hk a (List.mem_cons_of_mem _ ha)) (fun a ha => by
      rcases List.mem_append.1 ha with h | h
      · exact hdn a h
      · rw [List.mem_singleton.1 h]; exact hx) step.1 step.2
    rw [List.foldl_cons]
    refine ⟨this.1, fun a ha => this.2 a ?_⟩
    rcases ha with ha | ha
    · exact .inl (List.mem_append_left _ ha)
    · rcases List.mem_cons.1 ha with rfl | ha
      · exact .inl (by simp)
      · exact .inr ha
theorem home_all {P l : List Int} (hP : UpOk P) (hne : l ≠ []) (hr : ∀ a ∈ l, 0 ≤ a ∧ a < P.length) (hl : rightB P l = true) : homeL P l ∈ l ∧ ∀ a ∈ l, a = homeL P l ∨ a ∈ abvL P (homeL P l) := by
  cases l with
  | nil => exact absurd rfl hne
  | cons x l =>
    have := home_fold hP hr hl (x :: l) [] x (fun a h => h) (by simp) (List.mem_cons_self ..) (by simp)
    unfold homeL
    exact ⟨this.1, fun a ha => this.2 a (.inr ha)⟩
theorem OrdOk.upOk {S : Sch} {P : List Int} (h : OrdOk S P) : UpOk P := ⟨h.rng, h.up⟩
end Go.Proofs.YtkalgjnhaicabaaGreat
namespace Go.Proofs.YtkalgjnhaicabaaGreat
set_option maxHeartbeats 1000000
/-- A way along adj whose steps enter ok numbers only. -/
inductive Path (adj : Nat → Nat → Prop) (ok : Nat → Prop) (a : Nat) : Nat → Prop
  | refl : Path adj ok a a
  | step {b c : Nat} : Path adj ok a b → adj b c → ok c → Path adj ok a c
section
variable {adj : Nat → Nat → Prop} {ok ok' : Nat → Prop}
theorem Path.trans {a b c : Nat} (h1 : Path adj ok a b) (h2 : Path adj ok b c) : Path adj ok a c := by
  induction h2 with
  | refl => exact h1
  | step _ h3 h4 ih => exact .step ih h3 h4
theorem Path.one {a b : Nat} (h : adj a b) (hb : ok b) : Path adj ok a b := .step .refl h hb
theorem Path.mono {a b : Nat} (h : Path adj ok a b) (hm : ∀ c, ok c → ok' c) : Path adj ok' a b := by
  induction h with
  | refl => exact .refl
  | step _ h3 h4 ih => exact .step ih h3 (hm _ h4)
theorem Path.fin {a b : Nat} (h : Path adj ok a b) (ha : ok a) : ok b := by
  cases h with
  | refl => exact ha
  | step _ _ h => exact h
theorem Path.symm (hs : ∀ a b, adj a b → adj b a) {a b : Nat} (h : Path adj ok a b) (ha : ok a) : Path adj ok b a := by
  induction h with
  | refl => exact .refl
  | step h1 h3 h4 ih => exact (Path.one (hs _ _ h3) (h1.fin ha)).trans ih
/-- A way that can't leave a closed set stays in it. -/
theorem Path.stay {inn : Nat → Prop} {a b : Nat} (h : Path adj ok a b) (ha : inn a) (hc : ∀ x y, inn x → adj x y → ok y → inn y) : Path adj (fun c => ok c ∧ inn c) a b ∧ inn b := by
  induction h with
  | refl => exact ⟨.refl, ha⟩
  | step _ h3 h4 ih => exact ⟨.step ih.1 h3 ⟨h4, hc _ _ ih.2 h3 h4⟩, hc _ _ ih.2 h3 h4⟩
end
/-- a comes before b, and is connected with it when what comes before a is gone. -/
def Anc (adj : Nat → Nat → Prop) (pos : Nat → Nat) (a b : Nat) : Prop := pos a < pos b ∧ Path adj (fun c => pos a ≤ pos c) a b
section
variable {adj : Nat → Nat → Prop} {pos : Nat → Nat} (hs : ∀ a b, adj a b → adj b a)
theorem Anc.trans {a b c : Nat} (h1 : Anc adj pos a b) (h2 : Anc adj pos b c) : Anc adj pos a c := by
  have h3 := h1.1
  exact ⟨Nat.lt_trans h1.1 h2.1, h1.2.trans (h2.2.mono fun d hd => by omega)⟩
include hs in
theorem Anc.lin {a b c : Nat} (h1 : Anc adj pos a c) (h2 : Anc adj pos b c) (h : pos a < pos b) : Anc adj pos a b :=
  ⟨h, h1.2.trans ((h2.2.symm hs (Nat.le_refl _)).mono fun d hd => by omega)⟩
end
/-- The parents of the order of a permutation. -/
structure IsOrd (n : Nat) (adj : Nat → Nat → Prop) (pos : Nat → Nat) (P : List Int) : Prop where
  len : P.length = n
  par : ∀ b, b < n → (P.getD b 0 = -1 ∧ ∀ a, a < n → ¬ Anc adj pos a b) ∨ (∃ a : Nat, a < n ∧ P.getD b 0 = (a : Int) ∧ Anc adj pos a b ∧ ∀ a', a' < n → Anc adj pos a' b → a' = a ∨ Anc adj pos a' a)
section
variable {n : Nat} {adj : Nat → Nat → Prop} {pos : Nat → Nat} {P : List Int}
theorem IsOrd.upF (h : IsOrd n adj pos P) : ∀ (m b k : Nat), b < n → pos b ≤ m → pos b ≤ k → (upF P k (P.getD b 0)).isSome = true := by
  intro m
  induction m with
  | zero =>
    intro b k hb hm hk
    rcases h.par b hb with ⟨h1, _⟩ | ⟨a, ha, h1, h2, _⟩
    · rw [h1, upF_neg (by decide)]; rfl
    · have := h2.1; omega
  | succ m ih =>
    intro b k hb hm hk
    rcases h.par b hb with ⟨h1, _⟩ | ⟨a, ha, h1, h2, _⟩
    · rw [h1, upF_neg (by decide)]; rfl
    · have := h2.1
      obtain ⟨k', rfl⟩ : ∃ k', k = k' + 1 := ⟨k - 1, by omega⟩
      rw [h1, upF_nat (by rw [h.len]; exact ha), Option.isSome_map]
      have := ih a k' ha (by omega) (by omega)
      rwa [getD_eq (by rw [h.len]; exact ha)] at this
theorem IsOrd.upOk (h : IsOrd n adj pos P) (hp : ∀ b, b < n → pos b < n) : UpOk P := by
  refine ⟨fun p hp => ?_, fun v hv => ?_⟩
  · obtain ⟨b, hb, e⟩ := List.getElem_of_mem hp
    rw [← getD_eq hb 0] at e
    have hb' : b < n := by rw [← h.len]; exact hb
    have := h.len
    rcases h.par b hb' with ⟨h1, _⟩ | ⟨a, ha, h1, _, _⟩ <;> omega
  · have hv' : v < n := by rw [← h.len]; exact hv
    have := h.upF (pos v) v P.length hv' (Nat.le_refl _) (by rw [h.len]; exact Nat.le_of_lt (hp v hv'))
    rwa [abv_eq hv, ← getD_eq hv 0]
theorem IsOrd.mem (h : IsOrd n adj pos P) (hp : ∀ b, b < n → pos b < n) : ∀ b, b < P.length → ∀ a : Nat, (a : Int) ∈ abvL P b ↔ a < n ∧ Anc adj pos a b := by
  have hl := h.len
  refine up_ind (h.upOk hp) (fun v hv hr e a => ?_) (fun v hv p hpl hr e ih a => ?_)
  · rw [e]
    rcases h.par v (by omega) with ⟨_, h2⟩ | ⟨c, hc, h1, _, _⟩
    · exact ⟨fun hh => absurd hh List.not_mem_nil, fun hh => absurd hh.2 (h2 a hh.1)⟩
    · rw [getD_eq hv, hr] at h1; omega
  · rw [e, List.mem_cons, ih a]
    rcases h.par v (by omega) with ⟨h1, _⟩ | ⟨c, hc, h1, h2, h3⟩
    · rw [getD_eq hv, hr] at h1; omega
    · rw [getD_eq hv, hr] at h1
      have : c = p := by omega
      subst this
      constructor
      · rintro (h4 | h4)
        · have : a = c := by omega
          subst this; exact ⟨hc, h2⟩
        · exact ⟨h4.1, h4.2.trans h2⟩
      · rintro ⟨h4, h5⟩
        rcases h3 a h4 h5 with rfl | h6
        · exact .inl rfl
        · exact .inr ⟨h4, h6⟩
theorem IsOrd.unique {P' : List Int} (h : IsOrd n adj pos P) (h' : IsOrd n adj pos P') : P = P' := by
  apply List.ext_getElem
  · rw [h.len, h'.len]
  · intro b h1 h2
    have hb : b < n := by rw [← h.len]; exact h1
    rw [← getD_eq h1 0, ← getD_eq h2 0]
    rcases h.par b hb with ⟨e1, f1⟩ | ⟨a, ha, e1, g1, k1⟩
    · rcases h'.par b hb with ⟨e2, _⟩ | ⟨a', ha', e2, g2, _⟩
      · rw [e1, e2]
      · exact absurd g2 (f1 a' ha')
    · rcases h'.par b hb with ⟨e2, f2⟩ | ⟨a', ha', e2, g2, k2⟩
      · exact absurd g1 (f2 a ha)
      · rw [e1, e2]
        rcases k1 a' ha' g2 with e3 | e3
        · rw [e3]
        · rcases k2 a ha g1 with e4 | e4
          · rw [e4]
          · exact absurd (Nat.lt_trans e3.1 e4.1) (Nat.lt_irrefl _)
end
/-- The graph of a schema. -/
def adjS (S : Sch) (a b : Nat) : Prop := a ≠ b ∧ linkB S a b = true
theorem link_symm {S : Sch} {a b : Int} (h : linkB S a b = true) : linkB S b a = true := by
  unfold linkB at h ⊢
  obtain ⟨r, hr, h2⟩ := List.any_eq_true.1 h
  rw [List.any_eq_true]
  exact ⟨r, hr, by rw [Bool.and_comm]; exact h2⟩
theorem adjS_symm (S : Sch) : ∀ a b, adjS S a b → adjS S b a := fun _ _ h => ⟨fun e => h.1 e.symm, link_symm h.2⟩
def posQ (q : List Int) (a : Nat) : Nat := q.idxOf (a : Int)
theorem posQ_lt {n : Nat} {q : List Int} (hq : q.Perm (upZ n)) {a : Nat} (ha : a < n) : posQ q a < n := by
  have : q.idxOf (a : Int) < q.length := List.idxOf_lt_length_of_mem (hq.mem_iff.2 (upZ_mem.2 ⟨a, ha, rfl⟩))
  rwa [hq.length_eq, upZ_len] at this
theorem posQ_inj {n : Nat} {q : List Int} (hq : q.Perm (upZ n)) {a b : Nat} (ha : a < n) (h : posQ q a = posQ q b) : a = b := by
  have h1 : q.idxOf (a : Int) < q.length := List.idxOf_lt_length_of_mem (hq.mem_iff.2 (upZ_mem.2 ⟨a, ha, rfl⟩))
  have h2 : q.idxOf (b : Int) < q.length := by unfold posQ at h; rw [← h]; exact h1
  have e1 : q[q.idxOf (a : Int)] = (a : Int) := List.getElem_idxOf h1
  have e2 : q[q.idxOf (b : Int)] = (b : Int) := List.getElem_idxOf h2
  have e3 : q[q.idxOf (a : Int)] = q[q.idxOf (b : Int)] := by unfold posQ at h; congr 1
  rw [e1, e2] at e3
  omega
/-- The order of a permutation is right. -/
theorem IsOrd.ok {S : Sch} (hV : Valid S) {q : List Int} (hq : q.Perm (upZ S.attrs.length)) {P : List Int} (h : IsOrd S.attrs.length (adjS S) (posQ q) P) : OrdOk S P := by
  have hp : ∀ b, b < S.attrs.length → posQ q b < S.attrs.length := fun b hb => posQ_lt hq hb
  have hu := h.upOk hp
  refine ⟨hV, h.len, hu.rng, hu.up, fun r hr => ?_⟩
  unfold rightB
  rw [List.all_eq_true]
  intro a ha
  rw [List.all_eq_true]
  intro b hb
  obtain ⟨x, hx⟩ := Int.eq_ofNat_of_zero_le (hV.rng r hr a ha).1
  obtain ⟨y, hy⟩ := Int.eq_ofNat_of_zero_le (hV.rng r hr b hb).1
  have hxl : x < S.attrs.length := by have := (hV.rng r hr a ha).2; omega
  have hyl : y < S.attrs.length := by have := (hV.rng r hr b hb).2; omega
  by_cases e : a = b
  · simp [e]
  · have hxy : x ≠ y := by omega
    have hadj : adjS S x y := ⟨hxy, by rw [← hx, ← hy]; exact link_of hr ha hb⟩
    have hl := h.len
    rcases Nat.lt_or_gt_of_ne (fun e => hxy (posQ_inj hq hxl e)) with h1 | h1
    · have : (x : Int) ∈ abvL P y := (h.mem hp y (by omega) x).2 ⟨hxl, h1, .one hadj (Nat.le_of_lt h1)⟩
      rw [hx, hy]; simp [hiB, this]
    · have : (y : Int) ∈ abvL P x := (h.mem hp x (by omega) y).2 ⟨hyl, h1, .one (adjS_symm S _ _ hadj) (Nat.le_of_lt h1)⟩
      rw [hx, hy]; simp [hiB, this]
end Go.Proofs.YtkalgjnhaicabaaGreat
namespace Go.Proofs.YtkalgjnhaicabaaGreat
set_option maxHeartbeats 1000000
def adjG (G : List B64) (a b : Nat) : Prop := (G.getD a 0#64).getLsbD b = true
theorem reach_path {G : List B64} {rest : B64} {a b : Nat} : Reach G rest a b ↔ Path (adjG G) (fun c => rest.getLsbD c = true) a b := by
  constructor
  · intro h
    induction h with
    | refl => exact .refl
    | step _ h1 h2 ih => exact .step ih h1 h2
  · intro h
    induction h with
    | refl => exact .refl
    | step _ h1 h2 ih => exact .step ih h1 h2
structure Comp (adj : Nat → Nat → Prop) (rest c : B64) : Prop where
  sub : ∀ i, c.getLsbD i = true → rest.getLsbD i = true
  clo : ∀ i j, c.getLsbD i = true → adj i j → rest.getLsbD j = true → c.getLsbD j = true
  con : ∀ i j, c.getLsbD i = true → c.getLsbD j = true → Path adj (fun x => c.getLsbD x = true) i j
  ne : ∃ i, c.getLsbD i = true
structure CompsI (adj : Nat → Nat → Prop) (rest : B64) (k : Nat) (cs : List B64) (R : B64) : Prop where
  all : ∀ c ∈ cs, Comp adj rest c
  cov : ∀ i, rest.getLsbD i = true ↔ R.getLsbD i = true ∨ ∃ c ∈ cs, c.getLsbD i = true
  dis : ∀ i, R.getLsbD i = true → ∀ c ∈ cs, ¬ c.getLsbD i = true
  pw : cs.Pairwise (fun c d => ∀ i, c.getLsbD i = true → ¬ d.getLsbD i = true)
  low : ∀ i, i < k → ¬ R.getLsbD i = true
theorem minus_bit (x y : B64) (i : Nat) : (x &&& ~~~y).getLsbD i = true ↔ x.getLsbD i = true ∧ ¬ y.getLsbD i = true := by
  rw [BitVec.getLsbD_and, BitVec.getLsbD_not]
  constructor
  · intro h; simp at h; exact ⟨h.1, by rw [h.2.2]; decide⟩
  · rintro ⟨h1, h2⟩
    have := bits_lt h1
    have h3 : y.getLsbD i = false := by simpa using h2
    rw [h1, h3, decide_eq_true this]; rfl
theorem comps_inv (G : List B64) (rest : B64) (hs : ∀ a b, adjG G a b → adjG G b a) : ∀ k, CompsI (adjG G) rest k (compsN G rest k).1 (compsN G rest k).2
  | 0 => ⟨by simp [compsN], by simp [compsN], by simp [compsN], by simp [compsN], by intro i h; omega⟩
  | k + 1 => by
    have h := comps_inv G rest hs k
    simp only [compsN]
    generalize compsN G rest k = cr at *
    obtain ⟨cs, R⟩ := cr
    simp only at h ⊢
    by_cases hk : R.getLsbD k = true
    · rw [if_pos hk]
      have hcR : ∀ i, (compB G R k).getLsbD i = true → R.getLsbD i = true := fun i hi => compB_sub hk hi
      have hkc : (compB G R k).getLsbD k = true := (compB_bit (bits_lt hk)).2 .refl
      have hclR : ∀ i j, (compB G R k).getLsbD i = true → adjG G i j → R.getLsbD j = true → (compB G R k).getLsbD j = true := fun i j h1 h2 h3 =>
        (compB_bit (bits_lt h3)).2 (.step (compB_reach h1) h2 h3)
      have hC : Comp (adjG G) rest (compB G R k) := by
        refine ⟨fun i hi => (h.cov i).2 (.inl (hcR i hi)), fun i j h1 h2 h3 => ?_, ?_, ⟨k, hkc⟩⟩
        · rcases (h.cov j).1 h3 with h4 | ⟨d, hd, h4⟩
          · exact hclR i j h1 h2 h4
          · exact absurd ((h.all d hd).clo j i h4 (hs i j h2) ((h.cov i).2 (.inl (hcR i h1)))) (h.dis i (hcR i h1) d hd)
        · have one : ∀ i, (compB G R k).getLsbD i = true → Path (adjG G) (fun x => (compB G R k).getLsbD x = true) k i := fun i hi =>
            ((reach_path.1 (compB_reach hi)).stay (inn := fun x => (compB G R k).getLsbD x = true) hkc hclR).1.mono fun c hc => hc.2
          exact fun i j hi hj => ((one i hi).symm hs hkc).trans (one j hj)
      refine ⟨fun c hc => ?_, fun i => ?_, fun i hi c hc => ?_, ?_, fun i hi hR => ?_⟩
      · rcases List.mem_append.1 hc with hc | hc
        · exact h.all c hc
        · rw [List.mem_singleton.1 hc]; exact hC
      · rw [h.cov i, minus_bit]
        constructor
        · rintro (h1 | ⟨c, hc, h1⟩)
          · by_cases h2 : (compB G R k).getLsbD i = true
            · exact .inr ⟨_, List.mem_append_right _ (List.mem_singleton.2 rfl), h2⟩
            · exact .inl ⟨h1, h2⟩
          · exact .inr ⟨c, List.mem_append_left _ hc, h1⟩
        · rintro (h1 | ⟨c, hc, h1⟩)
          · exact .inl h1.1
          · rcases List.mem_append.1 hc with hc | hc
            · exact .inr ⟨c, hc, h1⟩
            · rw [List.mem_singleton.1 hc] at h1; exact .inl (hcR i h1)
      · rw [minus_bit] at hi
        rcases List.mem_append.1 hc with hc | hc
        · exact h.dis i hi.1 c hc
        · rw [List.mem_singleton.1 hc]; exact hi.2
      · rw [List.pairwise_append]
        refine ⟨h.pw, by simp, fun c hc d hd i h1 h2 => ?_⟩
        rw [List.mem_singleton.1 hd] at h2
        exact h.dis i (hcR i h2) c hc h1
      · rw [minus_bit] at hR
        by_cases e : i = k
        · subst e; exact hR.2 hkc
        · exact h.low i (by omega) hR.1
    · rw [if_neg hk]
      refine ⟨h.all, h.cov, h.dis, h.pw, fun i hi => ?_⟩
      by_cases e : i = k
      · subst e; exact hk
      · exact h.low i (by omega)
def AncR (adj : Nat → Nat → Prop) (pos : Nat → Nat) (rest : B64) (a b : Nat) : Prop :=
  rest.getLsbD a = true ∧ rest.getLsbD b = true ∧ pos a < pos b ∧ Path adj (fun c => rest.getLsbD c = true ∧ pos a ≤ pos c) a b
def GoodR (adj : Nat → Nat → Prop) (pos : Nat → Nat) (rest : B64) (par : Int) (b : Nat) (x : Int) : Prop :=
  (x = par ∧ ∀ a, ¬ AncR adj pos rest a b) ∨ ∃ a : Nat, x = (a : Int) ∧ AncR adj pos rest a b ∧ ∀ a', AncR adj pos rest a' b → a' = a ∨ AncR adj pos rest a' a
theorem first_in {n : Nat} {q : List Int} (hq : q.Perm (upZ n)) {c : B64} (hc : ∀ i, c.getLsbD i = true → i < n) (hne : ∃ i, c.getLsbD i = true) :
    ∃ a : Nat, a < n ∧ q.find? (fun x => c.getLsbD x.toNat) = some (a : Int) ∧ c.getLsbD a = true ∧ ∀ i, c.getLsbD i = true → posQ q a ≤ posQ q i := by
  cases hf : q.find? (fun x => c.getLsbD x.toNat) with
  | none =>
    obtain ⟨i, hi⟩ := hne
    have := List.find?_eq_none.1 hf (i : Int) (hq.mem_iff.2 (upZ_mem.2 ⟨i, hc i hi, rfl⟩))
    simp at this
    rw [hi] at this; cases this
  | some x =>
    obtain ⟨h1, us, vs, h2, h3⟩ := List.find?_eq_some_iff_append.1 hf
    have hxm : x ∈ q := by rw [h2]; simp
    obtain ⟨a, ha, rfl⟩ := upZ_mem.1 (hq.mem_iff.1 hxm)
    have h1' : c.getLsbD a = true := by simpa using h1
    refine ⟨a, ha, rfl, h1', fun i hi => ?_⟩
    have no : ∀ j : Nat, c.getLsbD j = true → (j : Int) ∉ us := fun j hj hm => by
      have := h3 _ hm
      simp at this
      rw [hj] at this; cases this
    unfold posQ
    rw [h2, List.idxOf_append, List.idxOf_append, if_neg (no a h1'), if_neg (no i hi)]
    simp
section
variable {n : Nat} {G : List B64} {q : List Int} (hG : G.length = n) (hs : ∀ a b, adjG G a b → adjG G b a) (hq : q.Perm (upZ n))
theorem AncR.sub {adj : Nat → Nat → Prop} {pos : Nat → Nat} {r r' : B64} (h : ∀ i, r.getLsbD i = true → r'.getLsbD i = true) {a b : Nat} (k : AncR adj pos r a b) : AncR adj pos r' a b :=
  ⟨h _ k.1, h _ k.2.1, k.2.2.1, k.2.2.2.mono fun c hc => ⟨h _ hc.1, hc.2⟩⟩
include hs hq in
theorem placeC_good {f : Nat} (IH : ∀ rest par P, popB rest ≤ f → (∀ i, rest.getLsbD i = true → i < n) → P.length = n → ∀ b, b < n → (rest.getLsbD b = false → (placeF G q f rest par P).getD b 0 = P.getD b 0) ∧ (rest.getLsbD b = true → GoodR (adjG G) (posQ q) rest par b ((placeF G q f rest par P).getD b 0)))
    {rest c : B64} (hc : Comp (adjG G) rest c) (hpop : ∀ a, c.getLsbD a = true → popB (c &&& ~~~(BitVec.twoPow 64 a)) ≤ f) (hr : ∀ i, rest.getLsbD i = true → i < n) (par : Int) (P : List Int) (hP : P.length = n) (b : Nat) (hb : b < n) :
    (c.getLsbD b = false → (placeC q (placeF G q f) par P c).getD b 0 = P.getD b 0) ∧ (c.getLsbD b = true → GoodR (adjG G) (posQ q) rest par b ((placeC q (placeF G q f) par P c).getD b 0)) := by
  obtain ⟨a, ha, hfind, hca, hmin⟩ := first_in hq (fun i hi => hr i (hc.sub i hi)) hc.ne
  have e : placeC q (placeF G q f) par P c = placeF G q f (c &&& ~~~(BitVec.twoPow 64 a)) a (P.set a par) := by unfold placeC; rw [hfind]; rfl
  rw [e]
  have hbit : ∀ i, (c &&& ~~~(BitVec.twoPow 64 a)).getLsbD i = true ↔ c.getLsbD i = true ∧ a ≠ i := fun i => by rw [diff_bit, Bool.and_eq_true, decide_eq_true_iff]
  have hih := IH (c &&& ~~~(BitVec.twoPow 64 a)) a (P.set a par) (hpop a hca) (fun i hi => hr i (hc.sub i ((hbit i).1 hi).1)) (by simp [hP]) b hb
  have stay : ∀ a' b', AncR (adjG G) (posQ q) rest a' b' → c.getLsbD b' = true → c.getLsbD a' = true := by
    intro a' b' h1 h2
    have hpath := (h1.2.2.2.symm hs ⟨h1.1, Nat.le_refl _⟩)
    exact (hpath.stay (inn := fun x => c.getLsbD x = true) h2 (fun x y hx hxy hy => hc.clo x y hx hxy hy.1)).2
  have inside : ∀ a' b', AncR (adjG G) (posQ q) rest a' b' → c.getLsbD b' = true → a' ≠ a → AncR (adjG G) (posQ q) (c &&& ~~~(BitVec.twoPow 64 a)) a' b' := by
    intro a' b' h1 h2 h3
    have hca' := stay a' b' h1 h2
    have hpa : posQ q a < posQ q a' := Nat.lt_of_le_of_ne (hmin a' hca') (fun e => h3 (posQ_inj hq ha e).symm)
    have hpb := h1.2.2.1
    refine ⟨(hbit a').2 ⟨hca', fun e => h3 e.symm⟩, (hbit b').2 ⟨h2, fun e => by subst e; omega⟩, h1.2.2.1, ?_⟩
    refine ((h1.2.2.2.stay (inn := fun x => c.getLsbD x = true) hca' (fun x y hx hxy hy => hc.clo x y hx hxy hy.1)).1.mono fun x hx => ?_)
    exact ⟨(hbit x).2 ⟨hx.2, fun e => by have := hx.1.2; subst e; omega⟩, hx.1.2⟩
  have root : ∀ b', c.getLsbD b' = true → a ≠ b' → AncR (adjG G) (posQ q) rest a b' := fun b' h1 h2 =>
    ⟨hc.sub a hca, hc.sub b' h1, Nat.lt_of_le_of_ne (hmin b' h1) (fun e => h2 (posQ_inj hq ha e)), (hc.con a b' hca h1).mono fun x hx => ⟨hc.sub x hx, hmin x hx⟩⟩
  have hsub : ∀ i, (c &&& ~~~(BitVec.twoPow 64 a)).getLsbD i = true → rest.getLsbD i = true := fun i hi => hc.sub i ((hbit i).1 hi).1
  constructor
  · intro hcb
    have hab : a ≠ b := fun e => by subst e; rw [hca] at hcb; cases hcb
    have h1 : (c &&& ~~~(BitVec.twoPow 64 a)).getLsbD b = false := by
      cases h2 : (c &&& ~~~(BitVec.twoPow 64 a)).getLsbD b with
      | false => rfl
      | true => rw [((hbit b).1 h2).1] at hcb; cases hcb
    rw [hih.1 h1, List.getD, List.getD, List.getElem?_set_ne hab]
  · intro hcb
    by_cases hab : a = b
    · subst hab
      have h1 : (c &&& ~~~(BitVec.twoPow 64 a)).getLsbD a = false := by rw [diff_bit]; simp
      left
      refine ⟨by rw [hih.1 h1, List.getD]; simp [hP, ha], fun a' h2 => ?_⟩
      have h3 := stay a' a h2 hca
      have := hmin a' h3
      have := h2.2.2.1
      omega
    · have h1 : (c &&& ~~~(BitVec.twoPow 64 a)).getLsbD b = true := (hbit b).2 ⟨hcb, hab⟩
      right
      rcases hih.2 h1 with ⟨h2, h3⟩ | ⟨d, h2, h3, h4⟩
      · refine ⟨a, h2, root b hcb hab, fun a' h5 => ?_⟩
        by_cases e2 : a' = a
        · exact .inl e2
        · exact absurd (inside a' b h5 hcb e2) (h3 a')
      · refine ⟨d, h2, h3.sub hsub, fun a' h5 => ?_⟩
        have hd := (hbit d).1 h3.1
        by_cases e2 : a' = a
        · right; rw [e2]; exact root d hd.1 hd.2
        · rcases h4 a' (inside a' b h5 hcb e2) with h6 | h6
          · exact .inl h6
          · exact .inr (h6.sub hsub)
include hG hs hq in
theorem place_good : ∀ (f : Nat) (rest : B64) (par : Int) (P : List Int), popB rest ≤ f → (∀ i, rest.getLsbD i = true → i < n) → P.length = n → ∀ b, b < n → (rest.getLsbD b = false → (placeF G q f rest par P).getD b 0 = P.getD b 0) ∧ (rest.getLsbD b = true → GoodR (adjG G) (posQ q) rest par b ((placeF G q f rest par P).getD b 0)) := by
  intro f
  induction f with
  | zero =>
    intro rest par P hf hr hP b hb
    refine ⟨fun _ => rfl, fun h => ?_⟩
    rw [pop_zero (Nat.le_zero.1 hf) b] at h; cases h
  | succ f IH =>
    intro rest par P hf hr hP b hb
    have hI := comps_inv G rest hs G.length
    have hpop : ∀ c ∈ (compsN G rest G.length).1, ∀ a, c.getLsbD a = true → popB (c &&& ~~~(BitVec.twoPow 64 a)) ≤ f := fun c hc a ha => by have := pop_step hc ha; omega
    have fold : ∀ (cs : List B64) (P : List Int), (∀ c ∈ cs, Comp (adjG G) rest c) → (∀ c ∈ cs, ∀ a, c.getLsbD a = true → popB (c &&& ~~~(BitVec.twoPow 64 a)) ≤ f) → cs.Pairwise (fun c d => ∀ i, c.getLsbD i = true → ¬ d.getLsbD i = true) → P.length = n →
        ((∀ c ∈ cs, ¬ c.getLsbD b = true) → (cs.foldl (placeC q (placeF G q f) par) P).getD b 0 = P.getD b 0) ∧ (∀ c ∈ cs, c.getLsbD b = true → GoodR (adjG G) (posQ q) rest par b ((cs.foldl (placeC q (placeF G q f) par) P).getD b 0)) := by
      intro cs
      induction cs with
      | nil => intro P _ _ _ _; exact ⟨fun _ => rfl, fun c hc => by cases hc⟩
      | cons c cs ih =>
        intro P h1 h2 h3 h4
        have hl : (placeC q (placeF G q f) par P c).length = n := by
          unfold placeC; split
          · rw [place_len]; simp [h4]
          · exact h4
        have hg := placeC_good hs hq IH (h1 c (List.mem_cons_self ..)) (h2 c (List.mem_cons_self ..)) hr par P h4 b hb
        have hi := ih (placeC q (placeF G q f) par P c) (fun d hd => h1 d (List.mem_cons_of_mem _ hd)) (fun d hd => h2 d (List.mem_cons_of_mem _ hd)) (List.pairwise_cons.1 h3).2 hl
        rw [List.foldl_cons]
        constructor
        · intro h5
          rw [hi.1 (fun d hd => h5 d (List.mem_cons_of_mem _ hd))]
          exact hg.1 (by simpa using h5 c (List.mem_cons_self ..))
        · intro d hd h5
          rcases List.mem_cons.1 hd with rfl | hd
          · rw [hi.1 (fun e he => (List.pairwise_cons.1 h3).1 e he b h5)]
            exact hg.2 h5
          · exact hi.2 d hd h5
    have hfold := fold (compsN G rest G.length).1 P hI.all hpop hI.pw hP
    simp only [placeF]
    constructor
    · intro h1
      refine hfold.1 fun c hc h2 => ?_
      rw [(hI.all c hc).sub b h2] at h1; cases h1
    · intro h1
      rcases (hI.cov b).1 h1 with h2 | ⟨c, hc, h2⟩
      · exact absurd h2 (hI.low b (by omega))
      · exact hfold.2 c hc h2
include hG hs hq in
theorem ofL_ord (hn : n < 64) (hadj : ∀ a b, adjG G a b → b < n) : IsOrd n (adjG G) (posQ q) (ofL G q) := by
  have hall : ∀ i, (allB G.length).getLsbD i = true ↔ i < n := fun i => by rw [allB_bit (by omega), decide_eq_true_iff, hG]
  have anc : ∀ a b, a < n → b < n → (AncR (adjG G) (posQ q) (allB G.length) a b ↔ Anc (adjG G) (posQ q) a b) := by
    intro a b ha hb
    constructor
    · intro h; exact ⟨h.2.2.1, h.2.2.2.mono fun c hc => hc.2⟩
    · intro h
      refine ⟨(hall a).2 ha, (hall b).2 hb, h.1, ?_⟩
      exact (h.2.stay (inn := fun x => (allB G.length).getLsbD x = true) ((hall a).2 ha) (fun x y _ hxy _ => (hall y).2 (hadj x y hxy))).1.mono fun c hc => ⟨hc.2, hc.1⟩
  refine ⟨by rw [ofL_len, hG], fun b hb => ?_⟩
  have := (place_good hG hs hq 64 (allB G.length) (-1) (List.replicate G.length 0) (pop_le _) (fun i hi => (hall i).1 hi) (by simp [hG]) b hb).2 ((hall b).2 hb)
  rcases this with ⟨h1, h2⟩ | ⟨a, h1, h2, h3⟩
  · exact .inl ⟨h1, fun a ha h3 => h2 a ((anc a b ha hb).2 h3)⟩
  · have ha := (hall a).1 h2.1
    refine .inr ⟨a, ha, h1, (anc a b ha hb).1 h2, fun a' ha' h4 => ?_⟩
    rcases h3 a' ((anc a' b ha' hb).2 h4) with h5 | h5
    · exact .inl h5
    · exact .inr ((anc a' a ha' ha).1 h5)
end
theorem adjG_iff {S : Sch} (hV : Valid S) (a b : Nat) : adjG (gr S) a b ↔ adjS S a b := by
  unfold adjG adjS
  by_cases ha : a < S.attrs.length
  · rw [gr_bit hV ha, Bool.and_eq_true, decide_eq_true_iff]
  · rw [List.getD, List.getElem?_eq_none (by rw [gr_len]; omega)]
    constructor
    · intro h; simp at h
    · rintro ⟨_, h⟩; have := (link_lt hV h).1; omega
theorem adjG_eq {S : Sch} (hV : Valid S) : adjG (gr S) = adjS S := by
  funext a b; exact propext (adjG_iff hV a b)
theorem ordL_ord {S : Sch} (hV : Valid S) {q : List Int} (hq : q.Perm (upZ S.attrs.length)) : IsOrd S.attrs.length (adjS S) (posQ q) (ordL S q) := by
  have h1 := adjG_eq hV
  have h2 := hV.n2
  have := ofL_ord (G := gr S) (q := q) (n := S.attrs.length) (gr_len S) (by rw [h1]; exact adjS_symm S) hq (by omega) (by rw [h1]; intro a b h; have := (link_lt hV h.2).2; omega)
  rw [h1] at this
  exact this
end Go.Proofs.YtkalgjnhaicabaaGreat
namespace Go.Proofs.YtkalgjnhaicabaaGreat
open Go.RowKit Mk
set_option maxRecDepth 100000
set_option maxHeartbeats 4000000
theorem share_spec (S : Sch) (hS : SB S) (a b : Int) : FnP Tryz.prog 46 [schP S, .int .i64 a, .int .i64 b] (· = .bool (linkB S a b)) := by
  refine FnP.of Tryz.func46 rfl Tryz.ntmps46 (by simp) fun m0 w0 F R0 => ?_
  have hb := hS.r
  repeat refine AW.seq ?_
  refine AW.region ?_
  iterate 2 refine A1 rfl ?_
  repeat refine AW.seq ?_
  refine AW.region ?_
  iterate 4 refine A1 rfl ?_
  repeat refine AW.seq ?_
  refine AW.block ?_
  repeat refine AW.seq ?_
  refine AW.loop (st := fun x_0 : Nat => mkS [(1, .pv (.int .i64 a)), (2, .pv (.int .i64 b)), (10, .pv (.sl none S.rels.length (relsC S.rels))), (11, .pv (.int .i64 S.rels.length)), (12, .pv (.int .i64 x_0))] [] 1)
    (I := fun x_0 => x_0 ≤ S.rels.length ∧ ((S.rels.take x_0).any fun r => decide (a ∈ r.2) && decide (b ∈ r.2)) = false) (μ := fun x_0 => S.rels.length - x_0) (x0 := (0)) (St.le_mk ⟨rfl, rfl, rfl, rfl, rfl, trivial⟩ trivial rfl rfl) (⟨Nat.zero_le _, rfl⟩) ?_
  rintro k ⟨hk, hno⟩
  repeat refine AW.seq ?_
  refine AW.region ?_
  refine A1 rfl ?_
  repeat refine AW.seq ?_
  refine AW.condP rfl (fun hc13 => ?_) (fun hc13 => ?_)
  · have hlt : k < S.rels.length := by omega
    have hrow := rel_row hlt
    have hne := rel_ne hlt
    have hrl := hS.rl _ (List.getElem_mem hlt)
    refine AW.skip ?_
    repeat refine AW.seq ?_
    refine AW.block ?_
    repeat refine AW.seq ?_
    refine AW.region ?_
    refine A1 rfl ?_
    refine RL.step (d := some 15) rfl rfl (xj_loadAR ⟨_, Tryz.underlying62, rfl⟩ sz62 rfl hrow rfl) ?_
    iterate 2 refine A1 rfl ?_
    repeat refine AW.seq ?_
    refine AW.region ?_
    iterate 3 refine A1 rfl ?_
    refine RL.step (d := some 19) rfl rfl (xj_call Tryz.call50 (in_spec S.rels[k].2 a (by omega)) rfl) ?_
    refine A1 rfl ?_
    apply RL.andB 5 20 25 [21, 22, 23, 24] rfl (by first | exact MonoK.le | exact MonoK.aw | exact MonoK.back)
    · intro hb4
      iterate 3 refine A1 rfl ?_
      refine RL.stepG (d := some 24) rfl rfl rfl (xj_call Tryz.call50 (in_spec S.rels[k].2 b (by omega)) rfl) ?_
      refine A1 rfl ?_
      exact St.le_fg (fEq.upd (fEq.upd (fEq.upd (fEq.upd (fEq.upd (fEq.upd (fEq.refl) rfl) rfl) rfl) rfl) rfl) rfl) rfl rfl rfl
    · intro hb4
      iterate 5 refine A1 rfl ?_
      exact St.le_fg (fEq.upd (fEq.upd (fEq.upd (fEq.upd (fEq.upd (fEq.upd (fEq.refl) rfl) rfl) rfl) rfl) rfl) rfl) rfl rfl rfl
    repeat refine AW.seq ?_
    refine AW.cond rfl (fun hc25 => ?_) (fun hc25 => ?_)
    · repeat refine AW.seq ?_
      refine AW.region ?_
      refine A1 rfl ?_
      repeat refine AW.seq ?_
      refine AW.ret ?_
      exact ⟨_, _, rfl, rfl, congrArg PV.bool (by unfold linkB; exact (any_at (p := fun r : ByteArray × List Int => decide (a ∈ r.2) && decide (b ∈ r.2)) hlt hc25).symm)⟩
    · refine AW.skip ?_
      repeat refine AW.seq ?_
      refine AW.region ?_
      iterate 2 refine A1 rfl ?_
      exact ⟨(k + 1), St.le_mk ⟨rfl, rfl, rfl, rfl, rfl, trivial⟩ trivial rfl rfl, ⟨by omega, any_take hlt hno hc25⟩, by omega⟩
  · repeat refine AW.seq ?_
    refine AW.exit ?_
    repeat refine AW.seq ?_
    refine AW.region ?_
    refine A1 rfl ?_
    repeat refine AW.seq ?_
    refine AW.ret ?_
    exact ⟨_, _, rfl, rfl, congrArg PV.bool (by rw [List.take_of_length_le (by omega)] at hno; exact hno.symm)⟩
/-- What component knows on its way: the set so far is reached, and has the first one; F: how many were outside at the beginning of the round. -/
structure RInv (S : Sch) (rem : List Bool) (a n : Nat) (I : List Bool) : Prop where
  len : I.length = n
  has : I.getD a false = true
  snd : ∀ b, I.getD b false = true → Path (adjS S) (fun c => rem.getD c false = false) a b
def extB (S : Sch) (rem I : List Bool) (x y : Nat) : Bool := ((I.getD x false && !I.getD y false) && !rem.getD y false) && linkB S x y
structure PInv (S : Sch) (rem : List Bool) (a n F k : Nat) (I : List Bool) (more : Bool) : Prop where
  r : RInv S rem a n I
  le : I.count false ≤ F
  lt : more = true → I.count false < F
  no : more = false → ∀ x, x < k → ∀ y, y < n → extB S rem I x y = false
theorem count_set {I : List Bool} {y : Nat} (hy : y < I.length) (h : I[y] = false) : (I.set y true).count false < I.count false := by
  rw [List.count_set hy, h]
  have : 0 < I.count false := List.count_pos_iff.2 (by rw [← h]; exact List.getElem_mem hy)
  simp; omega
theorem RInv.ext {S : Sch} {rem I : List Bool} {a n x y : Nat} (h : RInv S rem a n I) (hy : y < n) (he : extB S rem I x y = true) : RInv S rem a n (I.set y true) ∧ (I.set y true).count false < I.count false := by
  unfold extB at he
  simp only [Bool.and_eq_true, Bool.not_eq_true'] at he
  have hyl : y < I.length := by rw [h.len]; exact hy
  refine ⟨⟨by simp [h.len], ?_, fun b hb => ?_⟩, count_set hyl (by rw [← getD_eq hyl false]; exact he.1.1.2)⟩
  · by_cases e : a = y
    · subst e; simp [List.getD, hyl]
    · have := h.has
      simp only [List.getD] at this ⊢
      rw [List.getElem?_set_ne (fun e' => e e'.symm)]; exact this
  · by_cases e : b = y
    · subst e
      refine .step (h.snd x he.1.1.1) ⟨fun e => ?_, he.2⟩ he.1.2
      subst e
      rw [he.1.1.1] at he; exact absurd he.1.1.2 (by decide)
    · refine h.snd b ?_
      simp only [List.getD] at hb ⊢
      rw [List.getElem?_set_ne (fun e' => e e'.symm)] at hb; exact hb
/-- The set is what is reached. -/
theorem RInv.last {S : Sch} (hV : Valid S) {rem I : List Bool} {a n : Nat} (h : RInv S rem a n I) (hn : n = S.attrs.length) (hno : ∀ x, x < n → ∀ y, y < n → extB S rem I x y = false) (b : Nat) : I.getD b false = true ↔ Path (adjS S) (fun c => rem.getD c false = false) a b := by
  refine ⟨h.snd b, fun hp => ?_⟩
  induction hp with
  | refl => exact h.has
  | @step x y _ h1 h2 ih =>
    have hl := link_lt hV h1.2
    have hx : x < n := by omega
    have hy : y < n := by omega
    have := hno x hx y hy
    unfold extB at this
    rw [ih, h2, h1.2] at this
    simpa using this
theorem pb_at {I : List Bool} {k : Nat} (h : k < I.length) : (boolsP I)[k * 1]? = some (.bool (I.getD k false)) := by simp [List.getD, h]
abbrev schV (S : Sch) : V := .pv (schP S)
abbrev boolO (l : List Bool) : Ob := .cells 4 (boolsP l)
theorem rcomp_spec (S : Sch) (hS : SB S) (hV : Valid S) (n : Nat) (hn : n = S.attrs.length) (rem : List Bool) (hrem : rem.length = n) (a : Nat) (ha : a < n) :
    FnO Tryz.prog 75 1 0 [schV S, .osl big 1 n, .pv (.int .i64 a)] [(big, boolO rem)]
      (fun v ob' => (∃ I : List Bool, v = .pv (pbools I) ∧ I.length = n ∧ ∀ b, I.getD b false = true ↔ Path (adjS S) (fun c => rem.getD c false = false) a b) ∧ ob' = lookO [(big, boolO rem)]) := by
  refine FnO.of Tryz.func75 rfl Tryz.ntmps75 (by simp) fun m0 w0 F R0 => ?_
  have hn12 := hV.n2
  have hr1 : RInv S rem a n ((List.replicate n false).set a true) := by
    refine ⟨by simp, by simp [List.getD, ha], fun b hb => ?_⟩
    by_cases e : b = a
    · subst e; exact .refl
    · simp only [List.getD] at hb
      rw [List.getElem?_set_ne (fun e' => e e'.symm)] at hb
      by_cases hbn : b < n
      · simp [hbn] at hb
      · rw [List.getElem?_eq_none (by simp; omega)] at hb; cases hb
  repeat refine AW.seq ?_
  refine AW.region ?_
  iterate 2 refine A1 rfl ?_
  repeat refine AW.seq ?_
  refine AW.region ?_
  iterate 3 refine A1 rfl ?_
  refine RL.step (d := some 14) rfl rfl ((xj_make (zs := [.bool false]) 1 n el110 rfl rfl rfl (by rw [hn]) (by rw [hn]) (by omega) rfl)) ?_
  refine A1 rfl ?_
  repeat refine AW.seq ?_
  refine AW.region ?_
  iterate 2 refine A1 rfl ?_
  refine RL.step (d := some 17) rfl rfl (xj_indexAddrO a Tryz.underlying110 sz4 rfl rfl rfl rfl ha) ?_
  refine RL.step (d := none) rfl rfl (xj_storeP sz4 rfl rfl rfl rfl (by rw [mkZ_one]; simp; omega)) ?_
  repeat refine AW.seq ?_
  refine AW.region ?_
  refine A1 rfl ?_
  repeat refine AW.seq ?_
  refine AW.block ?_
  repeat refine AW.seq ?_
  refine AW.loop (st := fun x_0 : List Bool × Bool => mkS [(1, .osl big 1 n), (3, .ptr 0 0), (7, .osl 1 1 n), (8, .pv (.bool x_0.2))] [(big, boolO rem), (0, .mix 27 [.pv (.sl none S.attrs.length (attrsC S.attrs)), .pv (.sl none S.rels.length (relsC S.rels)), .pv (.sl none S.feats.length (featsC S.feats)), .pv (.int .i64 S.label)]), (1, boolO x_0.1)] 2)
    (I := fun x_0 => RInv S rem a n x_0.1 ∧ (x_0.2 = false → ∀ x, x < n → ∀ y, y < n → extB S rem x_0.1 x y = false)) (μ := fun x_0 => 2 * x_0.1.count false + (if x_0.2 = true then 1 else 0)) (x0 := ((List.replicate n false).set a true, true)) (St.le_mk ⟨rfl, rfl, rfl, rfl, trivial⟩ ⟨rfl, rfl, congrArg (fun c => some (Ob.cells 4 c)) (by rw [mkZ_one, Nat.mul_one, Nat.mul_one]; show (List.replicate n (PV.bool false)).set a (PV.bool true) = _; simp [List.map_set]), trivial⟩ rfl rfl) (⟨hr1, fun h => by cases h⟩) ?_
  rintro ⟨I, more⟩ ⟨hI, hdone⟩
  try simp only at hI hdone ⊢
  repeat refine AW.seq ?_
  refine AW.region ?_
  refine A1 rfl ?_
  repeat refine AW.seq ?_
  refine AW.cond rfl (fun hc18 => ?_) (fun hc18 => ?_)
  · subst hc18
    refine AW.skip ?_
    repeat refine AW.seq ?_
    refine AW.block ?_
    repeat refine AW.seq ?_
    refine AW.region ?_
    refine A1 rfl ?_
    repeat refine AW.seq ?_
    refine AW.region ?_
    iterate 3 refine A1 rfl ?_
    repeat refine AW.seq ?_
    refine AW.block ?_
    repeat refine AW.seq ?_
    refine AW.loop (st := fun x_1 : Nat × List Bool × Bool => mkS [(1, .osl big 1 n), (3, .ptr 0 0), (7, .osl 1 1 n), (8, .pv (.bool x_1.2.2)), (20, .pv (.int .i64 n)), (21, .pv (.int .i64 x_1.1))] [(big, boolO rem), (0, .mix 27 [.pv (.sl none S.attrs.length (attrsC S.attrs)), .pv (.sl none S.rels.length (relsC S.rels)), .pv (.sl none S.feats.length (featsC S.feats)), .pv (.int .i64 S.label)]), (1, boolO x_1.2.1)] 2)
      (I := fun x_1 => x_1.1 ≤ n ∧ PInv S rem a n (I.count false) x_1.1 x_1.2.1 x_1.2.2) (μ := fun x_1 => n - x_1.1) (x0 := (0, I, false)) (St.le_mk ⟨rfl, rfl, rfl, rfl, rfl, rfl, trivial⟩ ⟨rfl, rfl, rfl, trivial⟩ rfl rfl) (⟨Nat.zero_le _, hI, Nat.le_refl _, (fun h => by cases h), fun _ x hx => absurd hx (Nat.not_lt_zero _)⟩) ?_
    rintro ⟨k, J, mo⟩ ⟨hk, hJ⟩
    try simp only at hk hJ ⊢
    repeat refine AW.seq ?_
    refine AW.region ?_
    refine A1 rfl ?_
    repeat refine AW.seq ?_
    refine AW.condP rfl (fun hc22 => ?_) (fun hc22 => ?_)
    · have hkn : k < n := by omega
      refine AW.skip ?_
      repeat refine AW.seq ?_
      refine AW.block ?_
      repeat refine AW.seq ?_
      refine AW.region ?_
      iterate 2 refine A1 rfl ?_
      repeat refine AW.seq ?_
      refine AW.region ?_
      iterate 3 refine A1 rfl ?_
      repeat refine AW.seq ?_
      refine AW.block ?_
      repeat refine AW.seq ?_
      refine AW.loop (st := fun x_2 : Nat × List Bool × Bool => mkS [(1, .osl big 1 n), (3, .ptr 0 0), (7, .osl 1 1 n), (8, .pv (.bool x_2.2.2)), (9, .pv (.int .i64 k)), (20, .pv (.int .i64 n)), (21, .pv (.int .i64 k)), (25, .pv (.int .i64 n)), (26, .pv (.int .i64 x_2.1))] [(big, boolO rem), (0, .mix 27 [.pv (.sl none S.attrs.length (attrsC S.attrs)), .pv (.sl none S.rels.length (relsC S.rels)), .pv (.sl none S.feats.length (featsC S.feats)), .pv (.int .i64 S.label)]), (1, boolO x_2.2.1)] 2)
        (I := fun x_2 => x_2.1 ≤ n ∧ PInv S rem a n (I.count false) k x_2.2.1 x_2.2.2 ∧ (x_2.2.2 = false → ∀ y, y < x_2.1 → extB S rem x_2.2.1 k y = false)) (μ := fun x_2 => n - x_2.1) (x0 := (0, J, mo)) (St.le_mk ⟨rfl, rfl, rfl, rfl, rfl, rfl, rfl, rfl, rfl, trivial⟩ ⟨rfl, rfl, rfl, trivial⟩ rfl rfl) (⟨Nat.zero_le _, hJ, fun _ y hy => absurd hy (Nat.not_lt_zero _)⟩) ?_
      rintro ⟨j, K, mp⟩ ⟨hj, hK, hrow⟩
      try simp only at hj hK hrow ⊢
      repeat refine AW.seq ?_
      refine AW.region ?_
      refine A1 rfl ?_
      repeat refine AW.seq ?_
      refine AW.condP rfl (fun hc27 => ?_) (fun hc27 => ?_)
      · have hjn : j < n := by omega
        have hKl := hK.r.len
        have hvk := pb_at (I := K) (k := k) (by omega)
        have hvj := pb_at (I := K) (k := j) (by omega)
        have hvr := pb_at (I := rem) (k := j) (by omega)
        refine AW.skip ?_
        repeat refine AW.seq ?_
        refine AW.block ?_
        repeat refine AW.seq ?_
        refine AW.region ?_
        iterate 2 refine A1 rfl ?_
        repeat refine AW.seq ?_
        refine AW.region ?_
        iterate 2 refine A1 rfl ?_
        refine RL.step (d := some 31) rfl rfl (xj_indexAddrO k Tryz.underlying110 sz4 rfl rfl rfl rfl hkn) ?_
        refine RL.step (d := some 32) rfl rfl (xj_load1P ⟨_, Tryz.underlying4, rfl⟩ rfl rfl hvk) ?_
        refine A1 rfl ?_
        apply RL.andB 6 33 39 [34, 35, 36, 37, 38] rfl (by first | exact MonoK.le | exact MonoK.aw | exact MonoK.back)
        · intro hb4
          iterate 2 refine A1 rfl ?_
          refine RL.stepG (d := some 36) rfl rfl rfl (xj_indexAddrO j Tryz.underlying110 sz4 rfl rfl rfl rfl hjn) ?_
          refine RL.stepG (d := some 37) rfl rfl rfl (xj_load1P ⟨_, Tryz.underlying4, rfl⟩ rfl rfl hvj) ?_
          iterate 2 refine A1 rfl ?_
          exact St.le_fg (fEq.upd (fEq.upd (fEq.upd (fEq.upd (fEq.upd (fEq.upd (fEq.upd (fEq.refl) rfl) rfl) rfl) rfl) rfl) rfl) rfl) rfl rfl rfl
        · intro hb4
          iterate 6 refine A1 rfl ?_
          exact St.le_fg (fEq.upd (fEq.upd (fEq.upd (fEq.upd (fEq.upd (fEq.upd (fEq.upd (fEq.refl) rfl) rfl) rfl) rfl) rfl) rfl) rfl) rfl rfl rfl
        refine A1 rfl ?_
        apply RL.andB 6 40 46 [41, 42, 43, 44, 45] rfl (by first | exact MonoK.le | exact MonoK.aw | exact MonoK.back)
        · intro hb11
          iterate 2 refine A1 rfl ?_
          refine RL.stepG (d := some 43) rfl rfl rfl (xj_indexAddrO j Tryz.underlying110 sz4 rfl rfl rfl rfl hjn) ?_
          refine RL.stepG (d := some 44) rfl rfl rfl (xj_load1P ⟨_, Tryz.underlying4, rfl⟩ rfl rfl hvr) ?_
          iterate 2 refine A1 rfl ?_
          exact St.le_fg (fEq.upd (fEq.upd (fEq.upd (fEq.upd (fEq.upd (fEq.upd (fEq.upd (fEq.refl) rfl) rfl) rfl) rfl) rfl) rfl) rfl) rfl rfl rfl
        · intro hb11
          iterate 6 refine A1 rfl ?_
          exact St.le_fg (fEq.upd (fEq.upd (fEq.upd (fEq.upd (fEq.upd (fEq.upd (fEq.upd (fEq.refl) rfl) rfl) rfl) rfl) rfl) rfl) rfl) rfl rfl rfl
        refine A1 rfl ?_
        apply RL.andB 5 47 52 [48, 49, 50, 51] rfl (by first | exact MonoK.le | exact MonoK.aw | exact MonoK.back)
        · intro hb18
          iterate 3 refine A1 rfl ?_
          refine RL.stepG (d := some 51) rfl rfl rfl (xj_call Tryz.call46 (share_spec S hS k j) rfl) ?_
          refine A1 rfl ?_
          exact St.le_fg (fEq.upd (fEq.upd (fEq.upd (fEq.upd (fEq.upd (fEq.upd (fEq.refl) rfl) rfl) rfl) rfl) rfl) rfl) rfl rfl rfl
        · intro hb18
          iterate 5 refine A1 rfl ?_
          exact St.le_fg (fEq.upd (fEq.upd (fEq.upd (fEq.upd (fEq.upd (fEq.upd (fEq.refl) rfl) rfl) rfl) rfl) rfl) rfl) rfl rfl rfl
        repeat refine AW.seq ?_
        refine AW.cond rfl (fun hc52 => ?_) (fun hc52 => ?_)
        · have hext := hK.r.ext hjn (x := k) hc52
          have hle := hK.le
          repeat refine AW.seq ?_
          refine AW.region ?_
          iterate 2 refine A1 rfl ?_
          refine RL.step (d := some 55) rfl rfl (xj_indexAddrO j Tryz.underlying110 sz4 rfl rfl rfl rfl hjn) ?_
          refine RL.step (d := none) rfl rfl (xj_storeP sz4 rfl rfl rfl rfl (by simp; omega)) ?_
          refine A1 rfl ?_
          repeat refine AW.seq ?_
          refine AW.region ?_
          iterate 2 refine A1 rfl ?_
          exact ⟨(j + 1, K.set j true, true), St.le_mk ⟨rfl, rfl, rfl, rfl, rfl, rfl, rfl, rfl, rfl, trivial⟩ ⟨rfl, rfl, congrArg (fun c => some (Ob.cells 4 c)) (by simp [List.map_set]; rfl), trivial⟩ rfl rfl, ⟨by simp only; omega, ⟨hext.1, Nat.le_trans (Nat.le_of_lt hext.2) hle, fun _ => Nat.lt_of_lt_of_le hext.2 hle, (fun h => by cases h)⟩, (fun h => by cases h)⟩, by simp only; omega⟩
        · refine AW.skip ?_
          repeat refine AW.seq ?_
          refine AW.region ?_
          iterate 2 refine A1 rfl ?_
          exact ⟨(j + 1, K, mp), St.le_mk ⟨rfl, rfl, rfl, rfl, rfl, rfl, rfl, rfl, rfl, trivial⟩ ⟨rfl, rfl, rfl, trivial⟩ rfl rfl, ⟨by simp only; omega, hK, fun h y hy => by rcases Nat.lt_succ_iff_lt_or_eq.1 hy with h1 | rfl; exact hrow h y h1; exact hc52⟩, by simp only; omega⟩
      · have hjn : j = n := by omega
        repeat refine AW.seq ?_
        refine AW.exit ?_
        repeat refine AW.seq ?_
        refine AW.region ?_
        iterate 2 refine A1 rfl ?_
        exact ⟨(k + 1, K, mp), St.le_mk ⟨rfl, rfl, rfl, rfl, rfl, rfl, trivial⟩ ⟨rfl, rfl, rfl, trivial⟩ rfl rfl, ⟨by simp only; omega, hK.r, hK.le, hK.lt, fun h x hx y hy => by rcases Nat.lt_succ_iff_lt_or_eq.1 hx with h1 | rfl; exact hK.no h x h1 y hy; exact hrow h y (by omega)⟩, by simp only; omega⟩
    · have hkn : k = n := by omega
      repeat refine AW.seq ?_
      refine AW.exit ?_
      exact ⟨(J, mo), St.le_mk ⟨rfl, rfl, rfl, rfl, trivial⟩ ⟨rfl, rfl, rfl, trivial⟩ rfl rfl, ⟨hJ.r, fun h x hx y hy => hJ.no h x (by omega) y hy⟩, by have h1 := hJ.le; have h2 := hJ.lt; simp only; cases mo with | false => simp; omega | true => have := h2 rfl; simp; omega⟩
  · subst hc18
    have hfin := hI.last hV hn (hdone rfl)
    repeat refine AW.seq ?_
    refine AW.exit ?_
    refine AW.weaken (St.le_pubA 1 rfl rfl) ?_
    repeat refine AW.seq ?_
    refine AW.region ?_
    iterate 2 refine A1 rfl ?_
    refine AW.weaken (St.le_fgS [6]) ?_
    repeat refine AW.seq ?_
    refine AW.ret ?_
    exact ⟨[(6, .pv (pbools I))], [(big, boolO rem)], [.pv (pbools I)], St.le_mk ⟨by show V.pv (.sl none n (boolsP I)) = _; rw [pbools, hI.len], trivial⟩ ⟨rfl, trivial⟩ rfl rfl, rfl, rfl, rfl, ⟨I, rfl, hI.len, hfin⟩, rfl⟩
end Go.Proofs.YtkalgjnhaicabaaGreat
namespace Go.Proofs.YtkalgjnhaicabaaGreat
open Go.RowKit Mk
set_option maxRecDepth 100000
set_option maxHeartbeats 4000000
/-- The parents when the first i of the permutation are done. -/
def OInv (n : Nat) (adj : Nat → Nat → Prop) (pos : Nat → Nat) (i : Nat) (P : List Int) : Prop :=
  ∀ b, b < n → (P.getD b 0 = -1 ∧ ∀ a, a < n → pos a < i → ¬ Anc adj pos a b) ∨ ∃ a : Nat, a < n ∧ P.getD b 0 = (a : Int) ∧ pos a < i ∧ Anc adj pos a b ∧ ∀ a', a' < n → pos a' < i → Anc adj pos a' b → pos a' ≤ pos a
theorem OInv.last {n : Nat} {adj : Nat → Nat → Prop} {pos : Nat → Nat} (hs : ∀ a b, adj a b → adj b a) (hp : ∀ a, a < n → pos a < n) (hinj : ∀ a b, a < n → pos a = pos b → a = b) {P : List Int} (hl : P.length = n) (h : OInv n adj pos n P) : IsOrd n adj pos P := by
  refine ⟨hl, fun b hb => ?_⟩
  rcases h b hb with ⟨h1, h2⟩ | ⟨a, ha, h1, _, h2, h3⟩
  · exact .inl ⟨h1, fun a ha => h2 a ha (hp a ha)⟩
  · refine .inr ⟨a, ha, h1, h2, fun a' ha' h4 => ?_⟩
    rcases Nat.lt_or_eq_of_le (h3 a' ha' (hp a' ha') h4) with h5 | h5
    · exact .inr (h4.lin hs h2 h5)
    · exact .inl (hinj a' a ha' h5)
theorem OInv.next {n : Nat} {adj : Nat → Nat → Prop} {pos : Nat → Nat} (hinj : ∀ a b, a < n → pos a = pos b → a = b) {i a : Nat} {P Q : List Int} (ha : a < n) (hpa : pos a = i) (h : OInv n adj pos i P) {I : Nat → Prop}
    (hI : ∀ b, b < n → (I b ↔ Path adj (fun c => pos a ≤ pos c) a b)) (hQ : ∀ b, b < n → (I b ∧ b ≠ a → Q.getD b 0 = (a : Int)) ∧ (¬ (I b ∧ b ≠ a) → Q.getD b 0 = P.getD b 0)) : OInv n adj pos (i + 1) Q := by
  intro b hb
  have hanc : I b ∧ b ≠ a ↔ Anc adj pos a b := by
    constructor
    · rintro ⟨h1, h2⟩
      have hp := (hI b hb).1 h1
      have h3 : pos a ≤ pos b := hp.fin (ok := fun c => pos a ≤ pos c) (Nat.le_refl _)
      exact ⟨Nat.lt_of_le_of_ne h3 (fun e => h2 (hinj a b ha e).symm), hp⟩
    · rintro ⟨h1, h2⟩
      exact ⟨(hI b hb).2 h2, fun e => by subst e; omega⟩
  have cases' : ∀ a', a' < n → pos a' < i + 1 → a' = a ∨ pos a' < i := fun a' ha' h1 => by
    by_cases e : pos a' = i
    · exact .inl (hinj a' a ha' (by omega))
    · exact .inr (by omega)
  by_cases hA : Anc adj pos a b
  · refine .inr ⟨a, ha, (hQ b hb).1 (hanc.2 hA), by omega, hA, fun a' ha' h1 _ => by omega⟩
  · rw [(hQ b hb).2 (fun h1 => hA (hanc.1 h1))]
    rcases h b hb with ⟨h1, h2⟩ | ⟨d, hd, h1, h2, h3, h4⟩
    · refine .inl ⟨h1, fun a' ha' h3 h4 => ?_⟩
      rcases cases' a' ha' h3 with rfl | h5
      · exact hA h4
      · exact h2 a' ha' h5 h4
    · refine .inr ⟨d, hd, h1, by omega, h3, fun a' ha' h5 h6 => ?_⟩
      rcases cases' a' ha' h5 with rfl | h7
      · exact absurd h6 hA
      · exact h4 a' ha' h7 h6
theorem pos_at {n : Nat} {q : List Int} (hq : q.Perm (upZ n)) {i a : Nat} (hi : i < q.length) (h : q[i] = (a : Int)) : posQ q a = i := by
  have hnd : q.Nodup := hq.nodup_iff.2 (upZ_nodup n)
  unfold posQ
  rw [← h]
  exact hnd.idxOf_getElem i hi
theorem ints_set (P : List Int) (b : Nat) (x : Int) : (intsP P).set b (.int .i64 x) = intsP (P.set b x) := by simp [List.map_set]
theorem set_next {n m a j : Nat} {R Q : List Int} {I : List Bool} (hRl : R.length = n) (hR : ∀ b, b < n → (b < j ∧ I.getD b false = true ∧ b ≠ a → R.getD b 0 = (a : Int)) ∧ (¬ (b < j ∧ I.getD b false = true ∧ b ≠ a) → R.getD b 0 = Q.getD b 0)) (hjl : j < m) (hIl : m = n) (hcc : I.getD j false = true ∧ j ≠ a) (b : Nat) (hb : b < n) :
    (b < j + 1 ∧ I.getD b false = true ∧ b ≠ a → (R.set j (a : Int)).getD b 0 = (a : Int)) ∧ (¬ (b < j + 1 ∧ I.getD b false = true ∧ b ≠ a) → (R.set j (a : Int)).getD b 0 = Q.getD b 0) := by
  by_cases e : b = j
  · subst e
    refine ⟨fun _ => by simp [List.getD, hRl, hb], fun h => absurd ⟨Nat.lt_succ_self _, hcc.1, hcc.2⟩ h⟩
  · have e1 : (R.set j (a : Int)).getD b 0 = R.getD b 0 := by simp only [List.getD]; rw [List.getElem?_set_ne (fun e' => e e'.symm)]
    rw [e1]
    exact ⟨fun h => (hR b hb).1 ⟨by omega, h.2⟩, fun h => (hR b hb).2 (fun h2 => h ⟨by omega, h2.2⟩)⟩
theorem skip_next {n a j : Nat} {R Q : List Int} {I : List Bool} (hR : ∀ b, b < n → (b < j ∧ I.getD b false = true ∧ b ≠ a → R.getD b 0 = (a : Int)) ∧ (¬ (b < j ∧ I.getD b false = true ∧ b ≠ a) → R.getD b 0 = Q.getD b 0)) (hcc : ¬ (I.getD j false = true ∧ j ≠ a)) (b : Nat) (hb : b < n) :
    (b < j + 1 ∧ I.getD b false = true ∧ b ≠ a → R.getD b 0 = (a : Int)) ∧ (¬ (b < j + 1 ∧ I.getD b false = true ∧ b ≠ a) → R.getD b 0 = Q.getD b 0) := by
  refine ⟨fun h => (hR b hb).1 ⟨?_, h.2⟩, fun h => (hR b hb).2 (fun h2 => h ⟨by omega, h2.2⟩)⟩
  by_cases e : b = j
  · subst e; exact absurd h.2 hcc
  · omega
theorem comp_pos {S : Sch} {q : List Int} (hq : q.Perm (upZ S.attrs.length)) (hql : q.length = S.attrs.length) {a i b : Nat} (hpa : posQ q a = i) {rem : List Bool} (hrem : ∀ c, c < q.length → (rem.getD c false = false ↔ i ≤ posQ q c)) (hV : Valid S) {X : Prop} (h : X ↔ Path (adjS S) (fun c => rem.getD c false = false) a b) :
    X ↔ Path (adjS S) (fun c => posQ q a ≤ posQ q c) a b := by
  rw [h]
  have key : ∀ (p p' : Nat → Prop), (∀ c, c < q.length → p c → p' c) → ∀ b, Path (adjS S) p a b → Path (adjS S) p' a b := by
    intro p p' hpp b hb
    induction hb with
    | refl => exact .refl
    | @step x y _ h1 h2 ih =>
      have := (link_lt hV h1.2).2
      exact .step ih h1 (hpp y (by omega) h2)
  rw [hpa]
  exact ⟨key _ _ (fun c hc h => (hrem c hc).1 h) b, key _ _ (fun c hc h => (hrem c hc).2 h) b⟩
theorem rem_next {S : Sch} {q : List Int} (hq : q.Perm (upZ S.attrs.length)) (hql : q.length = S.attrs.length) {a i : Nat} (ha : a < S.attrs.length) (hpa : posQ q a = i) {rem : List Bool} (hrl : rem.length = q.length) (hrem : ∀ c, c < q.length → (rem.getD c false = false ↔ i ≤ posQ q c)) (c : Nat) (hc : c < q.length) :
    (rem.set a true).getD c false = false ↔ i + 1 ≤ posQ q c := by
  by_cases e : c = a
  · subst e
    simp [List.getD, hrl, hc]; omega
  · have e1 : (rem.set a true).getD c false = rem.getD c false := by simp only [List.getD]; rw [List.getElem?_set_ne (fun e' => e e'.symm)]
    rw [e1, hrem c hc]
    have : posQ q c ≠ posQ q a := fun h => e (posQ_inj hq (by omega) h)
    omega
theorem rof_spec (S : Sch) (hS : SB S) (hV : Valid S) (q : List Int) (hq : q.Perm (upZ S.attrs.length)) : FnP Tryz.prog 48 [schP S, pints q] (· = ordP (ordL S q)) := by
  refine FnP.fg2 (FnP.ofC Tryz.func48 rfl Tryz.ntmps48 (by simp) fun m0 w0 F R0 => ?_)
  have hn12 := hV.n2
  have hql : q.length = S.attrs.length := by rw [hq.length_eq, upZ_len]
  have hinj : ∀ a b, a < S.attrs.length → posQ q a = posQ q b → a = b := fun a b ha h => posQ_inj hq ha h
  have hp : ∀ a, a < S.attrs.length → posQ q a < S.attrs.length := fun a ha => posQ_lt hq ha
  repeat refine AW.seq ?_
  refine AW.region ?_
  iterate 2 refine A1 rfl ?_
  repeat refine AW.seq ?_
  refine AW.region ?_
  iterate 2 refine A1 rfl ?_
  refine RL.step (d := some 14) rfl rfl (xj_make (zs := [.int .i64 0]) 2 q.length el22 rfl rfl rfl rfl rfl (by omega) rfl) ?_
  iterate 3 refine A1 rfl ?_
  repeat refine AW.seq ?_
  refine AW.region ?_
  iterate 2 refine A1 rfl ?_
  refine RL.step (d := some 18) rfl rfl (xj_make (zs := [.bool false]) 4 q.length el110 rfl rfl rfl rfl rfl (by omega) rfl) ?_
  refine A1 rfl ?_
  repeat refine AW.seq ?_
  refine AW.region ?_
  iterate 4 refine A1 rfl ?_
  repeat refine AW.seq ?_
  refine AW.block ?_
  repeat refine AW.seq ?_
  refine AW.loop (st := fun x_0 : Nat × List Int => mkS [(1, .pv (pints q)), (2, .ptr 0 0), (4, .ptr 1 0), (5, .ptr 3 0), (6, .osl 4 1 q.length), (21, .pv (.int .i64 q.length)), (22, .pv (.int .i64 x_0.1))] [(0, .mix 27 [.pv (.sl none S.attrs.length (attrsC S.attrs)), .pv (.sl none S.rels.length (relsC S.rels)), .pv (.sl none S.feats.length (featsC S.feats)), .pv (.int .i64 S.label)]), (1, .mix 29 [.pv (.sl (some true) 0 [])]), (2, intsO x_0.2), (3, .mix 29 [.osl 2 1 q.length]), (4, boolO (List.replicate q.length false))] 5)
    (I := fun x_0 => x_0.1 ≤ q.length ∧ x_0.2.length = q.length ∧ ∀ b, b < x_0.1 → x_0.2.getD b 0 = -1) (μ := fun x_0 => q.length - x_0.1) (x0 := (0, List.replicate q.length 0)) (St.le_mk ⟨rfl, rfl, rfl, rfl, rfl, rfl, rfl, trivial⟩ ⟨rfl, rfl, congrArg (fun c => some (Ob.cells 3 c)) ((mkZ_one (.int .i64 0) (q.length * 1)).trans (by simp)), rfl, congrArg (fun c => some (Ob.cells 4 c)) ((mkZ_one (.bool false) (q.length * 1)).trans (by simp)), trivial⟩ rfl rfl) (⟨Nat.zero_le _, by simp, fun b hb => absurd hb (Nat.not_lt_zero _)⟩) ?_
  rintro ⟨k, P⟩ ⟨hk, hPl, hm⟩
  try simp only at hk hPl hm ⊢
  repeat refine AW.seq ?_
  refine AW.region ?_
  refine A1 rfl ?_
  repeat refine AW.seq ?_
  refine AW.condP rfl (fun hc23 => ?_) (fun hc23 => ?_)
  · have hlt : k < q.length := by omega
    refine AW.skip ?_
    repeat refine AW.seq ?_
    refine AW.block ?_
    repeat refine AW.seq ?_
    refine AW.region ?_
    iterate 2 refine A1 rfl ?_
    repeat refine AW.seq ?_
    refine AW.region ?_
    iterate 3 refine A1 rfl ?_
    refine RL.step (d := some 28) rfl rfl (xj_indexAddrO k Tryz.underlying22 sz3 rfl rfl rfl rfl hlt) ?_
    refine RL.step (d := none) rfl rfl (xj_storeP sz3 rfl rfl rfl rfl (by simp; omega)) ?_
    repeat refine AW.seq ?_
    refine AW.region ?_
    iterate 2 refine A1 rfl ?_
    exact ⟨(k + 1, P.set k (-1)), St.le_mk ⟨rfl, rfl, rfl, rfl, rfl, rfl, rfl, trivial⟩ ⟨rfl, rfl, congrArg (fun c => some (Ob.cells 3 c)) (by rw [Nat.mul_one]; exact ints_set P k (-1)), rfl, rfl, trivial⟩ rfl rfl, ⟨by simp only; omega, by simp [hPl], fun b hb => by by_cases e : b = k; (subst e; simp [List.getD, hPl, hlt]); (have := hm b (by simp only at hb; omega); simp only [List.getD] at this ⊢; rw [List.getElem?_set_ne (fun e' => e e'.symm)]; exact this)⟩, by simp only; omega⟩
  · have hinit : OInv S.attrs.length (adjS S) (posQ q) 0 P := fun b hb => .inl ⟨hm b (by omega), fun a _ h => absurd h (Nat.not_lt_zero _)⟩
    repeat refine AW.seq ?_
    refine AW.exit ?_
    repeat refine AW.seq ?_
    refine AW.region ?_
    iterate 3 refine A1 rfl ?_
    repeat refine AW.seq ?_
    refine AW.block ?_
    repeat refine AW.seq ?_
    refine AW.loop (st := fun x_1 : Nat × List Int × List Bool => mkS [(2, .ptr 0 0), (4, .ptr 1 0), (5, .ptr 3 0), (6, .osl 4 1 q.length), (30, .pv (pints q)), (31, .pv (.int .i64 q.length)), (32, .pv (.int .i64 x_1.1))] [(0, .mix 27 [.pv (.sl none S.attrs.length (attrsC S.attrs)), .pv (.sl none S.rels.length (relsC S.rels)), .pv (.sl none S.feats.length (featsC S.feats)), .pv (.int .i64 S.label)]), (1, .mix 29 [.pv (.sl (some true) 0 [])]), (2, intsO x_1.2.1), (3, .mix 29 [.osl 2 1 q.length]), (4, boolO x_1.2.2)] 5)
      (I := fun x_1 => x_1.1 ≤ q.length ∧ x_1.2.1.length = q.length ∧ x_1.2.2.length = q.length ∧ (∀ c, c < q.length → (x_1.2.2.getD c false = false ↔ x_1.1 ≤ posQ q c)) ∧ OInv S.attrs.length (adjS S) (posQ q) x_1.1 x_1.2.1) (μ := fun x_1 => q.length - x_1.1) (x0 := (0, P, List.replicate q.length false)) (St.le_mk ⟨rfl, rfl, rfl, rfl, rfl, rfl, rfl, trivial⟩ ⟨rfl, rfl, rfl, rfl, rfl, trivial⟩ rfl rfl) (⟨Nat.zero_le _, hPl, by simp, fun c hc => by simp [List.getD, hc], hinit⟩) ?_
    rintro ⟨i, Q, rem⟩ ⟨hi, hQl, hrl, hrem, hO⟩
    try simp only at hi hQl hrl hrem hO ⊢
    repeat refine AW.seq ?_
    refine AW.region ?_
    refine A1 rfl ?_
    repeat refine AW.seq ?_
    refine AW.condP rfl (fun hc33 => ?_) (fun hc33 => ?_)
    · have hil : i < q.length := by omega
      have hv := pints_at hil
      have hne := pints_ne hil
      obtain ⟨a, ha, hqa⟩ := upZ_mem.1 (hq.mem_iff.1 (List.getElem_mem hil))
      have hpa := pos_at hq hil hqa
      have hgo := rcomp_spec S hS hV q.length hql rem hrl a (by omega)
      refine AW.skip ?_
      repeat refine AW.seq ?_
      refine AW.block ?_
      repeat refine AW.seq ?_
      refine AW.region ?_
      refine A1 rfl ?_
      first | refine A2 rfl (by assumption) ?_ | refine A1 rfl ?_
      refine A1 rfl ?_
      repeat refine AW.seq ?_
      refine AW.region ?_
      iterate 3 refine A1 rfl ?_
      refine RL.call rfl (oj_callF1 [4] 5 Tryz.call75 hgo (by rw [← hqa]; rfl) rfl rfl rfl ⟨rfl, trivial⟩ (by decide) rfl ?_)
      rintro _ _ ⟨⟨I, rfl, hIl, hI⟩, rfl⟩
      refine A1 rfl ?_
      repeat refine AW.seq ?_
      refine AW.region ?_
      iterate 3 refine A1 rfl ?_
      repeat refine AW.seq ?_
      refine AW.block ?_
      repeat refine AW.seq ?_
      refine AW.loop (st := fun x_2 : Nat × List Int => mkS [(2, .ptr 0 0), (4, .ptr 1 0), (5, .ptr 3 0), (6, .osl 4 1 q.length), (9, .pv (.int .i64 q[i])), (10, .pv (pbools I)), (30, .pv (pints q)), (31, .pv (.int .i64 q.length)), (32, .pv (.int .i64 i)), (41, .pv (.int .i64 I.length)), (42, .pv (.int .i64 x_2.1))] [(0, .mix 27 [.pv (.sl none S.attrs.length (attrsC S.attrs)), .pv (.sl none S.rels.length (relsC S.rels)), .pv (.sl none S.feats.length (featsC S.feats)), .pv (.int .i64 S.label)]), (1, .mix 29 [.pv (.sl (some true) 0 [])]), (2, intsO x_2.2), (3, .mix 29 [.osl 2 1 q.length]), (4, boolO rem)] 5)
        (I := fun x_2 => x_2.1 ≤ I.length ∧ x_2.2.length = q.length ∧ ∀ b, b < q.length → (b < x_2.1 ∧ I.getD b false = true ∧ b ≠ a → x_2.2.getD b 0 = (a : Int)) ∧ (¬ (b < x_2.1 ∧ I.getD b false = true ∧ b ≠ a) → x_2.2.getD b 0 = Q.getD b 0)) (μ := fun x_2 => I.length - x_2.1) (x0 := (0, Q)) (St.le_mk ⟨rfl, rfl, rfl, rfl, rfl, rfl, rfl, rfl, rfl, rfl, rfl, trivial⟩ ⟨rfl, rfl, rfl, rfl, rfl, trivial⟩ rfl rfl) (⟨Nat.zero_le _, hQl, fun b _ => ⟨fun h => absurd h.1 (Nat.not_lt_zero _), fun _ => rfl⟩⟩) ?_
      rintro ⟨j, R⟩ ⟨hj, hRl, hR⟩
      try simp only at hj hRl hR ⊢
      repeat refine AW.seq ?_
      refine AW.region ?_
      refine A1 rfl ?_
      repeat refine AW.seq ?_
      refine AW.condP rfl (fun hc43 => ?_) (fun hc43 => ?_)
      · have hjl : j < I.length := by omega
        have hvj := pb_at hjl
        have hnej := pbools_ne hjl
        refine AW.skip ?_
        repeat refine AW.seq ?_
        refine AW.block ?_
        repeat refine AW.seq ?_
        refine AW.region ?_
        iterate 2 refine A1 rfl ?_
        repeat refine AW.seq ?_
        refine AW.region ?_
        iterate 2 refine A1 rfl ?_
        refine RL.step (d := some 47) rfl rfl (xj_indexAddr j Tryz.underlying110 sz4 rfl rfl rfl hjl hnej) ?_
        first | refine A2 rfl (by assumption) ?_ | refine A1 rfl ?_
        refine A1 rfl ?_
        apply RL.andB 4 49 53 [50, 51, 52] rfl (by first | exact MonoK.le | exact MonoK.aw | exact MonoK.back)
        · intro hb4
          iterate 4 refine A1 rfl ?_
          exact St.le_fg (fEq.upd (fEq.upd (fEq.upd (fEq.upd (fEq.upd (fEq.refl) rfl) rfl) rfl) rfl) rfl) rfl rfl rfl
        · intro hb4
          iterate 4 refine A1 rfl ?_
          exact St.le_fg (fEq.upd (fEq.upd (fEq.upd (fEq.upd (fEq.upd (fEq.refl) rfl) rfl) rfl) rfl) rfl) rfl rfl rfl
        repeat refine AW.seq ?_
        refine AW.cond rfl (fun hc53 => ?_) (fun hc53 => ?_)
        · have hcc : I.getD j false = true ∧ j ≠ a := by rw [hqa] at hc53; simp only [Bool.and_eq_true, bne_iff_ne] at hc53; exact ⟨hc53.1, by omega⟩
          repeat refine AW.seq ?_
          refine AW.region ?_
          iterate 4 refine A1 rfl ?_
          refine RL.step (d := some 58) rfl rfl (xj_indexAddrO j Tryz.underlying22 sz3 rfl rfl rfl rfl (by omega)) ?_
          refine RL.step (d := none) rfl rfl (xj_storeP sz3 rfl rfl rfl rfl (by simp; omega)) ?_
          repeat refine AW.seq ?_
          refine AW.region ?_
          iterate 2 refine A1 rfl ?_
          exact ⟨(j + 1, R.set j a), St.le_mk ⟨rfl, rfl, rfl, rfl, rfl, rfl, rfl, rfl, rfl, rfl, rfl, trivial⟩ ⟨rfl, rfl, congrArg (fun c => some (Ob.cells 3 c)) (by rw [Nat.mul_one, hqa]; exact ints_set R j a), rfl, rfl, trivial⟩ rfl rfl, ⟨by simp only; omega, by simp [hRl], fun b hb => set_next hRl hR hjl hIl hcc b hb⟩, by simp only; omega⟩
        · have hcc : ¬ (I.getD j false = true ∧ j ≠ a) := by rw [hqa] at hc53; rintro ⟨h1, h2⟩; rw [h1, Bool.true_and] at hc53; exact absurd (inF hc53) (by omega)
          refine AW.skip ?_
          repeat refine AW.seq ?_
          refine AW.region ?_
          iterate 2 refine A1 rfl ?_
          exact ⟨(j + 1, R), St.le_mk ⟨rfl, rfl, rfl, rfl, rfl, rfl, rfl, rfl, rfl, rfl, rfl, trivial⟩ ⟨rfl, rfl, rfl, rfl, rfl, trivial⟩ rfl rfl, ⟨by simp only; omega, hRl, fun b hb => skip_next hR hcc b hb⟩, by simp only; omega⟩
      · have hO2 : OInv S.attrs.length (adjS S) (posQ q) (i + 1) R := hO.next hinj ha hpa (I := fun b => I.getD b false = true) (fun b hb => comp_pos hq hql hpa hrem hV (hI b)) (fun b hb => ⟨fun h => (hR b (by omega)).1 ⟨by omega, h.1, h.2⟩, fun h => (hR b (by omega)).2 (fun h2 => h ⟨h2.2.1, h2.2.2⟩)⟩)
        repeat refine AW.seq ?_
        refine AW.exit ?_
        repeat refine AW.seq ?_
        refine AW.region ?_
        iterate 2 refine A1 rfl ?_
        refine RL.step (d := some 62) rfl rfl (xj_indexAddrO a Tryz.underlying110 sz4 rfl rfl rfl hqa (by omega)) ?_
        refine RL.step (d := none) rfl rfl (xj_storeP sz4 rfl rfl rfl rfl (by simp; omega)) ?_
        repeat refine AW.seq ?_
        refine AW.region ?_
        iterate 2 refine A1 rfl ?_
        exact ⟨(i + 1, R, rem.set a true), St.le_mk ⟨rfl, rfl, rfl, rfl, rfl, rfl, rfl, trivial⟩ ⟨rfl, rfl, rfl, rfl, congrArg (fun c => some (Ob.cells 4 c)) (by simp [List.map_set]; rfl), trivial⟩ rfl rfl, ⟨by simp only; omega, hRl, by simp [hrl], fun c hc => rem_next hq hql ha hpa hrl hrem c hc, hO2⟩, by simp only; omega⟩
    · have hord : Q = ordL S q := (OInv.last (adjS_symm S) hp hinj (by omega) (by rw [show i = S.attrs.length by omega] at hO; exact hO)).unique (ordL_ord hV hq)
      repeat refine AW.seq ?_
      refine AW.exit ?_
      repeat refine AW.seq ?_
      refine AW.region ?_
      iterate 2 refine A1 rfl ?_
      repeat refine AW.seq ?_
      refine AW.ret ?_
      exact ⟨_, _, rfl, rfl, ⟨cellOk1 ⟨_, Tryz.underlying29, rfl⟩ sz29 rfl rfl rfl, trivial⟩, by show PV.agg [.sl none q.length (intsP Q)] = _; rw [← hord, ordP, pints, hQl]⟩
theorem dup_nodup {q : List Int} (h : dupB q q.length = false) : q.Nodup := by
  have key : ∀ n, dupB q n = false → ∀ k, k < n → ¬ q.getD k 0 ∈ q.take k := by
    intro n
    induction n with
    | zero => intro _ k hk; omega
    | succ n ih =>
      intro h k hk
      simp only [dupB, Bool.or_eq_false_iff, decide_eq_false_iff_not] at h
      by_cases e : k = n
      · subst e; exact h.2
      · exact ih h.1 k (by omega)
  unfold List.Nodup
  rw [List.pairwise_iff_getElem]
  intro i j hi hj hij e
  refine key _ h j hj ?_
  rw [getD_eq hj, ← e]
  exact mem_take_at hij hi
theorem ofE_perm {S : Sch} {q : List Int} (h : ofE S q = 0) : checkE S = 0 ∧ q.Perm (upZ S.attrs.length) := by
  unfold ofE at h
  split at h
  · rename_i h1; exact absurd h h1
  · rename_i h0
    have h0 : checkE S = 0 := Classical.byContradiction h0
    refine ⟨h0, ?_⟩
    split at h
    · cases h
    · rename_i h1
      have h1 : q.length = S.attrs.length := Classical.byContradiction h1
      split at h
      · cases h
      · rename_i h2
        split at h
        · cases h
        · rename_i h3
          have hnd := dup_nodup (q := q) (by simpa using h3)
          have hr : ∀ a ∈ q, a ∈ upZ S.attrs.length := by
            intro a ha
            have h2 : (q.any fun a => decide (a < 0) || decide (a ≥ (q.length : Int))) = false := by simpa using h2
            have := List.any_eq_false.1 h2 a ha
            simp at this
            obtain ⟨x, hx⟩ := Int.eq_ofNat_of_zero_le this.1
            exact upZ_mem.2 ⟨x, by omega, hx⟩
          -- as many different numbers as there are
          have hp : ((upZ S.attrs.length).filter fun a => decide (a ∈ q)).Perm q := nodup_perm (List.Pairwise.sublist List.filter_sublist (upZ_nodup _)) hnd fun a => by
            rw [List.mem_filter, decide_eq_true_iff]
            exact ⟨fun h => h.2, fun h => ⟨hr a h, h⟩⟩
          have hl : ((upZ S.attrs.length).filter fun a => decide (a ∈ q)).length = (upZ S.attrs.length).length := by rw [hp.length_eq, h1, upZ_len]
          rw [List.length_filter_eq_length_iff] at hl
          rw [List.filter_eq_self.2 hl] at hp
          exact hp.symm
theorem rOf_spec (S : Sch) (hS : SB S) (q : List Int) (hql : q.length ≤ 1000000) : FnP Tryz.prog 16 [schP S, pints q] (· = ofV S q) := by
  refine FnP.fg2 (FnP.ofC Tryz.func16 rfl Tryz.ntmps16 (by simp) fun m0 w0 F R0 => ?_)
  have hb := hS.a
  repeat refine AW.seq ?_
  refine AW.region ?_
  iterate 3 refine A1 rfl ?_
  repeat refine AW.seq ?_
  refine AW.region ?_
  refine A1 rfl ?_
  refine RL.step (d := some 13) rfl rfl (xj_call Tryz.call45 (rchk_spec S hS) rfl) ?_
  refine A1 rfl ?_
  repeat refine AW.seq ?_
  refine AW.region ?_
  iterate 2 refine A1 rfl ?_
  repeat refine AW.seq ?_
  refine AW.cond rfl (fun hc15 => ?_) (fun hc15 => ?_)
  · repeat refine AW.seq ?_
    refine AW.region ?_
    iterate 4 refine A1 rfl ?_
    repeat refine AW.seq ?_
    refine AW.ret ?_
    exact ⟨_, _, rfl, rfl, ⟨cellOk1 ⟨_, Tryz.underlying29, rfl⟩ sz29 rfl rfl rfl, trivial⟩, (ofV_bad (by unfold ofE; rw [if_pos (inT hc15)]) (inT hc15)).symm⟩
  · have h0 : checkE S = 0 := inF hc15
    have hV := valid_of h0
    refine AW.skip ?_
    repeat refine AW.seq ?_
    refine AW.region ?_
    iterate 4 refine A1 rfl ?_
    repeat refine AW.seq ?_
    refine AW.region ?_
    iterate 4 refine A1 rfl ?_
    repeat refine AW.seq ?_
    refine AW.cond rfl (fun hc24 => ?_) (fun hc24 => ?_)
    · have hne0 : ¬ q.length = S.attrs.length := by have := inT hc24; omega
      repeat refine AW.seq ?_
      refine AW.region ?_
      iterate 3 refine A1 rfl ?_
      repeat refine AW.seq ?_
      refine AW.ret ?_
      exact ⟨_, _, rfl, rfl, ⟨cellOk1 ⟨_, Tryz.underlying29, rfl⟩ sz29 rfl rfl rfl, trivial⟩, (ofV_bad (by unfold ofE; rw [if_neg (fun h => h h0), if_pos hne0]) (by decide)).symm⟩
    · have heq : q.length = S.attrs.length := by have := inF hc24; omega
      refine AW.skip ?_
      repeat refine AW.seq ?_
      refine AW.region ?_
      iterate 3 refine A1 rfl ?_
      repeat refine AW.seq ?_
      refine AW.block ?_
      repeat refine AW.seq ?_
      refine AW.loop (st := fun x_0 : Nat => mkS [(1, .pv (pints q)), (2, .ptr 0 0), (4, .ptr 1 0), (7, .pv (.int .i64 S.attrs.length)), (26, .pv (pints q)), (27, .pv (.int .i64 q.length)), (28, .pv (.int .i64 x_0))] [(0, .mix 27 [.pv (.sl none S.attrs.length (attrsC S.attrs)), .pv (.sl none S.rels.length (relsC S.rels)), .pv (.sl none S.feats.length (featsC S.feats)), .pv (.int .i64 S.label)]), (1, .mix 29 [.pv (.sl (some true) 0 [])])] 2)
        (I := fun x_0 => x_0 ≤ q.length ∧ ((q.take x_0).any fun a => decide (a < 0) || decide (a ≥ (S.attrs.length : Int))) = false) (μ := fun x_0 => q.length - x_0) (x0 := (0)) (St.le_mk ⟨rfl, rfl, rfl, rfl, rfl, rfl, rfl, trivial⟩ ⟨rfl, rfl, trivial⟩ rfl rfl) (⟨Nat.zero_le _, rfl⟩) ?_
      rintro k ⟨hk, hany⟩
      repeat refine AW.seq ?_
      refine AW.region ?_
      refine A1 rfl ?_
      repeat refine AW.seq ?_
      refine AW.condP rfl (fun hc29 => ?_) (fun hc29 => ?_)
      · have hlt : k < q.length := by omega
        have hva := pints_at hlt
        have hne := pints_ne hlt
        refine AW.skip ?_
        repeat refine AW.seq ?_
        refine AW.block ?_
        repeat refine AW.seq ?_
        refine AW.region ?_
        refine A1 rfl ?_
        first | refine A2 rfl (by assumption) ?_ | refine A1 rfl ?_
        refine A1 rfl ?_
        repeat refine AW.seq ?_
        refine AW.region ?_
        iterate 3 refine A1 rfl ?_
        apply RL.orB 4 34 38 [35, 36, 37] rfl (by first | exact MonoK.le | exact MonoK.aw | exact MonoK.back)
        · intro hb2
          iterate 4 refine A1 rfl ?_
          exact St.le_fg (fEq.upd (fEq.upd (fEq.upd (fEq.upd (fEq.upd (fEq.refl) rfl) rfl) rfl) rfl) rfl) rfl rfl rfl
        · intro hb2
          iterate 4 refine A1 rfl ?_
          exact St.le_fg (fEq.upd (fEq.upd (fEq.upd (fEq.upd (fEq.upd (fEq.refl) rfl) rfl) rfl) rfl) rfl) rfl rfl rfl
        repeat refine AW.seq ?_
        refine AW.cond rfl (fun hc38 => ?_) (fun hc38 => ?_)
        · repeat refine AW.seq ?_
          refine AW.region ?_
          iterate 3 refine A1 rfl ?_
          repeat refine AW.seq ?_
          refine AW.ret ?_
          exact ⟨_, _, rfl, rfl, ⟨cellOk1 ⟨_, Tryz.underlying29, rfl⟩ sz29 rfl rfl rfl, trivial⟩, (ofV_bad (by unfold ofE; rw [if_neg (fun h => h h0), if_neg (fun h => h heq), if_pos (by rw [heq]; exact any_at (p := fun a => decide (a < 0) || decide (a ≥ (S.attrs.length : Int))) hlt hc38)]) (by decide)).symm⟩
        · refine AW.skip ?_
          repeat refine AW.seq ?_
          refine AW.region ?_
          iterate 2 refine A1 rfl ?_
          exact ⟨(k + 1), St.le_mk ⟨rfl, rfl, rfl, rfl, rfl, rfl, rfl, trivial⟩ ⟨rfl, rfl, trivial⟩ rfl rfl, ⟨by omega, any_take hlt hany hc38⟩, by omega⟩
      · rw [List.take_of_length_le (by omega)] at hany
        repeat refine AW.seq ?_
        refine AW.exit ?_
        repeat refine AW.seq ?_
        refine AW.region ?_
        iterate 3 refine A1 rfl ?_
        repeat refine AW.seq ?_
        refine AW.block ?_
        repeat refine AW.seq ?_
        refine AW.loop (st := fun x_1 : Nat => mkS [(1, .pv (pints q)), (2, .ptr 0 0), (4, .ptr 1 0), (41, .pv (pints q)), (42, .pv (.int .i64 q.length)), (43, .pv (.int .i64 x_1))] [(0, .mix 27 [.pv (.sl none S.attrs.length (attrsC S.attrs)), .pv (.sl none S.rels.length (relsC S.rels)), .pv (.sl none S.feats.length (featsC S.feats)), .pv (.int .i64 S.label)]), (1, .mix 29 [.pv (.sl (some true) 0 [])])] 2)
          (I := fun x_1 => x_1 ≤ q.length ∧ dupB q x_1 = false) (μ := fun x_1 => q.length - x_1) (x0 := (0)) (St.le_mk ⟨rfl, rfl, rfl, rfl, rfl, rfl, trivial⟩ ⟨rfl, rfl, trivial⟩ rfl rfl) (⟨Nat.zero_le _, rfl⟩) ?_
        rintro j ⟨hj, hdup⟩
        repeat refine AW.seq ?_
        refine AW.region ?_
        refine A1 rfl ?_
        repeat refine AW.seq ?_
        refine AW.condP rfl (fun hc44 => ?_) (fun hc44 => ?_)
        · have hlt : j < q.length := by omega
          have hva := pints_at hlt
          have hne := pints_ne hlt
          have hgd := getD_eq hlt (0 : Int)
          have htk : PV.sl none j ((intsP q).take (j * 1)) = pints (q.take j) := by simp [pints, List.map_take]; omega
          refine AW.skip ?_
          repeat refine AW.seq ?_
          refine AW.block ?_
          repeat refine AW.seq ?_
          refine AW.region ?_
          iterate 2 refine A1 rfl ?_
          first | refine A2 rfl (by assumption) ?_ | refine A1 rfl ?_
          iterate 2 refine A1 rfl ?_
          repeat refine AW.seq ?_
          refine AW.region ?_
          iterate 2 refine A1 rfl ?_
          refine RL.step (d := some 50) rfl rfl (XJ.cast (v' := .pv (pints (q.take j))) (xj_sliceTo j Tryz.underlying22 sz3 rfl rfl rfl (by omega) (by simp)) (by rw [← htk])) ?_
          refine A1 rfl ?_
          refine RL.step (d := some 52) rfl rfl (xj_call Tryz.call50 (in_spec (q.take j) q[j] (by simp; omega)) rfl) ?_
          repeat refine AW.seq ?_
          refine AW.cond rfl (fun hc52 => ?_) (fun hc52 => ?_)
          · repeat refine AW.seq ?_
            refine AW.region ?_
            iterate 3 refine A1 rfl ?_
            repeat refine AW.seq ?_
            refine AW.ret ?_
            exact ⟨_, _, rfl, rfl, ⟨cellOk1 ⟨_, Tryz.underlying29, rfl⟩ sz29 rfl rfl rfl, trivial⟩, (ofV_bad (by unfold ofE; rw [if_neg (fun h => h h0), if_neg (fun h => h heq), if_neg (by rw [heq, hany]; decide), if_pos (dup_at hlt (by rw [hgd]; exact hc52))]) (by decide)).symm⟩
          · refine AW.skip ?_
            repeat refine AW.seq ?_
            refine AW.region ?_
            iterate 2 refine A1 rfl ?_
            exact ⟨(j + 1), St.le_mk ⟨rfl, rfl, rfl, rfl, rfl, rfl, trivial⟩ ⟨rfl, rfl, trivial⟩ rfl rfl, ⟨by omega, by simp only [dupB, hdup, hgd, hc52]; rfl⟩, by omega⟩
        · have he : ofE S q = 0 := by unfold ofE; rw [if_neg (fun h => h h0), if_neg (fun h => h heq), if_neg (by rw [heq, hany]; decide), if_neg (by rw [show q.length = j by omega, hdup]; decide)]
          repeat refine AW.seq ?_
          refine AW.exit ?_
          repeat refine AW.seq ?_
          refine AW.region ?_
          iterate 2 refine A1 rfl ?_
          refine RL.step (d := some 57) rfl rfl (xj_call Tryz.call48 (rof_spec S hS hV q (ofE_perm he).2) rfl) ?_
          iterate 2 refine A1 rfl ?_
          repeat refine AW.seq ?_
          refine AW.ret ?_
          exact ⟨_, _, rfl, rfl, ⟨cellOk1 ⟨_, Tryz.underlying29, rfl⟩ sz29 rfl rfl rfl, trivial⟩, by unfold ofV; rw [he, if_pos rfl]; rfl⟩
end Go.Proofs.YtkalgjnhaicabaaGreat
namespace Go.Proofs.YtkalgjnhaicabaaGreat
open Go.RowKit Mk
set_option maxRecDepth 100000
set_option maxHeartbeats 4000000
theorem upF_le {P : List Int} {k k' : Nat} {x : Int} {l : List Int} (h : upF P k x = some l) (hk : k ≤ k') : upF P k' x = some l := by
  induction hk with
  | refl => exact h
  | step _ ih => exact upF_mono ih
theorem upF_cons {P : List Int} {k : Nat} {x : Int} {l : List Int} (h : upF P k x = some l) (hx : ¬ x < 0) : ∃ k' l', k = k' + 1 ∧ l = x :: l' ∧ upF P k' (P.getD x.toNat 0) = some l' := by
  cases k with
  | zero => simp [upF, hx] at h
  | succ k =>
    simp only [upF, if_neg hx, Option.map_eq_some_iff] at h
    obtain ⟨l', h1, h2⟩ := h
    exact ⟨k, l', rfl, h2.symm, h1⟩
theorem upF_drop {P : List Int} : ∀ {k : Nat} {x : Int} {l : List Int}, upF P k x = some l → ∀ i (hi : i < l.length), ∃ k', upF P k' l[i] = some (l.drop i)
  | k, x, l, h, i, hi => by
    by_cases hx : x < 0
    · rw [upF_neg hx] at h; cases h; simp at hi
    · obtain ⟨k', l', rfl, rfl, h2⟩ := upF_cons h hx
      cases i with
      | zero => exact ⟨k' + 1, h⟩
      | succ i => exact upF_drop h2 i (by simpa using hi)
theorem upF_uniq {P : List Int} {k k' : Nat} {x : Int} {l l' : List Int} (h : upF P k x = some l) (h' : upF P k' x = some l') : l = l' := by
  have h1 := upF_le h (Nat.le_max_left k k')
  have h2 := upF_le h' (Nat.le_max_right k k')
  rw [h1] at h2; exact Option.some.inj h2
theorem upF_nodup {P : List Int} {k : Nat} {x : Int} {l : List Int} (h : upF P k x = some l) : l.Nodup := by
  rw [List.Nodup, List.pairwise_iff_getElem]
  intro i j hi hj hij e
  obtain ⟨k1, h1⟩ := upF_drop h i hi
  obtain ⟨k2, h2⟩ := upF_drop h j hj
  rw [e] at h1
  have := congrArg List.length (upF_uniq h1 h2)
  simp at this; omega
theorem upF_mem {P : List Int} (hP : ∀ p ∈ P, p < P.length) : ∀ {k : Nat} {x : Int} {l : List Int}, upF P k x = some l → x < P.length → ∀ y ∈ l, 0 ≤ y ∧ y < P.length
  | k, x, l, h, hx, y, hy => by
    by_cases h0 : x < 0
    · rw [upF_neg h0] at h; cases h; simp at hy
    · obtain ⟨k', l', rfl, rfl, h2⟩ := upF_cons h h0
      rcases List.mem_cons.1 hy with rfl | hy2
      · exact ⟨by omega, hx⟩
      · obtain ⟨a, rfl⟩ := Int.eq_ofNat_of_zero_le (show 0 ≤ x by omega)
        have ha : a < P.length := by omega
        refine upF_mem hP h2 ?_ y hy2
        simp [List.getD, ha]
        exact hP _ (List.getElem_mem ha)
theorem upF_short {P : List Int} (hP : ∀ p ∈ P, p < P.length) {k : Nat} {x : Int} {l : List Int} (h : upF P k x = some l) (hx : x < P.length) : l.length ≤ P.length := by
  have hm := upF_mem hP h hx
  have hp : ((upZ P.length).filter fun a => decide (a ∈ l)).Perm l := nodup_perm (List.Pairwise.sublist List.filter_sublist (upZ_nodup _)) (upF_nodup h) fun a => by
    rw [List.mem_filter, decide_eq_true_iff]
    refine ⟨fun h => h.2, fun h => ⟨?_, h⟩⟩
    obtain ⟨x, hx⟩ := Int.eq_ofNat_of_zero_le (hm a h).1
    exact upZ_mem.2 ⟨x, by have := (hm a h).2; omega, hx⟩
  rw [← hp.length_eq]
  exact Nat.le_trans (List.length_filter_le _ _) (by rw [upZ_len]; exact Nat.le_refl _)
theorem upF_fuel {P : List Int} : ∀ {k : Nat} {x : Int} {l : List Int}, upF P k x = some l → upF P l.length x = some l
  | k, x, l, h => by
    by_cases h0 : x < 0
    · rw [upF_neg h0] at h; cases h; exact upF_neg h0
    · obtain ⟨k', l', rfl, rfl, h2⟩ := upF_cons h h0
      have := upF_fuel h2
      simp only [List.length_cons, upF, if_neg h0, this, Option.map_some]
theorem ranc_spec (P : List Int) (v : Nat) (hv : v < P.length) (hP : ∀ p ∈ P, p < P.length) (hn : P.length ≤ 1000000) : FnP Tryz.prog 56 [ordP P, .int .i64 v] (· = .tup [pints (abvL P v), .bool (abv P v).isSome]) := by
  refine FnP.of Tryz.func56 rfl Tryz.ntmps56 (by simp) fun m0 w0 F R0 => ?_
  have hv0 := pints_at hv
  have hne := pints_ne hv
  have hab := abv_eq hv
  have hpv := hP _ (List.getElem_mem hv)
  repeat refine AW.seq ?_
  refine AW.region ?_
  iterate 3 refine A1 rfl ?_
  repeat refine AW.seq ?_
  refine AW.region ?_
  refine A1 rfl ?_
  refine AW.weaken (St.le_gro 6 1 1 3 rfl rfl) ?_
  repeat refine AW.seq ?_
  refine AW.region ?_
  iterate 4 refine A1 rfl ?_
  first | refine A2 rfl (by assumption) ?_ | refine A1 rfl ?_
  refine A1 rfl ?_
  repeat refine AW.seq ?_
  refine AW.block ?_
  repeat refine AW.seq ?_
  refine AW.loop (st := fun x_0 : List Int × Int => mkS [(2, .ptr 0 0), (6, .gsl 1 1 x_0.1.length), (7, .pv (.int .i64 x_0.2))] [(0, .mix 29 [.pv (pints P)]), (1, .gro 3 (intsP x_0.1))] 2)
    (I := fun x_0 => x_0.1.length ≤ P.length + 1 ∧ x_0.2 < P.length ∧ upF P (P.length + 1) P[v] = (upF P (P.length + 1 - x_0.1.length) x_0.2).map (x_0.1 ++ ·)) (μ := fun x_0 => P.length + 1 - x_0.1.length) (x0 := ([], P[v])) (St.le_mk ⟨rfl, rfl, rfl, trivial⟩ ⟨rfl, rfl, trivial⟩ rfl rfl) (⟨Nat.zero_le _, hpv, by simp⟩) ?_
  rintro ⟨L, x⟩ ⟨hl, hx, hu⟩
  try simp only at hl hx hu ⊢
  repeat refine AW.seq ?_
  refine AW.region ?_
  iterate 2 refine A1 rfl ?_
  repeat refine AW.seq ?_
  refine AW.condP rfl (fun hc14 => ?_) (fun hc14 => ?_)
  · obtain ⟨a, rfl⟩ := Int.eq_ofNat_of_zero_le hc14
    have ha : a < P.length := by omega
    have hva := pints_at ha
    have hsl : (intsP L).length = L.length * 1 := by simp
    refine AW.skip ?_
    repeat refine AW.seq ?_
    refine AW.block ?_
    repeat refine AW.seq ?_
    refine AW.region ?_
    iterate 6 refine A1 rfl ?_
    repeat refine AW.seq ?_
    refine AW.condP rfl (fun hc25 => ?_) (fun hc25 => ?_)
    · have hle : L.length = P.length + 1 := by omega
      have hno : abv P v = none := by
        rw [hle, Nat.sub_self, upF_zero (by omega)] at hu
        rw [hab]
        cases e : upF P P.length P[v] with
        | none => rfl
        | some l => rw [upF_mono e] at hu; cases hu
      refine AW.weaken (St.le_fgS []) ?_
      repeat refine AW.seq ?_
      refine AW.region ?_
      iterate 2 refine A1 rfl ?_
      refine AW.weaken (St.le_fgS [4]) ?_
      repeat refine AW.seq ?_
      refine AW.ret ?_
      exact ⟨_, _, rfl, rfl, by unfold abvL; rw [hno]; rfl⟩
    · have hlt : L.length < P.length + 1 := by omega
      refine AW.skip ?_
      repeat refine AW.seq ?_
      refine AW.region ?_
      iterate 5 refine A1 rfl ?_
      repeat refine AW.seq ?_
      refine AW.region ?_
      iterate 4 refine A1 rfl ?_
      first | refine A2 rfl (by assumption) ?_ | refine A1 rfl ?_
      refine A1 rfl ?_
      exact ⟨(L ++ [(a : Int)], P[a]), St.le_mkR [0, 3] ⟨rfl, by simp; rfl, rfl, trivial⟩ ⟨rfl, congrArg (fun c => some (Ob.gro 3 c)) (ints_snoc L a).symm, trivial⟩ rfl rfl (by decide) rfl, ⟨by simp; omega, hP _ (List.getElem_mem ha), by rw [hu, show P.length + 1 - L.length = P.length + 1 - (L ++ [(a : Int)]).length + 1 by simp; omega, upF_nat ha, Option.map_map]; congr 1; funext l; simp⟩, by simp; omega⟩
  · have hso : abv P v = some L := by rw [upF_neg (show x < 0 by omega)] at hu; simp at hu; rw [hab]; exact upF_le (upF_fuel hu) (upF_short hP hu hpv)
    repeat refine AW.seq ?_
    refine AW.exit ?_
    refine AW.weaken (St.le_pubA 1 rfl rfl) ?_
    repeat refine AW.seq ?_
    refine AW.region ?_
    iterate 3 refine A1 rfl ?_
    repeat refine AW.seq ?_
    refine AW.ret ?_
    exact ⟨_, _, rfl, rfl, by unfold abvL; rw [hso]; simp [tk_all]; rfl⟩
theorem ref_not (a b : Int) (p q : Bool) : ((a != b && !p) && !q) = !(a == b || q || p) := by
  rw [bne]; cases (a == b) <;> cases p <;> cases q <;> rfl
theorem rochk_spec (S : Sch) (hS : SB S) (P : List Int) (hn : P.length ≤ 1000000) : FnP Tryz.prog 23 [schP S, ordP P] (· = .int .i64 (ordE S P)) := by
  refine FnP.of Tryz.func23 rfl Tryz.ntmps23 (by simp) fun m0 w0 F R0 => ?_
  have hb := hS.a
  repeat refine AW.seq ?_
  refine AW.region ?_
  iterate 3 refine A1 rfl ?_
  repeat refine AW.seq ?_
  refine AW.region ?_
  refine A1 rfl ?_
  refine RL.step (d := some 23) rfl rfl (xj_call Tryz.call45 (rchk_spec S hS) rfl) ?_
  refine A1 rfl ?_
  repeat refine AW.seq ?_
  refine AW.region ?_
  iterate 2 refine A1 rfl ?_
  repeat refine AW.seq ?_
  refine AW.cond rfl (fun hc25 => ?_) (fun hc25 => ?_)
  · repeat refine AW.seq ?_
    refine AW.region ?_
    iterate 2 refine A1 rfl ?_
    repeat refine AW.seq ?_
    refine AW.ret ?_
    exact ⟨_, _, rfl, rfl, congrArg (PV.int .i64) (by unfold ordE; rw [if_pos (inT hc25)])⟩
  · have h0 : checkE S = 0 := inF hc25
    have hV := valid_of h0
    have hra := hV.rng
    have hr6 := hV.r2
    refine AW.skip ?_
    repeat refine AW.seq ?_
    refine AW.region ?_
    iterate 4 refine A1 rfl ?_
    repeat refine AW.seq ?_
    refine AW.region ?_
    iterate 5 refine A1 rfl ?_
    repeat refine AW.seq ?_
    refine AW.cond rfl (fun hc34 => ?_) (fun hc34 => ?_)
    · have hne0 : ¬ P.length = S.attrs.length := by have := inT hc34; omega
      repeat refine AW.seq ?_
      refine AW.region ?_
      refine A1 rfl ?_
      repeat refine AW.seq ?_
      refine AW.ret ?_
      exact ⟨_, _, rfl, rfl, congrArg (PV.int .i64) (by unfold ordE; rw [if_neg (fun h => h h0), if_pos hne0])⟩
    · have heq : P.length = S.attrs.length := by have := inF hc34; omega
      refine AW.skip ?_
      repeat refine AW.seq ?_
      refine AW.region ?_
      iterate 4 refine A1 rfl ?_
      repeat refine AW.seq ?_
      refine AW.block ?_
      repeat refine AW.seq ?_
      refine AW.loop (st := fun x_0 : Nat => mkS [(2, .ptr 0 0), (3, .ptr 1 0), (6, .pv (.int .i64 S.attrs.length)), (36, .pv (pints P)), (37, .pv (.int .i64 P.length)), (38, .pv (.int .i64 x_0))] [(0, .mix 27 [.pv (.sl none S.attrs.length (attrsC S.attrs)), .pv (.sl none S.rels.length (relsC S.rels)), .pv (.sl none S.feats.length (featsC S.feats)), .pv (.int .i64 S.label)]), (1, .mix 29 [.pv (pints P)])] 2)
        (I := fun x_0 => x_0 ≤ P.length ∧ ((P.take x_0).any fun p => decide (p < -1) || decide ((P.length : Int) ≤ p)) = false) (μ := fun x_0 => P.length - x_0) (x0 := (0)) (St.le_mk ⟨rfl, rfl, rfl, rfl, rfl, rfl, trivial⟩ ⟨rfl, rfl, trivial⟩ rfl rfl) (⟨Nat.zero_le _, rfl⟩) ?_
      rintro k ⟨hk, hany⟩
      repeat refine AW.seq ?_
      refine AW.region ?_
      refine A1 rfl ?_
      repeat refine AW.seq ?_
      refine AW.condP rfl (fun hc39 => ?_) (fun hc39 => ?_)
      · have hlt : k < P.length := by omega
        have hva := pints_at hlt
        have hne := pints_ne hlt
        refine AW.skip ?_
        repeat refine AW.seq ?_
        refine AW.block ?_
        repeat refine AW.seq ?_
        refine AW.region ?_
        refine A1 rfl ?_
        first | refine A2 rfl (by assumption) ?_ | refine A1 rfl ?_
        refine A1 rfl ?_
        repeat refine AW.seq ?_
        refine AW.region ?_
        iterate 3 refine A1 rfl ?_
        apply RL.orB 4 44 48 [45, 46, 47] rfl (by first | exact MonoK.le | exact MonoK.aw | exact MonoK.back)
        · intro hb2
          iterate 4 refine A1 rfl ?_
          exact St.le_fg (fEq.upd (fEq.upd (fEq.upd (fEq.upd (fEq.upd (fEq.refl) rfl) rfl) rfl) rfl) rfl) rfl rfl rfl
        · intro hb2
          iterate 4 refine A1 rfl ?_
          exact St.le_fg (fEq.upd (fEq.upd (fEq.upd (fEq.upd (fEq.upd (fEq.refl) rfl) rfl) rfl) rfl) rfl) rfl rfl rfl
        repeat refine AW.seq ?_
        refine AW.cond rfl (fun hc48 => ?_) (fun hc48 => ?_)
        · rw [← heq] at hc48
          repeat refine AW.seq ?_
          refine AW.region ?_
          refine A1 rfl ?_
          repeat refine AW.seq ?_
          refine AW.ret ?_
          exact ⟨_, _, rfl, rfl, congrArg (PV.int .i64) (by unfold ordE; rw [if_neg (fun h => h h0), if_neg (fun h => h heq), if_pos (any_at hlt hc48)])⟩
        · rw [← heq] at hc48
          refine AW.skip ?_
          repeat refine AW.seq ?_
          refine AW.region ?_
          iterate 2 refine A1 rfl ?_
          exact ⟨(k + 1), St.le_mk ⟨rfl, rfl, rfl, rfl, rfl, rfl, trivial⟩ ⟨rfl, rfl, trivial⟩ rfl rfl, ⟨by omega, any_take hlt hany hc48⟩, by omega⟩
      · rw [List.take_of_length_le (by omega)] at hany
        have hP : ∀ p ∈ P, p < P.length := fun p hp => by have := List.any_eq_false.1 hany p hp; simp at this; omega
        repeat refine AW.seq ?_
        refine AW.exit ?_
        repeat refine AW.seq ?_
        refine AW.region ?_
        iterate 4 refine A1 rfl ?_
        repeat refine AW.seq ?_
        refine AW.block ?_
        repeat refine AW.seq ?_
        refine AW.loop (st := fun x_1 : Nat => mkS [(2, .ptr 0 0), (3, .ptr 1 0), (52, .pv (.int .i64 P.length)), (53, .pv (.int .i64 x_1))] [(0, .mix 27 [.pv (.sl none S.attrs.length (attrsC S.attrs)), .pv (.sl none S.rels.length (relsC S.rels)), .pv (.sl none S.feats.length (featsC S.feats)), .pv (.int .i64 S.label)]), (1, .mix 29 [.pv (pints P)])] 2)
          (I := fun x_1 => x_1 ≤ P.length ∧ ((List.range x_1).all fun v => (abv P v).isSome) = true) (μ := fun x_1 => P.length - x_1) (x0 := (0)) (St.le_mk ⟨rfl, rfl, rfl, rfl, trivial⟩ ⟨rfl, rfl, trivial⟩ rfl rfl) (⟨Nat.zero_le _, rfl⟩) ?_
        rintro q ⟨hq, hall⟩
        repeat refine AW.seq ?_
        refine AW.region ?_
        refine A1 rfl ?_
        repeat refine AW.seq ?_
        refine AW.condP rfl (fun hc54 => ?_) (fun hc54 => ?_)
        · have hlt : q < P.length := by omega
          refine AW.skip ?_
          repeat refine AW.seq ?_
          refine AW.block ?_
          repeat refine AW.seq ?_
          refine AW.region ?_
          iterate 2 refine A1 rfl ?_
          repeat refine AW.seq ?_
          refine AW.region ?_
          iterate 2 refine A1 rfl ?_
          refine RL.step (d := some 59) rfl rfl (xj_call Tryz.call56 (ranc_spec P q hlt hP hn) rfl) ?_
          iterate 5 refine A1 rfl ?_
          repeat refine AW.seq ?_
          refine AW.region ?_
          iterate 2 refine A1 rfl ?_
          repeat refine AW.seq ?_
          refine AW.cond rfl (fun hc63 => ?_) (fun hc63 => ?_)
          · have hno : ((List.range P.length).all fun v => (abv P v).isSome) = false := List.all_eq_false.2 ⟨q, List.mem_range.2 hlt, by simpa using hc63⟩
            repeat refine AW.seq ?_
            refine AW.region ?_
            refine A1 rfl ?_
            repeat refine AW.seq ?_
            refine AW.ret ?_
            exact ⟨_, _, rfl, rfl, congrArg (PV.int .i64) (by unfold ordE; rw [if_neg (fun h => h h0), if_neg (fun h => h heq), if_neg (by rw [hany]; decide), if_pos hno])⟩
          · refine AW.skip ?_
            repeat refine AW.seq ?_
            refine AW.region ?_
            iterate 2 refine A1 rfl ?_
            exact ⟨(q + 1), St.le_mk ⟨rfl, rfl, rfl, rfl, trivial⟩ ⟨rfl, rfl, trivial⟩ rfl rfl, ⟨by omega, by rw [List.range_succ, List.all_append, hall]; simpa using hc63⟩, by omega⟩
        · obtain rfl : q = P.length := by omega
          repeat refine AW.seq ?_
          refine AW.exit ?_
          repeat refine AW.seq ?_
          refine AW.region ?_
          iterate 4 refine A1 rfl ?_
          repeat refine AW.seq ?_
          refine AW.block ?_
          repeat refine AW.seq ?_
          refine AW.loop (st := fun x_2 : Nat => mkS [(3, .ptr 1 0), (66, .pv (.sl none S.rels.length (relsC S.rels))), (67, .pv (.int .i64 S.rels.length)), (68, .pv (.int .i64 x_2))] [(1, .mix 29 [.pv (pints P)])] 2)
            (I := fun x_2 => x_2 ≤ S.rels.length ∧ ((S.rels.take x_2).all fun r => rightB P r.2) = true) (μ := fun x_2 => S.rels.length - x_2) (x0 := (0)) (St.le_mk ⟨rfl, rfl, rfl, rfl, trivial⟩ ⟨rfl, trivial⟩ rfl rfl) (⟨Nat.zero_le _, rfl⟩) ?_
          rintro k ⟨hk, hrall⟩
          repeat refine AW.seq ?_
          refine AW.region ?_
          refine A1 rfl ?_
          repeat refine AW.seq ?_
          refine AW.condP rfl (fun hc69 => ?_) (fun hc69 => ?_)
          · have hlt : k < S.rels.length := by omega
            have hrow := rel_row hlt
            have hne := rel_ne hlt
            have hrm := List.getElem_mem hlt
            have hrr := hra _ hrm
            have hrl := hS.rl _ hrm
            have hno : rightB P S.rels[k].2 = false → (S.rels.all fun r => rightB P r.2) = false := fun h => all_not hlt h
            refine AW.skip ?_
            repeat refine AW.seq ?_
            refine AW.block ?_
            repeat refine AW.seq ?_
            refine AW.region ?_
            refine A1 rfl ?_
            first | refine A3 rfl (by assumption) ?_ | refine A1 rfl ?_
            iterate 2 refine A1 rfl ?_
            repeat refine AW.seq ?_
            refine AW.region ?_
            iterate 4 refine A1 rfl ?_
            repeat refine AW.seq ?_
            refine AW.block ?_
            repeat refine AW.seq ?_
            refine AW.loop (st := fun x_3 : Nat => mkS [(3, .ptr 1 0), (13, .ptr 2 0), (66, .pv (.sl none S.rels.length (relsC S.rels))), (67, .pv (.int .i64 S.rels.length)), (68, .pv (.int .i64 k)), (73, .pv (pints S.rels[k].2)), (74, .pv (.int .i64 S.rels[k].2.length)), (75, .pv (.int .i64 x_3))] [(1, .mix 29 [.pv (pints P)]), (2, .mix 62 [.pv (.str S.rels[k].1), .pv (pints S.rels[k].2)])] 3)
              (I := fun x_3 => x_3 ≤ S.rels[k].2.length ∧ ((S.rels[k].2.take x_3).all fun a => S.rels[k].2.all fun b => a == b || hiB P a b || hiB P b a) = true) (μ := fun x_3 => S.rels[k].2.length - x_3) (x0 := (0)) (St.le_mk ⟨rfl, rfl, rfl, rfl, rfl, rfl, rfl, rfl, trivial⟩ ⟨rfl, rfl, trivial⟩ rfl rfl) (⟨Nat.zero_le _, rfl⟩) ?_
            rintro i ⟨hi, hia⟩
            repeat refine AW.seq ?_
            refine AW.region ?_
            refine A1 rfl ?_
            repeat refine AW.seq ?_
            refine AW.condP rfl (fun hc76 => ?_) (fun hc76 => ?_)
            · have hil : i < S.rels[k].2.length := by omega
              have hvi := pints_at hil
              have hnei := pints_ne hil
              have hri := hrr _ (List.getElem_mem hil)
              obtain ⟨a, hae⟩ := Int.eq_ofNat_of_zero_le hri.1
              rw [hae] at hvi
              have hal : a < P.length := by omega
              have hla := abvL_len P a
              refine AW.skip ?_
              repeat refine AW.seq ?_
              refine AW.block ?_
              repeat refine AW.seq ?_
              refine AW.region ?_
              refine A1 rfl ?_
              first | refine A2 rfl (by assumption) ?_ | refine A1 rfl ?_
              refine A1 rfl ?_
              repeat refine AW.seq ?_
              refine AW.region ?_
              iterate 4 refine A1 rfl ?_
              repeat refine AW.seq ?_
              refine AW.block ?_
              repeat refine AW.seq ?_
              refine AW.loop (st := fun x_4 : Nat => mkS [(3, .ptr 1 0), (13, .ptr 2 0), (15, .pv (.int .i64 a)), (66, .pv (.sl none S.rels.length (relsC S.rels))), (67, .pv (.int .i64 S.rels.length)), (68, .pv (.int .i64 k)), (73, .pv (pints S.rels[k].2)), (74, .pv (.int .i64 S.rels[k].2.length)), (75, .pv (.int .i64 i)), (80, .pv (pints S.rels[k].2)), (81, .pv (.int .i64 S.rels[k].2.length)), (82, .pv (.int .i64 x_4))] [(1, .mix 29 [.pv (pints P)]), (2, .mix 62 [.pv (.str S.rels[k].1), .pv (pints S.rels[k].2)])] 3)
                (I := fun x_4 => x_4 ≤ S.rels[k].2.length ∧ ((S.rels[k].2.take x_4).all fun b => (a : Int) == b || hiB P a b || hiB P b a) = true) (μ := fun x_4 => S.rels[k].2.length - x_4) (x0 := (0)) (St.le_mk ⟨rfl, rfl, rfl, rfl, rfl, rfl, rfl, rfl, rfl, rfl, rfl, rfl, trivial⟩ ⟨rfl, rfl, trivial⟩ rfl rfl) (⟨Nat.zero_le _, rfl⟩) ?_
              rintro j ⟨hj, hja⟩
              repeat refine AW.seq ?_
              refine AW.region ?_
              refine A1 rfl ?_
              repeat refine AW.seq ?_
              refine AW.condP rfl (fun hc83 => ?_) (fun hc83 => ?_)
              · have hjl : j < S.rels[k].2.length := by omega
                have hvj := pints_at hjl
                have hrj := hrr _ (List.getElem_mem hjl)
                obtain ⟨b, hbe⟩ := Int.eq_ofNat_of_zero_le hrj.1
                rw [hbe] at hvj
                have hbl : b < P.length := by omega
                have hlb := abvL_len P b
                refine AW.skip ?_
                repeat refine AW.seq ?_
                refine AW.block ?_
                repeat refine AW.seq ?_
                refine AW.region ?_
                refine A1 rfl ?_
                first | refine A2 rfl (by assumption) ?_ | refine A1 rfl ?_
                refine A1 rfl ?_
                repeat refine AW.seq ?_
                refine AW.region ?_
                iterate 2 refine A1 rfl ?_
                refine RL.step (d := some 89) rfl rfl (xj_call Tryz.call56 (ranc_spec P a hal hP hn) rfl) ?_
                iterate 5 refine A1 rfl ?_
                repeat refine AW.seq ?_
                refine AW.region ?_
                iterate 2 refine A1 rfl ?_
                refine RL.step (d := some 95) rfl rfl (xj_call Tryz.call56 (ranc_spec P b hbl hP hn) rfl) ?_
                iterate 5 refine A1 rfl ?_
                repeat refine AW.seq ?_
                refine AW.region ?_
                iterate 4 refine A1 rfl ?_
                apply RL.andB 5 101 106 [102, 103, 104, 105] rfl (by first | exact MonoK.le | exact MonoK.aw | exact MonoK.back)
                · intro hb3
                  iterate 2 refine A1 rfl ?_
                  refine RL.stepG (d := some 104) rfl rfl rfl (xj_call Tryz.call50 (in_spec (abvL P a) b (by omega)) rfl) ?_
                  iterate 2 refine A1 rfl ?_
                  exact St.le_fg (fEq.upd (fEq.upd (fEq.upd (fEq.upd (fEq.upd (fEq.upd (fEq.refl) rfl) rfl) rfl) rfl) rfl) rfl) rfl rfl rfl
                · intro hb3
                  iterate 5 refine A1 rfl ?_
                  exact St.le_fg (fEq.upd (fEq.upd (fEq.upd (fEq.upd (fEq.upd (fEq.upd (fEq.refl) rfl) rfl) rfl) rfl) rfl) rfl) rfl rfl rfl
                refine A1 rfl ?_
                apply RL.andB 5 107 112 [108, 109, 110, 111] rfl (by first | exact MonoK.le | exact MonoK.aw | exact MonoK.back)
                · intro hb9
                  iterate 2 refine A1 rfl ?_
                  refine RL.stepG (d := some 110) rfl rfl rfl (xj_call Tryz.call50 (in_spec (abvL P b) a (by omega)) rfl) ?_
                  iterate 2 refine A1 rfl ?_
                  exact St.le_fg (fEq.upd (fEq.upd (fEq.upd (fEq.upd (fEq.upd (fEq.upd (fEq.refl) rfl) rfl) rfl) rfl) rfl) rfl) rfl rfl rfl
                · intro hb9
                  iterate 5 refine A1 rfl ?_
                  exact St.le_fg (fEq.upd (fEq.upd (fEq.upd (fEq.upd (fEq.upd (fEq.upd (fEq.refl) rfl) rfl) rfl) rfl) rfl) rfl) rfl rfl rfl
                repeat refine AW.seq ?_
                refine AW.cond rfl (fun hc112 => ?_) (fun hc112 => ?_)
                · rw [ref_not, Bool.not_eq_true'] at hc112
                  have hbad : rightB P S.rels[k].2 = false := by unfold rightB; rw [all_not hil (all_not hjl (by rw [hae, hbe]; exact hc112))]
                  repeat refine AW.seq ?_
                  refine AW.region ?_
                  refine A1 rfl ?_
                  repeat refine AW.seq ?_
                  refine AW.ret ?_
                  exact ⟨_, _, rfl, rfl, congrArg (PV.int .i64) (by unfold ordE; rw [if_neg (fun h => h h0), if_neg (fun h => h heq), if_neg (by rw [hany]; decide), if_neg (by rw [hall]; decide), if_pos (hno hbad)])⟩
                · rw [ref_not, Bool.not_eq_false'] at hc112
                  refine AW.skip ?_
                  repeat refine AW.seq ?_
                  refine AW.region ?_
                  iterate 2 refine A1 rfl ?_
                  exact ⟨(j + 1), St.le_mk ⟨rfl, rfl, rfl, rfl, rfl, rfl, rfl, rfl, rfl, rfl, rfl, rfl, trivial⟩ ⟨rfl, rfl, trivial⟩ rfl rfl, ⟨by omega, all_take hjl hja (by rw [hbe]; exact hc112)⟩, by omega⟩
              · rw [List.take_of_length_le (by omega)] at hja
                repeat refine AW.seq ?_
                refine AW.exit ?_
                repeat refine AW.seq ?_
                refine AW.region ?_
                iterate 2 refine A1 rfl ?_
                exact ⟨(i + 1), St.le_mk ⟨rfl, rfl, rfl, rfl, rfl, rfl, rfl, rfl, trivial⟩ ⟨rfl, rfl, trivial⟩ rfl rfl, ⟨by omega, all_take hil hia (by rw [hae]; exact hja)⟩, by omega⟩
            · rw [List.take_of_length_le (by omega)] at hia
              repeat refine AW.seq ?_
              refine AW.exit ?_
              repeat refine AW.seq ?_
              refine AW.region ?_
              iterate 2 refine A1 rfl ?_
              exact ⟨(k + 1), St.le_mk ⟨rfl, rfl, rfl, rfl, trivial⟩ ⟨rfl, trivial⟩ rfl rfl, ⟨by omega, all_take hlt hrall hia⟩, by omega⟩
          · rw [List.take_of_length_le (by omega)] at hrall
            repeat refine AW.seq ?_
            refine AW.exit ?_
            repeat refine AW.seq ?_
            refine AW.region ?_
            refine A1 rfl ?_
            repeat refine AW.seq ?_
            refine AW.ret ?_
            exact ⟨_, _, rfl, rfl, congrArg (PV.int .i64) (by unfold ordE; rw [if_neg (fun h => h h0), if_neg (fun h => h heq), if_neg (by rw [hany]; decide), if_neg (by rw [hall]; decide), if_neg (by rw [hrall]; decide)])⟩
end Go.Proofs.YtkalgjnhaicabaaGreat
