/-
  Texts of ours, joined: M5, M6, W2, LL, LE, Ops, OpA, OpB. No statement of the program is proved here.
-/
import Derived.Deep.Slices
import Derived.ChangeArms
import Derived.OpenShut
import Derived.Test.YtkalgjnhaicabaaGreatGe5
namespace Go.Proofs.YtkalgjnhaicabaaGreat
open Go.RowKit Mk
set_option maxRecDepth 100000
set_option maxHeartbeats 4000000
theorem shuffle0_spec (L : List Int) (k : Nat) (hL : L.length ≤ 600) (hk : k ≤ L.length) : FnM Tryz.prog 14 66 (srcC L k) [.int .i64 0] (fun v c => v = pints [] ∧ c = srcC L k) := by
  refine FnM.fg2 (FnM.of Tryz.func14 rfl Tryz.ntmps14 (by simp) rfl (by simp) fun m0 w0 F R0 => ?_)
  repeat refine AW.seq ?_
  refine AW.region ?_
  refine A1 rfl ?_
  repeat refine AW.seq ?_
  refine AW.region ?_
  refine A1 rfl ?_
  repeat refine AW.seq ?_
  refine AW.region ?_
  refine A1 rfl ?_
  refine AW.block ?_
  refine AW.loop (st := fun _ : Unit => mkS [(0, .ptr big 0), (1, .pv (.int .i64 0)), (6, .pv (.int .i64 0)), (5, .pv (.sl (some true) 0 []))] [(big, srcO L k)] 0) (I := fun _ => True) (μ := fun _ => 0) (x0 := ()) (St.le_mk ⟨rfl, rfl, rfl, rfl, trivial⟩ ⟨rfl, trivial⟩ rfl rfl) trivial (fun _ _ => ?_)
  repeat refine AW.seq ?_
  refine AW.region ?_
  iterate 3 refine A1 rfl ?_
  refine AW.condP rfl (fun hc => absurd hc (by simp)) (fun hc => ?_)
  refine AW.exit ?_
  repeat refine AW.seq ?_
  refine AW.region ?_
  iterate 3 refine A1 rfl ?_
  refine AW.block ?_
  refine AW.loop (st := fun _ : Unit => mkS [(0, .ptr big 0), (7, .pv (.int .i64 (-1))), (5, .pv (.sl (some true) 0 []))] [(big, srcO L k)] 0) (I := fun _ => True) (μ := fun _ => 0) (x0 := ()) (St.le_mk ⟨rfl, rfl, rfl, trivial⟩ ⟨rfl, trivial⟩ rfl rfl) trivial (fun _ _ => ?_)
  repeat refine AW.seq ?_
  refine AW.region ?_
  iterate 2 refine A1 rfl ?_
  refine AW.condP rfl (fun hc => absurd hc (by simp)) (fun hc => ?_)
  refine AW.exit ?_
  repeat refine AW.seq ?_
  refine AW.region ?_
  iterate 2 refine A1 rfl ?_
  refine AW.ret ?_
  exact ⟨_, srcC L k, rfl, rfl, rfl, rfl⟩
theorem some_spec (L : List Int) (k n : Nat) (q : Int) (hL : L.length ≤ 600) (hk : k ≤ L.length) (hn : n ≤ 1000) (hq1 : 1 ≤ q) (hq2 : q ≤ 1000) :
    FnM Tryz.prog 41 66 (srcC L k) [.int .i64 n, .int .i64 q] (fun v c => (∃ l : List Int, l.length ≤ n ∧ v = pints l) ∧ ∃ k', k' ≤ L.length ∧ c = srcC L k') := by
  refine FnM.of Tryz.func41 rfl Tryz.ntmps41 (by simp) rfl (by simp) fun m0 w0 F R0 => ?_
  repeat refine AW.seq ?_
  refine AW.region ?_
  refine A1 rfl ?_
  repeat refine AW.seq ?_
  refine AW.region ?_
  refine A1 rfl ?_
  refine AW.weaken (St.le_gro 7 0 1 3 rfl rfl) ?_
  repeat refine AW.seq ?_
  refine AW.region ?_
  refine A1 rfl ?_
  repeat refine AW.seq ?_
  refine AW.block ?_
  repeat refine AW.seq ?_
  refine AW.loop (st := fun x_0 : Nat × List Int × Nat => mkS [(0, .ptr big 0), (1, .pv (.int .i64 n)), (2, .pv (.int .i64 q)), (7, .gsl 0 1 x_0.2.1.length), (8, .pv (.int .i64 x_0.1))] [(big, srcO L x_0.2.2), (0, .gro 3 (intsP x_0.2.1))] 1)
    (I := fun x_0 => x_0.1 ≤ n ∧ x_0.2.1.length ≤ x_0.1 ∧ x_0.2.2 ≤ L.length) (μ := fun x_0 => n - x_0.1) (x0 := (0, [], k)) (St.le_mk ⟨rfl, rfl, rfl, rfl, rfl, trivial⟩ ⟨rfl, rfl, trivial⟩ rfl rfl) (⟨Nat.zero_le _, Nat.le_refl _, hk⟩) ?_
  rintro ⟨i, l, k2⟩ ⟨hi, hl, hk2⟩
  try simp only at hi hl hk2 ⊢
  repeat refine AW.seq ?_
  refine AW.region ?_
  iterate 3 refine A1 rfl ?_
  repeat refine AW.seq ?_
  refine AW.condP rfl (fun hc11 => ?_) (fun hc11 => ?_)
  · have hsl : (intsP l).length = l.length * 1 := by simp
    have hk3 := sNk_le hk2
    refine AW.skip ?_
    repeat refine AW.seq ?_
    refine AW.block ?_
    repeat refine AW.seq ?_
    refine AW.region ?_
    iterate 2 refine A1 rfl ?_
    refine RL.step (d := some 16) rfl rfl (xj_callM Tryz.call26 (n_spec L k2 q hL hk2 hq1 (by omega)) rfl rfl) ?_
    iterate 3 refine A1 rfl ?_
    repeat refine AW.seq ?_
    refine AW.cond rfl (fun hc19 => ?_) (fun hc19 => ?_)
    · repeat refine AW.seq ?_
      refine AW.region ?_
      iterate 5 refine A1 rfl ?_
      repeat refine AW.seq ?_
      refine AW.region ?_
      iterate 3 refine A1 rfl ?_
      exact ⟨(i + 1, l ++ [(i : Int)], sNk L k2), St.le_mkR [2] ⟨rfl, rfl, rfl, by simp; rfl, rfl, trivial⟩ ⟨rfl, congrArg (fun c => some (Ob.gro 3 c)) (ints_snoc l i).symm, trivial⟩ rfl rfl (by decide) rfl, ⟨by simp only; omega, by simp only [List.length_append, List.length_singleton]; omega, hk3⟩, by simp only; omega⟩
    · refine AW.skip ?_
      repeat refine AW.seq ?_
      refine AW.region ?_
      iterate 3 refine A1 rfl ?_
      exact ⟨(i + 1, l, sNk L k2), St.le_mk ⟨rfl, rfl, rfl, rfl, rfl, trivial⟩ ⟨rfl, rfl, trivial⟩ rfl rfl, ⟨by simp only; omega, by simp only; omega, hk3⟩, by simp only; omega⟩
  · repeat refine AW.seq ?_
    refine AW.exit ?_
    refine AW.weaken (St.le_pubA 0 rfl rfl) ?_
    repeat refine AW.seq ?_
    refine AW.region ?_
    iterate 2 refine A1 rfl ?_
    repeat refine AW.seq ?_
    refine AW.ret ?_
    exact ⟨_, srcC L k2, rfl, rfl, ⟨l, by omega, by simp [pints]⟩, k2, hk2, rfl⟩
theorem text_specF (L : List Int) (k : Nat) (l : List ByteArray) (hL : L.length ≤ 600) (hk : k ≤ L.length) (hl : l ≠ []) (hl2 : l.length ≤ 1000) : ∃ x ∈ l, FnM Tryz.prog 40 66 (srcC L k) [pstrs l] (fun v c => v = .str x ∧ c = srcC L (sNk L k)) := by
  have hpos : 0 < l.length := List.length_pos_iff.2 hl
  have hb := sNv_bd L k l.length (by omega)
  obtain ⟨j, hj⟩ := Int.eq_ofNat_of_zero_le hb.1
  have hjl : j < l.length := by omega
  refine ⟨l[j], List.getElem_mem hjl, ?_⟩
  refine FnM.of Tryz.func40 rfl Tryz.ntmps40 (by simp) rfl (by simp) fun m0 w0 F R0 => ?_
  have hv := pstrs_at hjl
  have hne := pstrs_ne hjl
  repeat refine AW.seq ?_
  refine AW.region ?_
  refine A1 rfl ?_
  repeat refine AW.seq ?_
  refine AW.region ?_
  iterate 4 refine A1 rfl ?_
  refine RL.step (d := some 9) rfl rfl (xj_callM Tryz.call26 (n_spec L k l.length hL hk (by omega) (by omega)) rfl rfl) ?_
  refine RL.step (d := some 10) rfl rfl (xj_indexAddr j Tryz.underlying75 sz9 rfl rfl hj hjl hne) ?_
  first | refine A2 rfl (by assumption) ?_ | refine A1 rfl ?_
  refine A1 rfl ?_
  repeat refine AW.seq ?_
  refine AW.ret ?_
  exact ⟨_, srcC L (sNk L k), rfl, rfl, rfl, rfl⟩
/-- What Small says. -/
def smallB (S : Sch) : Bool := !(decide (7 < S.attrs.length) || decide (5 < S.rels.length) || decide (9 < S.feats.length)) && S.rels.all fun r => decide (r.2.length ≤ 8)
theorem small_snoc {rs : List (ByteArray × List Int)} {k : Nat} (hk : k < rs.length) (h : (rs.take k).all (fun r => decide (r.2.length ≤ 8)) = true) (h2 : rs[k].2.length ≤ 8) : (rs.take (k + 1)).all (fun r => decide (r.2.length ≤ 8)) = true := by
  rw [take_snoc hk, List.all_append, h]; simpa using h2
theorem small_no {S : Sch} {k : Nat} (hk : k < S.rels.length) (h2 : 8 < S.rels[k].2.length) : smallB S = false := by
  have : (S.rels.all fun r => decide (r.2.length ≤ 8)) = false := by
    rw [List.all_eq_false]
    exact ⟨_, List.getElem_mem hk, by simpa using h2⟩
  simp [smallB, this]
theorem small_SB {S : Sch} (h : smallB S = true) (h2 : ∀ x ∈ S.attrs, x.1.size ≤ 9223372036854775807) (h3 : ∀ x ∈ S.rels, x.1.size ≤ 9223372036854775807) : SB S ∧ S.attrs.length ≤ 7 := by
  simp only [smallB, Bool.and_eq_true, Bool.not_eq_true', Bool.or_eq_false_iff, decide_eq_false_iff_not, List.all_eq_true, decide_eq_true_eq] at h
  obtain ⟨⟨⟨h4, h5⟩, h6⟩, h7⟩ := h
  exact ⟨⟨by omega, by omega, by omega, h2, h3, fun x hx => by have := h7 x hx; omega⟩, by omega⟩
theorem small_spec (S : Sch) (h1 : S.attrs.length ≤ 9223372036854775807) (h2 : S.rels.length ≤ 9223372036854775807) (h3 : S.feats.length ≤ 9223372036854775807) (h4 : ∀ r ∈ S.rels, r.2.length ≤ 9223372036854775807) :
    FnP Tryz.prog 5 [schP S, .sl none 0 []] (· = .bool (smallB S)) := by
  refine FnP.of Tryz.func5 rfl Tryz.ntmps5 (by simp) fun m0 w0 F R0 => ?_
  repeat refine AW.seq ?_
  refine AW.region ?_
  iterate 2 refine A1 rfl ?_
  repeat refine AW.seq ?_
  refine AW.region ?_
  iterate 5 refine A1 rfl ?_
  apply RL.orB 5 13 18 [14, 15, 16, 17] rfl (by first | exact MonoK.le | exact MonoK.aw | exact MonoK.back)
  · intro hb4
    iterate 5 refine A1 rfl ?_
    exact St.le_fg (fEq.upd (fEq.upd (fEq.upd (fEq.upd (fEq.upd (fEq.upd (fEq.refl) rfl) rfl) rfl) rfl) rfl) rfl) rfl rfl rfl
  · intro hb4
    iterate 5 refine A1 rfl ?_
    exact St.le_fg (fEq.upd (fEq.upd (fEq.upd (fEq.upd (fEq.upd (fEq.upd (fEq.refl) rfl) rfl) rfl) rfl) rfl) rfl) rfl rfl rfl
  refine A1 rfl ?_
  apply RL.orB 5 19 24 [20, 21, 22, 23] rfl (by first | exact MonoK.le | exact MonoK.aw | exact MonoK.back)
  · intro hb10
    iterate 5 refine A1 rfl ?_
    exact St.le_fg (fEq.upd (fEq.upd (fEq.upd (fEq.upd (fEq.upd (fEq.upd (fEq.refl) rfl) rfl) rfl) rfl) rfl) rfl) rfl rfl rfl
  · intro hb10
    iterate 5 refine A1 rfl ?_
    exact St.le_fg (fEq.upd (fEq.upd (fEq.upd (fEq.upd (fEq.upd (fEq.upd (fEq.refl) rfl) rfl) rfl) rfl) rfl) rfl) rfl rfl rfl
  refine A1 rfl ?_
  apply RL.orB 4 25 29 [26, 27, 28] rfl (by first | exact MonoK.le | exact MonoK.aw | exact MonoK.back)
  · intro hb16
    iterate 4 refine A1 rfl ?_
    exact St.le_fg (fEq.upd (fEq.upd (fEq.upd (fEq.upd (fEq.upd (fEq.refl) rfl) rfl) rfl) rfl) rfl) rfl rfl rfl
  · intro hb16
    iterate 4 refine A1 rfl ?_
    exact St.le_fg (fEq.upd (fEq.upd (fEq.upd (fEq.upd (fEq.upd (fEq.refl) rfl) rfl) rfl) rfl) rfl) rfl rfl rfl
  repeat refine AW.seq ?_
  refine AW.cond rfl (fun hc29 => ?_) (fun hc29 => ?_)
  · repeat refine AW.seq ?_
    refine AW.region ?_
    refine A1 rfl ?_
    repeat refine AW.seq ?_
    refine AW.ret ?_
    exact ⟨_, _, rfl, rfl, congrArg PV.bool (by unfold smallB; simp at hc29; simp; omega)⟩
  · have hq : S.attrs.length ≤ 7 ∧ S.rels.length ≤ 5 ∧ S.feats.length ≤ 9 := by simp at hc29; omega
    refine AW.skip ?_
    repeat refine AW.seq ?_
    refine AW.region ?_
    iterate 4 refine A1 rfl ?_
    repeat refine AW.seq ?_
    refine AW.block ?_
    repeat refine AW.seq ?_
    refine AW.loop (st := fun x_0 : Nat => mkS [(1, .pv (.sl none 0 [])), (31, .pv (.sl none S.rels.length (relsC S.rels))), (32, .pv (.int .i64 S.rels.length)), (33, .pv (.int .i64 x_0))] [] 1)
      (I := fun x_0 => x_0 ≤ S.rels.length ∧ (S.rels.take x_0).all (fun r => decide (r.2.length ≤ 8)) = true) (μ := fun x_0 => S.rels.length - x_0) (x0 := (0)) (St.le_mk ⟨rfl, rfl, rfl, rfl, trivial⟩ trivial rfl rfl) (⟨Nat.zero_le _, by simp⟩) ?_
    rintro k ⟨hk, hall⟩
    repeat refine AW.seq ?_
    refine AW.region ?_
    refine A1 rfl ?_
    repeat refine AW.seq ?_
    refine AW.condP rfl (fun hc34 => ?_) (fun hc34 => ?_)
    · have hlt : k < S.rels.length := by omega
      have hrow := rel_row hlt
      have hne := rel_ne hlt
      have hrl := h4 _ (List.getElem_mem hlt)
      refine AW.skip ?_
      repeat refine AW.seq ?_
      refine AW.block ?_
      repeat refine AW.seq ?_
      refine AW.region ?_
      refine A1 rfl ?_
      refine RL.step (d := some 36) rfl rfl (xj_loadAR ⟨_, Tryz.underlying62, rfl⟩ sz62 rfl hrow rfl) ?_
      iterate 2 refine A1 rfl ?_
      repeat refine AW.seq ?_
      refine AW.region ?_
      iterate 4 refine A1 rfl ?_
      repeat refine AW.seq ?_
      refine AW.condP rfl (fun hc40 => ?_) (fun hc40 => ?_)
      · repeat refine AW.seq ?_
        refine AW.region ?_
        refine A1 rfl ?_
        repeat refine AW.seq ?_
        refine AW.ret ?_
        exact ⟨_, _, rfl, rfl, congrArg PV.bool (small_no hlt (by omega)).symm⟩
      · refine AW.skip ?_
        repeat refine AW.seq ?_
        refine AW.region ?_
        iterate 2 refine A1 rfl ?_
        exact ⟨(k + 1), St.le_mk ⟨rfl, rfl, rfl, rfl, trivial⟩ trivial rfl rfl, ⟨by omega, small_snoc hlt hall (by omega)⟩, by omega⟩
    · repeat refine AW.seq ?_
      refine AW.exit ?_
      repeat refine AW.seq ?_
      refine AW.region ?_
      iterate 3 refine A1 rfl ?_
      repeat refine AW.seq ?_
      refine AW.block ?_
      repeat refine AW.seq ?_
      refine AW.loop (st := fun x_1 : Nat => mkS [(42, .pv (.sl none 0 [])), (43, .pv (.int .i64 0)), (44, .pv (.int .i64 x_1))] [] 1)
        (I := fun x_1 => x_1 = 0) (μ := fun x_1 => 0) (x0 := (0)) (St.le_mk ⟨rfl, rfl, rfl, trivial⟩ trivial rfl rfl) (rfl) ?_
      rintro j hj0
      repeat refine AW.seq ?_
      refine AW.region ?_
      refine A1 rfl ?_
      repeat refine AW.seq ?_
      refine AW.condP rfl (fun hc45 => absurd hc45 (by omega)) (fun hc45 => ?_)
      repeat refine AW.seq ?_
      refine AW.exit ?_
      repeat refine AW.seq ?_
      refine AW.region ?_
      refine A1 rfl ?_
      repeat refine AW.seq ?_
      refine AW.ret ?_
      exact ⟨_, _, rfl, rfl, congrArg PV.bool (by rw [List.take_of_length_le (by omega)] at hall; unfold smallB; rw [hall]; simp; omega)⟩
theorem ints_all5 (l : List Int) : ∀ c ∈ intsP l, c.leaf = true := by
  intro c hc
  obtain ⟨x, _, rfl⟩ := List.mem_map.1 hc
  rfl
/-- What a bent order is like. -/
theorem bentOrder_spec (L : List Int) (k : Nat) (hL : L.length ≤ 600) (hk : k ≤ L.length) (P : List Int) (hP : P.length ≤ 900) :
    FnM Tryz.prog 19 66 (srcC L k) [ordP P] (fun v c => (∃ P' : List Int, P'.length ≤ P.length + 1 ∧ v = ordP P') ∧ ∃ k', k' ≤ L.length ∧ c = srcC L k') := by
  refine FnM.fg2 (FnM.ofC (rt := 29) (k := 1) Tryz.func19 rfl Tryz.ntmps19 (by simp) rfl (by simp) ⟨_, Tryz.underlying29, rfl⟩ sz29 fun m0 w0 F R0 => ?_)
  repeat refine AW.seq ?_
  refine AW.region ?_
  iterate 2 refine A1 rfl ?_
  repeat refine AW.seq ?_
  refine AW.region ?_
  iterate 2 refine A1 rfl ?_
  refine RL.step (d := some 8) rfl rfl (xj_append0G 2 el22 rfl (.inl ⟨none, rfl⟩) (by simp) (ints_all5 _) (by omega) rfl) ?_
  iterate 3 refine A1 rfl ?_
  by_cases h0 : P.length = 0
  · repeat refine AW.seq ?_
    refine AW.region ?_
    iterate 3 refine A1 rfl ?_
    refine RL.step (d := some 13) rfl rfl (XJ.cast (v' := .pv (.bool true)) (xj_bin rfl rfl rfl) (by rw [h0]; rfl)) ?_
    iterate 5 refine A1 rfl ?_
    repeat refine AW.seq ?_
    refine AW.cond rfl (fun hc18 => ?_) (fun hc18 => absurd hc18 (by simp))
    have hsl : (List.map (PV.int .i64) P).length = P.length * 1 := by simp
    have hPl : P.length ≤ 999999999 := by omega
    repeat refine AW.seq ?_
    refine AW.region ?_
    iterate 6 refine A1 rfl ?_
    refine AW.weaken (St.le_pubA 5 rfl rfl) ?_
    repeat refine AW.seq ?_
    refine AW.region ?_
    iterate 2 refine A1 rfl ?_
    repeat refine AW.seq ?_
    refine AW.ret ?_
    exact ⟨1, _, [.sl none (P.length + 1) (intsP P ++ [.int .i64 (-1)])], srcC L k, rfl, rfl, rfl, rfl, rfl, ⟨P ++ [-1], by simp, by simp [ordP, pints]; rfl⟩, k, hk, rfl⟩
  · repeat refine AW.seq ?_
    refine AW.region ?_
    iterate 3 refine A1 rfl ?_
    refine RL.step (d := some 13) rfl rfl (XJ.cast (v' := .pv (.bool false)) (xj_bin rfl rfl rfl) (by simp; intro e; simp [e] at h0)) ?_
    iterate 2 refine A1 rfl ?_
    refine RL.stepG (d := some 16) rfl rfl rfl (xj_callM Tryz.call26 (n_spec L k 6 hL hk (by omega) (by omega)) rfl rfl) ?_
    iterate 2 refine A1 rfl ?_
    repeat refine AW.seq ?_
    refine AW.cond rfl (fun hc18 => ?_) (fun hc18 => ?_)
    · have hsl : (List.map (PV.int .i64) P).length = P.length * 1 := by simp
      have hPl : P.length ≤ 999999999 := by omega
      repeat refine AW.seq ?_
      refine AW.region ?_
      iterate 6 refine A1 rfl ?_
      refine AW.weaken (St.le_pubA 5 rfl rfl) ?_
      repeat refine AW.seq ?_
      refine AW.region ?_
      iterate 2 refine A1 rfl ?_
      repeat refine AW.seq ?_
      refine AW.ret ?_
      exact ⟨1, _, [.sl none (P.length + 1) (intsP P ++ [.int .i64 (-1)])], srcC L (sNk L k), rfl, rfl, rfl, rfl, rfl, ⟨P ++ [-1], by simp, by simp [ordP, pints]; rfl⟩, _, sNk_le hk, rfl⟩
    · refine AW.skip ?_
      have hsl : (intsP P).length = P.length * 1 := by simp
      have hk1 := sNk_le hk
      generalize sNk L k = k1 at *
      have hbd := sNv_bd L k1 P.length (by omega)
      obtain ⟨j, hj⟩ := Int.eq_ofNat_of_zero_le hbd.1
      have hjl : j < P.length := by omega
      have hne : intsP P ≠ [] := pints_ne hjl
      have hk2 := sNk_le hk1
      refine AW.weaken (St.le_ownC 3 0 rfl rfl rfl (by omega) hne) ?_
      repeat refine AW.seq ?_
      refine AW.draw follows [[], [0], [], [], [3], [4, 3], [5, 2, 4, 3], [], [], [8], [9, 8], [6, 10, 7, 9, 8, 5, 2, 4, 3], [11, 10, 9, 8, 7, 6, 1, 0, 5, 2, 4, 3], [12, 11, 10, 9, 8, 7, 6, 1, 0, 5, 2, 4, 3]] [0, 1, 2, 3, 4, 5, 6, 7, 8, 9, 10, 11, 12, 13] (by kernel_rfl) (by kernel_rfl) ?_
      iterate 6 refine D1 rfl rfl ?_
      refine DL.step (d := some 31) [_] rfl rfl rfl (fun τ h => xj_callM Tryz.call26 (n_spec L k1 P.length hL hk1 (by omega) (by omega)) (h.args.trans rfl) ((h.o 0 _ rfl).trans rfl)) rfl (by kernel_rfl) ?_
      iterate 4 refine D1 rfl rfl ?_
      refine DL.step (d := some 36) [_] rfl rfl rfl (fun τ h => xj_callM Tryz.call37 (range_spec L (sNk L k1) (-2) P.length hL hk2 (by omega) (by omega) (by omega)) (h.args.trans rfl) ((h.o 0 _ rfl).trans rfl)) rfl (by kernel_rfl) ?_
      refine DL.step (d := some 37) [_] rfl rfl rfl (fun τ h => xj_indexAddrO j Tryz.underlying22 sz3 ((h.e 0 _ rfl).trans rfl) ((h.o 0 _ rfl).trans rfl) ((h.e 1 _ rfl).trans rfl) hj hjl) rfl (by kernel_rfl) ?_
      refine D1 rfl rfl ?_
      refine ⟨by kernel_rfl, ?_⟩
      refine AW.weaken (St.le_pubA 2 rfl rfl) ?_
      repeat refine AW.seq ?_
      refine AW.region ?_
      iterate 2 refine A1 rfl ?_
      repeat refine AW.seq ?_
      refine AW.ret ?_
      exact ⟨1, _, [.sl (some false) P.length ((intsP P).set (j * 1) (.int .i64 (-2 + sNv L (sNk L k1) (P.length - -2 + 1))))], srcC L (sNk L (sNk L k1)), rfl, rfl, rfl, rfl, rfl, ⟨P.set j (-2 + sNv L (sNk L k1) (P.length - -2 + 1)), by simp, by simp [ordP, pints, List.map_set]; rfl⟩, _, sNk_le hk2, rfl⟩
end Go.Proofs.YtkalgjnhaicabaaGreat
namespace Go.Proofs.YtkalgjnhaicabaaGreat
open Go.RowKit Mk
set_option maxRecDepth 100000
set_option maxHeartbeats 4000000
/-- What a bent schema has of the one that was bent. -/
structure Bent (S S' : Sch) : Prop where
  a1 : S.attrs.length ≤ S'.attrs.length
  a2 : S'.attrs.length ≤ S.attrs.length + 1
  r1 : S.rels.length ≤ S'.rels.length
  r2 : S'.rels.length ≤ S.rels.length + 1
  f1 : S.feats.length ≤ S'.feats.length
  f2 : S'.feats.length ≤ S.feats.length + 1
  an : ∀ x ∈ S'.attrs, x.1.size ≤ 13 ∨ ∃ y ∈ S.attrs, y.1 = x.1
  rn : ∀ x ∈ S'.rels, x.1.size ≤ 13 ∨ ∃ y ∈ S.rels, y.1 = x.1
  rl : ∀ x ∈ S'.rels, x.2.length ≤ 7 ∨ ∃ y ∈ S.rels, y.2 = x.2
theorem Bent.refl (S : Sch) (lb : Int) : Bent S { S with label := lb } := ⟨Nat.le_refl _, Nat.le_succ _, Nat.le_refl _, Nat.le_succ _, Nat.le_refl _, Nat.le_succ _, fun x hx => .inr ⟨x, hx, rfl⟩, fun x hx => .inr ⟨x, hx, rfl⟩, fun x hx => .inr ⟨x, hx, rfl⟩⟩
theorem Bent.attr {S : Sch} {j : Nat} (hj : j < S.attrs.length) (x : ByteArray × Int) (h : x.1.size ≤ 13 ∨ S.attrs[j].1 = x.1) : Bent S { S with attrs := S.attrs.set j x } :=
  ⟨by simp, by simp, Nat.le_refl _, Nat.le_succ _, Nat.le_refl _, Nat.le_succ _, fun y hy => by
    rcases List.mem_or_eq_of_mem_set hy with e | e
    · exact .inr ⟨y, e, rfl⟩
    · subst e; exact h.imp id fun e => ⟨_, List.getElem_mem hj, e⟩, fun x hx => .inr ⟨x, hx, rfl⟩, fun x hx => .inr ⟨x, hx, rfl⟩⟩
theorem Bent.attrs {S : Sch} (x : ByteArray × Int) (h : x.1.size ≤ 13) : Bent S { S with attrs := S.attrs ++ [x] } :=
  ⟨by simp, by simp, Nat.le_refl _, Nat.le_succ _, Nat.le_refl _, Nat.le_succ _, fun y hy => by
    rcases List.mem_append.1 hy with e | e
    · exact .inr ⟨y, e, rfl⟩
    · simp at e; subst e; exact .inl h, fun x hx => .inr ⟨x, hx, rfl⟩, fun x hx => .inr ⟨x, hx, rfl⟩⟩
theorem Bent.rel {S : Sch} {j : Nat} (hj : j < S.rels.length) (x : ByteArray × List Int) (h : x.1.size ≤ 13 ∨ S.rels[j].1 = x.1) (h2 : x.2.length ≤ 7 ∨ S.rels[j].2 = x.2) : Bent S { S with rels := S.rels.set j x } :=
  ⟨Nat.le_refl _, Nat.le_succ _, by simp, by simp, Nat.le_refl _, Nat.le_succ _, fun x hx => .inr ⟨x, hx, rfl⟩, fun y hy => by
    rcases List.mem_or_eq_of_mem_set hy with e | e
    · exact .inr ⟨y, e, rfl⟩
    · subst e; exact h.imp id fun e => ⟨_, List.getElem_mem hj, e⟩, fun y hy => by
    rcases List.mem_or_eq_of_mem_set hy with e | e
    · exact .inr ⟨y, e, rfl⟩
    · subst e; exact h2.imp id fun e => ⟨_, List.getElem_mem hj, e⟩⟩
theorem Bent.rels {S : Sch} (x : ByteArray × List Int) (h : x.1.size ≤ 13) (h2 : x.2.length ≤ 7) : Bent S { S with rels := S.rels ++ [x] } :=
  ⟨Nat.le_refl _, Nat.le_succ _, by simp, by simp, Nat.le_refl _, Nat.le_succ _, fun x hx => .inr ⟨x, hx, rfl⟩, fun y hy => by
    rcases List.mem_append.1 hy with e | e
    · exact .inr ⟨y, e, rfl⟩
    · simp at e; subst e; exact .inl h, fun y hy => by
    rcases List.mem_append.1 hy with e | e
    · exact .inr ⟨y, e, rfl⟩
    · simp at e; subst e; exact .inl h2⟩
theorem Bent.feat {S : Sch} {j : Nat} (x : Int × Int × Int) : Bent S { S with feats := S.feats.set j x } :=
  ⟨Nat.le_refl _, Nat.le_succ _, Nat.le_refl _, Nat.le_succ _, by simp, by simp, fun x hx => .inr ⟨x, hx, rfl⟩, fun x hx => .inr ⟨x, hx, rfl⟩, fun x hx => .inr ⟨x, hx, rfl⟩⟩
theorem Bent.feats {S : Sch} (x : Int × Int × Int) : Bent S { S with feats := S.feats ++ [x] } :=
  ⟨Nat.le_refl _, Nat.le_succ _, Nat.le_refl _, Nat.le_succ _, by simp, by simp, fun x hx => .inr ⟨x, hx, rfl⟩, fun x hx => .inr ⟨x, hx, rfl⟩, fun x hx => .inr ⟨x, hx, rfl⟩⟩
theorem Bent.SB {S S' : Sch} (h : Bent S S') (hS : SB S) (h1 : S.attrs.length ≤ 1000) (h2 : S.rels.length ≤ 1000) (h3 : S.feats.length ≤ 1000) : SB S' := by
  have := h.a2; have := h.r2; have := h.f2
  refine ⟨by omega, by omega, by omega, fun x hx => ?_, fun x hx => ?_, fun x hx => ?_⟩
  · rcases h.an x hx with e | ⟨y, hy, e⟩
    · omega
    · rw [← e]; exact hS.an y hy
  · rcases h.rn x hx with e | ⟨y, hy, e⟩
    · omega
    · rw [← e]; exact hS.rn y hy
  · rcases h.rl x hx with e | ⟨y, hy, e⟩
    · omega
    · rw [← e]; exact hS.rl y hy
theorem flat_set {α β : Type} (f : α → List β) (n : Nat) (h : ∀ a, (f a).length = n) (v : β) (y : α) (d : Nat) (hd : d < n) : ∀ (l : List α) (j : Nat) (hj : j < l.length), f y = (f l[j]).set d v → (l.flatMap f).set (j * n + d) v = (l.set j y).flatMap f
  | [], _, hj, _ => by simp at hj
  | a :: l, 0, _, e => by
    rw [List.flatMap_cons, List.set_cons_zero, List.flatMap_cons, Nat.zero_mul, Nat.zero_add, List.set_append_left _ _ (by rw [h]; exact hd), e]; rfl
  | a :: l, j + 1, hj, e => by
    rw [List.flatMap_cons, List.set_cons_succ, List.flatMap_cons, List.set_append_right _ _ (by rw [h, Nat.succ_mul]; omega), h, show (j + 1) * n + d - n = j * n + d by rw [Nat.succ_mul]; omega]
    rw [flat_set f n h v y d hd l j (by simpa using hj) (by simpa using e)]
theorem attrs_leaf (l : List (ByteArray × Int)) : ∀ c ∈ attrsC l, c.leaf = true := by
  intro c hc
  obtain ⟨x, _, h⟩ := List.mem_flatMap.1 hc
  simp at h
  rcases h with rfl | rfl <;> rfl
theorem rels_leaf (l : List (ByteArray × List Int)) : ∀ c ∈ relsC l, c.leaf = true := by
  intro c hc
  obtain ⟨x, _, h⟩ := List.mem_flatMap.1 hc
  simp at h
  rcases h with rfl | rfl <;> rfl
theorem feats_leaf (l : List (Int × Int × Int)) : ∀ c ∈ featsC l, c.leaf = true := by
  intro c hc
  obtain ⟨x, _, h⟩ := List.mem_flatMap.1 hc
  simp at h
  rcases h with rfl | rfl | rfl <;> rfl
theorem attr_set0 {l : List (ByteArray × Int)} {j : Nat} (hj : j < l.length) (x : ByteArray) : (attrsC l).set (j * 2) (PV.str x) = attrsC (l.set j (x, l[j].2)) := flat_set (fun a : ByteArray × Int => [PV.str a.1, .int .i64 a.2]) 2 (fun _ => rfl) (PV.str x) (x, l[j].2) 0 (by omega) l j hj rfl
theorem attr_set1 {l : List (ByteArray × Int)} {j : Nat} (hj : j < l.length) (x : Int) : (attrsC l).set (j * 2 + 1) (PV.int .i64 x) = attrsC (l.set j (l[j].1, x)) := flat_set (fun a : ByteArray × Int => [PV.str a.1, .int .i64 a.2]) 2 (fun _ => rfl) (PV.int .i64 x) (l[j].1, x) 1 (by omega) l j hj rfl
theorem rel_set0 {l : List (ByteArray × List Int)} {j : Nat} (hj : j < l.length) (x : ByteArray) : (relsC l).set (j * 2) (PV.str x) = relsC (l.set j (x, l[j].2)) := flat_set (fun r : ByteArray × List Int => [PV.str r.1, pints r.2]) 2 (fun _ => rfl) (PV.str x) (x, l[j].2) 0 (by omega) l j hj rfl
theorem rel_set1 {l : List (ByteArray × List Int)} {j : Nat} (hj : j < l.length) (x : List Int) : (relsC l).set (j * 2 + 1) (pints x) = relsC (l.set j (l[j].1, x)) := flat_set (fun r : ByteArray × List Int => [PV.str r.1, pints r.2]) 2 (fun _ => rfl) (pints x) (l[j].1, x) 1 (by omega) l j hj rfl
theorem feat_set1 {l : List (Int × Int × Int)} {j : Nat} (hj : j < l.length) (x : Int) : (featsC l).set (j * 3 + 1) (PV.int .i64 x) = featsC (l.set j (l[j].1, x, l[j].2.2)) := flat_set (fun f : Int × Int × Int => [PV.int .i64 f.1, .int .i64 f.2.1, .int .i64 f.2.2]) 3 (fun _ => rfl) (PV.int .i64 x) (l[j].1, x, l[j].2.2) 1 (by omega) l j hj rfl
theorem sch_fg2 {na nr nf : Nat} {ca cr cf : List PV} {b1 b2 b3 : Option Bool} {lb : Int} (S' : Sch) (h1 : ca = attrsC S'.attrs) (n1 : na = S'.attrs.length) (h2 : cr = relsC S'.rels) (n2 : nr = S'.rels.length) (h3 : cf = featsC S'.feats) (n3 : nf = S'.feats.length) (h4 : lb = S'.label) :
    (PV.agg [.sl b1 na ca, .sl b2 nr cr, .sl b3 nf cf, .int .i64 lb]).fg2 = schP S' := by subst h1 n1 h2 n2 h3 n3 h4; rfl
theorem bentSchema_spec (L : List Int) (k : Nat) (hL : L.length ≤ 600) (hk : k ≤ L.length) (S : Sch) (ha1 : 1 ≤ S.attrs.length) (ha2 : S.attrs.length ≤ 1000) (hr1 : 1 ≤ S.rels.length) (hr2 : S.rels.length ≤ 1000) (hf2 : S.feats.length ≤ 1000) :
    FnM Tryz.prog 9 66 (srcC L k) [schP S] (fun v c => (∃ S' : Sch, Bent S S' ∧ v = schP S') ∧ ∃ k', k' ≤ L.length ∧ c = srcC L k') := by
  refine FnM.fg2 (FnM.ofC (rt := 27) (k := 4) Tryz.func9 rfl Tryz.ntmps9 (by simp) rfl (by simp) ⟨_, Tryz.underlying27, rfl⟩ sz27 fun m0 w0 F R0 => ?_)
  have hAl := attrsC_len S.attrs
  have hRl := relsC_len S.rels
  have hFl := featsC_len S.feats
  have hk1 := sNk_le hk
  have hk2 := sNk_le hk1
  have hk3 := sNk_le hk2
  have hk4 := sNk_le hk3
  have hba := sNv_bd L (sNk L k) S.attrs.length (by omega)
  obtain ⟨ja, hja⟩ := Int.eq_ofNat_of_zero_le hba.1
  have hjal : ja < S.attrs.length := by omega
  have hane : attrsC S.attrs ≠ [] := attr_ne hjal
  have hbr := sNv_bd L (sNk L k) S.rels.length (by omega)
  obtain ⟨jr, hjr⟩ := Int.eq_ofNat_of_zero_le hbr.1
  have hjrl : jr < S.rels.length := by omega
  have hrne : relsC S.rels ≠ [] := rel_ne hjrl
  obtain ⟨tx, htx, htxs⟩ := text_specF L (sNk L (sNk L k)) [⟨#[]⟩, ⟨#[97, 97]⟩, ⟨#[65]⟩, ⟨#[97, 32, 98]⟩, ⟨#[97, 98, 99, 100, 101, 102, 103, 104, 105, 106, 107, 108, 109]⟩] hL hk2 (by simp) (by simp)
  obtain ⟨ty, hty, htys⟩ := text_specF L (sNk L (sNk L k)) [⟨#[]⟩, ⟨#[114, 97]⟩, ⟨#[57]⟩] hL hk2 (by simp) (by simp)
  have htx13 : tx.size ≤ 13 := by simp at htx; rcases htx with rfl | rfl | rfl | rfl | rfl <;> decide
  have hty13 : ty.size ≤ 13 := by simp at hty; rcases hty with rfl | rfl | rfl <;> decide
  repeat refine AW.seq ?_
  refine AW.region ?_
  iterate 2 refine A1 rfl ?_
  repeat refine AW.seq ?_
  refine AW.region ?_
  iterate 2 refine A1 rfl ?_
  refine RL.step (d := some 7) rfl rfl (xj_append0 2 el23 rfl (.inl ⟨none, rfl⟩) hAl (attrs_leaf _) (by omega) (by omega) rfl) ?_
  iterate 2 refine A1 rfl ?_
  repeat refine AW.seq ?_
  refine AW.region ?_
  iterate 2 refine A1 rfl ?_
  refine RL.step (d := some 11) rfl rfl (xj_append0 3 el24 rfl (.inl ⟨none, rfl⟩) hRl (rels_leaf _) (by omega) (by omega) rfl) ?_
  iterate 2 refine A1 rfl ?_
  repeat refine AW.seq ?_
  refine AW.region ?_
  iterate 2 refine A1 rfl ?_
  refine RL.step (d := some 15) rfl rfl (xj_append0G 4 el25 rfl (.inl ⟨none, rfl⟩) hFl (feats_leaf _) (by omega) rfl) ?_
  iterate 2 refine A1 rfl ?_
  repeat refine AW.seq ?_
  refine AW.region ?_
  refine A1 rfl ?_
  refine RL.step (d := some 18) rfl rfl (xj_callM Tryz.call26 (n_spec L k 9 hL hk (by omega) (by omega)) rfl rfl) ?_
  repeat refine AW.seq ?_
  refine AW.block ?_
  repeat refine AW.seq ?_
  refine AW.region ?_
  iterate 2 refine A1 rfl ?_
  repeat refine AW.seq ?_
  refine AW.cond rfl (fun hc34 => ?_) (fun hc34 => ?_)
  · repeat refine AW.seq ?_
    refine AW.region ?_
    refine A1 rfl ?_
    refine RL.step (d := some 37) rfl rfl (xj_callM Tryz.call37 (range_spec L (sNk L k) (-2) 6 hL hk1 (by omega) (by omega) (by omega)) rfl rfl) ?_
    iterate 2 refine A1 rfl ?_
    refine AW.weaken (St.le_pubA 2 rfl rfl) ?_
    refine AW.weaken (St.le_pubA 3 rfl rfl) ?_
    refine AW.weaken (St.le_pubA 4 rfl rfl) ?_
    repeat refine AW.seq ?_
    refine AW.region ?_
    iterate 2 refine A1 rfl ?_
    repeat refine AW.seq ?_
    refine AW.ret ?_
    exact ⟨1, _, [.sl (some false) S.attrs.length (attrsC S.attrs), .sl (some false) S.rels.length (relsC S.rels), .sl none S.feats.length (featsC S.feats), .int .i64 (-2 + sNv L (sNk L k) (6 - -2 + 1))], srcC L (sNk L (sNk L k)), rfl, rfl, rfl, rfl, rfl, ⟨{ S with label := -2 + sNv L (sNk L k) (6 - -2 + 1) }, Bent.refl _ _, sch_fg2 _ rfl rfl rfl rfl rfl rfl rfl⟩, _, hk2, rfl⟩
  · repeat refine AW.seq ?_
    refine AW.region ?_
    iterate 2 refine A1 rfl ?_
    repeat refine AW.seq ?_
    refine AW.cond rfl (fun hc39 => ?_) (fun hc39 => ?_)
    · repeat refine AW.seq ?_
      refine AW.draw follows [[], [0], [], [], [3], [4, 3], [5, 2, 4, 3], [], [], [6, 8, 7, 5, 2, 4, 3], [9, 8, 7, 6, 1, 0, 5, 2, 4, 3], [10, 9, 8, 7, 6, 1, 0, 5, 2, 4, 3], [11, 10, 9, 8, 7, 6, 1, 0, 5, 2, 4, 3]] [0, 1, 2, 3, 4, 5, 6, 7, 8, 9, 10, 11, 12] (by kernel_rfl) (by kernel_rfl) ?_
      iterate 6 refine D1 rfl rfl ?_
      refine DL.step (d := some 47) [_] rfl rfl rfl (fun τ h => xj_callM Tryz.call26 (n_spec L (sNk L k) S.attrs.length hL hk1 (by omega) (by omega)) (h.args.trans rfl) ((h.o 0 _ rfl).trans rfl)) rfl (by kernel_rfl) ?_
      refine D1 rfl rfl ?_
      refine DL.step (d := some 49) [] rfl rfl rfl (fun τ h => xj_buildSliceP none (by simp) el75 rfl (by decide) (by decide) (h.fillS rfl rfl) rfl) rfl (by kernel_rfl) ?_
      refine DL.step (d := some 50) [_] rfl rfl rfl (fun τ h => xj_callM Tryz.call40 htxs (h.args.trans rfl) ((h.o 0 _ rfl).trans rfl)) rfl (by kernel_rfl) ?_
      refine DL.step (d := some 51) [_] rfl rfl rfl (fun τ h => xj_indexAddrO ja Tryz.underlying23 sz71 ((h.e 0 _ rfl).trans rfl) ((h.o 0 _ rfl).trans rfl) ((h.e 1 _ rfl).trans rfl) hja hjal) rfl (by kernel_rfl) ?_
      iterate 2 refine D1 rfl rfl ?_
      refine ⟨by kernel_rfl, ?_⟩
      refine AW.weaken (St.le_pubA 2 rfl rfl) ?_
      refine AW.weaken (St.le_pubA 3 rfl rfl) ?_
      refine AW.weaken (St.le_pubA 4 rfl rfl) ?_
      repeat refine AW.seq ?_
      refine AW.region ?_
      iterate 2 refine A1 rfl ?_
      repeat refine AW.seq ?_
      refine AW.ret ?_
      exact ⟨1, _, [.sl (some false) S.attrs.length ((attrsC S.attrs).set (ja * 2) (.str tx)), .sl (some false) S.rels.length (relsC S.rels), .sl none S.feats.length (featsC S.feats), .int .i64 (S.label)], srcC L (sNk L (sNk L (sNk L k))), rfl, rfl, rfl, rfl, rfl, ⟨{ S with attrs := S.attrs.set ja (tx, S.attrs[ja].2) }, Bent.attr hjal _ (.inl htx13), sch_fg2 _ (attr_set0 hjal _) (by simp) rfl rfl rfl rfl rfl⟩, _, hk3, rfl⟩
    · repeat refine AW.seq ?_
      refine AW.region ?_
      iterate 2 refine A1 rfl ?_
      repeat refine AW.seq ?_
      refine AW.cond rfl (fun hc53 => ?_) (fun hc53 => ?_)
      · repeat refine AW.seq ?_
        refine AW.draw follows [[], [0], [], [], [3], [4, 3], [5, 2, 4, 3], [], [6, 7, 5, 2, 4, 3], [8, 7, 6, 1, 0, 5, 2, 4, 3], [9, 8, 7, 6, 1, 0, 5, 2, 4, 3], [10, 9, 8, 7, 6, 1, 0, 5, 2, 4, 3]] [0, 1, 2, 3, 4, 5, 6, 7, 8, 9, 10, 11] (by kernel_rfl) (by kernel_rfl) ?_
        iterate 6 refine D1 rfl rfl ?_
        refine DL.step (d := some 61) [_] rfl rfl rfl (fun τ h => xj_callM Tryz.call26 (n_spec L (sNk L k) S.attrs.length hL hk1 (by omega) (by omega)) (h.args.trans rfl) ((h.o 0 _ rfl).trans rfl)) rfl (by kernel_rfl) ?_
        refine D1 rfl rfl ?_
        refine DL.step (d := some 63) [_] rfl rfl rfl (fun τ h => xj_callM Tryz.call26 (n_spec L (sNk L (sNk L k)) 5 hL hk2 (by omega) (by omega)) (h.args.trans rfl) ((h.o 0 _ rfl).trans rfl)) rfl (by kernel_rfl) ?_
        refine DL.step (d := some 64) [_] rfl rfl rfl (fun τ h => xj_indexAddrO ja Tryz.underlying23 sz71 ((h.e 0 _ rfl).trans rfl) ((h.o 0 _ rfl).trans rfl) ((h.e 1 _ rfl).trans rfl) hja hjal) rfl (by kernel_rfl) ?_
        iterate 2 refine D1 rfl rfl ?_
        refine ⟨by kernel_rfl, ?_⟩
        refine AW.weaken (St.le_pubA 2 rfl rfl) ?_
        refine AW.weaken (St.le_pubA 3 rfl rfl) ?_
        refine AW.weaken (St.le_pubA 4 rfl rfl) ?_
        repeat refine AW.seq ?_
        refine AW.region ?_
        iterate 2 refine A1 rfl ?_
        repeat refine AW.seq ?_
        refine AW.ret ?_
        exact ⟨1, _, [.sl (some false) S.attrs.length ((attrsC S.attrs).set (ja * 2 + 1) (.int .i64 (sNv L (sNk L (sNk L k)) 5))), .sl (some false) S.rels.length (relsC S.rels), .sl none S.feats.length (featsC S.feats), .int .i64 (S.label)], srcC L (sNk L (sNk L (sNk L k))), rfl, rfl, rfl, rfl, rfl, ⟨{ S with attrs := S.attrs.set ja (S.attrs[ja].1, (sNv L (sNk L (sNk L k)) 5)) }, Bent.attr hjal _ (.inr rfl), sch_fg2 _ (attr_set1 hjal _) (by simp) rfl rfl rfl rfl rfl⟩, _, hk3, rfl⟩
      · repeat refine AW.seq ?_
        refine AW.region ?_
        iterate 2 refine A1 rfl ?_
        repeat refine AW.seq ?_
        refine AW.cond rfl (fun hc66 => ?_) (fun hc66 => ?_)
        · repeat refine AW.seq ?_
          refine AW.region ?_
          iterate 7 refine A1 rfl ?_
          refine AW.weaken (St.le_pubA 6 rfl rfl) ?_
          refine AW.weaken (St.le_pubA 3 rfl rfl) ?_
          refine AW.weaken (St.le_pubA 4 rfl rfl) ?_
          repeat refine AW.seq ?_
          refine AW.region ?_
          iterate 2 refine A1 rfl ?_
          repeat refine AW.seq ?_
          refine AW.ret ?_
          exact ⟨1, _, [.sl (some false) (S.attrs.length + 1) (attrsC S.attrs ++ [.str ⟨#[122, 122]⟩, .int .i64 1]), .sl (some false) S.rels.length (relsC S.rels), .sl none S.feats.length (featsC S.feats), .int .i64 (S.label)], srcC L (sNk L k), rfl, rfl, rfl, rfl, rfl, ⟨{ S with attrs := S.attrs ++ [(⟨#[122, 122]⟩, 1)] }, Bent.attrs _ (by decide), sch_fg2 _ (attrsC_snoc S.attrs (⟨#[122, 122]⟩, 1)).symm (by simp) rfl rfl rfl rfl rfl⟩, _, hk1, rfl⟩
        · repeat refine AW.seq ?_
          refine AW.region ?_
          iterate 2 refine A1 rfl ?_
          repeat refine AW.seq ?_
          refine AW.cond rfl (fun hc74 => ?_) (fun hc74 => ?_)
          · repeat refine AW.seq ?_
            refine AW.draw follows [[], [0], [], [], [3], [4, 3], [5, 2, 4, 3], [], [], [6, 8, 7, 5, 2, 4, 3], [9, 8, 7, 6, 1, 0, 5, 2, 4, 3], [10, 9, 8, 7, 6, 1, 0, 5, 2, 4, 3], [11, 10, 9, 8, 7, 6, 1, 0, 5, 2, 4, 3]] [0, 1, 2, 3, 4, 5, 6, 7, 8, 9, 10, 11, 12] (by kernel_rfl) (by kernel_rfl) ?_
            iterate 6 refine D1 rfl rfl ?_
            refine DL.step (d := some 82) [_] rfl rfl rfl (fun τ h => xj_callM Tryz.call26 (n_spec L (sNk L k) S.rels.length hL hk1 (by omega) (by omega)) (h.args.trans rfl) ((h.o 0 _ rfl).trans rfl)) rfl (by kernel_rfl) ?_
            refine D1 rfl rfl ?_
            refine DL.step (d := some 84) [] rfl rfl rfl (fun τ h => xj_buildSliceP none (by simp) el75 rfl (by decide) (by decide) (h.fillS rfl rfl) rfl) rfl (by kernel_rfl) ?_
            refine DL.step (d := some 85) [_] rfl rfl rfl (fun τ h => xj_callM Tryz.call40 htys (h.args.trans rfl) ((h.o 0 _ rfl).trans rfl)) rfl (by kernel_rfl) ?_
            refine DL.step (d := some 86) [_] rfl rfl rfl (fun τ h => xj_indexAddrO jr Tryz.underlying24 sz62 ((h.e 0 _ rfl).trans rfl) ((h.o 0 _ rfl).trans rfl) ((h.e 1 _ rfl).trans rfl) hjr hjrl) rfl (by kernel_rfl) ?_
            iterate 2 refine D1 rfl rfl ?_
            refine ⟨by kernel_rfl, ?_⟩
            refine AW.weaken (St.le_pubA 2 rfl rfl) ?_
            refine AW.weaken (St.le_pubA 3 rfl rfl) ?_
            refine AW.weaken (St.le_pubA 4 rfl rfl) ?_
            repeat refine AW.seq ?_
            refine AW.region ?_
            iterate 2 refine A1 rfl ?_
            repeat refine AW.seq ?_
            refine AW.ret ?_
            exact ⟨1, _, [.sl (some false) S.attrs.length (attrsC S.attrs), .sl (some false) S.rels.length ((relsC S.rels).set (jr * 2) (.str ty)), .sl none S.feats.length (featsC S.feats), .int .i64 (S.label)], srcC L (sNk L (sNk L (sNk L k))), rfl, rfl, rfl, rfl, rfl, ⟨{ S with rels := S.rels.set jr (ty, S.rels[jr].2) }, Bent.rel hjrl _ (.inl hty13) (.inr rfl), sch_fg2 _ rfl rfl (rel_set0 hjrl _) (by simp) rfl rfl rfl⟩, _, hk3, rfl⟩
          · repeat refine AW.seq ?_
            refine AW.region ?_
            iterate 2 refine A1 rfl ?_
            repeat refine AW.seq ?_
            refine AW.cond rfl (fun hc88 => ?_) (fun hc88 => ?_)
            · repeat refine AW.seq ?_
              refine AW.draw follows [[], [0], [], [], [3], [4, 3], [5, 2, 4, 3], [], [6, 7, 5, 2, 4, 3], [8, 7, 6, 1, 0, 5, 2, 4, 3], [9, 8, 7, 6, 1, 0, 5, 2, 4, 3], [10, 9, 8, 7, 6, 1, 0, 5, 2, 4, 3]] [0, 1, 2, 3, 4, 5, 6, 7, 8, 9, 10, 11] (by kernel_rfl) (by kernel_rfl) ?_
              iterate 6 refine D1 rfl rfl ?_
              refine DL.step (d := some 96) [_] rfl rfl rfl (fun τ h => xj_callM Tryz.call26 (n_spec L (sNk L k) S.rels.length hL hk1 (by omega) (by omega)) (h.args.trans rfl) ((h.o 0 _ rfl).trans rfl)) rfl (by kernel_rfl) ?_
              refine D1 rfl rfl ?_
              refine DL.rel (RM 66 big (fun v c => (∃ l : List Int, l.length ≤ 7 ∧ v = pints l) ∧ ∃ k', k' ≤ L.length ∧ c = srcC L k')) [big] [] [big] rfl rfl rfl (fun τ h => relM Tryz.call41 (some_spec L (sNk L (sNk L k)) 7 3 hL hk2 (by omega) (by omega) (by omega)) (h.args.trans rfl) ((h.o 0 _ rfl).trans rfl)) rfl (by kernel_rfl) (by kernel_rfl) (by kernel_rfl) ?_
              rintro _ ⟨_, _, ⟨⟨ql, hql, rfl⟩, k9, hk9, rfl⟩, rfl⟩ _ _
              refine DL.step (d := some 99) [_] rfl rfl rfl (fun τ h => xj_indexAddrO jr Tryz.underlying24 sz62 ((h.e 0 _ rfl).trans rfl) ((h.o 0 _ rfl).trans rfl) ((h.e 1 _ rfl).trans rfl) hjr hjrl) rfl (by kernel_rfl) ?_
              iterate 2 refine D1 rfl rfl ?_
              refine ⟨by kernel_rfl, ?_⟩
              refine AW.weaken (St.le_pubA 2 rfl rfl) ?_
              refine AW.weaken (St.le_pubA 3 rfl rfl) ?_
              refine AW.weaken (St.le_pubA 4 rfl rfl) ?_
              repeat refine AW.seq ?_
              refine AW.region ?_
              iterate 2 refine A1 rfl ?_
              repeat refine AW.seq ?_
              refine AW.ret ?_
              exact ⟨1, _, [.sl (some false) S.attrs.length (attrsC S.attrs), .sl (some false) S.rels.length ((relsC S.rels).set (jr * 2 + 1) (pints ql)), .sl none S.feats.length (featsC S.feats), .int .i64 (S.label)], srcC L k9, rfl, rfl, rfl, rfl, rfl, ⟨{ S with rels := S.rels.set jr (S.rels[jr].1, ql) }, Bent.rel hjrl _ (.inr rfl) (.inl hql), sch_fg2 _ rfl rfl (rel_set1 hjrl _) (by simp) rfl rfl rfl⟩, _, hk9, rfl⟩
            · repeat refine AW.seq ?_
              refine AW.region ?_
              iterate 2 refine A1 rfl ?_
              repeat refine AW.seq ?_
              refine AW.cond rfl (fun hc101 => ?_) (fun hc101 => ?_)
              · repeat refine AW.seq ?_
                refine AW.draw follows [[], [0], [], [2], [], [3, 4, 2], [5, 3, 2, 4], [6, 5, 3, 2, 4], [7, 6, 5, 3, 2, 4], [8, 1, 0, 7, 6, 5, 3, 2, 4], [9, 8, 7, 6, 5, 4, 3, 2, 1, 0], [10, 9, 8, 7, 6, 5, 4, 3, 2, 1, 0]] [0, 1, 2, 3, 4, 5, 6, 7, 8, 9, 10, 11] (by kernel_rfl) (by kernel_rfl) ?_
                iterate 3 refine D1 rfl rfl ?_
                refine DL.step (d := some 106) [_] rfl rfl rfl (fun τ h => xj_callM Tryz.call26 (n_spec L (sNk L k) 5 hL hk1 (by omega) (by omega)) (h.args.trans rfl) ((h.o 0 _ rfl).trans rfl)) rfl (by kernel_rfl) ?_
                refine D1 rfl rfl ?_
                refine DL.step (d := some 108) [_] rfl rfl rfl (fun τ h => xj_callM Tryz.call26 (n_spec L (sNk L (sNk L k)) 5 hL hk2 (by omega) (by omega)) (h.args.trans rfl) ((h.o 0 _ rfl).trans rfl)) rfl (by kernel_rfl) ?_
                refine DL.step (d := some 109) [] rfl rfl rfl (fun τ h => xj_buildSliceP none (by simp) el22 rfl (by decide) (by decide) (h.fillS rfl rfl) rfl) rfl (by kernel_rfl) ?_
                iterate 5 refine D1 rfl rfl ?_
                refine ⟨by kernel_rfl, ?_⟩
                refine AW.weaken (St.le_pubA 2 rfl rfl) ?_
                refine AW.weaken (St.le_pubA 6 rfl rfl) ?_
                refine AW.weaken (St.le_pubA 4 rfl rfl) ?_
                repeat refine AW.seq ?_
                refine AW.region ?_
                iterate 2 refine A1 rfl ?_
                repeat refine AW.seq ?_
                refine AW.ret ?_
                exact ⟨1, _, [.sl (some false) S.attrs.length (attrsC S.attrs), .sl (some false) (S.rels.length + 1) (relsC S.rels ++ [.str ⟨#[114, 122]⟩, pints [sNv L (sNk L k) 5, sNv L (sNk L (sNk L k)) 5]]), .sl none S.feats.length (featsC S.feats), .int .i64 (S.label)], srcC L (sNk L (sNk L (sNk L k))), rfl, rfl, rfl, rfl, rfl, ⟨{ S with rels := S.rels ++ [(⟨#[114, 122]⟩, [sNv L (sNk L k) 5, sNv L (sNk L (sNk L k)) 5])] }, Bent.rels _ (by show (⟨#[114, 122]⟩ : ByteArray).size ≤ 13; decide) (by simp), sch_fg2 _ rfl rfl (relsC_snoc S.rels (⟨#[114, 122]⟩, [sNv L (sNk L k) 5, sNv L (sNk L (sNk L k)) 5])).symm (by simp) rfl rfl rfl⟩, _, hk3, rfl⟩
              · repeat refine AW.seq ?_
                refine AW.region ?_
                iterate 2 refine A1 rfl ?_
                repeat refine AW.seq ?_
                refine AW.cond rfl (fun hc114 => ?_) (fun hc114 => ?_)
                · repeat refine AW.seq ?_
                  refine AW.draw follows [[], [0], [], [2], [], [3, 4, 2], [], [5, 6, 3, 4, 2], [7, 5, 3, 2, 4, 6], [8, 7, 5, 3, 2, 4, 6], [9, 1, 0, 8, 7, 5, 3, 2, 4, 6], [10, 9, 8, 7, 6, 5, 4, 3, 2, 1, 0], [11, 10, 9, 8, 7, 6, 5, 4, 3, 2, 1, 0]] [0, 1, 2, 3, 4, 5, 6, 7, 8, 9, 10, 11, 12] (by kernel_rfl) (by kernel_rfl) ?_
                  iterate 3 refine D1 rfl rfl ?_
                  refine DL.step (d := some 119) [_] rfl rfl rfl (fun τ h => xj_callM Tryz.call37 (range_spec L (sNk L k) (-1) 5 hL hk1 (by omega) (by omega) (by omega)) (h.args.trans rfl) ((h.o 0 _ rfl).trans rfl)) rfl (by kernel_rfl) ?_
                  refine D1 rfl rfl ?_
                  refine DL.step (d := some 121) [_] rfl rfl rfl (fun τ h => xj_callM Tryz.call26 (n_spec L (sNk L (sNk L k)) 4 hL hk2 (by omega) (by omega)) (h.args.trans rfl) ((h.o 0 _ rfl).trans rfl)) rfl (by kernel_rfl) ?_
                  refine D1 rfl rfl ?_
                  refine DL.step (d := some 123) [_] rfl rfl rfl (fun τ h => xj_callM Tryz.call26 (n_spec L (sNk L (sNk L (sNk L k))) 3 hL hk3 (by omega) (by omega)) (h.args.trans rfl) ((h.o 0 _ rfl).trans rfl)) rfl (by kernel_rfl) ?_
                  iterate 5 refine D1 rfl rfl ?_
                  refine ⟨by kernel_rfl, ?_⟩
                  refine AW.weaken (St.le_pubA 2 rfl rfl) ?_
                  refine AW.weaken (St.le_pubA 3 rfl rfl) ?_
                  refine AW.weaken (St.le_pubA 6 rfl rfl) ?_
                  repeat refine AW.seq ?_
                  refine AW.region ?_
                  iterate 2 refine A1 rfl ?_
                  repeat refine AW.seq ?_
                  refine AW.ret ?_
                  exact ⟨1, _, [.sl (some false) S.attrs.length (attrsC S.attrs), .sl (some false) S.rels.length (relsC S.rels), .sl none (S.feats.length + 1) (featsC S.feats ++ [.int .i64 (-1 + sNv L (sNk L k) (5 - -1 + 1)), .int .i64 (sNv L (sNk L (sNk L k)) 4), .int .i64 (sNv L (sNk L (sNk L (sNk L k))) 3)]), .int .i64 (S.label)], srcC L (sNk L (sNk L (sNk L (sNk L k)))), rfl, rfl, rfl, rfl, rfl, ⟨{ S with feats := S.feats ++ [(-1 + sNv L (sNk L k) (5 - -1 + 1), sNv L (sNk L (sNk L k)) 4, sNv L (sNk L (sNk L (sNk L k))) 3)] }, Bent.feats _, sch_fg2 _ rfl rfl rfl rfl (featsC_snoc S.feats (-1 + sNv L (sNk L k) (5 - -1 + 1), sNv L (sNk L (sNk L k)) 4, sNv L (sNk L (sNk L (sNk L k))) 3)).symm (by simp) rfl⟩, _, hk4, rfl⟩
                · repeat refine AW.seq ?_
                  refine AW.region ?_
                  iterate 4 refine A1 rfl ?_
                  repeat refine AW.seq ?_
                  refine AW.condP rfl (fun hc22 => ?_) (fun hc22 => ?_)
                  · have hfp : 0 < S.feats.length := by omega
                    have hbf := sNv_bd L (sNk L k) S.feats.length (by omega)
                    obtain ⟨jf, hjf⟩ := Int.eq_ofNat_of_zero_le hbf.1
                    have hjfl : jf < S.feats.length := by omega
                    have hfne : featsC S.feats ≠ [] := feat_ne hjfl
                    refine AW.weaken (St.le_ownC 0 2 rfl rfl rfl hfp hfne) ?_
                    repeat refine AW.seq ?_
                    refine AW.draw follows [[], [0], [], [], [3], [4, 3], [5, 2, 4, 3], [], [6, 7, 5, 2, 4, 3], [8, 7, 6, 1, 0, 5, 2, 4, 3], [9, 8, 7, 6, 1, 0, 5, 2, 4, 3], [10, 9, 8, 7, 6, 1, 0, 5, 2, 4, 3]] [0, 1, 2, 3, 4, 5, 6, 7, 8, 9, 10, 11] (by kernel_rfl) (by kernel_rfl) ?_
                    iterate 6 refine D1 rfl rfl ?_
                    refine DL.step (d := some 29) [_] rfl rfl rfl (fun τ h => xj_callM Tryz.call26 (n_spec L (sNk L k) S.feats.length hL hk1 (by omega) (by omega)) (h.args.trans rfl) ((h.o 0 _ rfl).trans rfl)) rfl (by kernel_rfl) ?_
                    refine D1 rfl rfl ?_
                    refine DL.step (d := some 31) [_] rfl rfl rfl (fun τ h => xj_callM Tryz.call26 (n_spec L (sNk L (sNk L k)) 4 hL hk2 (by omega) (by omega)) (h.args.trans rfl) ((h.o 0 _ rfl).trans rfl)) rfl (by kernel_rfl) ?_
                    refine DL.step (d := some 32) [_] rfl rfl rfl (fun τ h => xj_indexAddrO jf Tryz.underlying25 sz73 ((h.e 0 _ rfl).trans rfl) ((h.o 0 _ rfl).trans rfl) ((h.e 1 _ rfl).trans rfl) hjf hjfl) rfl (by kernel_rfl) ?_
                    iterate 2 refine D1 rfl rfl ?_
                    refine ⟨by kernel_rfl, ?_⟩
                    refine AW.weaken (St.le_pubA 2 rfl rfl) ?_
                    refine AW.weaken (St.le_pubA 3 rfl rfl) ?_
                    refine AW.weaken (St.le_pubA 4 rfl rfl) ?_
                    repeat refine AW.seq ?_
                    refine AW.region ?_
                    iterate 2 refine A1 rfl ?_
                    repeat refine AW.seq ?_
                    refine AW.ret ?_
                    exact ⟨1, _, [.sl (some false) S.attrs.length (attrsC S.attrs), .sl (some false) S.rels.length (relsC S.rels), .sl (some false) S.feats.length ((featsC S.feats).set (jf * 3 + 1) (.int .i64 (sNv L (sNk L (sNk L k)) 4))), .int .i64 (S.label)], srcC L (sNk L (sNk L (sNk L k))), rfl, rfl, rfl, rfl, rfl, ⟨{ S with feats := S.feats.set jf (S.feats[jf].1, (sNv L (sNk L (sNk L k)) 4), S.feats[jf].2.2) }, Bent.feat _, sch_fg2 _ rfl rfl rfl rfl (feat_set1 hjfl _) (by simp) rfl⟩, _, hk3, rfl⟩
                  · refine AW.skip ?_
                    refine AW.weaken (St.le_pubA 2 rfl rfl) ?_
                    refine AW.weaken (St.le_pubA 3 rfl rfl) ?_
                    refine AW.weaken (St.le_pubA 4 rfl rfl) ?_
                    repeat refine AW.seq ?_
                    refine AW.region ?_
                    iterate 2 refine A1 rfl ?_
                    repeat refine AW.seq ?_
                    refine AW.ret ?_
                    exact ⟨1, _, [.sl (some false) S.attrs.length (attrsC S.attrs), .sl (some false) S.rels.length (relsC S.rels), .sl none S.feats.length (featsC S.feats), .int .i64 (S.label)], srcC L (sNk L k), rfl, rfl, rfl, rfl, rfl, ⟨{ S with label := S.label }, Bent.refl _ _, sch_fg2 _ rfl rfl rfl rfl rfl rfl rfl⟩, _, hk1, rfl⟩
end Go.Proofs.YtkalgjnhaicabaaGreat
namespace Go.Proofs.YtkalgjnhaicabaaGreat
open Go.RowKit Mk
set_option maxRecDepth 100000
set_option maxHeartbeats 20000000
theorem sane_spec : FnP Tryz.prog 6 [] (· = .bool true) := by
  refine FnP.of Tryz.func6 rfl Tryz.ntmps6 (by simp) fun m0 w0 F R0 => ?_
  repeat refine AW.seq ?_
  refine AW.region ?_
  refine A1 rfl ?_
  repeat refine AW.seq ?_
  refine AW.region ?_
  refine RL.step (d := some 6) rfl rfl (xj_call Tryz.call36 path_spec rfl) ?_
  refine RL.step (d := some 7) rfl rfl (xj_buildSliceP none (by simp) el22 rfl (by decide) (by decide) rfl rfl) ?_
  refine RL.step (d := some 8) rfl rfl (xj_call Tryz.call15 of_path rfl) ?_
  iterate 6 refine A1 rfl ?_
  repeat refine AW.seq ?_
  refine AW.draw follows [[], [], [1, 0], [2, 1, 0], [3, 2, 1, 0], [3, 2, 1, 0], [4, 3, 2, 1, 0], [6, 5, 3, 2, 1, 0, 4]] [0, 1, 2, 3, 4, 5, 6, 7] (by kernel_rfl) (by kernel_rfl) ?_
  refine DL.step (d := some 12) [] rfl rfl rfl (fun τ h => xj_call Tryz.call36 path_spec (h.argsP rfl)) rfl (by kernel_rfl) ?_
  refine D1 rfl rfl ?_
  refine DL.step (d := some 14) [] rfl rfl rfl (fun τ h => xj_call Tryz.call20 width_path (h.argsP rfl)) rfl (by kernel_rfl) ?_
  iterate 5 refine D1 rfl rfl ?_
  refine ⟨by kernel_rfl, ?_⟩
  refine AW.weaken (τ := mkS [(2, .pv (.int .i64 0)), (3, .pv (.int .i64 2)), (4, .pv (.int .i64 0)), (1, .ptr 0 0)] [(0, .mix 29 [.pv (pints pathP)])] 1) (St.le_mk ⟨rfl, rfl, rfl, rfl, trivial⟩ ⟨rfl, trivial⟩ rfl rfl) ?_
  repeat refine AW.seq ?_
  refine AW.draw follows [[], [0], [1, 0], [2, 1, 0], [3, 2, 1, 0], [4, 2, 1, 0, 3], [5, 4, 2, 1, 0, 3], [6, 5, 4, 2, 1, 0, 3], [7, 6, 5, 4, 2, 1, 0, 3], [8, 6, 5, 4, 2, 1, 0, 3, 7], [9, 8, 6, 5, 4, 2, 1, 0, 3, 7], [10, 9, 8, 6, 5, 4, 2, 1, 0, 3, 7], [11, 10, 9, 8, 6, 5, 4, 2, 1, 0, 3, 7], [10, 9, 8, 6, 5, 4, 2, 1, 0, 3, 7], [13, 12, 11, 10, 9, 8, 6, 5, 4, 2, 1, 0, 3, 7], [14, 10, 9, 8, 6, 5, 4, 2, 1, 0, 3, 7, 13, 12, 11], [15, 14, 10, 9, 8, 6, 5, 4, 2, 1, 0, 3, 7, 13, 12, 11], [16, 15, 14, 10, 9, 8, 6, 5, 4, 2, 1, 0, 3, 7, 13, 12, 11], [16, 15, 14, 10, 9, 8, 6, 5, 4, 2, 1, 0, 3, 7, 13, 12, 11], [18, 17, 16, 15, 14, 10, 9, 8, 6, 5, 4, 2, 1, 0, 3, 7, 13, 12, 11], [16, 15, 14, 10, 9, 8, 6, 5, 4, 2, 1, 0, 3, 7, 13, 12, 11], [20, 19, 18, 17, 16, 15, 14, 10, 9, 8, 6, 5, 4, 2, 1, 0, 3, 7, 13, 12, 11], [21, 16, 15, 14, 10, 9, 8, 6, 5, 4, 2, 1, 0, 3, 7, 13, 12, 11, 20, 19, 18, 17], [22, 21, 16, 15, 14, 10, 9, 8, 6, 5, 4, 2, 1, 0, 3, 7, 13, 12, 11, 20, 19, 18, 17], [23, 22, 21, 16, 15, 14, 10, 9, 8, 6, 5, 4, 2, 1, 0, 3, 7, 13, 12, 11, 20, 19, 18, 17], [23, 22, 21, 16, 15, 14, 10, 9, 8, 6, 5, 4, 2, 1, 0, 3, 7, 13, 12, 11, 20, 19, 18, 17], [25, 24, 23, 22, 21, 16, 15, 14, 10, 9, 8, 6, 5, 4, 2, 1, 0, 3, 7, 13, 12, 11, 20, 19, 18, 17], [23, 22, 21, 16, 15, 14, 10, 9, 8, 6, 5, 4, 2, 1, 0, 3, 7, 13, 12, 11, 20, 19, 18, 17], [27, 26, 25, 24, 23, 22, 21, 16, 15, 14, 10, 9, 8, 6, 5, 4, 2, 1, 0, 3, 7, 13, 12, 11, 20, 19, 18, 17], [28, 23, 22, 21, 16, 15, 14, 10, 9, 8, 6, 5, 4, 2, 1, 0, 3, 7, 13, 12, 11, 20, 19, 18, 17, 27, 26, 25, 24], [29, 28, 23, 22, 21, 16, 15, 14, 10, 9, 8, 6, 5, 4, 2, 1, 0, 3, 7, 13, 12, 11, 20, 19, 18, 17, 27, 26, 25, 24], [30, 29, 28, 23, 22, 21, 16, 15, 14, 10, 9, 8, 6, 5, 4, 2, 1, 0, 3, 7, 13, 12, 11, 20, 19, 18, 17, 27, 26, 25, 24], [30, 29, 28, 23, 22, 21, 16, 15, 14, 10, 9, 8, 6, 5, 4, 2, 1, 0, 3, 7, 13, 12, 11, 20, 19, 18, 17, 27, 26, 25, 24], [32, 31, 30, 29, 28, 23, 22, 21, 16, 15, 14, 10, 9, 8, 6, 5, 4, 2, 1, 0, 3, 7, 13, 12, 11, 20, 19, 18, 17, 27, 26, 25, 24], [33, 32, 31, 30, 29, 28, 23, 22, 21, 16, 15, 14, 10, 9, 8, 6, 5, 4, 2, 1, 0, 3, 7, 13, 12, 11, 20, 19, 18, 17, 27, 26, 25, 24], [34, 30, 29, 28, 23, 22, 21, 16, 15, 14, 10, 9, 8, 6, 5, 4, 2, 1, 0, 3, 7, 13, 12, 11, 20, 19, 18, 17, 27, 26, 25, 24, 33, 32, 31], [35, 34, 30, 29, 28, 23, 22, 21, 16, 15, 14, 10, 9, 8, 6, 5, 4, 2, 1, 0, 3, 7, 13, 12, 11, 20, 19, 18, 17, 27, 26, 25, 24, 33, 32, 31], [36, 35, 34, 30, 29, 28, 23, 22, 21, 16, 15, 14, 10, 9, 8, 6, 5, 4, 2, 1, 0, 3, 7, 13, 12, 11, 20, 19, 18, 17, 27, 26, 25, 24, 33, 32, 31], [36, 35, 34, 30, 29, 28, 23, 22, 21, 16, 15, 14, 10, 9, 8, 6, 5, 4, 2, 1, 0, 3, 7, 13, 12, 11, 20, 19, 18, 17, 27, 26, 25, 24, 33, 32, 31], [38, 37, 36, 35, 34, 30, 29, 28, 23, 22, 21, 16, 15, 14, 10, 9, 8, 6, 5, 4, 2, 1, 0, 3, 7, 13, 12, 11, 20, 19, 18, 17, 27, 26, 25, 24, 33, 32, 31], [36, 35, 34, 30, 29, 28, 23, 22, 21, 16, 15, 14, 10, 9, 8, 6, 5, 4, 2, 1, 0, 3, 7, 13, 12, 11, 20, 19, 18, 17, 27, 26, 25, 24, 33, 32, 31], [40, 39, 38, 37, 36, 35, 34, 30, 29, 28, 23, 22, 21, 16, 15, 14, 10, 9, 8, 6, 5, 4, 2, 1, 0, 3, 7, 13, 12, 11, 20, 19, 18, 17, 27, 26, 25, 24, 33, 32, 31], [41, 36, 35, 34, 30, 29, 28, 23, 22, 21, 16, 15, 14, 10, 9, 8, 6, 5, 4, 2, 1, 0, 3, 7, 13, 12, 11, 20, 19, 18, 17, 27, 26, 25, 24, 33, 32, 31, 40, 39, 38, 37], [42, 41, 36, 35, 34, 30, 29, 28, 23, 22, 21, 16, 15, 14, 10, 9, 8, 6, 5, 4, 2, 1, 0, 3, 7, 13, 12, 11, 20, 19, 18, 17, 27, 26, 25, 24, 33, 32, 31, 40, 39, 38, 37], [43, 42, 41, 36, 35, 34, 30, 29, 28, 23, 22, 21, 16, 15, 14, 10, 9, 8, 6, 5, 4, 2, 1, 0, 3, 7, 13, 12, 11, 20, 19, 18, 17, 27, 26, 25, 24, 33, 32, 31, 40, 39, 38, 37], [43, 42, 41, 36, 35, 34, 30, 29, 28, 23, 22, 21, 16, 15, 14, 10, 9, 8, 6, 5, 4, 2, 1, 0, 3, 7, 13, 12, 11, 20, 19, 18, 17, 27, 26, 25, 24, 33, 32, 31, 40, 39, 38, 37], [45, 44, 43, 42, 41, 36, 35, 34, 30, 29, 28, 23, 22, 21, 16, 15, 14, 10, 9, 8, 6, 5, 4, 2, 1, 0, 3, 7, 13, 12, 11, 20, 19, 18, 17, 27, 26, 25, 24, 33, 32, 31, 40, 39, 38, 37], [43, 42, 41, 36, 35, 34, 30, 29, 28, 23, 22, 21, 16, 15, 14, 10, 9, 8, 6, 5, 4, 2, 1, 0, 3, 7, 13, 12, 11, 20, 19, 18, 17, 27, 26, 25, 24, 33, 32, 31, 40, 39, 38, 37], [47, 46, 45, 44, 43, 42, 41, 36, 35, 34, 30, 29, 28, 23, 22, 21, 16, 15, 14, 10, 9, 8, 6, 5, 4, 2, 1, 0, 3, 7, 13, 12, 11, 20, 19, 18, 17, 27, 26, 25, 24, 33, 32, 31, 40, 39, 38, 37], [48, 43, 42, 41, 36, 35, 34, 30, 29, 28, 23, 22, 21, 16, 15, 14, 10, 9, 8, 6, 5, 4, 2, 1, 0, 3, 7, 13, 12, 11, 20, 19, 18, 17, 27, 26, 25, 24, 33, 32, 31, 40, 39, 38, 37, 47, 46, 45, 44], [49, 48, 43, 42, 41, 36, 35, 34, 30, 29, 28, 23, 22, 21, 16, 15, 14, 10, 9, 8, 6, 5, 4, 2, 1, 0, 3, 7, 13, 12, 11, 20, 19, 18, 17, 27, 26, 25, 24, 33, 32, 31, 40, 39, 38, 37, 47, 46, 45, 44], [50, 49, 48, 43, 42, 41, 36, 35, 34, 30, 29, 28, 23, 22, 21, 16, 15, 14, 10, 9, 8, 6, 5, 4, 2, 1, 0, 3, 7, 13, 12, 11, 20, 19, 18, 17, 27, 26, 25, 24, 33, 32, 31, 40, 39, 38, 37, 47, 46, 45, 44], [50, 49, 48, 43, 42, 41, 36, 35, 34, 30, 29, 28, 23, 22, 21, 16, 15, 14, 10, 9, 8, 6, 5, 4, 2, 1, 0, 3, 7, 13, 12, 11, 20, 19, 18, 17, 27, 26, 25, 24, 33, 32, 31, 40, 39, 38, 37, 47, 46, 45, 44], [52, 51, 50, 49, 48, 43, 42, 41, 36, 35, 34, 30, 29, 28, 23, 22, 21, 16, 15, 14, 10, 9, 8, 6, 5, 4, 2, 1, 0, 3, 7, 13, 12, 11, 20, 19, 18, 17, 27, 26, 25, 24, 33, 32, 31, 40, 39, 38, 37, 47, 46, 45, 44], [53, 52, 51, 50, 49, 48, 43, 42, 41, 36, 35, 34, 30, 29, 28, 23, 22, 21, 16, 15, 14, 10, 9, 8, 6, 5, 4, 2, 1, 0, 3, 7, 13, 12, 11, 20, 19, 18, 17, 27, 26, 25, 24, 33, 32, 31, 40, 39, 38, 37, 47, 46, 45, 44], [54, 50, 49, 48, 43, 42, 41, 36, 35, 34, 30, 29, 28, 23, 22, 21, 16, 15, 14, 10, 9, 8, 6, 5, 4, 2, 1, 0, 3, 7, 13, 12, 11, 20, 19, 18, 17, 27, 26, 25, 24, 33, 32, 31, 40, 39, 38, 37, 47, 46, 45, 44, 53, 52, 51], [55, 54, 50, 49, 48, 43, 42, 41, 36, 35, 34, 30, 29, 28, 23, 22, 21, 16, 15, 14, 10, 9, 8, 6, 5, 4, 2, 1, 0, 3, 7, 13, 12, 11, 20, 19, 18, 17, 27, 26, 25, 24, 33, 32, 31, 40, 39, 38, 37, 47, 46, 45, 44, 53, 52, 51]] [0, 1, 2, 3, 4, 5, 6, 7, 8, 9, 10, 11, 12, 13, 14, 15, 16, 17, 18, 19, 20, 21, 22, 23, 24, 25, 26, 27, 28, 29, 30, 31, 32, 33, 34, 35, 36, 37, 38, 39, 40, 41, 42, 43, 44, 45, 46, 47, 48, 49, 50, 51, 52, 53, 54, 55, 56] (by kernel_rfl) (by kernel_rfl) ?_
  refine DL.step (d := some 17) [] rfl rfl rfl (fun τ h => xj_moveE (v := .pv (.int .i64 0)) ((h.e 0 _ rfl).trans rfl)) rfl (by kernel_rfl) ?_
  refine DL.step (d := some 18) [] rfl rfl rfl (fun τ h => (xj_bin ((h.e 0 _ rfl).trans rfl) ((h.e 1 _ rfl).trans rfl) rfl).cast (v' := .pv (.bool true)) rfl) rfl (by kernel_rfl) ?_
  refine DL.step (d := some 19) [] rfl rfl rfl (fun τ h => xj_moveE (v := .pv (.bool true)) ((h.e 0 _ rfl).trans rfl)) rfl (by kernel_rfl) ?_
  refine DL.stepG (d := some 20) [] rfl rfl rfl rfl (fun τ h => xj_moveE (v := .pv (.int .i64 0)) ((h.e 0 _ rfl).trans rfl)) rfl (by kernel_rfl) ?_
  refine DL.stepG (d := some 21) [] rfl rfl rfl rfl (fun τ h => (xj_bin ((h.e 0 _ rfl).trans rfl) ((h.e 1 _ rfl).trans rfl) rfl).cast (v' := .pv (.bool true)) rfl) rfl (by kernel_rfl) ?_
  refine DL.step (d := some 22) [] rfl rfl rfl (fun τ h => xj_pickT ((h.e 0 _ rfl).trans rfl) ((h.e 1 _ rfl).trans rfl)) rfl (by kernel_rfl) ?_
  refine DL.step (d := some 23) [] rfl rfl rfl (fun τ h => xj_moveE (v := .pv (.bool true)) ((h.e 0 _ rfl).trans rfl)) rfl (by kernel_rfl) ?_
  refine DL.stepG (d := some 24) [] rfl rfl rfl rfl (fun τ h => xj_moveE (v := .pv (.int .i64 2)) ((h.e 0 _ rfl).trans rfl)) rfl (by kernel_rfl) ?_
  refine DL.stepG (d := some 25) [] rfl rfl rfl rfl (fun τ h => (xj_bin ((h.e 0 _ rfl).trans rfl) ((h.e 1 _ rfl).trans rfl) rfl).cast (v' := .pv (.bool true)) rfl) rfl (by kernel_rfl) ?_
  refine DL.step (d := some 26) [] rfl rfl rfl (fun τ h => xj_pickT ((h.e 0 _ rfl).trans rfl) ((h.e 1 _ rfl).trans rfl)) rfl (by kernel_rfl) ?_
  refine DL.step (d := some 27) [] rfl rfl rfl (fun τ h => xj_moveE (v := .pv (.bool true)) ((h.e 0 _ rfl).trans rfl)) rfl (by kernel_rfl) ?_
  refine D1 rfl rfl ?_
  refine DL.stepG (d := some 29) [_] rfl rfl rfl rfl (fun τ h => xj_load1 ⟨_, Tryz.underlying22, rfl⟩ (v := .pv (pints pathP)) ((h.e 0 _ rfl).trans rfl) ((h.o 0 _ rfl).trans rfl) rfl) rfl (by kernel_rfl) ?_
  refine DL.stepG (d := some 30) [] rfl rfl rfl rfl (fun τ h => xj_buildSliceP none (by simp) el22 rfl (by decide) (by decide) (h.fillS rfl rfl) rfl) rfl (by kernel_rfl) ?_
  refine DL.stepG (d := some 31) [] rfl rfl rfl rfl (fun τ h => xj_call Tryz.call13 (ints_same pathP (by decide)) (h.argsP rfl)) rfl (by kernel_rfl) ?_
  refine DL.step (d := some 32) [] rfl rfl rfl (fun τ h => xj_pickT ((h.e 0 _ rfl).trans rfl) ((h.e 1 _ rfl).trans rfl)) rfl (by kernel_rfl) ?_
  refine DL.step (d := some 33) [] rfl rfl rfl (fun τ h => xj_moveE (v := .pv (.bool true)) ((h.e 0 _ rfl).trans rfl)) rfl (by kernel_rfl) ?_
  refine DL.stepG (d := some 34) [] rfl rfl rfl rfl (fun τ h => xj_call Tryz.call36 path_spec (h.argsP rfl)) rfl (by kernel_rfl) ?_
  refine DL.stepG (d := some 35) [_] rfl rfl rfl rfl (fun τ h => xj_loadA ⟨_, Tryz.underlying29, rfl⟩ sz29 (vs := [.pv (pints pathP)]) ((h.e 0 _ rfl).trans rfl) ((h.o 0 _ rfl).trans rfl) rfl rfl) rfl (by kernel_rfl) ?_
  refine DL.stepG (d := some 36) [] rfl rfl rfl rfl (fun τ h => xj_call Tryz.call27 key_path (h.argsP rfl)) rfl (by kernel_rfl) ?_
  refine DL.stepG (d := some 37) [] rfl rfl rfl rfl (fun τ h => xj_buildSliceP none (by simp) el22 rfl (by decide) (by decide) (h.fillS rfl rfl) rfl) rfl (by kernel_rfl) ?_
  refine DL.stepG (d := some 38) [] rfl rfl rfl rfl (fun τ h => xj_call Tryz.call13 (ints_same [1] (by decide)) (h.argsP rfl)) rfl (by kernel_rfl) ?_
  refine DL.step (d := some 39) [] rfl rfl rfl (fun τ h => xj_pickT ((h.e 0 _ rfl).trans rfl) ((h.e 1 _ rfl).trans rfl)) rfl (by kernel_rfl) ?_
  refine DL.step (d := some 40) [] rfl rfl rfl (fun τ h => xj_moveE (v := .pv (.bool true)) ((h.e 0 _ rfl).trans rfl)) rfl (by kernel_rfl) ?_
  refine DL.stepG (d := some 41) [] rfl rfl rfl rfl (fun τ h => xj_call Tryz.call36 path_spec (h.argsP rfl)) rfl (by kernel_rfl) ?_
  refine DL.stepG (d := some 42) [_] rfl rfl rfl rfl (fun τ h => xj_loadA ⟨_, Tryz.underlying29, rfl⟩ sz29 (vs := [.pv (pints pathP)]) ((h.e 0 _ rfl).trans rfl) ((h.o 0 _ rfl).trans rfl) rfl rfl) rfl (by kernel_rfl) ?_
  refine DL.stepG (d := some 43) [] rfl rfl rfl rfl (fun τ h => xj_call Tryz.call31 chi_path (h.argsP rfl)) rfl (by kernel_rfl) ?_
  refine DL.stepG (d := some 44) [] rfl rfl rfl rfl (fun τ h => xj_buildSliceP none (by simp) el22 rfl (by decide) (by decide) (h.fillS rfl rfl) rfl) rfl (by kernel_rfl) ?_
  refine DL.stepG (d := some 45) [] rfl rfl rfl rfl (fun τ h => xj_call Tryz.call13 (ints_same [0, 2] (by decide)) (h.argsP rfl)) rfl (by kernel_rfl) ?_
  refine DL.step (d := some 46) [] rfl rfl rfl (fun τ h => xj_pickT ((h.e 0 _ rfl).trans rfl) ((h.e 1 _ rfl).trans rfl)) rfl (by kernel_rfl) ?_
  refine DL.step (d := some 47) [] rfl rfl rfl (fun τ h => xj_moveE (v := .pv (.bool true)) ((h.e 0 _ rfl).trans rfl)) rfl (by kernel_rfl) ?_
  refine DL.stepG (d := some 48) [] rfl rfl rfl rfl (fun τ h => xj_call Tryz.call36 path_spec (h.argsP rfl)) rfl (by kernel_rfl) ?_
  refine DL.stepG (d := some 49) [_] rfl rfl rfl rfl (fun τ h => xj_loadA ⟨_, Tryz.underlying29, rfl⟩ sz29 (vs := [.pv (pints pathP)]) ((h.e 0 _ rfl).trans rfl) ((h.o 0 _ rfl).trans rfl) rfl rfl) rfl (by kernel_rfl) ?_
  refine DL.stepG (d := some 50) [] rfl rfl rfl rfl (fun τ h => xj_call Tryz.call33 home_path (h.argsP rfl)) rfl (by kernel_rfl) ?_
  refine DL.stepG (d := some 51) [] rfl rfl rfl rfl (fun τ h => (xj_bin ((h.e 0 _ rfl).trans rfl) ((h.e 1 _ rfl).trans rfl) rfl).cast (v' := .pv (.bool true)) rfl) rfl (by kernel_rfl) ?_
  refine DL.step (d := some 52) [] rfl rfl rfl (fun τ h => xj_pickT ((h.e 0 _ rfl).trans rfl) ((h.e 1 _ rfl).trans rfl)) rfl (by kernel_rfl) ?_
  refine DL.step (d := some 53) [] rfl rfl rfl (fun τ h => xj_moveE (v := .pv (.bool true)) ((h.e 0 _ rfl).trans rfl)) rfl (by kernel_rfl) ?_
  refine DL.stepG (d := some 54) [] rfl rfl rfl rfl (fun τ h => xj_call Tryz.call36 path_spec (h.argsP rfl)) rfl (by kernel_rfl) ?_
  refine DL.stepG (d := some 55) [_] rfl rfl rfl rfl (fun τ h => xj_loadA ⟨_, Tryz.underlying29, rfl⟩ sz29 (vs := [.pv (pints pathP)]) ((h.e 0 _ rfl).trans rfl) ((h.o 0 _ rfl).trans rfl) rfl rfl) rfl (by kernel_rfl) ?_
  refine DL.stepG (d := some 56) [] rfl rfl rfl rfl (fun τ h => xj_call Tryz.call24 walk_path (h.argsP rfl)) rfl (by kernel_rfl) ?_
  refine DL.stepG (d := some 57) [] rfl rfl rfl rfl (fun τ h => xj_buildSliceP none (by simp) el22 rfl (by decide) (by decide) (h.fillS rfl rfl) rfl) rfl (by kernel_rfl) ?_
  refine DL.stepG (d := some 58) [] rfl rfl rfl rfl (fun τ h => xj_call Tryz.call13 (ints_same [1, 0, 2] (by decide)) (h.argsP rfl)) rfl (by kernel_rfl) ?_
  refine DL.step (d := some 59) [] rfl rfl rfl (fun τ h => xj_pickT ((h.e 0 _ rfl).trans rfl) ((h.e 1 _ rfl).trans rfl)) rfl (by kernel_rfl) ?_
  refine DL.step (d := some 60) [] rfl rfl rfl (fun τ h => xj_moveE (v := .pv (.bool true)) ((h.e 0 _ rfl).trans rfl)) rfl (by kernel_rfl) ?_
  refine DL.stepG (d := some 61) [] rfl rfl rfl rfl (fun τ h => xj_call Tryz.call36 path_spec (h.argsP rfl)) rfl (by kernel_rfl) ?_
  refine DL.stepG (d := some 62) [_] rfl rfl rfl rfl (fun τ h => xj_loadA ⟨_, Tryz.underlying29, rfl⟩ sz29 (vs := [.pv (pints pathP)]) ((h.e 0 _ rfl).trans rfl) ((h.o 0 _ rfl).trans rfl) rfl rfl) rfl (by kernel_rfl) ?_
  refine DL.stepG (d := some 63) [] rfl rfl rfl rfl (fun τ h => xj_call Tryz.call29 below_path (h.argsP rfl)) rfl (by kernel_rfl) ?_
  refine DL.stepG (d := some 64) [] rfl rfl rfl rfl (fun τ h => xj_buildSliceP none (by simp) el22 rfl (by decide) (by decide) (h.fillS rfl rfl) rfl) rfl (by kernel_rfl) ?_
  refine DL.stepG (d := some 65) [] rfl rfl rfl rfl (fun τ h => xj_call Tryz.call13 (ints_same [0, 1, 2] (by decide)) (h.argsP rfl)) rfl (by kernel_rfl) ?_
  refine DL.step (d := some 66) [] rfl rfl rfl (fun τ h => xj_pickT ((h.e 0 _ rfl).trans rfl) ((h.e 1 _ rfl).trans rfl)) rfl (by kernel_rfl) ?_
  refine DL.step (d := some 67) [] rfl rfl rfl (fun τ h => xj_moveE (v := .pv (.bool true)) ((h.e 0 _ rfl).trans rfl)) rfl (by kernel_rfl) ?_
  refine DL.stepG (d := some 68) [] rfl rfl rfl rfl (fun τ h => xj_call Tryz.call36 path_spec (h.argsP rfl)) rfl (by kernel_rfl) ?_
  refine DL.stepG (d := some 69) [_] rfl rfl rfl rfl (fun τ h => xj_loadA ⟨_, Tryz.underlying29, rfl⟩ sz29 (vs := [.pv (pints pathP)]) ((h.e 0 _ rfl).trans rfl) ((h.o 0 _ rfl).trans rfl) rfl rfl) rfl (by kernel_rfl) ?_
  refine DL.stepG (d := some 70) [] rfl rfl rfl rfl (fun τ h => xj_call Tryz.call22 chk_path (h.argsP rfl)) rfl (by kernel_rfl) ?_
  refine DL.stepG (d := some 71) [] rfl rfl rfl rfl (fun τ h => (xj_bin ((h.e 0 _ rfl).trans rfl) ((h.e 1 _ rfl).trans rfl) rfl).cast (v' := .pv (.bool true)) rfl) rfl (by kernel_rfl) ?_
  refine DL.step (d := some 72) [] rfl rfl rfl (fun τ h => xj_pickT ((h.e 0 _ rfl).trans rfl) ((h.e 1 _ rfl).trans rfl)) rfl (by kernel_rfl) ?_
  refine D1 rfl rfl ?_
  refine ⟨by kernel_rfl, ?_⟩
  repeat refine AW.seq ?_
  refine AW.ret ?_
  exact ⟨_, _, rfl, rfl, rfl⟩
end Go.Proofs.YtkalgjnhaicabaaGreat
namespace Go.Proofs.YtkalgjnhaicabaaGreat
open Go.RowKit Mk
set_option maxRecDepth 100000
set_option maxHeartbeats 4000000
theorem rsame_spec (P Q : List Int) (h1 : P.length ≤ 1000000) (h2 : Q.length ≤ 1000000) : FnP Tryz.prog 12 [ordP P, ordP Q] (· = .bool (decide (P = Q))) := by
  refine FnP.of Tryz.func12 rfl Tryz.ntmps12 (by simp) fun m0 w0 F R0 => ?_
  repeat refine AW.seq ?_
  refine AW.region ?_
  iterate 3 refine A1 rfl ?_
  repeat refine AW.seq ?_
  refine AW.region ?_
  iterate 4 refine A1 rfl ?_
  refine RL.step (d := some 9) rfl rfl (xj_call Tryz.call13 (ints_spec P Q (by omega) (by omega)) rfl) ?_
  refine A1 rfl ?_
  repeat refine AW.seq ?_
  refine AW.ret ?_
  exact ⟨_, _, rfl, rfl, rfl⟩
end Go.Proofs.YtkalgjnhaicabaaGreat
namespace Go.Proofs.YtkalgjnhaicabaaGreat
open Go.RowKit Mk
set_option maxRecDepth 100000
set_option maxHeartbeats 4000000
theorem ex_least (Y : Sch) (hY : SB Y) : ∃ (P0 p0 : List Int) (e0 : Int), P0.length ≤ 12 ∧ p0.length ≤ 12 ∧ FnP Tryz.prog 10 [schP Y] (· = .tup [ordP P0, pints p0, .int .i64 e0]) ∧ FnP Tryz.prog 11 [schP Y] (· = .tup [ordP P0, pints p0, .int .i64 e0]) := by
  have h1 := oleast_spec Y hY
  have h2 := rleast_spec Y hY
  by_cases h0 : checkE Y = 0
  · rw [if_pos h0] at h1 h2
    have hV := valid_of h0
    have hn := hV.n2
    refine ⟨_, _, _, ?_, ?_, h1, h2⟩
    · rw [ordL_len]; exact hn
    · rw [(ouLeast_sp Y hY hV).1.length_eq, upZ_len]; exact hn
  · rw [if_neg h0] at h1 h2
    exact ⟨_, _, _, by simp, by simp, h1, h2⟩
theorem ex_of (Y : Sch) (hY : SB Y) (q : List Int) (hq : q.length ≤ 1000000) : ∃ (P : List Int) (e : Int), P.length ≤ 1000000 ∧ FnP Tryz.prog 15 [schP Y, pints q] (· = .tup [ordP P, .int .i64 e]) ∧ FnP Tryz.prog 16 [schP Y, pints q] (· = .tup [ordP P, .int .i64 e]) := by
  refine ⟨_, _, ?_, oof_spec Y hY q hq, rOf_spec Y hY q hq⟩
  have := hY.a
  split
  · rw [ordL_len]; exact hY.a
  · simp
theorem ex_ord (Y : Sch) (hY : SB Y) (P : List Int) (hP : P.length ≤ 1000000) : ∃ (w e e2 : Int) (wk : List Int), wk.length ≤ 1000000 ∧ FnP Tryz.prog 20 [schP Y, ordP P] (· = .tup [.int .i64 w, .int .i64 e]) ∧ FnP Tryz.prog 21 [schP Y, ordP P] (· = .tup [.int .i64 w, .int .i64 e]) ∧
    FnP Tryz.prog 22 [schP Y, ordP P] (· = .int .i64 e2) ∧ FnP Tryz.prog 23 [schP Y, ordP P] (· = .int .i64 e2) ∧ FnP Tryz.prog 24 [schP Y, ordP P] (· = pints wk) ∧ FnP Tryz.prog 25 [schP Y, ordP P] (· = pints wk) := by
  refine ⟨_, _, _, _, ?_, width_spec Y hY P hP, rwidth_spec Y hY P hP, ocheck_spec Y hY P hP, rochk_spec Y hY P hP, owalk_spec Y hY P hP, rWalk_spec Y hY P hP⟩
  split
  · rename_i h
    rw [walkL_len (ordE_zero.1 h).2.upOk]; exact hP
  · simp
theorem ex_at (Y : Sch) (hY : SB Y) (P : List Int) (hP : P.length ≤ 1000000) (a : Int) : ∃ (K B D : List Int) (h : Int), K.length ≤ 1000000 ∧ B.length ≤ 1000000 ∧ D.length ≤ 1000000 ∧
    FnP Tryz.prog 27 [schP Y, ordP P, .int .i64 a] (· = pints K) ∧ FnP Tryz.prog 28 [schP Y, ordP P, .int .i64 a] (· = pints K) ∧
    FnP Tryz.prog 29 [schP Y, ordP P, .int .i64 a] (· = pints B) ∧ FnP Tryz.prog 30 [schP Y, ordP P, .int .i64 a] (· = pints B) ∧
    FnP Tryz.prog 31 [schP Y, ordP P, .int .i64 a] (· = pints D) ∧ FnP Tryz.prog 32 [schP Y, ordP P, .int .i64 a] (· = pints D) ∧
    FnP Tryz.prog 33 [schP Y, ordP P, .int .i64 a] (· = .int .i64 h) ∧ FnP Tryz.prog 34 [schP Y, ordP P, .int .i64 a] (· = .int .i64 h) := by
  refine ⟨_, _, _, _, ?_, ?_, ?_, keyU_spec Y hY P hP a, rkey_spec Y hY P hP a, belowU_spec Y hY P hP a, FnP.fg2 ((rbelow_spec Y hY P hP a).mono fun v e => by subst e; split <;> rfl), children_spec Y hY P hP a, rchildren_spec Y hY P hP a, home_spec Y hY P hP a, rhome_spec Y hY P hP a⟩
  · split
    · unfold keyL; rw [(sortI_perm _).length_eq]; exact Nat.le_trans (List.length_filter_le _ _) (Nat.le_trans (abvL_len P _) hP)
    · simp
  · split
    · unfold belowL; exact Nat.le_trans (List.length_filter_le _ _) (by simpa using hP)
    · simp
  · split
    · simp
    · unfold childL; exact Nat.le_trans (List.length_filter_le _ _) (by rw [upZ_len]; exact hP)
theorem shuffleZ_spec (L : List Int) (k n : Nat) (hL : L.length ≤ 600) (hk : k ≤ L.length) (hn2 : n ≤ 1000) : FnM Tryz.prog 14 66 (srcC L k) [.int .i64 n] (fun v c => (∃ q : List Int, q.length = n ∧ v = pints q) ∧ ∃ k', k' ≤ L.length ∧ c = srcC L k') := by
  rcases Nat.eq_zero_or_pos n with rfl | hn
  · exact (shuffle0_spec L k hL hk).mono fun v c ⟨h1, h2⟩ => ⟨⟨[], rfl, h1⟩, k, hk, h2⟩
  · exact (shuffle_spec L k n hL hk hn hn2).mono fun v c ⟨⟨q, hq, h1⟩, h2⟩ => ⟨⟨q, by rw [hq.length_eq, upZ_len], h1⟩, h2⟩
theorem same_same (l : List Int) (hl : l.length ≤ 1000000) : FnP Tryz.prog 12 [ordP l, ordP l] (· = .bool true) := by
  have := rsame_spec l l hl hl
  rwa [decide_eq_true rfl] at this
/-- What is known of the schemas that the statement runs over. -/
def YOk (Y : Sch) : Prop := SB Y ∧ Y.attrs.length ≤ 7
theorem orderExact_spec (t : List Int) (Sr : Sch) (Po list : List Int) (v : Int) (ht : t.length ≤ 9223372036854775807) (h1 : Sr.attrs.length ≤ 9223372036854775807) (h2 : Sr.rels.length ≤ 9223372036854775807) (h3 : Sr.feats.length ≤ 9223372036854775807)
    (h4 : ∀ r ∈ Sr.rels, r.2.length ≤ 9223372036854775807) (h5 : ∀ x ∈ Sr.attrs, x.1.size ≤ 9223372036854775807) (h6 : ∀ x ∈ Sr.rels, x.1.size ≤ 9223372036854775807) (hPo : Po.length ≤ 9223372036854775807) (hlist : list.length ≤ 9223372036854775807) :
    FnP Tryz.prog 3 [pints t, schP Sr, ordP Po, pints list, .int .i64 v] (· = .bool true) := by
  refine FnP.of Tryz.func3 rfl Tryz.ntmps3 (by simp) fun m0 w0 F R0 => ?_
  have hsm := small_spec Sr h1 h2 h3 h4
  repeat refine AW.seq ?_
  refine AW.region ?_
  iterate 3 refine A1 rfl ?_
  repeat refine AW.seq ?_
  refine AW.region ?_
  iterate 4 refine A1 rfl ?_
  apply RL.orB 4 38 42 [39, 40, 41] rfl (by first | exact MonoK.le | exact MonoK.aw | exact MonoK.back)
  · intro hb3
    iterate 4 refine A1 rfl ?_
    exact St.le_fg (fEq.upd (fEq.upd (fEq.upd (fEq.upd (fEq.upd (fEq.refl) rfl) rfl) rfl) rfl) rfl) rfl rfl rfl
  · intro hb3
    refine A1 rfl ?_
    refine RL.stepG (d := some 40) rfl rfl rfl (xj_call Tryz.call5 hsm rfl) ?_
    iterate 2 refine A1 rfl ?_
    exact St.le_fg (fEq.upd (fEq.upd (fEq.upd (fEq.upd (fEq.upd (fEq.refl) rfl) rfl) rfl) rfl) rfl) rfl rfl rfl
  refine A1 rfl ?_
  apply RL.orB 5 43 48 [44, 45, 46, 47] rfl (by first | exact MonoK.le | exact MonoK.aw | exact MonoK.back)
  · intro hb8
    iterate 5 refine A1 rfl ?_
    exact St.le_fg (fEq.upd (fEq.upd (fEq.upd (fEq.upd (fEq.upd (fEq.upd (fEq.refl) rfl) rfl) rfl) rfl) rfl) rfl) rfl rfl rfl
  · intro hb8
    iterate 5 refine A1 rfl ?_
    exact St.le_fg (fEq.upd (fEq.upd (fEq.upd (fEq.upd (fEq.upd (fEq.upd (fEq.refl) rfl) rfl) rfl) rfl) rfl) rfl) rfl rfl rfl
  refine A1 rfl ?_
  apply RL.orB 4 49 53 [50, 51, 52] rfl (by first | exact MonoK.le | exact MonoK.aw | exact MonoK.back)
  · intro hb14
    iterate 4 refine A1 rfl ?_
    exact St.le_fg (fEq.upd (fEq.upd (fEq.upd (fEq.upd (fEq.upd (fEq.refl) rfl) rfl) rfl) rfl) rfl) rfl rfl rfl
  · intro hb14
    iterate 4 refine A1 rfl ?_
    exact St.le_fg (fEq.upd (fEq.upd (fEq.upd (fEq.upd (fEq.upd (fEq.refl) rfl) rfl) rfl) rfl) rfl) rfl rfl rfl
  repeat refine AW.seq ?_
  refine AW.cond rfl (fun hc53 => ?_) (fun hc53 => ?_)
  · repeat refine AW.seq ?_
    refine AW.region ?_
    refine RL.step (d := some 54) rfl rfl (xj_call Tryz.call6 sane_spec rfl) ?_
    refine A1 rfl ?_
    repeat refine AW.seq ?_
    refine AW.ret ?_
    exact ⟨_, _, rfl, rfl, rfl⟩
  · have hL : t.length ≤ 400 ∧ smallB Sr = true ∧ Po.length ≤ 10 ∧ list.length ≤ 10 := by
      simp only [Bool.or_eq_false_iff, decide_eq_false_iff_not, Bool.not_eq_false'] at hc53
      exact ⟨by omega, hc53.1.1.2, by omega, by omega⟩
    obtain ⟨hL, hsmall, hPo10, hl10⟩ := hL
    have hYr : YOk Sr := small_SB hsmall h5 h6
    refine AW.skip ?_
    repeat refine AW.seq ?_
    refine AW.region ?_
    refine A1 rfl ?_
    refine RL.call rfl (oj_callF1 [] 2 Tryz.call7 (new_spec t (by omega)) rfl rfl rfl rfl trivial (by decide) rfl ?_)
    rintro _ _ ⟨rfl, rfl⟩
    refine A1 rfl ?_
    repeat refine AW.seq ?_
    refine AW.region ?_
    refine A1 rfl ?_
    refine RL.call rfl (oj_callM Tryz.call8 (schema_spec t 0 6 (by omega) (by omega) (by omega) (by omega)) rfl rfl ?_)
    rintro _ _ ⟨⟨S, hM, rfl⟩, k1, hk1, rfl⟩
    have h0 := made_check hM (by omega)
    have hV := valid_of h0
    have hSB := made_SB hM (by omega)
    have hn6 : S.attrs.length ≤ 6 := hM.a2
    have hn1 := hV.n1
    have hr1 := hM.r1
    have hr2 := hM.r2
    have hfl := featsOk_len hM.fs
    iterate 2 refine A1 rfl ?_
    repeat refine AW.seq ?_
    refine AW.draw follows [[], [], [], [2, 1], [], [4, 3, 0, 2, 1], []] [0, 1, 2, 4, 6, 3, 5] (by kernel_rfl) (by kernel_rfl) ?_
    iterate 5 refine D1 rfl rfl ?_
    refine DL.rel (RM 66 2 (fun v c => (∃ S' : Sch, Bent S S' ∧ v = schP S') ∧ ∃ k', k' ≤ t.length ∧ c = srcC t k')) [2] [] [2] rfl rfl rfl (fun τ h => relM Tryz.call9 (bentSchema_spec t k1 (by omega) hk1 S hn1 (by omega) (by omega) (by omega) (by omega)) (h.args.trans rfl) ((h.o 0 _ rfl).trans rfl)) rfl (by kernel_rfl) (by kernel_rfl) (by kernel_rfl) ?_
    rintro _ ⟨_, _, ⟨⟨Sb, hB, rfl⟩, k2, hk2, rfl⟩, rfl⟩ _ _
    have hYb : YOk Sb := ⟨hB.SB hSB (by omega) (by omega) (by omega), by have := hB.a2; omega⟩
    have hget : ∀ i : Nat, i < 3 → ∃ Y, YOk Y ∧ ((schC S ++ (schC Sb ++ schC Sr)).drop (i * 4)).take 4 = schC Y := fun i hi => (match i with | 0 => ⟨S, ⟨hSB, by omega⟩, rfl⟩ | 1 => ⟨Sb, hYb, rfl⟩ | 2 => ⟨Sr, hYr, rfl⟩ | k + 3 => absurd hi (by omega))
    refine D1 rfl rfl ?_
    refine ⟨by kernel_rfl, ?_⟩
    repeat refine AW.seq ?_
    refine AW.block ?_
    repeat refine AW.seq ?_
    refine AW.loop (st := fun x_0 : Nat × Nat => mkS [(3, .pv (pints list)), (4, .pv (.int .i64 v)), (7, .ptr 1 0), (11, .ptr 2 0), (12, .ptr 3 0), (64, .pv (.agg (schC S ++ (schC Sb ++ schC Sr)))), (65, .pv (.int .i64 x_0.1))] [(1, .mix 29 [.pv (pints Po)]), (2, srcO t x_0.2), (3, .mix 27 [.pv (.sl none S.attrs.length (attrsC S.attrs)), .pv (.sl none S.rels.length (relsC S.rels)), .pv (.sl none S.feats.length (featsC S.feats)), .pv (.int .i64 S.label)])] 4)
      (I := fun x_0 => x_0.1 ≤ 3 ∧ x_0.2 ≤ t.length) (μ := fun x_0 => 3 - x_0.1) (x0 := (0, k2)) (St.le_mk ⟨rfl, rfl, rfl, rfl, rfl, rfl, rfl, trivial⟩ ⟨rfl, rfl, rfl, trivial⟩ rfl rfl) (⟨Nat.zero_le _, hk2⟩) ?_
    rintro ⟨i, k3⟩ ⟨hi, hk3⟩
    try simp only at hi hk3 ⊢
    repeat refine AW.seq ?_
    refine AW.region ?_
    refine A1 rfl ?_
    repeat refine AW.seq ?_
    refine AW.condP rfl (fun hc66 => ?_) (fun hc66 => ?_)
    · have hi3 : i < 3 := by omega
      obtain ⟨Y, ⟨hY, hY7⟩, hYi⟩ := hget i hi3
      obtain ⟨P0, p0, e0, hP0, hp0, hle1, hle2⟩ := ex_least Y hY
      refine AW.skip ?_
      repeat refine AW.seq ?_
      refine AW.block ?_
      repeat refine AW.seq ?_
      refine AW.region ?_
      refine RL.step (d := some 67) rfl rfl (xj_indexAP i Tryz.underlying36 sz27 ⟨_, Tryz.underlying27, rfl⟩ rfl rfl rfl hi3 hYi) ?_
      iterate 2 refine A1 rfl ?_
      repeat refine AW.seq ?_
      refine AW.region ?_
      refine A1 rfl ?_
      refine RL.step (d := some 70) rfl rfl (xj_call Tryz.call10 hle1 rfl) ?_
      iterate 8 refine A1 rfl ?_
      repeat refine AW.seq ?_
      refine AW.region ?_
      refine A1 rfl ?_
      refine RL.step (d := some 76) rfl rfl (xj_call Tryz.call11 hle2 rfl) ?_
      iterate 8 refine A1 rfl ?_
      repeat refine AW.seq ?_
      refine AW.region ?_
      iterate 2 refine A1 rfl ?_
      refine RL.step (d := some 82) rfl rfl (xj_call Tryz.call12 (same_same P0 (by omega)) rfl) ?_
      iterate 2 refine A1 rfl ?_
      apply RL.orB 5 84 89 [85, 86, 87, 88] rfl (by first | exact MonoK.le | exact MonoK.aw | exact MonoK.back)
      · intro hb4
        iterate 5 refine A1 rfl ?_
        exact St.le_fg (fEq.upd (fEq.upd (fEq.upd (fEq.upd (fEq.upd (fEq.upd (fEq.refl) rfl) rfl) rfl) rfl) rfl) rfl) rfl rfl rfl
      · intro hb4
        iterate 2 refine A1 rfl ?_
        refine RL.stepG (d := some 87) rfl rfl rfl (xj_call Tryz.call13 (ints_same p0 (by omega)) rfl) ?_
        iterate 2 refine A1 rfl ?_
        exact St.le_fg (fEq.upd (fEq.upd (fEq.upd (fEq.upd (fEq.upd (fEq.upd (fEq.refl) rfl) rfl) rfl) rfl) rfl) rfl) rfl rfl rfl
      refine A1 rfl ?_
      apply RL.orB 4 90 94 [91, 92, 93] rfl (by first | exact MonoK.le | exact MonoK.aw | exact MonoK.back)
      · intro hb10
        iterate 4 refine A1 rfl ?_
        exact St.le_fg (fEq.upd (fEq.upd (fEq.upd (fEq.upd (fEq.upd (fEq.refl) rfl) rfl) rfl) rfl) rfl) rfl rfl rfl
      · intro hb10
        iterate 4 refine A1 rfl ?_
        exact St.le_fg (fEq.upd (fEq.upd (fEq.upd (fEq.upd (fEq.upd (fEq.refl) rfl) rfl) rfl) rfl) rfl) rfl rfl rfl
      repeat refine AW.seq ?_
      refine AW.cond rfl (fun hc94 => absurd hc94 (by simp)) (fun hc94 => ?_)
      refine AW.skip ?_
      repeat refine AW.seq ?_
      refine AW.region ?_
      iterate 5 refine A1 rfl ?_
      refine RL.call rfl (oj_callM Tryz.call14 (shuffleZ_spec t k3 Y.attrs.length (by omega) hk3 (by omega)) rfl rfl ?_)
      rintro _ _ ⟨⟨q, hq, rfl⟩, k4, hk4, rfl⟩
      have hget1 : ∀ j : Nat, j < 2 → ∃ l : List Int, l.length ≤ 1000000 ∧ [pints list, pints q][j * 1]? = some (pints l) := fun j hj => (match j with | 0 => ⟨list, by omega, rfl⟩ | 1 => ⟨q, by omega, rfl⟩ | k + 2 => absurd hj (by omega))
      iterate 2 refine A1 rfl ?_
      repeat refine AW.seq ?_
      refine AW.block ?_
      repeat refine AW.seq ?_
      refine AW.loop (st := fun x_1 : Nat => mkS [(3, .pv (pints list)), (4, .pv (.int .i64 v)), (7, .ptr 1 0), (11, .ptr 2 0), (12, .ptr 3 0), (14, .ptr 4 0), (18, .ptr 6 0), (64, .pv (.agg (schC S ++ (schC Sb ++ schC Sr)))), (65, .pv (.int .i64 i)), (101, .pv (.agg [pints list, pints q])), (102, .pv (.int .i64 x_1))] [(1, .mix 29 [.pv (pints Po)]), (2, srcO t k4), (3, .mix 27 [.pv (.sl none S.attrs.length (attrsC S.attrs)), .pv (.sl none S.rels.length (relsC S.rels)), .pv (.sl none S.feats.length (featsC S.feats)), .pv (.int .i64 S.label)]), (4, .mix 27 [.pv (.sl none Y.attrs.length (attrsC Y.attrs)), .pv (.sl none Y.rels.length (relsC Y.rels)), .pv (.sl none Y.feats.length (featsC Y.feats)), .pv (.int .i64 Y.label)]), (6, .mix 29 [.pv (pints P0)])] 7)
        (I := fun x_1 => x_1 ≤ 2) (μ := fun x_1 => 2 - x_1) (x0 := (0)) (St.le_mk ⟨rfl, rfl, rfl, rfl, rfl, rfl, rfl, rfl, rfl, rfl, rfl, trivial⟩ ⟨rfl, rfl, rfl, rfl, rfl, trivial⟩ rfl rfl) (Nat.zero_le _) ?_
      rintro j hj
      repeat refine AW.seq ?_
      refine AW.region ?_
      refine A1 rfl ?_
      repeat refine AW.seq ?_
      refine AW.condP rfl (fun hc103 => ?_) (fun hc103 => ?_)
      · have hj2 : j < 2 := by omega
        obtain ⟨l, hl, hlj⟩ := hget1 j hj2
        obtain ⟨Q, eq, hQ, hof1, hof2⟩ := ex_of Y hY l hl
        refine AW.skip ?_
        repeat refine AW.seq ?_
        refine AW.block ?_
        repeat refine AW.seq ?_
        refine AW.region ?_
        refine RL.step (d := some 104) rfl rfl (xj_indexAP1 j Tryz.underlying43 sz22 ⟨_, Tryz.underlying22, rfl⟩ rfl rfl rfl hj2 hlj) ?_
        refine A1 rfl ?_
        repeat refine AW.seq ?_
        refine AW.region ?_
        iterate 2 refine A1 rfl ?_
        refine RL.step (d := some 108) rfl rfl (xj_call Tryz.call15 hof1 rfl) ?_
        iterate 6 refine A1 rfl ?_
        repeat refine AW.seq ?_
        refine AW.region ?_
        iterate 2 refine A1 rfl ?_
        refine RL.step (d := some 114) rfl rfl (xj_call Tryz.call16 hof2 rfl) ?_
        iterate 6 refine A1 rfl ?_
        repeat refine AW.seq ?_
        refine AW.region ?_
        iterate 2 refine A1 rfl ?_
        refine RL.step (d := some 119) rfl rfl (xj_call Tryz.call12 (same_same Q hQ) rfl) ?_
        iterate 2 refine A1 rfl ?_
        apply RL.orB 4 121 125 [122, 123, 124] rfl (by first | exact MonoK.le | exact MonoK.aw | exact MonoK.back)
        · intro hb4
          iterate 4 refine A1 rfl ?_
          exact St.le_fg (fEq.upd (fEq.upd (fEq.upd (fEq.upd (fEq.upd (fEq.refl) rfl) rfl) rfl) rfl) rfl) rfl rfl rfl
        · intro hb4
          iterate 4 refine A1 rfl ?_
          exact St.le_fg (fEq.upd (fEq.upd (fEq.upd (fEq.upd (fEq.upd (fEq.refl) rfl) rfl) rfl) rfl) rfl) rfl rfl rfl
        repeat refine AW.seq ?_
        refine AW.cond rfl (fun hc125 => absurd hc125 (by simp)) (fun hc125 => ?_)
        refine AW.skip ?_
        repeat refine AW.seq ?_
        refine AW.region ?_
        iterate 2 refine A1 rfl ?_
        exact ⟨(j + 1), St.le_mk ⟨rfl, rfl, rfl, rfl, rfl, rfl, rfl, rfl, rfl, rfl, rfl, trivial⟩ ⟨rfl, rfl, rfl, rfl, rfl, trivial⟩ rfl rfl, by omega, by omega⟩
      · repeat refine AW.seq ?_
        refine AW.exit ?_
        repeat refine AW.seq ?_
        refine AW.draw follows [[], [], [], [2, 1], [], [], [3, 5, 4, 2, 1], [], [], [6, 8, 7, 3, 5, 4, 2, 1], [], [10, 9, 6, 3, 0, 2, 1, 5, 4, 8, 7], []] [0, 1, 2, 4, 5, 7, 8, 10, 12, 3, 6, 9, 11] (by kernel_rfl) (by kernel_rfl) ?_
        iterate 9 refine D1 rfl rfl ?_
        refine DL.rel (RM 66 2 (fun v c => (∃ q : List Int, q.Perm (upZ S.attrs.length) ∧ v = ordP (ordL S q)) ∧ ∃ k', k' ≤ t.length ∧ c = srcC t k')) [2] [] [2] rfl rfl rfl (fun τ h => relM Tryz.call17 (mkOrder_spec t k4 (by omega) hk4 S hSB h0) (h.args.trans rfl) ((h.o 0 _ rfl).trans rfl)) rfl (by kernel_rfl) (by kernel_rfl) (by kernel_rfl) ?_
        rintro _ ⟨_, _, ⟨⟨q1, hq1, rfl⟩, k5, hk5, rfl⟩, rfl⟩ _ _
        have hP1 : (ordL S q1).length ≤ 1000000 := by rw [ordL_len]; omega
        generalize ordL S q1 = P1 at *
        refine DL.rel (RM 66 2 (fun v c => (∃ q P : List Int, IsChain S.attrs.length q P ∧ v = ordP P) ∧ ∃ k', k' ≤ t.length ∧ c = srcC t k')) [2] [] [2] rfl rfl rfl (fun τ h => relM Tryz.call18 (mkChain_spec t k5 (by omega) hk5 S hn1 (by omega)) (h.args.trans rfl) ((h.o 0 _ rfl).trans rfl)) rfl (by kernel_rfl) (by kernel_rfl) (by kernel_rfl) ?_
        rintro _ ⟨_, _, ⟨⟨q2, P2, hch, rfl⟩, k6, hk6, rfl⟩, rfl⟩ _ _
        have hP2 : P2.length ≤ 1000000 := by rw [hch.len]; omega
        refine DL.rel (RM 66 2 (fun v c => (∃ P' : List Int, P'.length ≤ P0.length + 1 ∧ v = ordP P') ∧ ∃ k', k' ≤ t.length ∧ c = srcC t k')) [2] [] [2] rfl rfl rfl (fun τ h => relM Tryz.call19 (bentOrder_spec t k6 (by omega) hk6 P0 (by omega)) (h.args.trans rfl) ((h.o 0 _ rfl).trans rfl)) rfl (by kernel_rfl) (by kernel_rfl) (by kernel_rfl) ?_
        rintro _ ⟨_, _, ⟨⟨P3, hP3, rfl⟩, k7, hk7, rfl⟩, rfl⟩ _ _
        have hget2 : ∀ a : Nat, a < 5 → ∃ P : List Int, P.length ≤ 1000000 ∧ ([pints P0, pints P1, pints P2, pints P3, pints Po].drop (a * 1)).take 1 = [pints P] := fun a ha => (match a with | 0 => ⟨P0, by omega, rfl⟩ | 1 => ⟨P1, hP1, rfl⟩ | 2 => ⟨P2, hP2, rfl⟩ | 3 => ⟨P3, by omega, rfl⟩ | 4 => ⟨Po, by omega, rfl⟩ | k + 5 => absurd ha (by omega))
        refine D1 rfl rfl ?_
        refine ⟨by kernel_rfl, ?_⟩
        repeat refine AW.seq ?_
        refine AW.block ?_
        repeat refine AW.seq ?_
        refine AW.loop (st := fun x_2 : Nat × Nat => mkS [(3, .pv (pints list)), (4, .pv (.int .i64 v)), (7, .ptr 1 0), (11, .ptr 2 0), (12, .ptr 3 0), (14, .ptr 4 0), (64, .pv (.agg (schC S ++ (schC Sb ++ schC Sr)))), (65, .pv (.int .i64 i)), (138, .pv (.agg [pints P0, pints P1, pints P2, pints P3, pints Po])), (139, .pv (.int .i64 x_2.1))] [(1, .mix 29 [.pv (pints Po)]), (2, srcO t x_2.2), (3, .mix 27 [.pv (.sl none S.attrs.length (attrsC S.attrs)), .pv (.sl none S.rels.length (relsC S.rels)), .pv (.sl none S.feats.length (featsC S.feats)), .pv (.int .i64 S.label)]), (4, .mix 27 [.pv (.sl none Y.attrs.length (attrsC Y.attrs)), .pv (.sl none Y.rels.length (relsC Y.rels)), .pv (.sl none Y.feats.length (featsC Y.feats)), .pv (.int .i64 Y.label)])] 7)
          (I := fun x_2 => x_2.1 ≤ 5 ∧ x_2.2 ≤ t.length) (μ := fun x_2 => 5 - x_2.1) (x0 := (0, k7)) (St.le_mk ⟨rfl, rfl, rfl, rfl, rfl, rfl, rfl, rfl, rfl, rfl, trivial⟩ ⟨rfl, rfl, rfl, rfl, trivial⟩ rfl rfl) (⟨Nat.zero_le _, hk7⟩) ?_
        rintro ⟨a, k8⟩ ⟨ha, hk8⟩
        try simp only at ha hk8 ⊢
        repeat refine AW.seq ?_
        refine AW.region ?_
        refine A1 rfl ?_
        repeat refine AW.seq ?_
        refine AW.condP rfl (fun hc140 => ?_) (fun hc140 => ?_)
        · have ha5 : a < 5 := by omega
          obtain ⟨P, hP, hPa⟩ := hget2 a ha5
          obtain ⟨w, e, e2, wk, hwk, hw1, hw2, hc1, hc2, hk1', hk2'⟩ := ex_ord Y hY P hP
          refine AW.skip ?_
          repeat refine AW.seq ?_
          refine AW.block ?_
          repeat refine AW.seq ?_
          refine AW.region ?_
          refine RL.step (d := some 141) rfl rfl (xj_indexAP a Tryz.underlying48 sz29 ⟨_, Tryz.underlying29, rfl⟩ rfl rfl rfl ha5 hPa) ?_
          iterate 2 refine A1 rfl ?_
          repeat refine AW.seq ?_
          refine AW.region ?_
          iterate 2 refine A1 rfl ?_
          refine RL.step (d := some 145) rfl rfl (xj_call Tryz.call20 hw1 rfl) ?_
          iterate 5 refine A1 rfl ?_
          repeat refine AW.seq ?_
          refine AW.region ?_
          iterate 2 refine A1 rfl ?_
          refine RL.step (d := some 151) rfl rfl (xj_call Tryz.call21 hw2 rfl) ?_
          iterate 5 refine A1 rfl ?_
          repeat refine AW.seq ?_
          refine AW.draw follows [[], [], [1, 0], [], [], [2, 4, 3, 1, 0], [5, 2, 1, 0, 4, 3], [6, 5, 2, 1, 0, 4, 3], [7, 6, 5, 2, 1, 0, 4, 3], [7, 6, 5, 2, 1, 0, 4, 3], [9, 8, 7, 6, 5, 2, 1, 0, 4, 3], [10, 7, 6, 5, 2, 1, 0, 4, 3, 9, 8], [11, 10, 7, 6, 5, 2, 1, 0, 4, 3, 9, 8], [12, 11, 10, 7, 6, 5, 2, 1, 0, 4, 3, 9, 8], [12, 11, 10, 7, 6, 5, 2, 1, 0, 4, 3, 9, 8], [14, 13, 12, 11, 10, 7, 6, 5, 2, 1, 0, 4, 3, 9, 8], [15, 12, 11, 10, 7, 6, 5, 2, 1, 0, 4, 3, 9, 8, 14, 13], [16, 15, 12, 11, 10, 7, 6, 5, 2, 1, 0, 4, 3, 9, 8, 14, 13], [17, 16, 15, 12, 11, 10, 7, 6, 5, 2, 1, 0, 4, 3, 9, 8, 14, 13], [17, 16, 15, 12, 11, 10, 7, 6, 5, 2, 1, 0, 4, 3, 9, 8, 14, 13], [19, 18, 17, 16, 15, 12, 11, 10, 7, 6, 5, 2, 1, 0, 4, 3, 9, 8, 14, 13], [17, 16, 15, 12, 11, 10, 7, 6, 5, 2, 1, 0, 4, 3, 9, 8, 14, 13], [17, 16, 15, 12, 11, 10, 7, 6, 5, 2, 1, 0, 4, 3, 9, 8, 14, 13], [20, 22, 21, 17, 16, 15, 12, 11, 10, 7, 6, 5, 2, 1, 0, 4, 3, 9, 8, 14, 13, 19, 18], [23, 20, 19, 18, 17, 16, 15, 12, 11, 10, 7, 6, 5, 2, 1, 0, 4, 3, 9, 8, 14, 13, 22, 21], [24, 23, 20, 19, 18, 17, 16, 15, 12, 11, 10, 7, 6, 5, 2, 1, 0, 4, 3, 9, 8, 14, 13, 22, 21], [25, 17, 16, 15, 12, 11, 10, 7, 6, 5, 2, 1, 0, 4, 3, 9, 8, 14, 13, 24, 23, 20, 19, 18, 22, 21]] [0, 1, 2, 3, 4, 5, 6, 7, 8, 9, 10, 11, 12, 13, 14, 15, 16, 17, 18, 19, 20, 21, 22, 23, 24, 25, 26] (by kernel_rfl) (by kernel_rfl) ?_
          iterate 2 refine D1 rfl rfl ?_
          refine DL.step (d := some 156) [] rfl rfl rfl (fun τ h => xj_call Tryz.call22 hc1 (h.argsP rfl)) rfl (by kernel_rfl) ?_
          iterate 2 refine D1 rfl rfl ?_
          refine DL.step (d := some 159) [] rfl rfl rfl (fun τ h => xj_call Tryz.call23 hc2 (h.argsP rfl)) rfl (by kernel_rfl) ?_
          refine DL.step (d := some 160) [] rfl rfl rfl (fun τ h => XJ.cast (v' := .pv (.bool false)) (xj_bin ((h.e 0 _ rfl).trans rfl) ((h.e 1 _ rfl).trans rfl) rfl) (by simp)) rfl (by kernel_rfl) ?_
          iterate 3 refine D1 rfl rfl ?_
          refine DL.stepG (d := some 164) [] rfl rfl rfl rfl (fun τ h => XJ.cast (v' := .pv (.bool false)) (xj_bin ((h.e 0 _ rfl).trans rfl) ((h.e 1 _ rfl).trans rfl) rfl) (by simp)) rfl (by kernel_rfl) ?_
          iterate 4 refine D1 rfl rfl ?_
          refine DL.stepG (d := some 169) [] rfl rfl rfl rfl (fun τ h => XJ.cast (v' := .pv (.bool false)) (xj_bin ((h.e 0 _ rfl).trans rfl) ((h.e 1 _ rfl).trans rfl) rfl) (by simp)) rfl (by kernel_rfl) ?_
          iterate 4 refine D1 rfl rfl ?_
          refine DL.stepG (d := some 174) [] rfl rfl rfl rfl (fun τ h => xj_call Tryz.call24 hk1' (h.argsP rfl)) rfl (by kernel_rfl) ?_
          iterate 2 refine D1 rfl rfl ?_
          refine DL.stepG (d := some 177) [] rfl rfl rfl rfl (fun τ h => xj_call Tryz.call25 hk2' (h.argsP rfl)) rfl (by kernel_rfl) ?_
          refine DL.stepG (d := some 178) [] rfl rfl rfl rfl (fun τ h => xj_call Tryz.call13 (ints_same wk (by omega)) (h.argsP rfl)) rfl (by kernel_rfl) ?_
          iterate 2 refine D1 rfl rfl ?_
          refine ⟨by kernel_rfl, ?_⟩
          repeat refine AW.seq ?_
          refine AW.cond rfl (fun hc180 => absurd hc180 (by simp)) (fun hc180 => ?_)
          refine AW.skip ?_
          repeat refine AW.seq ?_
          refine AW.region ?_
          iterate 2 refine A1 rfl ?_
          refine RL.step (d := some 183) rfl rfl (xj_callM Tryz.call26 (n_spec t k8 7 (by omega) hk8 (by omega) (by omega)) rfl rfl) ?_
          iterate 2 refine A1 rfl ?_
          repeat refine AW.seq ?_
          refine AW.block ?_
          repeat refine AW.seq ?_
          refine AW.loop (st := fun x_3 : Nat => mkS [(3, .pv (pints list)), (4, .pv (.int .i64 v)), (7, .ptr 1 0), (11, .ptr 2 0), (12, .ptr 3 0), (14, .ptr 4 0), (28, .ptr 7 0), (64, .pv (.agg (schC S ++ (schC Sb ++ schC Sr)))), (65, .pv (.int .i64 i)), (138, .pv (.agg [pints P0, pints P1, pints P2, pints P3, pints Po])), (139, .pv (.int .i64 a)), (184, .pv (.agg [.int .i64 v, .int .i64 (sNv t k8 7), .int .i64 (-1)])), (185, .pv (.int .i64 x_3))] [(1, .mix 29 [.pv (pints Po)]), (2, srcO t (sNk t k8)), (3, .mix 27 [.pv (.sl none S.attrs.length (attrsC S.attrs)), .pv (.sl none S.rels.length (relsC S.rels)), .pv (.sl none S.feats.length (featsC S.feats)), .pv (.int .i64 S.label)]), (4, .mix 27 [.pv (.sl none Y.attrs.length (attrsC Y.attrs)), .pv (.sl none Y.rels.length (relsC Y.rels)), .pv (.sl none Y.feats.length (featsC Y.feats)), .pv (.int .i64 Y.label)]), (7, .mix 29 [.pv (pints P)])] 8)
            (I := fun x_3 => x_3 ≤ 3) (μ := fun x_3 => 3 - x_3) (x0 := (0)) (St.le_mk ⟨rfl, rfl, rfl, rfl, rfl, rfl, rfl, rfl, rfl, rfl, rfl, rfl, rfl, trivial⟩ ⟨rfl, rfl, rfl, rfl, rfl, trivial⟩ rfl rfl) (Nat.zero_le _) ?_
          rintro b hb
          have hget3 : ∀ b : Nat, b < 3 → ∃ z : Int, [PV.int .i64 v, .int .i64 (sNv t k8 7), .int .i64 (-1)][b * 1]? = some (.int .i64 z) := fun b hb => (match b with | 0 => ⟨v, rfl⟩ | 1 => ⟨_, rfl⟩ | 2 => ⟨-1, rfl⟩ | k + 3 => absurd hb (by omega))
          repeat refine AW.seq ?_
          refine AW.region ?_
          refine A1 rfl ?_
          repeat refine AW.seq ?_
          refine AW.condP rfl (fun hc186 => ?_) (fun hc186 => ?_)
          · have hb3 : b < 3 := by omega
            obtain ⟨z, hz⟩ := hget3 b hb3
            obtain ⟨K, B, D, hh, hK, hB', hD, a1, a2, a3, a4, a5, a6, a7, a8⟩ := ex_at Y hY P hP z
            refine AW.skip ?_
            repeat refine AW.seq ?_
            refine AW.block ?_
            repeat refine AW.seq ?_
            refine AW.region ?_
            refine RL.step (d := some 187) rfl rfl (xj_indexAP1 b Tryz.underlying54 sz3 ⟨_, Tryz.underlying3, rfl⟩ rfl rfl rfl hb3 hz) ?_
            refine A1 rfl ?_
            repeat refine AW.seq ?_
            refine AW.draw follows [[], [], [], [2, 1, 0], [], [], [], [3, 6, 5, 4, 2, 1, 0], [7, 3, 2, 1, 0, 6, 5, 4], [8, 7, 3, 2, 1, 0, 6, 5, 4], [9, 8, 7, 3, 2, 1, 0, 6, 5, 4], [10, 9, 8, 7, 3, 2, 1, 0, 6, 5, 4], [10, 9, 8, 7, 3, 2, 1, 0, 6, 5, 4], [10, 9, 8, 7, 3, 2, 1, 0, 6, 5, 4], [13, 12, 11, 10, 9, 8, 7, 3, 2, 1, 0, 6, 5, 4], [10, 9, 8, 7, 3, 2, 1, 0, 6, 5, 4], [10, 9, 8, 7, 3, 2, 1, 0, 6, 5, 4], [10, 9, 8, 7, 3, 2, 1, 0, 6, 5, 4], [14, 17, 16, 15, 10, 9, 8, 7, 3, 2, 1, 0, 6, 5, 4, 13, 12, 11], [18, 14, 13, 12, 11, 10, 9, 8, 7, 3, 2, 1, 0, 6, 5, 4, 17, 16, 15], [19, 18, 14, 13, 12, 11, 10, 9, 8, 7, 3, 2, 1, 0, 6, 5, 4, 17, 16, 15], [20, 10, 9, 8, 7, 3, 2, 1, 0, 6, 5, 4, 19, 18, 14, 13, 12, 11, 17, 16, 15], [21, 20, 10, 9, 8, 7, 3, 2, 1, 0, 6, 5, 4, 19, 18, 14, 13, 12, 11, 17, 16, 15], [22, 21, 20, 10, 9, 8, 7, 3, 2, 1, 0, 6, 5, 4, 19, 18, 14, 13, 12, 11, 17, 16, 15], [22, 21, 20, 10, 9, 8, 7, 3, 2, 1, 0, 6, 5, 4, 19, 18, 14, 13, 12, 11, 17, 16, 15], [22, 21, 20, 10, 9, 8, 7, 3, 2, 1, 0, 6, 5, 4, 19, 18, 14, 13, 12, 11, 17, 16, 15], [25, 24, 23, 22, 21, 20, 10, 9, 8, 7, 3, 2, 1, 0, 6, 5, 4, 19, 18, 14, 13, 12, 11, 17, 16, 15], [22, 21, 20, 10, 9, 8, 7, 3, 2, 1, 0, 6, 5, 4, 19, 18, 14, 13, 12, 11, 17, 16, 15], [22, 21, 20, 10, 9, 8, 7, 3, 2, 1, 0, 6, 5, 4, 19, 18, 14, 13, 12, 11, 17, 16, 15], [22, 21, 20, 10, 9, 8, 7, 3, 2, 1, 0, 6, 5, 4, 19, 18, 14, 13, 12, 11, 17, 16, 15], [26, 29, 28, 27, 22, 21, 20, 10, 9, 8, 7, 3, 2, 1, 0, 6, 5, 4, 19, 18, 14, 13, 12, 11, 17, 16, 15, 25, 24, 23], [30, 26, 25, 24, 23, 22, 21, 20, 10, 9, 8, 7, 3, 2, 1, 0, 6, 5, 4, 19, 18, 14, 13, 12, 11, 17, 16, 15, 29, 28, 27], [31, 30, 26, 25, 24, 23, 22, 21, 20, 10, 9, 8, 7, 3, 2, 1, 0, 6, 5, 4, 19, 18, 14, 13, 12, 11, 17, 16, 15, 29, 28, 27], [32, 22, 21, 20, 10, 9, 8, 7, 3, 2, 1, 0, 6, 5, 4, 19, 18, 14, 13, 12, 11, 17, 16, 15, 31, 30, 26, 25, 24, 23, 29, 28, 27], [33, 32, 22, 21, 20, 10, 9, 8, 7, 3, 2, 1, 0, 6, 5, 4, 19, 18, 14, 13, 12, 11, 17, 16, 15, 31, 30, 26, 25, 24, 23, 29, 28, 27], [34, 33, 32, 22, 21, 20, 10, 9, 8, 7, 3, 2, 1, 0, 6, 5, 4, 19, 18, 14, 13, 12, 11, 17, 16, 15, 31, 30, 26, 25, 24, 23, 29, 28, 27], [34, 33, 32, 22, 21, 20, 10, 9, 8, 7, 3, 2, 1, 0, 6, 5, 4, 19, 18, 14, 13, 12, 11, 17, 16, 15, 31, 30, 26, 25, 24, 23, 29, 28, 27], [34, 33, 32, 22, 21, 20, 10, 9, 8, 7, 3, 2, 1, 0, 6, 5, 4, 19, 18, 14, 13, 12, 11, 17, 16, 15, 31, 30, 26, 25, 24, 23, 29, 28, 27], [37, 36, 35, 34, 33, 32, 22, 21, 20, 10, 9, 8, 7, 3, 2, 1, 0, 6, 5, 4, 19, 18, 14, 13, 12, 11, 17, 16, 15, 31, 30, 26, 25, 24, 23, 29, 28, 27], [34, 33, 32, 22, 21, 20, 10, 9, 8, 7, 3, 2, 1, 0, 6, 5, 4, 19, 18, 14, 13, 12, 11, 17, 16, 15, 31, 30, 26, 25, 24, 23, 29, 28, 27], [34, 33, 32, 22, 21, 20, 10, 9, 8, 7, 3, 2, 1, 0, 6, 5, 4, 19, 18, 14, 13, 12, 11, 17, 16, 15, 31, 30, 26, 25, 24, 23, 29, 28, 27], [34, 33, 32, 22, 21, 20, 10, 9, 8, 7, 3, 2, 1, 0, 6, 5, 4, 19, 18, 14, 13, 12, 11, 17, 16, 15, 31, 30, 26, 25, 24, 23, 29, 28, 27], [38, 41, 40, 39, 34, 33, 32, 22, 21, 20, 10, 9, 8, 7, 3, 2, 1, 0, 6, 5, 4, 19, 18, 14, 13, 12, 11, 17, 16, 15, 31, 30, 26, 25, 24, 23, 29, 28, 27, 37, 36, 35], [42, 38, 37, 36, 35, 34, 33, 32, 22, 21, 20, 10, 9, 8, 7, 3, 2, 1, 0, 6, 5, 4, 19, 18, 14, 13, 12, 11, 17, 16, 15, 31, 30, 26, 25, 24, 23, 29, 28, 27, 41, 40, 39], [43, 34, 33, 32, 22, 21, 20, 10, 9, 8, 7, 3, 2, 1, 0, 6, 5, 4, 19, 18, 14, 13, 12, 11, 17, 16, 15, 31, 30, 26, 25, 24, 23, 29, 28, 27, 42, 38, 37, 36, 35, 41, 40, 39]] [0, 1, 2, 3, 4, 5, 6, 7, 8, 9, 10, 11, 12, 13, 14, 15, 16, 17, 18, 19, 20, 21, 22, 23, 24, 25, 26, 27, 28, 29, 30, 31, 32, 33, 34, 35, 36, 37, 38, 39, 40, 41, 42, 43, 44] (by kernel_rfl) (by kernel_rfl) ?_
            iterate 3 refine D1 rfl rfl ?_
            refine DL.step (d := some 191) [] rfl rfl rfl (fun τ h => xj_call Tryz.call27 a1 (h.argsP rfl)) rfl (by kernel_rfl) ?_
            iterate 3 refine D1 rfl rfl ?_
            refine DL.step (d := some 195) [] rfl rfl rfl (fun τ h => xj_call Tryz.call28 a2 (h.argsP rfl)) rfl (by kernel_rfl) ?_
            refine DL.step (d := some 196) [] rfl rfl rfl (fun τ h => xj_call Tryz.call13 (ints_same K (by omega)) (h.argsP rfl)) rfl (by kernel_rfl) ?_
            iterate 5 refine D1 rfl rfl ?_
            refine DL.stepG (d := some 202) [] rfl rfl rfl rfl (fun τ h => xj_call Tryz.call29 a3 (h.argsP rfl)) rfl (by kernel_rfl) ?_
            iterate 3 refine D1 rfl rfl ?_
            refine DL.stepG (d := some 206) [] rfl rfl rfl rfl (fun τ h => xj_call Tryz.call30 a4 (h.argsP rfl)) rfl (by kernel_rfl) ?_
            refine DL.stepG (d := some 207) [] rfl rfl rfl rfl (fun τ h => xj_call Tryz.call13 (ints_same B (by omega)) (h.argsP rfl)) rfl (by kernel_rfl) ?_
            iterate 6 refine D1 rfl rfl ?_
            refine DL.stepG (d := some 214) [] rfl rfl rfl rfl (fun τ h => xj_call Tryz.call31 a5 (h.argsP rfl)) rfl (by kernel_rfl) ?_
            iterate 3 refine D1 rfl rfl ?_
            refine DL.stepG (d := some 218) [] rfl rfl rfl rfl (fun τ h => xj_call Tryz.call32 a6 (h.argsP rfl)) rfl (by kernel_rfl) ?_
            refine DL.stepG (d := some 219) [] rfl rfl rfl rfl (fun τ h => xj_call Tryz.call13 (ints_same D (by omega)) (h.argsP rfl)) rfl (by kernel_rfl) ?_
            iterate 6 refine D1 rfl rfl ?_
            refine DL.stepG (d := some 226) [] rfl rfl rfl rfl (fun τ h => xj_call Tryz.call33 a7 (h.argsP rfl)) rfl (by kernel_rfl) ?_
            iterate 3 refine D1 rfl rfl ?_
            refine DL.stepG (d := some 230) [] rfl rfl rfl rfl (fun τ h => xj_call Tryz.call34 a8 (h.argsP rfl)) rfl (by kernel_rfl) ?_
            refine DL.stepG (d := some 231) [] rfl rfl rfl rfl (fun τ h => XJ.cast (v' := .pv (.bool false)) (xj_bin ((h.e 0 _ rfl).trans rfl) ((h.e 1 _ rfl).trans rfl) rfl) (by simp)) rfl (by kernel_rfl) ?_
            refine D1 rfl rfl ?_
            refine ⟨by kernel_rfl, ?_⟩
            repeat refine AW.seq ?_
            refine AW.cond rfl (fun hc232 => absurd hc232 (by simp)) (fun hc232 => ?_)
            refine AW.skip ?_
            repeat refine AW.seq ?_
            refine AW.region ?_
            iterate 2 refine A1 rfl ?_
            exact ⟨(b + 1), St.le_mk ⟨rfl, rfl, rfl, rfl, rfl, rfl, rfl, rfl, rfl, rfl, rfl, rfl, rfl, trivial⟩ ⟨rfl, rfl, rfl, rfl, rfl, trivial⟩ rfl rfl, by omega, by omega⟩
          · repeat refine AW.seq ?_
            refine AW.exit ?_
            repeat refine AW.seq ?_
            refine AW.region ?_
            iterate 2 refine A1 rfl ?_
            exact ⟨(a + 1, sNk t k8), St.le_mk ⟨rfl, rfl, rfl, rfl, rfl, rfl, rfl, rfl, rfl, rfl, trivial⟩ ⟨rfl, rfl, rfl, rfl, trivial⟩ rfl rfl, ⟨by simp only; omega, sNk_le hk8⟩, by simp only; omega⟩
        · repeat refine AW.seq ?_
          refine AW.exit ?_
          repeat refine AW.seq ?_
          refine AW.region ?_
          iterate 2 refine A1 rfl ?_
          exact ⟨(i + 1, k8), St.le_mk ⟨rfl, rfl, rfl, rfl, rfl, rfl, rfl, trivial⟩ ⟨rfl, rfl, rfl, trivial⟩ rfl rfl, ⟨by simp only; omega, hk8⟩, by simp only; omega⟩
    · repeat refine AW.seq ?_
      refine AW.exit ?_
      repeat refine AW.seq ?_
      refine AW.region ?_
      refine RL.step (d := some 236) rfl rfl (xj_call Tryz.call6 sane_spec rfl) ?_
      refine A1 rfl ?_
      repeat refine AW.seq ?_
      refine AW.ret ?_
      exact ⟨_, _, rfl, rfl, rfl⟩
end Go.Proofs.YtkalgjnhaicabaaGreat
namespace Go.Proofs.YtkalgjnhaicabaaGreat
open Go.RowKit Go.ChangeShapes Go.WideShapes Go.Deep
/-- A type whose readings are the cells f a of some a with I a. -/
def OpT (P : Program) (t : TypeId) {α : Type} (f : α → List PV) (I : α → Prop) : Prop :=
  ∀ (H : Type) (enc : TypeId × Value → H) (w : World) (base : Nat) (spare : Nat → Bool) (held : Bool) (fuel : Nat) (cs : List Value) (x : DataW H × List MemPlace),
    DataW.trod enc P w base spare held fuel t cs = some x → ∃ a, I a ∧ RelPL w (fun b => b < w.heap.size) (f a) cs
section
variable {P : Program} {t : TypeId}
theorem OpT.map {α β : Type} {f : α → List PV} {I : α → Prop} {f' : β → List PV} {I' : β → Prop} (h : OpT P t f I) (g : α → β) (hf : ∀ a, f' (g a) = f a) (hI : ∀ a, I a → I' (g a)) : OpT P t f' I' :=
  fun H enc w base spare held fuel cs x hx => by
    obtain ⟨a, ha, hr⟩ := h H enc w base spare held fuel cs x hx
    exact ⟨g a, hI a ha, by rw [hf]; exact hr⟩
theorem RelPL.one {w : World} {R : Nat → Prop} {p : PV} {u : Value} (h : RelP w R p u) : RelPL w R [p] [u] := RelPL.cons h RelPL.nil
theorem OpT.int (ht : P.underlying t = some (.int .i64)) : OpT P t (fun n : Int => [.int .i64 n]) (fun n => -9223372036854775808 ≤ n ∧ n ≤ 9223372036854775807) :=
  fun H enc w base spare held fuel cs x hx => by
    obtain ⟨n, rfl, _, hw⟩ := DataW.trod_int ht hx
    exact ⟨n, bounds_i64 hw, RelPL.one (by simp only [RelP])⟩
theorem OpT.bool (ht : P.underlying t = some .bool) : OpT P t (fun b : Bool => [.bool b]) (fun _ => True) :=
  fun H enc w base spare held fuel cs x hx => by
    obtain ⟨n, rfl, _⟩ := DataW.trod_bool ht hx
    exact ⟨n, trivial, RelPL.one (by simp only [RelP])⟩
theorem OpT.str (ht : P.underlying t = some .string) : OpT P t (fun s : ByteArray => [.str s]) (fun s => s.size ≤ maxLen) :=
  fun H enc w base spare held fuel cs x hx => by
    obtain ⟨n, rfl, _, hs⟩ := DataW.trod_string ht hx
    exact ⟨n, hs, RelPL.one (by simp only [RelP])⟩
theorem relPL_flat {w : World} {R : Nat → Prop} {α : Type} {f : α → List PV} : ∀ {n : Nat} {A : Nat → α} {us : Nat → List Value}, (∀ i, i < n → RelPL w R (f (A i)) (us i)) → RelPL w R (((List.range n).map A).flatMap f) ((List.range n).flatMap us) := by
  intro n A us h
  induction n with
  | zero => simpa using RelPL.nil
  | succ n ih =>
    rw [List.range_succ, List.map_append, List.flatMap_append, List.flatMap_append]
    refine RelPL.append (ih fun i hi => h i (by omega)) ?_
    simpa using h n (by omega)
theorem flat_range_at {c : Nat} {us : Nat → List Value} : ∀ {n : Nat}, (∀ i, i < n → (us i).length = c) → ((List.range n).flatMap us).length = n * c ∧ ∀ i j, i < n → j < c → ((List.range n).flatMap us)[i * c + j]? = (us i)[j]? := by
  intro n h
  induction n with
  | zero => exact ⟨by simp, fun i j hi => absurd hi (by omega)⟩
  | succ n ih =>
    obtain ⟨h1, h2⟩ := ih fun i hi => h i (by omega)
    rw [List.range_succ, List.flatMap_append]
    refine ⟨by rw [List.length_append, h1, List.flatMap_singleton, h n (by omega), Nat.succ_mul], fun i j hi hj => ?_⟩
    by_cases e : i < n
    · rw [List.getElem?_append_left (by rw [h1]; calc i * c + j < i * c + c := by omega
        _ = (i + 1) * c := by rw [Nat.succ_mul]
        _ ≤ n * c := Nat.mul_le_mul_right c e)]
      exact h2 i j e hj
    · obtain rfl : i = n := by omega
      rw [List.getElem?_append_right (by rw [h1]; omega), h1, List.flatMap_singleton, show i * c + j - i * c = j by omega]
theorem OpT.sl {e : TypeId} {α : Type} {f : α → List PV} {I : α → Prop} (c : Nat) [Inhabited α] (ht : P.underlying t = some (.slice e)) (hc : P.cellsOf e = c) (h : OpT P e f I) :
    OpT P t (fun l : List α => [.sl none l.length (l.flatMap f)]) (fun l => l.length ≤ maxLen ∧ ∀ a ∈ l, I a) :=
  fun H enc w base spare held fuel cs x hx => by
    rcases open_slice ht hx with ⟨rfl, rfl⟩ | ⟨a, len, cap, m, n, D, Pl, rfl, hb, hl, hm, hmm, hxe, hel⟩
    · refine ⟨[], ⟨by simp, by simp⟩, RelPL.one ?_⟩
      simp only [RelP]
      exact ⟨none, 0, rfl, Nat.le_refl _, by simp [maxLen], (fun _ e => by cases e), (fun e => by cases e), fun e => absurd rfl e⟩
    · have hlm : len ≤ m := by rw [hmm]; split <;> omega
      rw [hc] at hel
      have hx2 : ∀ i, i < len → ∃ p : α × List Value, I p.1 ∧ RelPL w (fun b => b < w.heap.size) (f p.1) p.2 ∧ p.2.length = c ∧ ∀ j, j < c → w.cell? (a.add (i * c + j)) = p.2[j]? := fun i hi => by
        obtain ⟨cs', h1, h2⟩ := hel i (by omega)
        obtain ⟨y, hy, hr⟩ := h H enc w base spare held n cs' _ h2
        obtain ⟨_, h3, h4⟩ := World.cells?_some h1
        exact ⟨(y, cs'), hy, hr, h3, fun j hj => by rw [← add_add]; exact h4 j hj⟩
      obtain ⟨F, hF⟩ := choose_lt hx2
      have hlen : ((List.range len).map fun i => (F i).1).length = len := by simp
      refine ⟨(List.range len).map fun i => (F i).1, ⟨by rw [hlen]; omega, fun y hy => ?_⟩, RelPL.one ?_⟩
      · obtain ⟨i, hi, rfl⟩ := List.mem_map.1 hy
        exact (hF i (List.mem_range.1 hi)).1
      · rw [hlen]
        simp only [RelP]
        refine ⟨some a, cap, rfl, hl, hm, (fun _ e => by cases e), (fun e => by cases e), fun hne => ?_⟩
        have hrel := relPL_flat (w := w) (R := fun b => b < w.heap.size) (f := f) (A := fun i => (F i).1) (us := fun i => (F i).2) fun i hi => (hF i hi).2.1
        obtain ⟨hL, hat⟩ := flat_range_at (us := fun i => (F i).2) (c := c) (n := len) fun i hi => (hF i hi).2.2.1
        generalize hU : (List.range len).flatMap (fun i => (F i).2) = U at hrel hL hat
        have hpos : 0 < len * c := by
          rw [← hL, RelPL.length hrel]
          exact List.length_pos_iff.2 hne
        have hlen0 : 0 < len := Nat.pos_of_mul_pos_right hpos
        have hc0 : 0 < c := Nat.pos_of_mul_pos_left hpos
        have hcell : ∀ k, k < len * c → w.cell? (a.add k) = U[k]? := fun k hk => by
          have e : k = k / c * c + k % c := by rw [Nat.mul_comm]; exact (Nat.div_add_mod k c).symm
          have h1 : k / c < len := Nat.div_lt_of_lt_mul (by rw [Nat.mul_comm]; exact hk)
          have h2 : k % c < c := Nat.mod_lt _ hc0
          rw [e, hat _ _ h1 h2]
          exact (hF _ h1).2.2.2 _ h2
        have h0 := hcell 0 hpos
        rw [List.getElem?_eq_getElem (by omega)] at h0
        obtain ⟨b, off, sp⟩ := a
        have hsp : sp = none := by
          cases sp with
          | none => rfl
          | some s =>
            exfalso
            have e : (⟨b, off, some s⟩ : Addr).add 0 = ⟨b, off, some s⟩ := rfl
            rw [e] at h0
            unfold World.cell? at h0
            split at h0
            · simp at h0
            · cases h0
        subst hsp
        rw [Addr.add_lit] at h0
        refine ⟨b, off, U, rfl, hrel, World.block_lt_of_cell? w _ h0, fun j hj => ?_⟩
        have := hcell j (by omega)
        rw [Addr.add_lit] at this
        exact this
/-- The fields of a struct from an offset on. -/
def OpF (P : Program) (off : Nat) (fs : List Field) {α : Type} (f : α → List PV) (I : α → Prop) : Prop :=
  ∀ (H : Type) (enc : TypeId × Value → H) (w : World) (base : Nat) (spare : Nat → Bool) (held : Bool) (n : Nat) (cs : List Value),
    (∀ fld ∈ fs, ∃ y, DataW.trod enc P w base spare held n fld.type ((cs.drop fld.offset).take (P.cellsOf fld.type)) = some y) → cs.length = off + (fs.map fun fld => P.cellsOf fld.type).sum → ∃ a, I a ∧ RelPL w (fun b => b < w.heap.size) (f a) (cs.drop off)
theorem OpF.nil {off : Nat} : OpF P off [] (fun _ : Unit => []) (fun _ => True) :=
  fun H enc w base spare held n cs _ hl => ⟨(), trivial, by rw [List.drop_of_length_le (by simp at hl; omega)]; exact RelPL.nil⟩
theorem OpF.cons {off : Nat} {fld : Field} {fs : List Field} {α β : Type} {f : α → List PV} {I : α → Prop} {g : β → List PV} {J : β → Prop} (c : Nat) (ho : fld.offset = off) (hc : P.cellsOf fld.type = c) (h1 : OpT P fld.type f I) (h2 : OpF P (off + c) fs g J) :
    OpF P off (fld :: fs) (fun p : α × β => f p.1 ++ g p.2) (fun p => I p.1 ∧ J p.2) :=
  fun H enc w base spare held n cs hall hl => by
    obtain ⟨y, hy⟩ := hall fld (by simp)
    obtain ⟨a, ha, hra⟩ := h1 H enc w base spare held n _ y hy
    obtain ⟨b, hb, hrb⟩ := h2 H enc w base spare held n cs (fun k hk => hall k (by simp [hk])) (by simp [hc] at hl; omega)
    refine ⟨(a, b), ⟨ha, hb⟩, ?_⟩
    rw [ho, hc] at hra
    have e : cs.drop off = (cs.drop off).take c ++ cs.drop (off + c) := by rw [← List.drop_drop, List.take_append_drop]
    rw [e]
    exact RelPL.append hra hrb
theorem OpT.struct {fs : Array Field} {α : Type} {f : α → List PV} {I : α → Prop} (ht : P.underlying t = some (.struct fs)) (hc : P.cellsOf t = (fs.toList.map fun fld => P.cellsOf fld.type).sum) (h : OpF P 0 fs.toList f I) : OpT P t f I :=
  fun H enc w base spare held fuel cs x hx => by
    obtain ⟨xs, n, _, _, hl, hxl, hf⟩ := DataW.trod_struct ht hx
    obtain ⟨a, ha, hr⟩ := h H enc w base spare held n cs (fun fld hk => by
      obtain ⟨i, hi, rfl⟩ := List.getElem_of_mem hk
      have hi2 : i < fs.size := by simpa using hi
      have := hf i fs[i] (Array.getElem?_eq_getElem hi2)
      rw [List.getElem?_eq_getElem (by omega)] at this
      exact ⟨_, by simpa using this⟩) (by rw [hl, hc]; omega)
    exact ⟨a, ha, by simpa using hr⟩
end
section
variable {H : Type} {enc : TypeId × Value → H} {P : Program} {w : World} {base : Nat} {spare : Nat → Bool} {held : Bool} {t : TypeId} {v : Value} {d : DataW H} {ps : List MemPlace} {r : Go.Reach} {b0 : Nat}
/-- An argument that is a struct. -/
theorem OpT.agg {α : Type} {f : α → List PV} {I : α → Prop} {fs : Array Field} (ho : OpT P t f I) (ht : P.underlying t = some (.struct fs)) (hv : Value.okWide P w r b0 t v) (h : DataW.Trod enc P w base spare held t v d ps) :
    ∃ a, I a ∧ RelP w (fun b => b < w.heap.size) (.agg (f a)) v := by
  obtain ⟨cs, rfl, _⟩ := okWide_struct ht hv
  obtain ⟨fuel, hf⟩ := h
  obtain ⟨a, ha, hr⟩ := ho _ _ _ _ _ _ _ _ _ hf
  refine ⟨a, ha, ?_⟩
  simp only [RelP]
  exact ⟨cs.toList, by simp, by simpa [Value.cells] using hr⟩
/-- An argument of one cell. -/
theorem OpT.one {α : Type} {p : α → PV} {I : α → Prop} (ho : OpT P t (fun a => [p a]) I) (hv : v.cells = #[v]) (h : DataW.Trod enc P w base spare held t v d ps) : ∃ a, I a ∧ RelP w (fun b => b < w.heap.size) (p a) v := by
  obtain ⟨fuel, hf⟩ := h
  obtain ⟨a, ha, hr⟩ := ho _ _ _ _ _ _ _ _ _ hf
  refine ⟨a, ha, ?_⟩
  rw [hv] at hr
  simp only [RelPL] at hr
  obtain ⟨u, vs, e, h1, _⟩ := hr
  simp at e
  rw [e.1]; exact h1
end
#print axioms OpT.sl
end Go.Proofs.YtkalgjnhaicabaaGreat
namespace Go.Proofs.YtkalgjnhaicabaaGreat
open Go.RowKit
theorem op_int : OpT Tryz.prog 3 (fun n : Int => [.int .i64 n]) (fun n => -9223372036854775808 ≤ n ∧ n ≤ 9223372036854775807) := OpT.int Tryz.underlying3
theorem op_ints : OpT Tryz.prog 22 (fun l : List Int => [pints l]) (fun l => l.length ≤ 9223372036854775807) :=
  (OpT.sl 1 Tryz.underlying22 (by kernel_rfl) op_int).map id (fun l => by
    show [PV.sl none l.length (intsP l)] = [PV.sl none l.length (l.flatMap fun n => [PV.int .i64 n])]
    congr 2
    induction l with
    | nil => rfl
    | cons x l ih => simp [← ih]) (fun l h => h.1)
theorem op_attr : OpT Tryz.prog 71 (fun a : ByteArray × Int => [.str a.1, .int .i64 a.2]) (fun a => a.1.size ≤ 9223372036854775807) :=
  (OpT.struct Tryz.underlying71 (by kernel_rfl) (OpF.cons 1 rfl (by kernel_rfl) (OpT.str Tryz.underlying9) (OpF.cons 1 rfl (by kernel_rfl) op_int OpF.nil))).map (fun p => (p.1, p.2.1)) (fun _ => rfl) (fun p h => h.1)
theorem op_rel : OpT Tryz.prog 62 (fun a : ByteArray × List Int => [.str a.1, pints a.2]) (fun a => a.1.size ≤ 9223372036854775807 ∧ a.2.length ≤ 9223372036854775807) :=
  (OpT.struct Tryz.underlying62 (by kernel_rfl) (OpF.cons 1 rfl (by kernel_rfl) (OpT.str Tryz.underlying9) (OpF.cons 1 rfl (by kernel_rfl) op_ints OpF.nil))).map (fun p => (p.1, p.2.1)) (fun _ => rfl) (fun p h => ⟨h.1, h.2.1⟩)
theorem op_feat : OpT Tryz.prog 73 (fun a : Int × Int × Int => [.int .i64 a.1, .int .i64 a.2.1, .int .i64 a.2.2]) (fun _ => True) :=
  (OpT.struct Tryz.underlying73 (by kernel_rfl) (OpF.cons 1 rfl (by kernel_rfl) op_int (OpF.cons 1 rfl (by kernel_rfl) op_int (OpF.cons 1 rfl (by kernel_rfl) op_int OpF.nil)))).map (fun p => (p.1, p.2.1, p.2.2.1)) (fun _ => rfl) (fun p h => trivial)
/-- What is known of a schema that came in. -/
structure RawS (S : Sch) : Prop where
  a : S.attrs.length ≤ 9223372036854775807
  r : S.rels.length ≤ 9223372036854775807
  f : S.feats.length ≤ 9223372036854775807
  an : ∀ x ∈ S.attrs, x.1.size ≤ 9223372036854775807
  rn : ∀ x ∈ S.rels, x.1.size ≤ 9223372036854775807
  rl : ∀ x ∈ S.rels, x.2.length ≤ 9223372036854775807
theorem op_schema : OpT Tryz.prog 27 schC RawS :=
  (OpT.struct Tryz.underlying27 (by kernel_rfl) (OpF.cons 1 rfl (by kernel_rfl) (OpT.sl 2 Tryz.underlying23 (by kernel_rfl) op_attr) (OpF.cons 1 rfl (by kernel_rfl) (OpT.sl 2 Tryz.underlying24 (by kernel_rfl) op_rel)
    (OpF.cons 1 rfl (by kernel_rfl) (OpT.sl 3 Tryz.underlying25 (by kernel_rfl) op_feat) (OpF.cons 1 rfl (by kernel_rfl) op_int OpF.nil))))).map (fun p => (⟨p.1, p.2.1, p.2.2.1, p.2.2.2.1⟩ : Sch)) (fun _ => rfl)
    (fun p h => ⟨h.1.1, h.2.1.1, h.2.2.1.1, h.1.2, fun x hx => (h.2.1.2 x hx).1, fun x hx => (h.2.1.2 x hx).2⟩)
end Go.Proofs.YtkalgjnhaicabaaGreat
namespace Go.Proofs.YtkalgjnhaicabaaGreat
open Go.RowKit
theorem op_order : OpT Tryz.prog 29 (fun P : List Int => [pints P]) (fun P => P.length ≤ 9223372036854775807) :=
  (OpT.struct Tryz.underlying29 (by kernel_rfl) (OpF.cons 1 rfl (by kernel_rfl) op_ints OpF.nil)).map (fun p => p.1) (fun _ => rfl) (fun p h => h.1)
end Go.Proofs.YtkalgjnhaicabaaGreat
