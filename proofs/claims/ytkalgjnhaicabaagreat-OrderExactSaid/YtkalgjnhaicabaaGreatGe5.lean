/-
  Texts of ours, joined: R12, W1, R13, R14, P4, Lw, Bt, E22, B5, B6, Lz, Cs, R15, Ct, Cn, Cg, R16, LA, R10, E23. No statement of the program is proved here.
-/
import Derived.MapKept
import Derived.Carry
import Derived.Test.YtkalgjnhaicabaaGreatGe4
namespace Go.Proofs.YtkalgjnhaicabaaGreat
open Go.RowKit Mk
set_option maxRecDepth 100000
set_option maxHeartbeats 4000000
theorem isB_not (S : Sch) (P : List Int) (v : Int) : ((ordE S P != 0 || decide (v < 0)) || decide (v ≥ (P.length : Int))) = !isB S P v := by
  have h1 : decide (v < 0) = !decide (v ≥ 0) := by rw [Bool.eq_iff_iff]; simp
  have h2 : decide (v ≥ (P.length : Int)) = !decide (v < P.length) := by rw [Bool.eq_iff_iff]; simp
  unfold isB
  rw [h1, h2, bne]
  cases (ordE S P == 0) <;> cases decide (v ≥ 0) <;> cases decide (v < (P.length : Int)) <;> rfl
theorem below_ne {P : List Int} {v : Nat} (hv : v < P.length) : belowL P v ≠ [] := fun h => by
  have : (v : Int) ∈ belowL P v := below_mem.2 ⟨⟨v, hv, rfl⟩, .inl rfl⟩
  rw [h] at this; cases this
theorem rbelow_spec (S : Sch) (hS : SB S) (P : List Int) (hn : P.length ≤ 1000000) (v : Int) : FnP Tryz.prog 30 [schP S, ordP P, .int .i64 v] (· = if isB S P v = true then .sl (some false) (belowL P v).length (intsP (belowL P v)) else .sl (some true) 0 []) := by
  refine FnP.of Tryz.func30 rfl Tryz.ntmps30 (by simp) fun m0 w0 F R0 => ?_
  repeat refine AW.seq ?_
  refine AW.region ?_
  iterate 3 refine A1 rfl ?_
  repeat refine AW.seq ?_
  refine AW.region ?_
  iterate 2 refine A1 rfl ?_
  refine RL.step (d := some 13) rfl rfl (xj_call Tryz.call23 (rochk_spec S hS P hn) rfl) ?_
  iterate 2 refine A1 rfl ?_
  apply RL.orB 3 15 18 [16, 17] rfl (by first | exact MonoK.le | exact MonoK.aw | exact MonoK.back)
  · intro hb4
    iterate 3 refine A1 rfl ?_
    exact St.le_fg (fEq.upd (fEq.upd (fEq.upd (fEq.upd (fEq.refl) rfl) rfl) rfl) rfl) rfl rfl rfl
  · intro hb4
    iterate 3 refine A1 rfl ?_
    exact St.le_fg (fEq.upd (fEq.upd (fEq.upd (fEq.upd (fEq.refl) rfl) rfl) rfl) rfl) rfl rfl rfl
  refine A1 rfl ?_
  apply RL.orB 6 19 25 [20, 21, 22, 23, 24] rfl (by first | exact MonoK.le | exact MonoK.aw | exact MonoK.back)
  · intro hb8
    iterate 6 refine A1 rfl ?_
    exact St.le_fg (fEq.upd (fEq.upd (fEq.upd (fEq.upd (fEq.upd (fEq.upd (fEq.upd (fEq.refl) rfl) rfl) rfl) rfl) rfl) rfl) rfl) rfl rfl rfl
  · intro hb8
    iterate 6 refine A1 rfl ?_
    exact St.le_fg (fEq.upd (fEq.upd (fEq.upd (fEq.upd (fEq.upd (fEq.upd (fEq.upd (fEq.refl) rfl) rfl) rfl) rfl) rfl) rfl) rfl) rfl rfl rfl
  repeat refine AW.seq ?_
  refine AW.cond rfl (fun hc25 => ?_) (fun hc25 => ?_)
  · rw [isB_not] at hc25
    repeat refine AW.seq ?_
    refine AW.region ?_
    refine A1 rfl ?_
    repeat refine AW.seq ?_
    refine AW.ret ?_
    exact ⟨_, _, rfl, rfl, by rw [if_neg (by simpa using hc25)]; rfl⟩
  · rw [isB_not] at hc25
    have hi : isB S P v = true := by simpa using hc25
    have hi2 := isB_iff.1 hi
    have hok := (ordE_zero.1 hi2.1).2
    have hP : ∀ p ∈ P, p < P.length := fun p hp => (hok.rng p hp).2
    obtain ⟨a, rfl⟩ := Int.eq_ofNat_of_zero_le hi2.2.1
    have hbne := below_ne (show a < P.length by omega)
    refine AW.skip ?_
    repeat refine AW.seq ?_
    refine AW.region ?_
    refine A1 rfl ?_
    refine AW.weaken (St.le_gro 7 2 1 3 rfl rfl) ?_
    repeat refine AW.seq ?_
    refine AW.region ?_
    iterate 4 refine A1 rfl ?_
    repeat refine AW.seq ?_
    refine AW.block ?_
    repeat refine AW.seq ?_
    refine AW.loop (st := fun x_0 : Nat × List Int => mkS [(2, .pv (.int .i64 a)), (4, .ptr 1 0), (7, .gsl 2 1 x_0.2.length), (28, .pv (.int .i64 P.length)), (29, .pv (.int .i64 x_0.1))] [(1, .mix 29 [.pv (pints P)]), (2, .gro 3 (intsP x_0.2))] 3)
      (I := fun x_0 => x_0.1 ≤ P.length ∧ x_0.2 = (upZ x_0.1).filter (fun b => b == (a : Int) || hiB P a b)) (μ := fun x_0 => P.length - x_0.1) (x0 := (0, [])) (St.le_mk ⟨rfl, rfl, rfl, rfl, rfl, trivial⟩ ⟨rfl, rfl, trivial⟩ rfl rfl) (⟨Nat.zero_le _, rfl⟩) ?_
    rintro ⟨k, L⟩ ⟨hk, hL⟩
    try simp only at hk hL ⊢
    repeat refine AW.seq ?_
    refine AW.region ?_
    refine A1 rfl ?_
    repeat refine AW.seq ?_
    refine AW.condP rfl (fun hc30 => ?_) (fun hc30 => ?_)
    · have hlt : k < P.length := by omega
      have hLl : L.length ≤ k := by rw [hL]; exact Nat.le_trans (List.length_filter_le _ _) (by rw [upZ_len]; exact Nat.le_refl _)
      have hsl : (intsP L).length = L.length * 1 := by simp
      have hfs := filter_snoc (fun b => b == (a : Int) || hiB P a b) k
      have hab := abvL_len P k
      refine AW.skip ?_
      repeat refine AW.seq ?_
      refine AW.block ?_
      repeat refine AW.seq ?_
      refine AW.region ?_
      iterate 2 refine A1 rfl ?_
      repeat refine AW.seq ?_
      refine AW.region ?_
      iterate 2 refine A1 rfl ?_
      refine RL.step (d := some 35) rfl rfl (xj_call Tryz.call56 (ranc_spec P k hlt hP hn) rfl) ?_
      iterate 5 refine A1 rfl ?_
      repeat refine AW.seq ?_
      refine AW.region ?_
      iterate 4 refine A1 rfl ?_
      apply RL.orB 4 41 45 [42, 43, 44] rfl (by first | exact MonoK.le | exact MonoK.aw | exact MonoK.back)
      · intro hb3
        iterate 4 refine A1 rfl ?_
        exact St.le_fg (fEq.upd (fEq.upd (fEq.upd (fEq.upd (fEq.upd (fEq.refl) rfl) rfl) rfl) rfl) rfl) rfl rfl rfl
      · intro hb3
        iterate 2 refine A1 rfl ?_
        refine RL.stepG (d := some 44) rfl rfl rfl (xj_call Tryz.call50 (in_spec (abvL P k) a (by omega)) rfl) ?_
        refine A1 rfl ?_
        exact St.le_fg (fEq.upd (fEq.upd (fEq.upd (fEq.upd (fEq.upd (fEq.refl) rfl) rfl) rfl) rfl) rfl) rfl rfl rfl
      repeat refine AW.seq ?_
      refine AW.cond rfl (fun hc45 => ?_) (fun hc45 => ?_)
      · rw [if_pos (show ((k : Int) == (a : Int) || hiB P a k) = true from hc45), ← hL] at hfs
        repeat refine AW.seq ?_
        refine AW.region ?_
        iterate 5 refine A1 rfl ?_
        repeat refine AW.seq ?_
        refine AW.region ?_
        iterate 2 refine A1 rfl ?_
        exact ⟨(k + 1, L ++ [(k : Int)]), St.le_mkR [0, 1, 4] ⟨rfl, rfl, by simp; rfl, rfl, rfl, trivial⟩ ⟨rfl, congrArg (fun c => some (Ob.gro 3 c)) (ints_snoc L k).symm, trivial⟩ rfl rfl (by decide) rfl, ⟨by simp only; omega, hfs.symm⟩, by simp only; omega⟩
      · rw [if_neg (fun e => by have e2 : ((k : Int) == (a : Int) || hiB P a k) = false := hc45; rw [e2] at e; cases e), ← hL, List.append_nil] at hfs
        refine AW.skip ?_
        repeat refine AW.seq ?_
        refine AW.region ?_
        iterate 2 refine A1 rfl ?_
        exact ⟨(k + 1, L), St.le_mk ⟨rfl, rfl, rfl, rfl, rfl, trivial⟩ ⟨rfl, rfl, trivial⟩ rfl rfl, ⟨by simp only; omega, hfs.symm⟩, by simp only; omega⟩
    · have hLe : L = belowL P a := by rw [hL, show k = P.length by omega]; rfl
      subst hLe
      have hpos := List.length_pos_iff.2 hbne
      repeat refine AW.seq ?_
      refine AW.exit ?_
      refine AW.weaken (St.le_own 7 rfl rfl hpos (by simpa using hbne)) ?_
      refine AW.weaken (St.le_pubA 2 rfl rfl) ?_
      repeat refine AW.seq ?_
      refine AW.region ?_
      iterate 2 refine A1 rfl ?_
      repeat refine AW.seq ?_
      refine AW.ret ?_
      exact ⟨_, _, rfl, rfl, by rw [if_pos hi]; rfl⟩
theorem rkey_eq {S : Sch} {P : List Int} (hP : UpOk P) {v : Nat} (hv : v < P.length) : (upZ P.length).filter (fun a => decide (a ∈ abvL P v) && (belowL P v).any fun b => linkB S a b) = keyL S P v := by
  unfold keyL
  refine sortI_eq ?_ (List.Pairwise.sublist List.filter_sublist ((upZ_pw P.length).imp fun h => Int.le_of_lt h))
  have hab := (List.nodup_cons.1 (abvL_nodup hP v hv)).2
  refine nodup_perm (List.Pairwise.sublist List.filter_sublist (upZ_nodup _)) (by unfold keyU; exact List.Pairwise.sublist List.filter_sublist hab) fun a => ?_
  unfold keyU
  rw [List.mem_filter, List.mem_filter, Bool.and_eq_true, decide_eq_true_iff]
  refine ⟨fun h => h.2, fun h => ⟨?_, h⟩⟩
  obtain ⟨x, hx, e, _⟩ := abvL_mem hP v hv a h.1
  exact upZ_mem.2 ⟨x, hx, e⟩
theorem any_snoc {l : List Int} {p : Int → Bool} {k : Nat} (hk : k < l.length) : (l.take (k + 1)).any p = ((l.take k).any p || p l[k]) := by
  rw [take_snoc hk]; simp only [List.any_append, List.any_cons, List.any_nil, Bool.or_false]
theorem rkey_spec (S : Sch) (hS : SB S) (P : List Int) (hn : P.length ≤ 1000000) (v : Int) : FnP Tryz.prog 28 [schP S, ordP P, .int .i64 v] (· = pints (if isB S P v = true then keyL S P v else [])) := by
  refine FnP.of Tryz.func28 rfl Tryz.ntmps28 (by simp) fun m0 w0 F R0 => ?_
  have hbs := rbelow_spec S hS P hn v
  repeat refine AW.seq ?_
  refine AW.region ?_
  iterate 3 refine A1 rfl ?_
  by_cases hB : isB S P v = true
  · rw [if_pos hB] at hbs
    repeat refine AW.seq ?_
    refine AW.region ?_
    iterate 3 refine A1 rfl ?_
    refine RL.step (d := some 18) rfl rfl (xj_call Tryz.call30 hbs rfl) ?_
    refine A1 rfl ?_
    repeat refine AW.seq ?_
    refine AW.region ?_
    iterate 2 refine A1 rfl ?_
    repeat refine AW.seq ?_
    refine AW.cond rfl (fun hc20 => absurd hc20 (by decide)) (fun hc20 => ?_)
    have hi2 := isB_iff.1 hB
    have hok := (ordE_zero.1 hi2.1).2
    have hU := hok.upOk
    have hP : ∀ p ∈ P, p < P.length := fun p hp => (hok.rng p hp).2
    obtain ⟨a, rfl⟩ := Int.eq_ofNat_of_zero_le hi2.2.1
    have hal : a < P.length := by omega
    have hke := rkey_eq (S := S) hU hal
    have hab := abvL_len P a
    have hbl : (belowL P a).length ≤ P.length := by unfold belowL; exact Nat.le_trans (List.length_filter_le _ _) (by simp)
    refine AW.skip ?_
    repeat refine AW.seq ?_
    refine AW.region ?_
    iterate 2 refine A1 rfl ?_
    refine RL.step (d := some 24) rfl rfl (xj_call Tryz.call56 (ranc_spec P a hal hP hn) rfl) ?_
    iterate 5 refine A1 rfl ?_
    repeat refine AW.seq ?_
    refine AW.region ?_
    refine A1 rfl ?_
    refine AW.weaken (St.le_gro 10 2 1 3 rfl rfl) ?_
    repeat refine AW.seq ?_
    refine AW.region ?_
    iterate 4 refine A1 rfl ?_
    repeat refine AW.seq ?_
    refine AW.block ?_
    repeat refine AW.seq ?_
    refine AW.loop (st := fun x_0 : Nat × List Int => mkS [(3, .ptr 0 0), (7, .pv (.sl (some false) (belowL P a).length (intsP (belowL P a)))), (8, .pv (pints (abvL P a))), (10, .gsl 2 1 x_0.2.length), (29, .pv (.int .i64 P.length)), (30, .pv (.int .i64 x_0.1))] [(0, .mix 27 [.pv (.sl none S.attrs.length (attrsC S.attrs)), .pv (.sl none S.rels.length (relsC S.rels)), .pv (.sl none S.feats.length (featsC S.feats)), .pv (.int .i64 S.label)]), (2, .gro 3 (intsP x_0.2))] 3)
      (I := fun x_0 => x_0.1 ≤ P.length ∧ x_0.2 = (upZ x_0.1).filter (fun x => decide (x ∈ abvL P a) && (belowL P a).any fun b => linkB S x b)) (μ := fun x_0 => P.length - x_0.1) (x0 := (0, [])) (St.le_mk ⟨rfl, rfl, rfl, rfl, rfl, rfl, trivial⟩ ⟨rfl, rfl, trivial⟩ rfl rfl) (⟨Nat.zero_le _, rfl⟩) ?_
    rintro ⟨k, L⟩ ⟨hk, hL⟩
    try simp only at hk hL ⊢
    repeat refine AW.seq ?_
    refine AW.region ?_
    refine A1 rfl ?_
    repeat refine AW.seq ?_
    refine AW.condP rfl (fun hc31 => ?_) (fun hc31 => ?_)
    · have hlt : k < P.length := by omega
      have hLl : L.length ≤ k := by rw [hL]; exact Nat.le_trans (List.length_filter_le _ _) (by rw [upZ_len]; exact Nat.le_refl _)
      have hsl : (intsP L).length = L.length * 1 := by simp
      have hfs := filter_snoc (fun x => decide (x ∈ abvL P a) && (belowL P a).any fun b => linkB S x b) k
      refine AW.skip ?_
      repeat refine AW.seq ?_
      refine AW.block ?_
      repeat refine AW.seq ?_
      refine AW.region ?_
      iterate 2 refine A1 rfl ?_
      repeat refine AW.seq ?_
      refine AW.region ?_
      iterate 2 refine A1 rfl ?_
      refine RL.step (d := some 35) rfl rfl (xj_call Tryz.call50 (in_spec (abvL P a) k (by omega)) rfl) ?_
      refine A1 rfl ?_
      repeat refine AW.seq ?_
      refine AW.cond rfl (fun hc36 => ?_) (fun hc36 => ?_)
      · have hnm : decide ((k : Int) ∈ abvL P a) = false := by simpa using hc36
        rw [if_neg (by rw [hnm]; simp), ← hL, List.append_nil] at hfs
        repeat refine AW.seq ?_
        refine AW.exit ?_
        repeat refine AW.seq ?_
        refine AW.region ?_
        iterate 2 refine A1 rfl ?_
        exact ⟨(k + 1, L), St.le_mk ⟨rfl, rfl, rfl, rfl, rfl, rfl, trivial⟩ ⟨rfl, rfl, trivial⟩ rfl rfl, ⟨by simp only; omega, hfs.symm⟩, by simp only; omega⟩
      · have hnm : decide ((k : Int) ∈ abvL P a) = true := by simpa using hc36
        refine AW.skip ?_
        repeat refine AW.seq ?_
        refine AW.region ?_
        refine A1 rfl ?_
        repeat refine AW.seq ?_
        refine AW.region ?_
        iterate 3 refine A1 rfl ?_
        repeat refine AW.seq ?_
        refine AW.block ?_
        repeat refine AW.seq ?_
        refine AW.loop (st := fun x_1 : Nat × Bool => mkS [(3, .ptr 0 0), (7, .pv (.sl (some false) (belowL P a).length (intsP (belowL P a)))), (8, .pv (pints (abvL P a))), (10, .gsl 2 1 L.length), (11, .pv (.int .i64 k)), (12, .pv (.bool x_1.2)), (29, .pv (.int .i64 P.length)), (30, .pv (.int .i64 k)), (37, .pv (.sl (some false) (belowL P a).length (intsP (belowL P a)))), (38, .pv (.int .i64 (belowL P a).length)), (39, .pv (.int .i64 x_1.1))] [(0, .mix 27 [.pv (.sl none S.attrs.length (attrsC S.attrs)), .pv (.sl none S.rels.length (relsC S.rels)), .pv (.sl none S.feats.length (featsC S.feats)), .pv (.int .i64 S.label)]), (2, .gro 3 (intsP L))] 3)
          (I := fun x_1 => x_1.1 ≤ (belowL P a).length ∧ x_1.2 = ((belowL P a).take x_1.1).any fun b => linkB S k b) (μ := fun x_1 => (belowL P a).length - x_1.1) (x0 := (0, false)) (St.le_mk ⟨rfl, rfl, rfl, rfl, rfl, rfl, rfl, rfl, rfl, rfl, rfl, trivial⟩ ⟨rfl, rfl, trivial⟩ rfl rfl) (⟨Nat.zero_le _, rfl⟩) ?_
        rintro ⟨j, fd⟩ ⟨hj, hfd⟩
        try simp only at hj hfd ⊢
        repeat refine AW.seq ?_
        refine AW.region ?_
        refine A1 rfl ?_
        repeat refine AW.seq ?_
        refine AW.condP rfl (fun hc40 => ?_) (fun hc40 => ?_)
        · have hjl : j < (belowL P a).length := by omega
          have hvj := pints_at hjl
          have hnej := pints_ne hjl
          have has := any_snoc (p := fun b => linkB S k b) hjl
          rw [← hfd] at has
          refine AW.skip ?_
          repeat refine AW.seq ?_
          refine AW.block ?_
          repeat refine AW.seq ?_
          refine AW.region ?_
          refine A1 rfl ?_
          first | refine A2 rfl (by assumption) ?_ | refine A1 rfl ?_
          refine A1 rfl ?_
          repeat refine AW.seq ?_
          refine AW.region ?_
          iterate 2 refine A1 rfl ?_
          apply RL.orB 5 44 49 [45, 46, 47, 48] rfl (by first | exact MonoK.le | exact MonoK.aw | exact MonoK.back)
          · intro hb1
            iterate 5 refine A1 rfl ?_
            exact St.le_fg (fEq.upd (fEq.upd (fEq.upd (fEq.upd (fEq.upd (fEq.upd (fEq.refl) rfl) rfl) rfl) rfl) rfl) rfl) rfl rfl rfl
          · intro hb1
            iterate 3 refine A1 rfl ?_
            refine RL.stepG (d := some 48) rfl rfl rfl (xj_call Tryz.call46 (share_spec S hS k (belowL P a)[j]) rfl) ?_
            refine A1 rfl ?_
            exact St.le_fg (fEq.upd (fEq.upd (fEq.upd (fEq.upd (fEq.upd (fEq.upd (fEq.refl) rfl) rfl) rfl) rfl) rfl) rfl) rfl rfl rfl
          refine A1 rfl ?_
          repeat refine AW.seq ?_
          refine AW.region ?_
          iterate 2 refine A1 rfl ?_
          exact ⟨(j + 1, fd || linkB S k (belowL P a)[j]), St.le_mk ⟨rfl, rfl, rfl, rfl, rfl, rfl, rfl, rfl, rfl, rfl, rfl, trivial⟩ ⟨rfl, rfl, trivial⟩ rfl rfl, ⟨by simp only; omega, has.symm⟩, by simp only; omega⟩
        · rw [List.take_of_length_le (by omega)] at hfd
          repeat refine AW.seq ?_
          refine AW.exit ?_
          repeat refine AW.seq ?_
          refine AW.region ?_
          refine A1 rfl ?_
          repeat refine AW.seq ?_
          refine AW.cond rfl (fun hc51 => ?_) (fun hc51 => ?_)
          · rw [if_pos (by rw [hnm, ← hfd, hc51]; rfl), ← hL] at hfs
            repeat refine AW.seq ?_
            refine AW.region ?_
            iterate 5 refine A1 rfl ?_
            repeat refine AW.seq ?_
            refine AW.region ?_
            iterate 2 refine A1 rfl ?_
            exact ⟨(k + 1, L ++ [(k : Int)]), St.le_mkR [0, 1, 4] ⟨rfl, rfl, rfl, by simp; rfl, rfl, rfl, trivial⟩ ⟨rfl, congrArg (fun c => some (Ob.gro 3 c)) (ints_snoc L k).symm, trivial⟩ rfl rfl (by decide) rfl, ⟨by simp only; omega, hfs.symm⟩, by simp only; omega⟩
          · rw [if_neg (by rw [hnm, ← hfd, hc51]; decide), ← hL, List.append_nil] at hfs
            refine AW.skip ?_
            repeat refine AW.seq ?_
            refine AW.region ?_
            iterate 2 refine A1 rfl ?_
            exact ⟨(k + 1, L), St.le_mk ⟨rfl, rfl, rfl, rfl, rfl, rfl, trivial⟩ ⟨rfl, rfl, trivial⟩ rfl rfl, ⟨by simp only; omega, hfs.symm⟩, by simp only; omega⟩
    · have hLe : L = keyL S P a := by rw [hL, show k = P.length by omega]; exact hke
      repeat refine AW.seq ?_
      refine AW.exit ?_
      refine AW.weaken (St.le_pubA 2 rfl rfl) ?_
      repeat refine AW.seq ?_
      refine AW.region ?_
      iterate 2 refine A1 rfl ?_
      repeat refine AW.seq ?_
      refine AW.ret ?_
      exact ⟨_, _, rfl, rfl, by rw [if_pos hB, ← hLe]; simp [tk_all]; rfl⟩
  · rw [if_neg hB] at hbs
    repeat refine AW.seq ?_
    refine AW.region ?_
    iterate 3 refine A1 rfl ?_
    refine RL.step (d := some 18) rfl rfl (xj_call Tryz.call30 hbs rfl) ?_
    refine A1 rfl ?_
    repeat refine AW.seq ?_
    refine AW.region ?_
    iterate 2 refine A1 rfl ?_
    repeat refine AW.seq ?_
    refine AW.cond rfl (fun hc20 => ?_) (fun hc20 => absurd hc20 (by decide))
    repeat refine AW.seq ?_
    refine AW.region ?_
    refine A1 rfl ?_
    refine AW.weaken (St.le_fgS [6]) ?_
    repeat refine AW.seq ?_
    refine AW.ret ?_
    exact ⟨_, _, rfl, rfl, by rw [if_neg hB]; rfl⟩
theorem wmax_next {m w l : Int} {k : Nat} (hm : m = if k = 0 then 0 else w + 1) (hw : k = 0 → w = 0) (h0 : 0 ≤ w) (hl : 0 ≤ l) : (if l + 1 > m then l + 1 else m) = (if l > w then l else w) + 1 := by
  by_cases e : k = 0
  · have := hw e
    rw [if_pos e] at hm
    subst hm
    split <;> split <;> omega
  · rw [if_neg e] at hm
    subst hm
    split <;> split <;> omega
theorem rwidth_spec (S : Sch) (hS : SB S) (P : List Int) (hn : P.length ≤ 1000000) : FnP Tryz.prog 21 [schP S, ordP P] (· = .tup [.int .i64 (if ordE S P = 0 then widN S P P.length + 1 else 0), .int .i64 (ordE S P)]) := by
  refine FnP.of Tryz.func21 rfl Tryz.ntmps21 (by simp) fun m0 w0 F R0 => ?_
  repeat refine AW.seq ?_
  refine AW.region ?_
  iterate 4 refine A1 rfl ?_
  repeat refine AW.seq ?_
  refine AW.region ?_
  iterate 2 refine A1 rfl ?_
  refine RL.step (d := some 11) rfl rfl (xj_call Tryz.call23 (rochk_spec S hS P hn) rfl) ?_
  refine A1 rfl ?_
  repeat refine AW.seq ?_
  refine AW.region ?_
  iterate 2 refine A1 rfl ?_
  repeat refine AW.seq ?_
  refine AW.cond rfl (fun hc13 => ?_) (fun hc13 => ?_)
  · repeat refine AW.seq ?_
    refine AW.region ?_
    iterate 3 refine A1 rfl ?_
    repeat refine AW.seq ?_
    refine AW.ret ?_
    exact ⟨_, _, rfl, rfl, by rw [if_neg (inT hc13)]; rfl⟩
  · have h0 : ordE S P = 0 := inF hc13
    have hok := (ordE_zero.1 h0).2
    have hn1 : 1 ≤ P.length := by rw [hok.len]; exact hok.val.n1
    have hn12 : P.length ≤ 12 := by rw [hok.len]; exact hok.val.n2
    refine AW.skip ?_
    repeat refine AW.seq ?_
    refine AW.region ?_
    refine A1 rfl ?_
    repeat refine AW.seq ?_
    refine AW.region ?_
    iterate 4 refine A1 rfl ?_
    repeat refine AW.seq ?_
    refine AW.block ?_
    repeat refine AW.seq ?_
    refine AW.loop (st := fun x_0 : Nat × Int => mkS [(2, .ptr 0 0), (3, .ptr 1 0), (7, .pv (.int .i64 x_0.2)), (17, .pv (.int .i64 P.length)), (18, .pv (.int .i64 x_0.1))] [(0, .mix 27 [.pv (.sl none S.attrs.length (attrsC S.attrs)), .pv (.sl none S.rels.length (relsC S.rels)), .pv (.sl none S.feats.length (featsC S.feats)), .pv (.int .i64 S.label)]), (1, .mix 29 [.pv (pints P)])] 2)
      (I := fun x_0 => x_0.1 ≤ P.length ∧ x_0.2 = (if x_0.1 = 0 then 0 else widN S P x_0.1 + 1)) (μ := fun x_0 => P.length - x_0.1) (x0 := (0, 0)) (St.le_mk ⟨rfl, rfl, rfl, rfl, rfl, trivial⟩ ⟨rfl, rfl, trivial⟩ rfl rfl) (⟨Nat.zero_le _, rfl⟩) ?_
    rintro ⟨k, m⟩ ⟨hk, hm⟩
    try simp only at hk hm ⊢
    repeat refine AW.seq ?_
    refine AW.region ?_
    refine A1 rfl ?_
    repeat refine AW.seq ?_
    refine AW.condP rfl (fun hc19 => ?_) (fun hc19 => ?_)
    · have hlt : k < P.length := by omega
      have hks := rkey_spec S hS P hn (k : Int)
      rw [if_pos (isB_iff.2 ⟨h0, by omega, by omega⟩)] at hks
      have hwb := widN_bd S P k
      have hkl : (keyL S P k).length ≤ P.length := by unfold keyL; rw [(sortI_perm _).length_eq]; exact Nat.le_trans (List.length_filter_le _ _) (abvL_len P _)
      refine AW.skip ?_
      repeat refine AW.seq ?_
      refine AW.block ?_
      repeat refine AW.seq ?_
      refine AW.region ?_
      iterate 2 refine A1 rfl ?_
      repeat refine AW.seq ?_
      refine AW.region ?_
      iterate 4 refine A1 rfl ?_
      refine RL.step (d := some 25) rfl rfl (xj_call Tryz.call28 hks rfl) ?_
      iterate 4 refine A1 rfl ?_
      repeat refine AW.seq ?_
      refine AW.region ?_
      iterate 2 refine A1 rfl ?_
      exact ⟨(k + 1, (if ((keyL S P k).length : Int) + 1 > m then ((keyL S P k).length : Int) + 1 else m)), St.le_mk ⟨rfl, rfl, rfl, rfl, rfl, trivial⟩ ⟨rfl, rfl, trivial⟩ rfl rfl, ⟨by simp only; omega, (wmax_next hm (fun e => by subst e; rfl) hwb.1 (by omega)).trans (by simp only [widN]; rw [if_neg (show ¬ k + 1 = 0 by omega)])⟩, by simp only; omega⟩
    · have hkn : k = P.length := by omega
      rw [if_neg (by omega)] at hm
      repeat refine AW.seq ?_
      refine AW.exit ?_
      repeat refine AW.seq ?_
      refine AW.region ?_
      iterate 3 refine A1 rfl ?_
      repeat refine AW.seq ?_
      refine AW.ret ?_
      exact ⟨_, _, rfl, rfl, by rw [if_pos h0, h0, ← hkn, hm]; rfl⟩
end Go.Proofs.YtkalgjnhaicabaaGreat
namespace Go.Proofs.YtkalgjnhaicabaaGreat
open Go.RowKit Mk
set_option maxRecDepth 100000
set_option maxHeartbeats 1000000
theorem walk_all (P : List Int) (hP : UpOk P) (hn : P.length ≤ 1000000) : ∀ (f : Nat) (v : Int) (L : List Int), (∀ a (ha : a < P.length), P[a] = v → P.length + 1 ≤ (abvL P a).length + f) → L.length + (walkF P f v).length ≤ 1000000 →
    FnO Tryz.prog 57 3 1 (visA P v) (visO P 1000002 L) (fun r ob' => r = .tup [] ∧ ob' = lookO (visO P 0 (L ++ walkF P f v)))
  | 0, v, L, hf, hL => by
    have hno : ∀ a (ha : a < P.length), P[a] ≠ v := fun a ha e => by have := hf a ha e; have := abvL_len P a; omega
    have hz : walkG P (fun _ => []) v P.length = [] := by
      unfold walkG
      rw [List.flatMap_eq_nil_iff]
      intro x hx
      obtain ⟨a, ha, rfl⟩ := upZ_mem.1 hx
      rw [if_neg]
      simp only [Int.toNat_natCast, getD_eq ha]
      exact hno a ha
    have := walk1_step P hn (fun _ => []) v (fun a ha L e _ => absurd e (hno a ha)) L (by rw [hz]; simpa [walkF] using hL)
    rw [hz] at this
    exact this
  | f + 1, v, L, hf, hL => walk1_step P hn (walkF P f) v (fun a ha L' e hL' => walk_all P hP hn f a L' (fun b hb e2 => by
      have h1 := hf a ha e
      rw [abvL_cons hP hb ha e2]; simp; omega) hL') L hL
theorem walkL_len {P : List Int} (hP : UpOk P) : (walkL P).length = P.length := by rw [(walk_perm hP).length_eq, upZ_len]
theorem owalk_spec (S : Sch) (hS : SB S) (P : List Int) (hn : P.length ≤ 1000000) : FnP Tryz.prog 24 [schP S, ordP P] (· = pints (if ordE S P = 0 then walkL P else [])) := by
  refine FnP.of Tryz.func24 rfl Tryz.ntmps24 (by simp) fun m0 w0 F R0 => ?_
  repeat refine AW.seq ?_
  refine AW.region ?_
  iterate 3 refine A1 rfl ?_
  repeat refine AW.seq ?_
  refine AW.region ?_
  iterate 2 refine A1 rfl ?_
  refine RL.step (d := some 9) rfl rfl (xj_call Tryz.call22 (ocheck_spec S hS P hn) rfl) ?_
  refine A1 rfl ?_
  repeat refine AW.seq ?_
  refine AW.cond rfl (fun hc10 => ?_) (fun hc10 => ?_)
  · repeat refine AW.seq ?_
    refine AW.region ?_
    refine A1 rfl ?_
    refine AW.weaken (St.le_fgS [4]) ?_
    repeat refine AW.seq ?_
    refine AW.ret ?_
    exact ⟨_, _, rfl, rfl, by rw [if_neg (inT hc10)]; rfl⟩
  · have h0 : ordE S P = 0 := inF hc10
    have hU := (ordE_zero.1 h0).2.upOk
    have hwl := walkL_len hU
    have hgo := walk_all P hU hn (P.length + 1) (-1) [] (fun a ha e => by omega) (by show 0 + (walkL P).length ≤ 1000000; omega)
    refine AW.skip ?_
    refine AW.weaken (St.le_ppA 1 rfl rfl) ?_
    repeat refine AW.seq ?_
    refine AW.region ?_
    refine A1 rfl ?_
    refine AW.weaken (St.le_groC 2 0 3 1 3 rfl rfl rfl) ?_
    repeat refine AW.seq ?_
    refine AW.region ?_
    refine A1 rfl ?_
    repeat refine AW.seq ?_
    refine AW.region ?_
    iterate 2 refine A1 rfl ?_
    repeat refine AW.seq ?_
    refine AW.region ?_
    refine A1 rfl ?_
    refine RL.call rfl (oj_callVF [2, 4, 3] 5 Tryz.call57 hgo rfl rfl rfl rfl rfl ⟨rfl, rfl, rfl, trivial⟩ (by decide) rfl ?_)
    rintro _ _ ⟨rfl, rfl⟩
    refine AW.weaken (St.le_pubA (o := .gro 3 (intsP (walkL P))) 5 (by kernel_rfl) rfl) ?_
    repeat refine AW.seq ?_
    refine AW.region ?_
    iterate 2 refine A1 rfl ?_
    repeat refine AW.seq ?_
    refine AW.ret ?_
    exact ⟨_, _, rfl, rfl, by rw [if_pos h0]; rfl⟩
def pathS : Sch := ⟨[(⟨#[97]⟩, 1), (⟨#[98]⟩, 1), (⟨#[99]⟩, 1)], [(⟨#[114]⟩, [0, 1]), (⟨#[113]⟩, [1, 2])], [], -1⟩
theorem path_spec : FnP Tryz.prog 36 [] (· = schP pathS) := by
  refine FnP.fg2 (FnP.ofC Tryz.func36 rfl Tryz.ntmps36 (by simp) fun m0 w0 F R0 => ?_)
  repeat refine AW.seq ?_
  refine AW.region ?_
  refine A1 rfl ?_
  repeat refine AW.seq ?_
  refine AW.region ?_
  iterate 3 refine A1 rfl ?_
  refine RL.step (d := some 4) rfl rfl (xj_buildSliceP none (by simp) el23 rfl (by decide) (by decide) rfl rfl) ?_
  refine RL.step (d := some 5) rfl rfl (xj_buildSliceP none (by simp) el22 rfl (by decide) (by decide) rfl rfl) ?_
  refine A1 rfl ?_
  refine RL.step (d := some 7) rfl rfl (xj_buildSliceP none (by simp) el22 rfl (by decide) (by decide) rfl rfl) ?_
  refine A1 rfl ?_
  refine RL.step (d := some 9) rfl rfl (xj_buildSliceP none (by simp) el24 rfl (by decide) (by decide) rfl rfl) ?_
  iterate 2 refine A1 rfl ?_
  repeat refine AW.seq ?_
  refine AW.ret ?_
  exact ⟨_, _, rfl, rfl, ⟨cellOk1 ⟨_, Tryz.underlying27, rfl⟩ sz27 rfl rfl rfl, trivial⟩, rfl⟩
theorem path_sb : SB pathS := ⟨by decide, by decide, by decide, by decide, by decide, by decide⟩
theorem path_ok : checkE pathS = 0 := by decide
abbrev pathP : List Int := [1, -1, 1]
theorem path_ord : ordE pathS pathP = 0 := by decide
theorem path_val : Valid pathS := valid_of path_ok
abbrev pathQ : List Int := [1, 0, 2]
theorem path_perm : pathQ.Perm (upZ pathS.attrs.length) := by
  show [1, 0, 2].Perm [(0 : Int), 1, 2]
  exact List.Perm.swap 0 1 [2]
theorem path_is : IsOrd 3 (adjS pathS) (posQ pathQ) pathP := by
  have p0 : posQ pathQ 0 = 1 := by decide
  have p1 : posQ pathQ 1 = 0 := by decide
  have p2 : posQ pathQ 2 = 2 := by decide
  refine ⟨rfl, fun b hb => ?_⟩
  match b, hb with
  | 0, _ =>
    refine .inr ⟨1, by decide, rfl, ⟨by rw [p0, p1]; decide, .one ⟨by decide, by decide⟩ (by rw [p0, p1]; decide)⟩, fun a ha h => ?_⟩
    have h1 := h.1
    rw [p0] at h1
    match a, ha with
    | 0, _ => rw [p0] at h1; omega
    | 1, _ => exact .inl rfl
    | 2, _ => rw [p2] at h1; omega
  | 1, _ =>
    refine .inl ⟨rfl, fun a ha h => ?_⟩
    have h1 := h.1
    rw [p1] at h1; omega
  | 2, _ =>
    refine .inr ⟨1, by decide, rfl, ⟨by rw [p1, p2]; decide, .one ⟨by decide, by decide⟩ (by rw [p1, p2]; decide)⟩, fun a ha h => ?_⟩
    match a, ha with
    | 0, _ =>
      exfalso
      have hst := (h.2.stay (inn := fun x => x = 0) rfl (fun x y hx hxy hy => by
        subst hx
        have hy3 := (link_lt path_val hxy.2).2.2
        have hy3 : y < 3 := by have : (y : Int) < 3 := hy3; omega
        match y, hy3 with
        | 0, _ => rfl
        | 1, _ => rw [p0, p1] at hy; omega
        | 2, _ => exact absurd hxy.2 (by decide))).2
      omega
    | 1, _ => exact .inl rfl
    | 2, _ => have h1 := h.1; omega
theorem path_ordL : ordL pathS pathQ = pathP := (ordL_ord path_val path_perm).unique path_is
theorem of_path : FnP Tryz.prog 15 [schP pathS, pints pathQ] (· = .tup [ordP pathP, .int .i64 0]) := by
  have h := oof_spec pathS path_sb pathQ (by decide)
  have e : ofV pathS pathQ = .tup [ordP pathP, .int .i64 0] := by
    unfold ofV
    rw [perm_ofE path_ok path_perm, if_pos rfl, path_ordL]
  rw [e] at h
  exact h
theorem sort_one (a : Int) : sortI [a] = [a] := (sortI_eq (List.Perm.refl [a]) (by simp)).symm
theorem sort_nil : sortI [] = [] := (sortI_eq (List.Perm.refl []) (by simp)).symm
theorem key_p0 : keyL pathS pathP 0 = [1] := by unfold keyL; rw [show keyU pathS pathP 0 = [1] by decide, sort_one]
theorem key_p1 : keyL pathS pathP 1 = [] := by unfold keyL; rw [show keyU pathS pathP 1 = [] by decide, sort_nil]
theorem key_p2 : keyL pathS pathP 2 = [1] := by unfold keyL; rw [show keyU pathS pathP 2 = [1] by decide, sort_one]
theorem width_path : FnP Tryz.prog 20 [schP pathS, ordP pathP] (· = .tup [.int .i64 2, .int .i64 0]) := by
  have h := width_spec pathS path_sb pathP (by decide)
  rw [path_ord, if_pos rfl] at h
  have e : widN pathS pathP 3 = 1 := by
    have e0 : ((keyL pathS pathP ((0 : Nat) : Int)).length : Int) = 1 := by rw [show ((0 : Nat) : Int) = 0 from rfl, key_p0]; rfl
    have e1 : ((keyL pathS pathP ((1 : Nat) : Int)).length : Int) = 0 := by rw [show ((1 : Nat) : Int) = 1 from rfl, key_p1]; rfl
    have e2 : ((keyL pathS pathP ((2 : Nat) : Int)).length : Int) = 1 := by rw [show ((2 : Nat) : Int) = 2 from rfl, key_p2]; rfl
    simp only [widN, e0, e1, e2]
    decide
  rw [show pathP.length = 3 from rfl, e] at h
  exact h
theorem key_path : FnP Tryz.prog 27 [schP pathS, ordP pathP, .int .i64 0] (· = pints [1]) := by
  have h := keyU_spec pathS path_sb pathP (by decide) 0
  rw [if_pos (isB_iff.2 ⟨path_ord, by decide, by decide⟩), key_p0] at h
  exact h
theorem chi_path : FnP Tryz.prog 31 [schP pathS, ordP pathP, .int .i64 1] (· = pints [0, 2]) := by
  have h := children_spec pathS path_sb pathP (by decide) 1
  rw [if_neg (by unfold badB; rw [isB_iff.2 ⟨path_ord, by decide, by decide⟩, path_ord]; decide), show childL pathP 1 = [0, 2] by decide] at h
  exact h
theorem home_path : FnP Tryz.prog 33 [schP pathS, ordP pathP, .int .i64 1] (· = .int .i64 2) := by
  have h := home_spec pathS path_sb pathP (by decide) 1
  rw [if_neg (by unfold noRel; rw [path_ord]; decide), show homeL pathP (pathS.rels.getD (1 : Int).toNat default).2 = 2 by decide] at h
  exact h
theorem walk_path : FnP Tryz.prog 24 [schP pathS, ordP pathP] (· = pints [1, 0, 2]) := by
  have h := owalk_spec pathS path_sb pathP (by decide)
  rw [if_pos path_ord, show walkL pathP = [1, 0, 2] by decide] at h
  exact h
theorem below_path : FnP Tryz.prog 29 [schP pathS, ordP pathP, .int .i64 1] (· = pints [0, 1, 2]) := by
  have h := belowU_spec pathS path_sb pathP (by decide) 1
  rw [if_pos (isB_iff.2 ⟨path_ord, by decide, by decide⟩), show belowL pathP 1 = [0, 1, 2] by decide] at h
  exact h
theorem chk_path : FnP Tryz.prog 22 [schP pathS, ordP pathP] (· = .int .i64 0) := by
  have h := ocheck_spec pathS path_sb pathP (by decide)
  rw [path_ord] at h
  exact h
theorem ints_same (l : List Int) (hl : l.length ≤ 1000000000) : FnP Tryz.prog 13 [pints l, pints l] (· = .bool true) := by
  have h := ints_spec l l hl hl
  rw [decide_eq_true rfl] at h
  exact h
end Go.Proofs.YtkalgjnhaicabaaGreat
namespace Go.Proofs.YtkalgjnhaicabaaGreat
open Go.RowKit Mk
set_option maxRecDepth 100000
set_option maxHeartbeats 4000000
theorem bad_eq (S : Sch) (P : List Int) (v : Int) : ((ordE S P != 0 || decide (v < -1)) || decide (v ≥ (P.length : Int))) = badB S P v := by
  unfold badB isB
  rw [Bool.eq_iff_iff]
  by_cases h : ordE S P = 0
  · simp [h]; omega
  · simp [h]
theorem rchildren_spec (S : Sch) (hS : SB S) (P : List Int) (hn : P.length ≤ 1000000) (v : Int) : FnP Tryz.prog 32 [schP S, ordP P, .int .i64 v] (· = pints (if badB S P v = true then [] else childL P v)) := by
  refine FnP.of Tryz.func32 rfl Tryz.ntmps32 (by simp) fun m0 w0 F R0 => ?_
  repeat refine AW.seq ?_
  refine AW.region ?_
  iterate 3 refine A1 rfl ?_
  repeat refine AW.seq ?_
  refine AW.region ?_
  iterate 2 refine A1 rfl ?_
  refine RL.step (d := some 12) rfl rfl (xj_call Tryz.call23 (rochk_spec S hS P hn) rfl) ?_
  iterate 2 refine A1 rfl ?_
  apply RL.orB 3 14 17 [15, 16] rfl (by first | exact MonoK.le | exact MonoK.aw | exact MonoK.back)
  · intro hb4
    iterate 3 refine A1 rfl ?_
    exact St.le_fg (fEq.upd (fEq.upd (fEq.upd (fEq.upd (fEq.refl) rfl) rfl) rfl) rfl) rfl rfl rfl
  · intro hb4
    iterate 3 refine A1 rfl ?_
    exact St.le_fg (fEq.upd (fEq.upd (fEq.upd (fEq.upd (fEq.refl) rfl) rfl) rfl) rfl) rfl rfl rfl
  refine A1 rfl ?_
  apply RL.orB 6 18 24 [19, 20, 21, 22, 23] rfl (by first | exact MonoK.le | exact MonoK.aw | exact MonoK.back)
  · intro hb8
    iterate 6 refine A1 rfl ?_
    exact St.le_fg (fEq.upd (fEq.upd (fEq.upd (fEq.upd (fEq.upd (fEq.upd (fEq.upd (fEq.refl) rfl) rfl) rfl) rfl) rfl) rfl) rfl) rfl rfl rfl
  · intro hb8
    iterate 6 refine A1 rfl ?_
    exact St.le_fg (fEq.upd (fEq.upd (fEq.upd (fEq.upd (fEq.upd (fEq.upd (fEq.upd (fEq.refl) rfl) rfl) rfl) rfl) rfl) rfl) rfl) rfl rfl rfl
  repeat refine AW.seq ?_
  refine AW.cond rfl (fun hc24 => ?_) (fun hc24 => ?_)
  · rw [bad_eq] at hc24
    repeat refine AW.seq ?_
    refine AW.region ?_
    refine A1 rfl ?_
    refine AW.weaken (St.le_fgS [6]) ?_
    repeat refine AW.seq ?_
    refine AW.ret ?_
    exact ⟨_, _, rfl, rfl, by rw [if_pos hc24]; rfl⟩
  · rw [bad_eq] at hc24
    refine AW.skip ?_
    repeat refine AW.seq ?_
    refine AW.region ?_
    refine A1 rfl ?_
    refine AW.weaken (St.le_gro 7 2 1 3 rfl rfl) ?_
    repeat refine AW.seq ?_
    refine AW.region ?_
    iterate 4 refine A1 rfl ?_
    repeat refine AW.seq ?_
    refine AW.block ?_
    repeat refine AW.seq ?_
    refine AW.loop (st := fun x_0 : Nat × List Int => mkS [(2, .pv (.int .i64 v)), (7, .gsl 2 1 x_0.2.length), (26, .pv (pints P)), (27, .pv (.int .i64 P.length)), (28, .pv (.int .i64 x_0.1))] [(2, .gro 3 (intsP x_0.2))] 3)
      (I := fun x_0 => x_0.1 ≤ P.length ∧ x_0.2 = (upZ x_0.1).filter (fun a => P.getD a.toNat 0 == v)) (μ := fun x_0 => P.length - x_0.1) (x0 := (0, [])) (St.le_mk ⟨rfl, rfl, rfl, rfl, rfl, trivial⟩ ⟨rfl, trivial⟩ rfl rfl) (⟨Nat.zero_le _, rfl⟩) ?_
    rintro ⟨k, L⟩ ⟨hk, hL⟩
    try simp only at hk hL ⊢
    repeat refine AW.seq ?_
    refine AW.region ?_
    refine A1 rfl ?_
    repeat refine AW.seq ?_
    refine AW.condP rfl (fun hc29 => ?_) (fun hc29 => ?_)
    · have hlt : k < P.length := by omega
      have hva := pints_at hlt
      have hne := pints_ne hlt
      have hLl : L.length ≤ k := by rw [hL]; exact Nat.le_trans (List.length_filter_le _ _) (by rw [upZ_len]; exact Nat.le_refl _)
      have hsl : (intsP L).length = L.length * 1 := by simp
      have hfs := filter_snoc (fun a => P.getD a.toNat 0 == v) k
      have hgd : P.getD (k : Int).toNat 0 = P[k] := by simp [List.getD, hlt]
      rw [hgd] at hfs
      refine AW.skip ?_
      repeat refine AW.seq ?_
      refine AW.block ?_
      repeat refine AW.seq ?_
      refine AW.region ?_
      iterate 2 refine A1 rfl ?_
      first | refine A2 rfl (by assumption) ?_ | refine A1 rfl ?_
      iterate 2 refine A1 rfl ?_
      repeat refine AW.seq ?_
      refine AW.region ?_
      iterate 3 refine A1 rfl ?_
      repeat refine AW.seq ?_
      refine AW.cond rfl (fun hc35 => ?_) (fun hc35 => ?_)
      · rw [if_pos hc35, ← hL] at hfs
        repeat refine AW.seq ?_
        refine AW.region ?_
        iterate 5 refine A1 rfl ?_
        repeat refine AW.seq ?_
        refine AW.region ?_
        iterate 2 refine A1 rfl ?_
        exact ⟨(k + 1, L ++ [(k : Int)]), St.le_mkR [0, 1, 4] ⟨rfl, by simp; rfl, rfl, rfl, rfl, trivial⟩ ⟨congrArg (fun c => some (Ob.gro 3 c)) (ints_snoc L k).symm, trivial⟩ rfl rfl (by decide) rfl, ⟨by simp only; omega, hfs.symm⟩, by simp only; omega⟩
      · rw [if_neg (by rw [hc35]; decide), ← hL, List.append_nil] at hfs
        refine AW.skip ?_
        repeat refine AW.seq ?_
        refine AW.region ?_
        iterate 2 refine A1 rfl ?_
        exact ⟨(k + 1, L), St.le_mk ⟨rfl, rfl, rfl, rfl, rfl, trivial⟩ ⟨rfl, trivial⟩ rfl rfl, ⟨by simp only; omega, hfs.symm⟩, by simp only; omega⟩
    · repeat refine AW.seq ?_
      refine AW.exit ?_
      refine AW.weaken (St.le_pubA 2 rfl rfl) ?_
      repeat refine AW.seq ?_
      refine AW.region ?_
      iterate 2 refine A1 rfl ?_
      repeat refine AW.seq ?_
      refine AW.ret ?_
      exact ⟨_, _, rfl, rfl, by rw [if_neg (by rw [hc24]; decide), show childL P v = L by rw [hL, show k = P.length by omega]; rfl]; simp [tk_all]; rfl⟩
/-- The deepest of the first numbers. -/
structure Deep (P l : List Int) (k : Nat) (b m : Int) : Prop where
  zero : k = 0 → m = -1 ∧ b = -1
  pos : 0 < k → b ∈ l ∧ m = (abvL P b).length ∧ ∀ a ∈ l.take k, ((abvL P a).length : Int) ≤ m
theorem Deep.next {P l : List Int} {k : Nat} {b m : Int} (h : Deep P l k b m) (hk : k < l.length) :
    (((abvL P l[k]).length : Int) > m → Deep P l (k + 1) l[k] (abvL P l[k]).length) ∧ (¬ ((abvL P l[k]).length : Int) > m → Deep P l (k + 1) b m) := by
  refine ⟨fun hg => ⟨fun e => by omega, fun _ => ⟨List.getElem_mem hk, rfl, fun a ha => ?_⟩⟩, fun hg => ⟨fun e => by omega, fun _ => ?_⟩⟩
  · rw [take_snoc hk, List.mem_append, List.mem_singleton] at ha
    rcases ha with ha | rfl
    · have hp : 0 < k := by rcases Nat.eq_zero_or_pos k with e | e; subst e; simp at ha; exact e
      have := (h.pos hp).2.2 a ha
      omega
    · exact Int.le_refl _
  · have hp : 0 < k := by
      rcases Nat.eq_zero_or_pos k with e | e
      · have := (h.zero e).1; omega
      · exact e
    obtain ⟨h1, h2, h3⟩ := h.pos hp
    refine ⟨h1, h2, fun a ha => ?_⟩
    rw [take_snoc hk, List.mem_append, List.mem_singleton] at ha
    rcases ha with ha | rfl
    · exact h3 a ha
    · omega
theorem rhome_spec (S : Sch) (hS : SB S) (P : List Int) (hn : P.length ≤ 1000000) (r : Int) : FnP Tryz.prog 34 [schP S, ordP P, .int .i64 r] (· = .int .i64 (if noRel S P r = true then -1 else homeL P (S.rels.getD r.toNat default).2)) := by
  refine FnP.of Tryz.func34 rfl Tryz.ntmps34 (by simp) fun m0 w0 F R0 => ?_
  repeat refine AW.seq ?_
  refine AW.region ?_
  iterate 3 refine A1 rfl ?_
  repeat refine AW.seq ?_
  refine AW.region ?_
  iterate 2 refine A1 rfl ?_
  refine RL.step (d := some 15) rfl rfl (xj_call Tryz.call23 (rochk_spec S hS P hn) rfl) ?_
  iterate 2 refine A1 rfl ?_
  apply RL.orB 3 17 20 [18, 19] rfl (by first | exact MonoK.le | exact MonoK.aw | exact MonoK.back)
  · intro hb4
    iterate 3 refine A1 rfl ?_
    exact St.le_fg (fEq.upd (fEq.upd (fEq.upd (fEq.upd (fEq.refl) rfl) rfl) rfl) rfl) rfl rfl rfl
  · intro hb4
    iterate 3 refine A1 rfl ?_
    exact St.le_fg (fEq.upd (fEq.upd (fEq.upd (fEq.upd (fEq.refl) rfl) rfl) rfl) rfl) rfl rfl rfl
  refine A1 rfl ?_
  apply RL.orB 6 21 27 [22, 23, 24, 25, 26] rfl (by first | exact MonoK.le | exact MonoK.aw | exact MonoK.back)
  · intro hb8
    iterate 6 refine A1 rfl ?_
    exact St.le_fg (fEq.upd (fEq.upd (fEq.upd (fEq.upd (fEq.upd (fEq.upd (fEq.upd (fEq.refl) rfl) rfl) rfl) rfl) rfl) rfl) rfl) rfl rfl rfl
  · intro hb8
    iterate 6 refine A1 rfl ?_
    exact St.le_fg (fEq.upd (fEq.upd (fEq.upd (fEq.upd (fEq.upd (fEq.upd (fEq.upd (fEq.refl) rfl) rfl) rfl) rfl) rfl) rfl) rfl) rfl rfl rfl
  repeat refine AW.seq ?_
  refine AW.cond rfl (fun hc27 => ?_) (fun hc27 => ?_)
  · repeat refine AW.seq ?_
    refine AW.region ?_
    refine A1 rfl ?_
    repeat refine AW.seq ?_
    refine AW.ret ?_
    exact ⟨_, _, rfl, rfl, by unfold noRel; rw [if_pos hc27]; rfl⟩
  · have hno : noRel S P r = false := hc27
    have h3 : ordE S P = 0 ∧ 0 ≤ r ∧ r < S.rels.length := by unfold noRel at hno; simp at hno; omega
    have hok := (ordE_zero.1 h3.1).2
    have hU := hok.upOk
    have hP : ∀ p ∈ P, p < P.length := fun p hp => (hok.rng p hp).2
    obtain ⟨q, rfl⟩ := Int.eq_ofNat_of_zero_le h3.2.1
    have hql : q < S.rels.length := by omega
    have hrow : (relsC S.rels)[q * 2 + 1]? = some (pints S.rels[q].2) := flat_at _ 2 (fun _ => rfl) S.rels q 1 hql (by decide)
    have hrne := rel_ne hql
    have hrm := List.getElem_mem hql
    have hrl := hS.rl _ hrm
    have hrr : ∀ a ∈ S.rels[q].2, 0 ≤ a ∧ a < P.length := by rw [hok.len]; exact hok.val.rng _ hrm
    have hrp : 0 < S.rels[q].2.length := List.length_pos_iff.2 (hok.val.ne _ hrm)
    have hgd : S.rels.getD (q : Int).toNat default = S.rels[q] := by simp [List.getD, hql]
    have hha := home_all hU (hok.val.ne _ hrm) hrr (hok.rt _ hrm)
    refine AW.skip ?_
    repeat refine AW.seq ?_
    refine AW.region ?_
    iterate 2 refine A1 rfl ?_
    repeat refine AW.seq ?_
    refine AW.region ?_
    iterate 5 refine A1 rfl ?_
    first | refine A2 rfl (by assumption) ?_ | refine A1 rfl ?_
    iterate 2 refine A1 rfl ?_
    repeat refine AW.seq ?_
    refine AW.block ?_
    repeat refine AW.seq ?_
    refine AW.loop (st := fun x_0 : Nat × Int × Int => mkS [(4, .ptr 1 0), (7, .pv (.int .i64 x_0.2.1)), (8, .pv (.int .i64 x_0.2.2)), (33, .pv (pints S.rels[q].2)), (34, .pv (.int .i64 S.rels[q].2.length)), (35, .pv (.int .i64 x_0.1))] [(1, .mix 29 [.pv (pints P)])] 2)
      (I := fun x_0 => x_0.1 ≤ S.rels[q].2.length ∧ Deep P S.rels[q].2 x_0.1 x_0.2.1 x_0.2.2) (μ := fun x_0 => S.rels[q].2.length - x_0.1) (x0 := (0, -1, -1)) (St.le_mk ⟨rfl, rfl, rfl, rfl, rfl, rfl, trivial⟩ ⟨rfl, trivial⟩ rfl rfl) (⟨Nat.zero_le _, ⟨fun _ => ⟨rfl, rfl⟩, fun h => absurd h (Nat.lt_irrefl _)⟩⟩) ?_
    rintro ⟨k, b, m⟩ ⟨hk, hD⟩
    try simp only at hk hD ⊢
    repeat refine AW.seq ?_
    refine AW.region ?_
    refine A1 rfl ?_
    repeat refine AW.seq ?_
    refine AW.condP rfl (fun hc36 => ?_) (fun hc36 => ?_)
    · have hlt : k < S.rels[q].2.length := by omega
      have hva := pints_at hlt
      have hne := pints_ne hlt
      have hka := hrr _ (List.getElem_mem hlt)
      have hnx := hD.next hlt
      obtain ⟨a, hae⟩ := Int.eq_ofNat_of_zero_le hka.1
      rw [hae] at hva hnx
      have hal : a < P.length := by omega
      refine AW.skip ?_
      repeat refine AW.seq ?_
      refine AW.block ?_
      repeat refine AW.seq ?_
      refine AW.region ?_
      refine A1 rfl ?_
      first | refine A2 rfl (by assumption) ?_ | refine A1 rfl ?_
      refine A1 rfl ?_
      repeat refine AW.seq ?_
      refine AW.region ?_
      iterate 2 refine A1 rfl ?_
      refine RL.step (d := some 42) rfl rfl (xj_call Tryz.call56 (ranc_spec P a hal hP hn) rfl) ?_
      iterate 5 refine A1 rfl ?_
      repeat refine AW.seq ?_
      refine AW.region ?_
      iterate 4 refine A1 rfl ?_
      repeat refine AW.seq ?_
      refine AW.condP rfl (fun hc48 => ?_) (fun hc48 => ?_)
      · repeat refine AW.seq ?_
        refine AW.region ?_
        iterate 5 refine A1 rfl ?_
        repeat refine AW.seq ?_
        refine AW.region ?_
        iterate 2 refine A1 rfl ?_
        exact ⟨(k + 1, (a : Int), ((abvL P (a : Int)).length : Int)), St.le_mk ⟨rfl, rfl, rfl, rfl, rfl, rfl, trivial⟩ ⟨rfl, trivial⟩ rfl rfl, ⟨by simp only; omega, hnx.1 hc48⟩, by simp only; omega⟩
      · refine AW.skip ?_
        repeat refine AW.seq ?_
        refine AW.region ?_
        iterate 2 refine A1 rfl ?_
        exact ⟨(k + 1, b, m), St.le_mk ⟨rfl, rfl, rfl, rfl, rfl, rfl, trivial⟩ ⟨rfl, trivial⟩ rfl rfl, ⟨by simp only; omega, hnx.2 hc48⟩, by simp only; omega⟩
    · have hkl : k = S.rels[q].2.length := by omega
      have hbe : b = homeL P S.rels[q].2 := by
        obtain ⟨h4, h5, h6⟩ := hD.pos (by omega)
        rw [List.take_of_length_le (by omega)] at h6
        rcases hha.2 b h4 with e | e
        · exact e
        · have h7 := h6 _ hha.1
          obtain ⟨x, hx⟩ := Int.eq_ofNat_of_zero_le (hrr _ hha.1).1
          obtain ⟨y, hy⟩ := Int.eq_ofNat_of_zero_le (hrr _ h4).1
          rw [hx, hy] at e
          rw [hx, h5, hy] at h7
          have := (hi_len hU (by have := (hrr _ hha.1).2; omega) e).2
          omega
      repeat refine AW.seq ?_
      refine AW.exit ?_
      repeat refine AW.seq ?_
      refine AW.region ?_
      iterate 2 refine A1 rfl ?_
      repeat refine AW.seq ?_
      refine AW.ret ?_
      exact ⟨_, _, rfl, rfl, by rw [if_neg (by rw [hno]; decide), hgd, hbe]; rfl⟩
/-- The walk from a variable: itself, then what is below. -/
theorem walkF_child (P : List Int) (f : Nat) (v : Int) : walkF P (f + 1) v = (childL P v).flatMap fun a => a :: walkF P f a := by
  simp only [walkF, childL]
  induction upZ P.length with
  | nil => rfl
  | cons a l ih =>
    rw [List.flatMap_cons, ih]
    by_cases h : P.getD a.toNat 0 = v
    · rw [if_pos h, List.filter_cons_of_pos (by simpa using h), List.flatMap_cons]
    · rw [if_neg h, List.filter_cons_of_neg (by simpa using h)]; rfl
theorem flat_take {α : Type} (l : List Int) (g : Int → List α) {k : Nat} (hk : k < l.length) : (l.take (k + 1)).flatMap g = (l.take k).flatMap g ++ g l[k] := by
  rw [take_snoc hk, List.flatMap_append]; simp
end Go.Proofs.YtkalgjnhaicabaaGreat
namespace Go.Proofs.YtkalgjnhaicabaaGreat
open Go.RowKit Mk
set_option maxRecDepth 100000
set_option maxHeartbeats 4000000
theorem flat_part {α : Type} (l : List Int) (g : Int → List α) {k : Nat} (hk : k < l.length) : ((l.take k).flatMap g).length + (g l[k]).length ≤ (l.flatMap g).length := by
  have h := flat_take l g hk
  have h2 : l.flatMap g = (l.take (k + 1)).flatMap g ++ (l.drop (k + 1)).flatMap g := by rw [← List.flatMap_append, List.take_append_drop]
  rw [h2, h]; simp
theorem childL_len (P : List Int) (v : Int) : (childL P v).length ≤ P.length := Nat.le_trans (List.length_filter_le _ _) (by rw [upZ_len]; exact Nat.le_refl _)
theorem childL_at {P : List Int} {v : Int} {k : Nat} (hk : k < (childL P v).length) : ∃ a, ∃ ha : a < P.length, (childL P v)[k] = (a : Int) ∧ P[a] = v := by
  have hm := List.getElem_mem hk
  unfold childL at hm
  rw [List.mem_filter] at hm
  obtain ⟨a, ha, e⟩ := upZ_mem.1 hm.1
  refine ⟨a, ha, e, ?_⟩
  have h2 := hm.2
  have e2 : (childL P v)[k] = (a : Int) := e
  change (P.getD (childL P v)[k].toNat 0 == v) = true at h2
  rw [e2] at h2
  simpa [List.getD, ha] using h2
theorem ints_all (l : List Int) : ∀ c ∈ intsP l, c.leaf = true := fun c hc => by obtain ⟨x, _, rfl⟩ := List.mem_map.1 hc; rfl
theorem rwalk1 (S : Sch) (hS : SB S) (P : List Int) (hn : P.length ≤ 1000000) (h0 : ordE S P = 0) (f : Nat) (b : Nat) (hb : b < P.length) (hlen : (walkF P (f + 1) (b : Int)).length ≤ 1000000)
    (hrec : ∀ a (ha : a < P.length), P[a] = (b : Int) → FnP Tryz.prog 58 [schP S, ordP P, .int .i64 a] (· = pints ((a : Int) :: walkF P f a))) :
    FnP Tryz.prog 58 [schP S, ordP P, .int .i64 b] (· = pints ((b : Int) :: walkF P (f + 1) b)) := by
  refine FnP.fg2 (FnP.of Tryz.func58 rfl Tryz.ntmps58 (by simp) fun m0 w0 F R0 => ?_)
  have hnb : badB S P (b : Int) = false := by
    have : isB S P (b : Int) = true := isB_iff.2 ⟨h0, by omega, by omega⟩
    unfold badB; rw [this, h0]; simp
  have hch := rchildren_spec S hS P hn (b : Int)
  rw [hnb] at hch
  have hcl := childL_len P (b : Int)
  rw [walkF_child] at hlen
  repeat refine AW.seq ?_
  refine AW.region ?_
  iterate 3 refine A1 rfl ?_
  repeat refine AW.seq ?_
  refine AW.region ?_
  iterate 3 refine A1 rfl ?_
  repeat refine AW.seq ?_
  refine AW.region ?_
  iterate 3 refine A1 rfl ?_
  refine RL.step (d := some 15) rfl rfl (xj_call Tryz.call32 hch rfl) ?_
  iterate 2 refine A1 rfl ?_
  generalize hC : childL P (b : Int) = c at *
  repeat refine AW.seq ?_
  refine AW.block ?_
  repeat refine AW.seq ?_
  refine AW.loop (st := fun x_0 : Nat × List Int => mkS [(3, .ptr 0 0), (4, .ptr 1 0), (7, .osl 2 1 x_0.2.length), (15, .pv (pints c)), (16, .pv (.int .i64 c.length)), (17, .pv (.int .i64 x_0.1))] [(0, .mix 27 [.pv (.sl none S.attrs.length (attrsC S.attrs)), .pv (.sl none S.rels.length (relsC S.rels)), .pv (.sl none S.feats.length (featsC S.feats)), .pv (.int .i64 S.label)]), (1, .mix 29 [.pv (pints P)]), (2, intsO x_0.2)] 3)
    (I := fun x_0 => x_0.1 ≤ c.length ∧ x_0.2 = (b : Int) :: (c.take x_0.1).flatMap (fun a => a :: walkF P f a)) (μ := fun x_0 => c.length - x_0.1) (x0 := (0, [(b : Int)])) (St.le_mk ⟨rfl, rfl, rfl, rfl, rfl, rfl, trivial⟩ ⟨rfl, rfl, rfl, trivial⟩ rfl rfl) (⟨Nat.zero_le _, by simp⟩) ?_
  rintro ⟨k, L⟩ ⟨hk, hL⟩
  try simp only at hk hL ⊢
  repeat refine AW.seq ?_
  refine AW.region ?_
  refine A1 rfl ?_
  repeat refine AW.seq ?_
  refine AW.condP rfl (fun hc18 => ?_) (fun hc18 => ?_)
  · have hlt : k < c.length := by omega
    have hva := pints_at hlt
    have hne := pints_ne hlt
    have hfp := flat_part c (fun a => a :: walkF P f a) hlt
    have hft := flat_take c (fun a => a :: walkF P f a) hlt
    obtain ⟨a, ha, hae, hPa⟩ := childL_at (P := P) (v := (b : Int)) (k := k) (by rw [hC]; exact hlt)
    simp only [hC] at hae
    have hra := hrec a ha hPa
    rw [hae] at hva hfp hft
    have hLl : L.length + ((a : Int) :: walkF P f a).length ≤ 1000001 := by rw [hL, List.length_cons]; omega
    refine AW.skip ?_
    repeat refine AW.seq ?_
    refine AW.block ?_
    repeat refine AW.seq ?_
    refine AW.region ?_
    refine A1 rfl ?_
    first | refine A2 rfl (by assumption) ?_ | refine A1 rfl ?_
    refine A1 rfl ?_
    repeat refine AW.seq ?_
    refine AW.region ?_
    iterate 4 refine A1 rfl ?_
    refine RL.step (d := some 25) rfl rfl (xj_call Tryz.call58 hra rfl) ?_
    refine RL.step (d := some 26) rfl rfl (xj_append (cs := intsP L) 3 el22 rfl rfl (by simp) (.inl ⟨none, rfl⟩) (by simp) (ints_all _) (by omega) rfl) ?_
    refine A1 rfl ?_
    repeat refine AW.seq ?_
    refine AW.region ?_
    iterate 2 refine A1 rfl ?_
    exact ⟨(k + 1, L ++ ((a : Int) :: walkF P f a)), St.le_mkR [0, 1, 3] ⟨rfl, rfl, by rw [List.length_append]; rfl, rfl, rfl, rfl, trivial⟩ ⟨rfl, rfl, congrArg (fun c => some (Ob.cells 3 c)) (by simp), trivial⟩ rfl rfl (by decide) rfl, ⟨by simp only; omega, by simp only; rw [hft, hL]; simp⟩, by simp only; omega⟩
  · have hkl : k = c.length := by omega
    repeat refine AW.seq ?_
    refine AW.exit ?_
    repeat refine AW.seq ?_
    refine AW.region ?_
    iterate 2 refine A1 rfl ?_
    repeat refine AW.seq ?_
    refine AW.ret ?_
    exact ⟨_, _, rfl, rfl, by rw [walkF_child, hC, ← List.take_of_length_le (l := c) (i := k) (by omega), ← hL]; simp [tk_all, resOne, PV.fg2, PV.fg]; rfl⟩
theorem abvL_lt {P : List Int} (hP : UpOk P) {v : Nat} (hv : v < P.length) : (abvL P v).length < P.length := by
  have hp : ((upZ P.length).filter fun a => decide (a ∈ (v : Int) :: abvL P v)).Perm ((v : Int) :: abvL P v) := nodup_perm (List.Pairwise.sublist List.filter_sublist (upZ_nodup _)) (abvL_nodup hP v hv) fun a => by
    rw [List.mem_filter, decide_eq_true_iff]
    refine ⟨fun h => h.2, fun h => ⟨?_, h⟩⟩
    rcases List.mem_cons.1 h with rfl | h
    · exact upZ_mem.2 ⟨v, hv, rfl⟩
    · obtain ⟨x, hx, e, _⟩ := abvL_mem hP v hv a h
      exact upZ_mem.2 ⟨x, hx, e⟩
  have h1 := hp.length_eq
  have h2 := List.length_filter_le (fun a => decide (a ∈ (v : Int) :: abvL P v)) (upZ P.length)
  rw [upZ_len] at h2
  simp only [List.length_cons] at h1
  omega
theorem rwalk_all (S : Sch) (hS : SB S) (P : List Int) (hn : P.length ≤ 1000000) (h0 : ordE S P = 0) : ∀ (f : Nat) (b : Nat) (hb : b < P.length), P.length ≤ (abvL P b).length + f + 1 → (walkF P (f + 1) (b : Int)).length ≤ 1000000 →
    FnP Tryz.prog 58 [schP S, ordP P, .int .i64 b] (· = pints ((b : Int) :: walkF P (f + 1) b))
  | f, b, hb, hf, hl => by
    have hU := (ordE_zero.1 h0).2.upOk
    refine rwalk1 S hS P hn h0 f b hb hl fun a ha e => ?_
    match f with
    | 0 =>
      exfalso
      have h1 := abvL_cons hU ha hb e
      have h2 := abvL_lt hU ha
      rw [h1] at h2; simp at h2; omega
    | f + 1 =>
      have h1 := abvL_cons hU ha hb e
      refine rwalk_all S hS P hn h0 f a ha (by rw [h1]; simp; omega) ?_
      rw [walkF_child] at hl
      obtain ⟨k, hk, hke⟩ := List.getElem_of_mem (show (a : Int) ∈ childL P (b : Int) by
        unfold childL; rw [List.mem_filter]; exact ⟨upZ_mem.2 ⟨a, ha, rfl⟩, by simp [List.getD, ha, e]⟩)
      have := flat_part (childL P (b : Int)) (fun a => a :: walkF P (f + 1) a) hk
      rw [hke, List.length_cons] at this
      omega
theorem rWalk_spec (S : Sch) (hS : SB S) (P : List Int) (hn : P.length ≤ 1000000) : FnP Tryz.prog 25 [schP S, ordP P] (· = pints (if ordE S P = 0 then walkL P else [])) := by
  refine FnP.of Tryz.func25 rfl Tryz.ntmps25 (by simp) fun m0 w0 F R0 => ?_
  obtain ⟨c, hC, hch, hcf⟩ : ∃ c : List Int, (ordE S P = 0 → c = childL P (-1)) ∧ FnP Tryz.prog 32 [schP S, ordP P, .int .i64 (-1)] (· = pints c) ∧ (ordE S P ≠ 0 → c = []) := by
    refine ⟨_, ?_, rchildren_spec S hS P hn (-1), ?_⟩
    · intro h; rw [if_neg (by unfold badB; rw [h]; simp)]
    · intro h; rw [if_pos (by unfold badB; simp [h])]
  have hcl : c.length ≤ P.length := by
    by_cases h : ordE S P = 0
    · rw [hC h]; exact childL_len _ _
    · rw [hcf h]; exact Nat.zero_le _
  have hwl : ordE S P = 0 → (walkL P).length = P.length ∧ walkL P = c.flatMap (fun a => a :: walkF P P.length a) := fun h => ⟨walkL_len (ordE_zero.1 h).2.upOk, by unfold walkL; rw [walkF_child, hC h]⟩
  repeat refine AW.seq ?_
  refine AW.region ?_
  iterate 3 refine A1 rfl ?_
  repeat refine AW.seq ?_
  refine AW.region ?_
  refine A1 rfl ?_
  refine AW.weaken (St.le_gro 5 2 1 3 rfl rfl) ?_
  repeat refine AW.seq ?_
  refine AW.region ?_
  iterate 2 refine A1 rfl ?_
  refine RL.step (d := some 10) rfl rfl (xj_call Tryz.call32 hch rfl) ?_
  iterate 2 refine A1 rfl ?_
  repeat refine AW.seq ?_
  refine AW.block ?_
  repeat refine AW.seq ?_
  refine AW.loop (st := fun x_0 : Nat × List Int => mkS [(2, .ptr 0 0), (3, .ptr 1 0), (5, .gsl 2 1 x_0.2.length), (10, .pv (pints c)), (11, .pv (.int .i64 c.length)), (12, .pv (.int .i64 x_0.1))] [(0, .mix 27 [.pv (.sl none S.attrs.length (attrsC S.attrs)), .pv (.sl none S.rels.length (relsC S.rels)), .pv (.sl none S.feats.length (featsC S.feats)), .pv (.int .i64 S.label)]), (1, .mix 29 [.pv (pints P)]), (2, .gro 3 (intsP x_0.2))] 3)
    (I := fun x_0 => x_0.1 ≤ c.length ∧ x_0.2 = (c.take x_0.1).flatMap (fun a => a :: walkF P P.length a)) (μ := fun x_0 => c.length - x_0.1) (x0 := (0, [])) (St.le_mk ⟨rfl, rfl, rfl, rfl, rfl, rfl, trivial⟩ ⟨rfl, rfl, rfl, trivial⟩ rfl rfl) (⟨Nat.zero_le _, by simp⟩) ?_
  rintro ⟨k, L⟩ ⟨hk, hL⟩
  try simp only at hk hL ⊢
  repeat refine AW.seq ?_
  refine AW.region ?_
  refine A1 rfl ?_
  repeat refine AW.seq ?_
  refine AW.condP rfl (fun hc13 => ?_) (fun hc13 => ?_)
  · have hlt : k < c.length := by omega
    have hva := pints_at hlt
    have hne := pints_ne hlt
    have h0 : ordE S P = 0 := Classical.byContradiction fun h => by rw [hcf h] at hlt; simp at hlt
    have hfp := flat_part c (fun a => a :: walkF P P.length a) hlt
    have hft := flat_take c (fun a => a :: walkF P P.length a) hlt
    obtain ⟨hw1, hw2⟩ := hwl h0
    obtain ⟨a, ha, hae, hPa⟩ := childL_at (P := P) (v := -1) (k := k) (by rw [← hC h0]; exact hlt)
    simp only [← hC h0] at hae
    rw [hae] at hva hfp hft
    rw [← hw2, ← hL] at hfp
    obtain ⟨m, hm⟩ : ∃ m, P.length = m + 1 := ⟨P.length - 1, by omega⟩
    have hra := rwalk_all S hS P hn h0 m a ha (by omega) (by rw [← hm]; simp at hfp; omega)
    rw [← hm] at hra
    have hLl : L.length + ((a : Int) :: walkF P P.length a).length ≤ 1000000 := by omega
    refine AW.skip ?_
    repeat refine AW.seq ?_
    refine AW.block ?_
    repeat refine AW.seq ?_
    refine AW.region ?_
    refine A1 rfl ?_
    first | refine A2 rfl (by assumption) ?_ | refine A1 rfl ?_
    refine A1 rfl ?_
    repeat refine AW.seq ?_
    refine AW.region ?_
    iterate 4 refine A1 rfl ?_
    refine RL.step (d := some 20) rfl rfl (xj_call Tryz.call58 hra rfl) ?_
    refine RL.step (d := some 21) rfl rfl (xj_appendG (cs := intsP L) 3 el22 rfl rfl (by simp) (.inl ⟨none, rfl⟩) (by simp) (ints_all _) (by omega) (by simp) rfl) ?_
    refine A1 rfl ?_
    repeat refine AW.seq ?_
    refine AW.region ?_
    iterate 2 refine A1 rfl ?_
    exact ⟨(k + 1, L ++ ((a : Int) :: walkF P P.length a)), St.le_mkR [0, 1, 3] ⟨rfl, rfl, by rw [List.length_append]; rfl, rfl, rfl, rfl, trivial⟩ ⟨rfl, rfl, congrArg (fun c => some (Ob.gro 3 c)) (by simp), trivial⟩ rfl rfl (by decide) rfl, ⟨by simp only; omega, by simp only; rw [hft, hL]⟩, by simp only; omega⟩
  · have hkl : k = c.length := by omega
    have hLe : L = if ordE S P = 0 then walkL P else [] := by
      rw [List.take_of_length_le (by omega)] at hL
      by_cases h : ordE S P = 0
      · rw [if_pos h, (hwl h).2, hL]
      · rw [if_neg h, hL, hcf h]; rfl
    repeat refine AW.seq ?_
    refine AW.exit ?_
    refine AW.weaken (St.le_pubA 2 rfl rfl) ?_
    repeat refine AW.seq ?_
    refine AW.region ?_
    iterate 2 refine A1 rfl ?_
    repeat refine AW.seq ?_
    refine AW.ret ?_
    exact ⟨_, _, rfl, rfl, by rw [← hLe]; simp [tk_all]; rfl⟩
end Go.Proofs.YtkalgjnhaicabaaGreat
namespace Go.Proofs.YtkalgjnhaicabaaGreat
open Go.RowKit Mk
set_option maxHeartbeats 1000000
/-- Each attribute of the permutation has the one before as parent. -/
structure IsChain (n : Nat) (q P : List Int) : Prop where
  perm : q.Perm (upZ n)
  len : P.length = n
  par : ∀ i (hi : i < q.length), P.getD q[i].toNat 0 = if i = 0 then -1 else q.getD (i - 1) 0
theorem IsChain.ord {n : Nat} {q P : List Int} (h : IsChain n q P) : IsOrd n (fun _ _ => True) (posQ q) P := by
  have hql : q.length = n := by rw [h.perm.length_eq, upZ_len]
  refine ⟨h.len, fun b hb => ?_⟩
  have hi := posQ_lt h.perm hb
  have hat : q[posQ q b]'(by omega) = (b : Int) := List.getElem_idxOf (by show posQ q b < _; omega)
  have hp := h.par (posQ q b) (by omega)
  rw [hat, Int.toNat_natCast] at hp
  by_cases e : posQ q b = 0
  · rw [if_pos e] at hp
    exact .inl ⟨hp, fun a _ ha => by have := ha.1; omega⟩
  · rw [if_neg e] at hp
    obtain ⟨a, ha, hqa⟩ := upZ_mem.1 (h.perm.mem_iff.1 (List.getElem_mem (show posQ q b - 1 < q.length by omega)))
    have hpa := pos_at h.perm (by omega) hqa
    rw [getD_eq (show posQ q b - 1 < q.length by omega), hqa] at hp
    refine .inr ⟨a, ha, hp, ⟨by omega, .one trivial (by omega)⟩, fun a' ha' h2 => ?_⟩
    have h3 := h2.1
    by_cases e2 : posQ q a' = posQ q a
    · exact .inl (posQ_inj h.perm ha' e2)
    · exact .inr ⟨by omega, .one trivial (by omega)⟩
/-- An order along a full graph is right for every schema. -/
theorem IsChain.ok {S : Sch} (hV : Valid S) {q P : List Int} (h : IsChain S.attrs.length q P) : OrdOk S P := by
  have hp : ∀ b, b < S.attrs.length → posQ q b < S.attrs.length := fun b hb => posQ_lt h.perm hb
  have ho := h.ord
  have hu := ho.upOk hp
  refine ⟨hV, h.len, hu.rng, hu.up, fun r hr => ?_⟩
  unfold rightB
  rw [List.all_eq_true]
  intro a ha
  rw [List.all_eq_true]
  intro b hb
  obtain ⟨x, hx⟩ := Int.eq_ofNat_of_zero_le (hV.rng r hr a ha).1
  obtain ⟨y, hy⟩ := Int.eq_ofNat_of_zero_le (hV.rng r hr b hb).1
  have hxl : x < S.attrs.length := by have := (hV.rng r hr a ha).2; omega
  have hyl : y < S.attrs.length := by have := (hV.rng r hr b hb).2; omega
  by_cases e : a = b
  · simp [e]
  · have hxy : x ≠ y := by omega
    have hl := h.len
    rcases Nat.lt_or_gt_of_ne (fun e => hxy (posQ_inj h.perm hxl e)) with h1 | h1
    · have : (x : Int) ∈ abvL P y := (ho.mem hp y (by omega) x).2 ⟨hxl, h1, .one trivial (Nat.le_of_lt h1)⟩
      rw [hx, hy]; simp [hiB, this]
    · have : (y : Int) ∈ abvL P x := (ho.mem hp x (by omega) y).2 ⟨hyl, h1, .one trivial (Nat.le_of_lt h1)⟩
      rw [hx, hy]; simp [hiB, this]
/-- What the loop of Chain keeps: the first i of the permutation have their parents. -/
def ChInv (q P : List Int) (n i : Nat) : Prop := P.length = n ∧ ∀ j (hj : j < q.length), j < i → P.getD q[j].toNat 0 = if j = 0 then -1 else q.getD (j - 1) 0
theorem ChInv.next {q P : List Int} {n i a : Nat} (hq : q.Perm (upZ n)) (h : ChInv q P n i) (hi : i < q.length) (ha : a < n) (hqa : q[i] = (a : Int)) {x : Int} (hx : x = if i = 0 then -1 else q.getD (i - 1) 0) : ChInv q (P.set a x) n (i + 1) := by
  refine ⟨by rw [List.length_set, h.1], fun j hj hji => ?_⟩
  obtain ⟨b, hb, hqb⟩ := upZ_mem.1 (hq.mem_iff.1 (List.getElem_mem hj))
  rw [hqb, Int.toNat_natCast]
  by_cases e : j = i
  · subst e
    have : b = a := by rw [hqb] at hqa; omega
    subst this
    rw [hx.symm.trans rfl |>.symm] at *
    simp [List.getD, h.1, hb, hx]
  · have hne : b ≠ a := fun e2 => by
      subst e2
      exact e (by rw [← pos_at hq hj hqb, ← pos_at hq hi hqa])
    have := h.2 j hj (by omega)
    rw [hqb, Int.toNat_natCast] at this
    simp only [List.getD] at this ⊢
    rw [List.getElem?_set_ne (fun e' => hne e'.symm)]
    exact this
theorem ChInv.last {q P : List Int} {n i : Nat} (hq : q.Perm (upZ n)) (h : ChInv q P n i) (hi : q.length ≤ i) : IsChain n q P := ⟨hq, h.1, fun j hj => h.2 j hj (by omega)⟩
end Go.Proofs.YtkalgjnhaicabaaGreat
namespace Go.Proofs.YtkalgjnhaicabaaGreat
set_option maxHeartbeats 1000000
/-! Counting bits. -/
def pcN (k n : Nat) : Nat := (List.range k).countP fun i => n.testBit i
theorem pcN_succ (k n : Nat) : pcN (k + 1) n = n % 2 + pcN k (n / 2) := by
  unfold pcN
  rw [List.range_succ_eq_map, List.countP_cons, List.countP_map]
  have e : ((fun i => n.testBit i) ∘ Nat.succ) = fun i => (n / 2).testBit i := by
    funext i
    simp [Nat.testBit_succ]
  rw [e, Nat.add_comm]
  congr 1
  rw [Nat.testBit_zero]
  rcases Nat.mod_two_eq_zero_or_one n with h | h <;> simp [h]
theorem and_pred_div {n : Nat} (h : n ≠ 0) : (n &&& (n - 1)) % 2 = 0 ∧ (n &&& (n - 1)) / 2 = if n % 2 = 0 then (n / 2) &&& (n / 2 - 1) else n / 2 := by
  constructor
  · have := Nat.and_mod_two_pow (a := n) (b := n - 1) (n := 1)
    simp only [Nat.pow_one] at this
    rw [this]
    rcases Nat.mod_two_eq_zero_or_one n with e | e
    · rw [e]; simp
    · rw [e, show (n - 1) % 2 = 0 by omega]; simp
  · have : (n &&& (n - 1)) / 2 = n / 2 &&& (n - 1) / 2 := by
      apply Nat.eq_of_testBit_eq
      intro i
      rw [← Nat.testBit_succ, Nat.testBit_and, Nat.testBit_and, Nat.testBit_succ, Nat.testBit_succ]
    rw [this]
    split
    · rw [show (n - 1) / 2 = n / 2 - 1 by omega]
    · rw [show (n - 1) / 2 = n / 2 by omega, Nat.and_self]
theorem pcN_pred : ∀ k n, n < 2 ^ k → n ≠ 0 → pcN k (n &&& (n - 1)) + 1 = pcN k n
  | 0, n, h, h0 => by simp at h; omega
  | k + 1, n, h, h0 => by
    rw [pcN_succ, pcN_succ]
    obtain ⟨h1, h2⟩ := and_pred_div h0
    rw [h1, h2]
    split
    · rename_i e
      have := pcN_pred k (n / 2) (by rw [Nat.pow_succ] at h; omega) (by omega)
      omega
    · omega
theorem pop_pred {x : B64} (h : x ≠ 0#64) : popB (x &&& (x - 1#64)) + 1 = popB x := by
  have h0 : x.toNat ≠ 0 := fun e => h (BitVec.eq_of_toNat_eq (by simpa using e))
  have hl := x.isLt
  have e : (x &&& (x - 1#64)).toNat = x.toNat &&& (x.toNat - 1) := by
    rw [BitVec.toNat_and, BitVec.toNat_sub]
    congr 1
    simp
    omega
  have := pcN_pred 64 x.toNat hl h0
  rw [← e] at this
  exact this
theorem pop_all {n : Nat} (hn : n ≤ 63) : popB (allB n) = n := by
  unfold popB
  have : ∀ k, (List.range k).countP (fun i => (allB n).getLsbD i) = min k n := by
    intro k
    induction k with
    | zero => simp
    | succ k ih =>
      rw [List.range_succ, List.countP_append, ih, List.countP_singleton, allB_bit (by omega)]
      by_cases h : k < n
      · simp [h]; omega
      · simp [h]; omega
  rw [this]; omega
theorem pop_mono {x y : B64} (h : ∀ i, x.getLsbD i = true → y.getLsbD i = true) : popB x ≤ popB y := by
  unfold popB
  exact List.countP_mono_left fun i _ hi => h i hi
theorem pop_pos {x : B64} {i : Nat} (h : x.getLsbD i = true) : 0 < popB x := by
  unfold popB
  rw [List.countP_pos_iff]
  exact ⟨i, List.mem_range.2 (bits_lt h), h⟩
/-! The widths. -/
noncomputable def widW (p : B64 → Nat) (G : List B64) (rest : B64) : Nat := (compsN G rest G.length).1.foldl (fun m c => max m (p c)) 0
noncomputable def minW (w : B64 → Nat) (G : List B64) (c : B64) (k : Nat) : Nat := (List.range k).foldl (fun m a => if c.getLsbD a = true then min m (w (c &&& ~~~(BitVec.twoPow 64 a))) else m) (G.length + 1)
noncomputable def nearB (G : List B64) (c : B64) : B64 := bitsOf fun i => (List.range G.length).any fun b => c.getLsbD b && (G.getD b 0#64).getLsbD i
noncomputable def keyN (G : List B64) (c : B64) : Nat := popB (nearB G c &&& ~~~c)
noncomputable def parF (G : List B64) : Nat → B64 → Nat
  | 0, _ => 0
  | f + 1, c => max (minW (widW (parF G f) G) G c G.length) (keyN G c + 1)
theorem parF_succ (G : List B64) (f : Nat) (c : B64) : parF G (f + 1) c = max (minW (widW (parF G f) G) G c G.length) (keyN G c + 1) := rfl
noncomputable def partV (G : List B64) (c : B64) : Nat := parF G 64 c
noncomputable def widV (G : List B64) (rest : B64) : Nat := widW (partV G) G rest
theorem max_le_iff {p : B64 → Nat} {b : Nat} : ∀ {l : List B64} {z : Nat}, l.foldl (fun m c => max m (p c)) z ≤ b ↔ z ≤ b ∧ ∀ c ∈ l, p c ≤ b
  | [], z => by simp
  | c :: l, z => by
    rw [List.foldl_cons, max_le_iff]
    constructor
    · rintro ⟨h1, h2⟩
      exact ⟨by omega, fun d hd => by rcases List.mem_cons.1 hd with rfl | hd; omega; exact h2 d hd⟩
    · rintro ⟨h1, h2⟩
      exact ⟨by have := h2 c (by simp); omega, fun d hd => h2 d (by simp [hd])⟩
theorem max_congr {p q : B64 → Nat} : ∀ {l : List B64} {z : Nat}, (∀ c ∈ l, p c = q c) → l.foldl (fun m c => max m (p c)) z = l.foldl (fun m c => max m (q c)) z
  | [], _, _ => rfl
  | c :: l, z, h => by rw [List.foldl_cons, List.foldl_cons, h c (by simp), max_congr fun d hd => h d (by simp [hd])]
theorem minW_succ (w : B64 → Nat) (G : List B64) (c : B64) (k : Nat) : minW w G c (k + 1) = if c.getLsbD k = true then min (minW w G c k) (w (c &&& ~~~(BitVec.twoPow 64 k))) else minW w G c k := by
  unfold minW
  rw [List.range_succ, List.foldl_append]
  rfl
theorem minW_congr {w w' : B64 → Nat} {G : List B64} {c : B64} : ∀ {k : Nat}, (∀ a, a < k → c.getLsbD a = true → w (c &&& ~~~(BitVec.twoPow 64 a)) = w' (c &&& ~~~(BitVec.twoPow 64 a))) → minW w G c k = minW w' G c k
  | 0, _ => rfl
  | k + 1, h => by
    rw [minW_succ, minW_succ, minW_congr fun a ha => h a (by omega)]
    split
    · rename_i hk; rw [h k (by omega) hk]
    · rfl
theorem minW_le {w : B64 → Nat} {G : List B64} {c : B64} {b : Nat} : ∀ {k : Nat}, minW w G c k ≤ b ↔ G.length + 1 ≤ b ∨ ∃ a, a < k ∧ c.getLsbD a = true ∧ w (c &&& ~~~(BitVec.twoPow 64 a)) ≤ b
  | 0 => by
    constructor
    · exact fun h => .inl h
    · rintro (h | ⟨a, h, _⟩)
      · exact h
      · omega
  | k + 1 => by
    rw [minW_succ]
    split
    · rename_i hk
      constructor
      · intro h
        by_cases h1 : minW w G c k ≤ b
        · rcases minW_le.1 h1 with h2 | ⟨a, h2, h3⟩
          · exact .inl h2
          · exact .inr ⟨a, by omega, h3⟩
        · exact .inr ⟨k, by omega, hk, by omega⟩
      · rintro (h | ⟨a, h1, h2, h3⟩)
        · have := minW_le (w := w) (G := G) (c := c) (k := k).2 (.inl h); omega
        · by_cases e : a = k
          · subst e; omega
          · have := minW_le (w := w) (G := G) (c := c) (k := k).2 (.inr ⟨a, by omega, h2, h3⟩); omega
    · rename_i hk
      rw [minW_le]
      constructor
      · rintro (h | ⟨a, h1, h2⟩)
        · exact .inl h
        · exact .inr ⟨a, by omega, h2⟩
      · rintro (h | ⟨a, h1, h2, h3⟩)
        · exact .inl h
        · exact .inr ⟨a, by by_cases e : a = k; subst e; exact absurd h2 hk; omega, h2, h3⟩
/-- A graph as it is made of a schema. -/
structure GOk (G : List B64) : Prop where
  n : G.length ≤ 12
  sym : ∀ a b, adjG G a b → adjG G b a
  lt : ∀ a b, adjG G a b → b < G.length
def InB (n : Nat) (c : B64) : Prop := ∀ i, c.getLsbD i = true → i < n
theorem InB.diff {n : Nat} {c : B64} (h : InB n c) (a : Nat) : InB n (c &&& ~~~(BitVec.twoPow 64 a)) := fun i hi => by
  rw [diff_bit, Bool.and_eq_true] at hi
  exact h i hi.1
section
variable {G : List B64} (hG : GOk G)
include hG
theorem near_bit (c : B64) (i : Nat) : (nearB G c).getLsbD i = true ↔ ∃ b, c.getLsbD b = true ∧ adjG G b i := by
  by_cases hi : i < 64
  · unfold nearB
    rw [bitsOf_bit _ hi, List.any_eq_true]
    constructor
    · rintro ⟨b, _, h⟩
      rw [Bool.and_eq_true] at h
      exact ⟨b, h⟩
    · rintro ⟨b, h1, h2⟩
      refine ⟨b, List.mem_range.2 ?_, by rw [Bool.and_eq_true]; exact ⟨h1, h2⟩⟩
      exact hG.lt _ _ (hG.sym _ _ h2)
  · constructor
    · intro h; exact absurd (bits_lt h) hi
    · rintro ⟨b, _, h⟩; have := hG.lt _ _ h; have := hG.n; omega
theorem comp_of (rest : B64) {a : Nat} (ha : rest.getLsbD a = true) : Comp (adjG G) rest (compB G rest a) ∧ (compB G rest a).getLsbD a = true := by
  have hac : (compB G rest a).getLsbD a = true := (compB_bit (bits_lt ha)).2 .refl
  have hcl : ∀ i j, (compB G rest a).getLsbD i = true → adjG G i j → rest.getLsbD j = true → (compB G rest a).getLsbD j = true := fun i j h1 h2 h3 => (compB_bit (bits_lt h3)).2 (.step (compB_reach h1) h2 h3)
  have one : ∀ i, (compB G rest a).getLsbD i = true → Path (adjG G) (fun x => (compB G rest a).getLsbD x = true) a i := fun i hi =>
    ((reach_path.1 (compB_reach hi)).stay (inn := fun x => (compB G rest a).getLsbD x = true) hac hcl).1.mono fun c hc => hc.2
  exact ⟨⟨fun i hi => compB_sub ha hi, hcl, fun i j hi hj => ((one i hi).symm hG.sym hac).trans (one j hj), a, hac⟩, hac⟩
omit hG in
theorem path_in {adj : Nat → Nat → Prop} {rest c : B64} (hc : Comp adj rest c) {i j : Nat} (hi : c.getLsbD i = true) {ok : Nat → Prop} (hok : ∀ x, ok x → rest.getLsbD x = true) (h : Path adj ok i j) : c.getLsbD j = true := by
  induction h with
  | refl => exact hi
  | step _ h1 h2 ih => exact hc.clo _ _ ih h1 (hok _ h2)
omit hG in
/-- Two components that share an attribute are the same. -/
theorem comp_eq {adj : Nat → Nat → Prop} {rest c d : B64} (hc : Comp adj rest c) (hd : Comp adj rest d) {i : Nat} (h1 : c.getLsbD i = true) (h2 : d.getLsbD i = true) : c = d := by
  apply BitVec.eq_of_getLsbD_eq
  intro j _
  rw [Bool.eq_iff_iff]
  exact ⟨fun h => path_in hd h2 hc.sub (hc.con i j h1 h), fun h => path_in hc h1 hd.sub (hd.con i j h2 h)⟩
theorem mem_comps {rest : B64} (hr : InB G.length rest) {d : B64} : d ∈ (compsN G rest G.length).1 ↔ Comp (adjG G) rest d := by
  have h := comps_inv G rest hG.sym G.length
  have hsub := (comps_sub G rest G.length).1
  refine ⟨h.all d, fun hd => ?_⟩
  obtain ⟨i, hi⟩ := hd.ne
  have hir := hd.sub i hi
  rcases (h.cov i).1 hir with h1 | ⟨c, hc, h1⟩
  · exact absurd h1 (h.low i (hr i hir))
  · have := comp_eq (h.all c hc) hd h1 hi
    subst this
    exact hc
theorem wid_le {rest : B64} (hr : InB G.length rest) {p : B64 → Nat} {b : Nat} : widW p G rest ≤ b ↔ ∀ d, Comp (adjG G) rest d → p d ≤ b := by
  unfold widW
  rw [max_le_iff]
  exact ⟨fun h d hd => h.2 d ((mem_comps hG hr).2 hd), fun h => ⟨Nat.zero_le _, fun c hc => h c ((mem_comps hG hr).1 hc)⟩⟩
theorem par_fuel : ∀ (f f' : Nat) (c : B64), InB G.length c → (∃ i, c.getLsbD i = true) → popB c ≤ f → popB c ≤ f' → parF G f c = parF G f' c
  | 0, _, c, _, ⟨i, hi⟩, h, _ => by have := pop_pos hi; omega
  | _ + 1, 0, c, _, ⟨i, hi⟩, _, h => by have := pop_pos hi; omega
  | f + 1, f' + 1, c, hn, _, h1, h2 => by
    simp only [parF]
    congr 1
    refine minW_congr fun a _ hca => ?_
    refine max_congr fun d hd => ?_
    have hD := (mem_comps hG (hn.diff a)).1 hd
    have hlt : popB d < popB c := pop_lt (fun i hi => by have := hD.sub i hi; rw [diff_bit, Bool.and_eq_true] at this; exact this.1) (j := a) (by
      cases e : d.getLsbD a with
      | false => rfl
      | true => have := hD.sub a e; rw [diff_bit] at this; simp at this) hca
    exact par_fuel f f' d (fun i hi => hn.diff a i (hD.sub i hi)) hD.ne (by omega) (by omega)
theorem part_eq {c : B64} (hn : InB G.length c) (hne : ∃ i, c.getLsbD i = true) : partV G c = max (minW (widV G) G c G.length) (keyN G c + 1) := by
  unfold partV
  rw [show (64 : Nat) = 63 + 1 from rfl, parF_succ]
  refine congrArg (fun z => max z (keyN G c + 1)) ?_
  refine minW_congr fun a _ hca => ?_
  refine max_congr fun d hd => ?_
  have hD := (mem_comps hG (hn.diff a)).1 hd
  have hlt : popB d < popB c := pop_lt (fun i hi => by have := hD.sub i hi; rw [diff_bit, Bool.and_eq_true] at this; exact this.1) (j := a) (by
    cases e : d.getLsbD a with
    | false => rfl
    | true => have := hD.sub a e; rw [diff_bit] at this; simp at this) hca
  have := pop_le c
  exact par_fuel hG 63 64 d (fun i hi => hn.diff a i (hD.sub i hi)) hD.ne (by omega) (by omega)
theorem sub_diff {c d : B64} {a : Nat} (hD : Comp (adjG G) (c &&& ~~~(BitVec.twoPow 64 a)) d) : (∀ i, d.getLsbD i = true → c.getLsbD i = true) ∧ d.getLsbD a = false := by
  have _ := hG.n
  refine ⟨fun i hi => ?_, ?_⟩
  · have := hD.sub i hi; rw [diff_bit, Bool.and_eq_true] at this; exact this.1
  · cases e : d.getLsbD a with
    | false => rfl
    | true => have := hD.sub a e; rw [diff_bit] at this; simp at this
theorem part_le : ∀ (k : Nat) (c : B64), popB c ≤ k → InB G.length c → (∃ i, c.getLsbD i = true) → partV G c ≤ G.length
  | 0, c, h, _, ⟨i, hi⟩ => by have := pop_pos hi; omega
  | k + 1, c, h, hn, ⟨i, hi⟩ => by
    rw [part_eq hG hn ⟨i, hi⟩]
    have h1 : minW (widV G) G c G.length ≤ G.length := minW_le.2 (.inr ⟨i, hn i hi, hi, (wid_le hG (hn.diff i)).2 fun d hd => by
      have hs := sub_diff hG hd
      have := pop_lt hs.1 hs.2 hi
      exact part_le k d (by omega) (fun j hj => hn j (hs.1 j hj)) hd.ne⟩)
    have h2 : keyN G c + 1 ≤ G.length := by
      have h12 := hG.n
      have : popB (nearB G c &&& ~~~c) < popB (allB G.length) := pop_lt (fun j hj => by
        rw [minus_bit, near_bit hG] at hj
        obtain ⟨⟨b, _, hb⟩, _⟩ := hj
        rw [allB_bit (by omega), decide_eq_true_iff]
        exact hG.lt _ _ hb) (j := i) (by
        cases e : (nearB G c &&& ~~~c).getLsbD i with
        | false => rfl
        | true => rw [minus_bit] at e; exact absurd hi e.2) (by rw [allB_bit (by omega), decide_eq_true_iff]; exact hn i hi)
      rw [pop_all (by omega)] at this
      exact this
    omega
theorem wid_bd {rest : B64} (hr : InB G.length rest) : widV G rest ≤ G.length := (wid_le hG hr).2 fun d hd => part_le hG (popB d) d (Nat.le_refl _) (fun i hi => hr i (hd.sub i hi)) hd.ne
/-- The components behind the removal of an attribute. -/
theorem comp_split {rest c d : B64} {a : Nat} (hc : Comp (adjG G) rest c) (hca : c.getLsbD a = true) :
    Comp (adjG G) (rest &&& ~~~(BitVec.twoPow 64 a)) d ↔ (Comp (adjG G) rest d ∧ d.getLsbD a = false) ∨ Comp (adjG G) (c &&& ~~~(BitVec.twoPow 64 a)) d := by
  have hbit : ∀ (x : B64) (i : Nat), (x &&& ~~~(BitVec.twoPow 64 a)).getLsbD i = true ↔ x.getLsbD i = true ∧ a ≠ i := fun x i => by rw [diff_bit, Bool.and_eq_true, decide_eq_true_iff]
  constructor
  · intro hd
    have hs := sub_diff hG hd
    obtain ⟨i, hi⟩ := hd.ne
    by_cases hic : c.getLsbD i = true
    · right
      have hdc : ∀ j, d.getLsbD j = true → c.getLsbD j = true := fun j hj => path_in hc hic hs.1 (hd.con i j hi hj)
      refine ⟨fun j hj => (hbit c j).2 ⟨hdc j hj, fun e => by subst e; rw [hs.2] at hj; cases hj⟩, fun x j hx hj hjc => ?_, hd.con, ⟨i, hi⟩⟩
      have := (hbit c j).1 hjc
      exact hd.clo x j hx hj ((hbit rest j).2 ⟨hc.sub j this.1, this.2⟩)
    · left
      have hno : ∀ j, d.getLsbD j = true → ¬ c.getLsbD j = true := fun j hj hcj => hic (path_in hc hcj hs.1 (hd.con j i hj hi))
      refine ⟨⟨hs.1, fun x j hx hj hjr => ?_, hd.con, ⟨i, hi⟩⟩, hs.2⟩
      refine hd.clo x j hx hj ((hbit rest j).2 ⟨hjr, fun e => ?_⟩)
      subst e
      exact hno x hx (hc.clo _ x hca (hG.sym _ _ hj) (hs.1 x hx))
  · rintro (⟨hd, hda⟩ | hd)
    · refine ⟨fun j hj => (hbit rest j).2 ⟨hd.sub j hj, fun e => by subst e; rw [hda] at hj; cases hj⟩, fun x j hx hj hjr => hd.clo x j hx hj ((hbit rest j).1 hjr).1, hd.con, hd.ne⟩
    · have hs := sub_diff hG hd
      refine ⟨fun j hj => (hbit rest j).2 ⟨hc.sub j (hs.1 j hj), fun e => by subst e; rw [hs.2] at hj; cases hj⟩, fun x j hx hj hjr => ?_, hd.con, hd.ne⟩
      have := (hbit rest j).1 hjr
      exact hd.clo x j hx hj ((hbit c j).2 ⟨hc.clo x j (hs.1 x hx) hj this.1, this.2⟩)
/-- An attribute that may come next. -/
theorem next_le {rest : B64} (hr : InB G.length rest) {a b : Nat} (ha : rest.getLsbD a = true) (h1 : widV G rest ≤ b) (h2 : widV G (compB G rest a &&& ~~~(BitVec.twoPow 64 a)) ≤ b) : widV G (rest &&& ~~~(BitVec.twoPow 64 a)) ≤ b := by
  obtain ⟨hc, hca⟩ := comp_of hG rest ha
  refine (wid_le hG (hr.diff a)).2 fun d hd => ?_
  rcases (comp_split hG hc hca).1 hd with ⟨h, _⟩ | h
  · exact (wid_le hG hr).1 h1 d h
  · exact (wid_le hG (InB.diff (fun i hi => hr i (hc.sub i hi)) a)).1 h2 d h
theorem next_ex {rest : B64} (hr : InB G.length rest) {b : Nat} (hne : ∃ i, rest.getLsbD i = true) (h : widV G rest ≤ b) : ∃ a, a < G.length ∧ rest.getLsbD a = true ∧ widV G (compB G rest a &&& ~~~(BitVec.twoPow 64 a)) ≤ b := by
  obtain ⟨i, hi⟩ := hne
  obtain ⟨hc, hci⟩ := comp_of hG rest hi
  have hcn : InB G.length (compB G rest i) := fun j hj => hr j (hc.sub j hj)
  have hp := (wid_le hG hr).1 h _ hc
  rw [part_eq hG hcn hc.ne] at hp
  obtain ⟨a, h1, h2, h3⟩ : ∃ a, a < G.length ∧ (compB G rest i).getLsbD a = true ∧ widV G (compB G rest i &&& ~~~(BitVec.twoPow 64 a)) ≤ b := by
    rcases minW_le.1 (Nat.le_trans (Nat.le_max_left _ _) hp) with h1 | h1
    · exact ⟨i, hr i hi, hci, Nat.le_trans (wid_bd hG (hcn.diff i)) (by omega)⟩
    · exact h1
  have har := hc.sub a h2
  have := comp_of hG rest har
  refine ⟨a, h1, har, ?_⟩
  rw [comp_eq this.1 hc this.2 h2]
  exact h3
end
/-- The least permutation with the least width. -/
noncomputable def leastF (G : List B64) (most : Nat) : Nat → B64 → List Int
  | 0, _ => []
  | f + 1, rest => match (List.range G.length).find? (fun a => rest.getLsbD a && decide (widV G (compB G rest a &&& ~~~(BitVec.twoPow 64 a)) ≤ most)) with
    | some a => (a : Int) :: leastF G most f (rest &&& ~~~(BitVec.twoPow 64 a))
    | none => []
noncomputable def leastL (G : List B64) : List Int := leastF G (widV G (allB G.length)) G.length (allB G.length)
theorem pop_diff {x : B64} {a : Nat} (h : x.getLsbD a = true) : popB (x &&& ~~~(BitVec.twoPow 64 a)) + 1 = popB x := by
  unfold popB
  have key : ∀ k, (List.range k).countP (fun i => (x &&& ~~~(BitVec.twoPow 64 a)).getLsbD i) + (if a < k then 1 else 0) = (List.range k).countP fun i => x.getLsbD i := by
    intro k
    induction k with
    | zero => simp
    | succ k ih =>
      rw [List.range_succ, List.countP_append, List.countP_append, ← ih, List.countP_singleton, List.countP_singleton, diff_bit]
      by_cases e : a = k
      · subst e; simp [h]
      · by_cases h2 : x.getLsbD k = true
        · by_cases h3 : a < k
          · simp [h2, e, h3, Nat.lt_succ_of_lt h3] <;> omega
          · simp [h2, e, h3, show ¬ a < k + 1 by omega]
        · by_cases h3 : a < k
          · simp [h2, h3, Nat.lt_succ_of_lt h3]
          · simp [h2, h3, show ¬ a < k + 1 by omega]
  have := key 64
  rw [if_pos (bits_lt h)] at this
  exact this
end Go.Proofs.YtkalgjnhaicabaaGreat
namespace Go.Proofs.YtkalgjnhaicabaaGreat
open Go.RowKit
/-- A set of attributes as an int. -/
abbrev bint (x : B64) : PV := .int .i64 (x.toNat : Int)
/-- A set without the bit of the sign. -/
def Low (x : B64) : Prop := x.toNat < 9223372036854775808
theorem Low.bit {x : B64} (h : ∀ i, x.getLsbD i = true → i < 63) : Low x := by
  unfold Low
  rw [show (9223372036854775808 : Nat) = 2 ^ 63 by decide]
  refine Nat.lt_pow_two_of_testBit _ fun i hi => ?_
  rw [BitVec.testBit_toNat]
  by_cases hb : x.getLsbD i = true
  · exact absurd (h i hb) (by omega)
  · simpa using hb
theorem Low.ge {x : B64} (h : Low x) {i : Nat} (hb : x.getLsbD i = true) : i < 63 := by
  refine Classical.byContradiction fun hi => ?_
  have h1 : x.toNat < 2 ^ i := Nat.lt_of_lt_of_le h (by rw [show (9223372036854775808 : Nat) = 2 ^ 63 by decide]; exact Nat.pow_le_pow_right (by decide) (by omega))
  have h2 := Nat.testBit_lt_two_pow h1
  rw [BitVec.testBit_toNat, hb] at h2
  cases h2
theorem Low.and {x : B64} (h : Low x) (y : B64) : Low (x &&& y) := .bit fun i hi => h.ge (by rw [BitVec.getLsbD_and] at hi; simp at hi; exact hi.1)
theorem Low.or {x y : B64} (h : Low x) (h' : Low y) : Low (x ||| y) := .bit fun i hi => by
  rw [BitVec.getLsbD_or] at hi
  rcases Bool.or_eq_true_iff.1 hi with e | e
  · exact h.ge e
  · exact h'.ge e
theorem Low.two {a : Nat} (h : a < 63) : Low (BitVec.twoPow 64 a) := .bit fun i hi => by
  rw [BitVec.getLsbD_twoPow] at hi; simp at hi; omega
theorem Low.zero : Low 0#64 := by unfold Low; decide
theorem ofInt_b (x : B64) : BitVec.ofInt 64 (x.toNat : Int) = x := by
  apply BitVec.eq_of_toNat_eq
  rw [BitVec.toNat_ofInt]
  have := x.isLt
  rw [Int.emod_eq_of_lt (by omega) (by omega)]
  simp
theorem wrap_b {x : B64} (h : Low x) : IntKind.i64.wrap (x.toNat : Int) = x.toNat := wrap_in (by unfold Low at h; omega)
section
variable {C : Ctx} {n : Nat} {σ : St} {dst : Option Tmp} {ty t t' : TypeId} {pos : String} {after : Array Edge} {gd : Option (Nat × Bool)} {x y : Operand}
theorem xj_andB {a b : B64} (hx : σ.ev n x = .pv (bint a)) (hy : σ.ev n y = .pv (bint b)) (h : Low a) :
    XJ C n ⟨dst, .binOp .and t x y t', ty, pos, after, gd⟩ σ ⟨.pv (bint (a &&& b)), [], []⟩ :=
  xj_bin hx hy (by show some (PV.int .i64 (IntKind.i64.wrap (BitVec.ofInt 64 _ &&& BitVec.ofInt 64 _).toNat)) = _; rw [ofInt_b, ofInt_b, wrap_b (h.and b)])
theorem xj_orB {a b : B64} (hx : σ.ev n x = .pv (bint a)) (hy : σ.ev n y = .pv (bint b)) (h : Low a) (h' : Low b) :
    XJ C n ⟨dst, .binOp .or t x y t', ty, pos, after, gd⟩ σ ⟨.pv (bint (a ||| b)), [], []⟩ :=
  xj_bin hx hy (by show some (PV.int .i64 (IntKind.i64.wrap (BitVec.ofInt 64 _ ||| BitVec.ofInt 64 _).toNat)) = _; rw [ofInt_b, ofInt_b, wrap_b (h.or h')])
theorem xj_andNotB {a b : B64} (hx : σ.ev n x = .pv (bint a)) (hy : σ.ev n y = .pv (bint b)) (h : Low a) :
    XJ C n ⟨dst, .binOp .andNot t x y t', ty, pos, after, gd⟩ σ ⟨.pv (bint (a &&& ~~~b)), [], []⟩ :=
  xj_bin hx hy (by show some (PV.int .i64 (IntKind.i64.wrap (BitVec.ofInt 64 _ &&& ~~~ (BitVec.ofInt 64 _)).toNat)) = _; rw [ofInt_b, ofInt_b, wrap_b (h.and _)])
theorem xj_oneB {k' : IntKind} {a : Nat} (hx : σ.ev n x = .pv (.int .i64 1)) (hy : σ.ev n y = .pv (.int k' (a : Int))) (h : a < 63) :
    XJ C n ⟨dst, .binOp .shl t x y t', ty, pos, after, gd⟩ σ ⟨.pv (bint (BitVec.twoPow 64 a)), [], []⟩ := by
  have e : PV.int .i64 (IntKind.i64.wrap (1 * 2 ^ (min (a : Int).toNat IntKind.i64.bits))) = bint (BitVec.twoPow 64 a) := by
    have h0 : IntKind.i64.bits = 64 := rfl
    have h1 : min (a : Int).toNat IntKind.i64.bits = a := by rw [h0]; simp; omega
    have h2 : (BitVec.twoPow 64 a).toNat = 2 ^ a := by
      rw [BitVec.toNat_twoPow]; exact Nat.mod_eq_of_lt (Nat.pow_lt_pow_right (by decide) (by omega))
    rw [h1, Int.one_mul, show (2 : Int) ^ a = ((2 ^ a : Nat) : Int) by simp, ← h2, wrap_b (Low.two h)]
  have h3 := xj_shl (C := C) (n := n) (σ := σ) (dst := dst) (t := t) (t' := t') (ty := ty) (x := x) (y := y) (pos := pos) (after := after) (gd := gd) hx hy (by omega)
  rw [e] at h3
  exact h3
theorem xj_shrB {k' : IntKind} {m : B64} {a : Nat} (hx : σ.ev n x = .pv (bint m)) (hy : σ.ev n y = .pv (.int k' (a : Int))) (h : a < 64) :
    XJ C n ⟨dst, .binOp .shr t x y t', ty, pos, after, gd⟩ σ ⟨.pv (bint (m >>> a)), [], []⟩ := by
  have e : PV.int .i64 ((m.toNat : Int).fdiv (2 ^ (min (a : Int).toNat IntKind.i64.bits))) = bint (m >>> a) := by
    have h0 : IntKind.i64.bits = 64 := rfl
    have h1 : min (a : Int).toNat IntKind.i64.bits = a := by rw [h0]; simp; omega
    rw [h1, show (2 : Int) ^ a = ((2 ^ a : Nat) : Int) by simp, Int.fdiv_eq_ediv_of_nonneg _ (Int.natCast_nonneg _)]
    unfold bint
    rw [BitVec.toNat_ushiftRight, Nat.shiftRight_eq_div_pow]
    rfl
  have h3 := xj_shr (C := C) (n := n) (σ := σ) (dst := dst) (t := t) (t' := t') (ty := ty) (x := x) (y := y) (pos := pos) (after := after) (gd := gd) hx hy (by omega)
  rw [e] at h3
  exact h3
end
theorem low_shr {m : B64} (h : Low m) (a : Nat) : Low (m >>> a) := by
  unfold Low at *
  rw [BitVec.toNat_ushiftRight]
  exact Nat.lt_of_le_of_lt (Nat.shiftRight_le _ _) h
/-- The test of a bit. -/
theorem test_b (m : B64) (a : Nat) : (((m >>> a) &&& 1#64).toNat : Int) = if m.getLsbD a = true then 1 else 0 := by
  have e : ((m >>> a) &&& 1#64) = if m.getLsbD a = true then 1#64 else 0#64 := by
    apply BitVec.eq_of_getLsbD_eq
    intro i hi
    rw [BitVec.getLsbD_and, BitVec.getLsbD_ushiftRight]
    by_cases h : i = 0
    · subst h
      by_cases hb : m.getLsbD a = true
      · simp [hb]
      · simp [hb]
    · have h1 : (1#64).getLsbD i = false := by simp [BitVec.getLsbD_one]; omega
      rw [h1]
      by_cases hb : m.getLsbD a = true
      · simp [hb, h1]
      · simp [hb]
  rw [e]
  by_cases hb : m.getLsbD a = true
  · simp [hb]
  · simp [hb]
end Go.Proofs.YtkalgjnhaicabaaGreat
namespace Go.Proofs.YtkalgjnhaicabaaGreat
open Go.RowKit Go.MapKept
/-- Are two keys the same? None: not of one kind. -/
def keq : PV → PV → Option Bool
  | .int k a, .int k' b => bif kEq k k' then some (a == b) else none
  | .str a, .str b => some (a == b)
  | .bool a, .bool b => some (a == b)
  | _, _ => none
/-- Where a key stands. -/
def kfind (k : PV) : List PV → Nat → Option (Option Nat)
  | [], _ => some none
  | x :: l, i => match keq k x with
    | some true => some (some i)
    | some false => kfind k l (i + 1)
    | none => none
def keyD : TypeDesc → PV → Bool
  | .int k, .int k' _ => kEq k' k
  | .string, .str _ => true
  | .bool, .bool _ => true
  | _, _ => false
section
variable {w : World} {R : Nat → Prop}
theorem same_of {d : TypeDesc} {k x : PV} {u y : Value} (hd : keyD d k = true) (hk : RelP w R k u) (hx : RelP w R x y) {b : Bool} (h : keq k x = some b) : Instr.sameNow d u y = some b := by
  cases k <;> cases d <;> simp only [keyD, Bool.false_eq_true] at hd <;> cases x <;> simp only [keq, reduceCtorEq] at h <;> simp only [RelP] at hk hx <;> subst hk hx
  · replace h := bif_some h
    have := kEq_eq h.1
    subst this
    simpa [Instr.sameNow] using h.2
  · simpa [Instr.sameNow] using h
  · simpa [Instr.sameNow] using h
theorem find_of {d : TypeDesc} {k : PV} {u : Value} (hd : keyD d k = true) (hk : RelP w R k u) : ∀ {ks : List PV} {es : List MapEntry} {i : Nat} {r : Option Nat}, RelPL w R ks (es.map (·.key)) → kfind k ks i = some r →
    match r with
    | none => Instr.findNow d u es i = some none
    | some j => ∃ q e, j = i + q ∧ es[q]? = some e ∧ Instr.findNow d u es i = some (some (j, e.val))
  | [], [], i, r, _, h => by simp only [kfind, Option.some.injEq] at h; subst h; rfl
  | [], _ :: _, _, _, hr, _ => by simp [RelPL] at hr
  | x :: ks, [], _, _, hr, _ => by simp [RelPL] at hr
  | x :: ks, e :: es, i, r, hr, h => by
    simp only [List.map_cons, RelPL, List.cons.injEq] at hr
    obtain ⟨y, ys, ⟨rfl, rfl⟩, h1, h2⟩ := hr
    simp only [kfind] at h
    split at h
    · rename_i hb
      cases h
      have := same_of hd hk h1 hb
      exact ⟨0, e, rfl, rfl, by simp [Instr.findNow, this]⟩
    · rename_i hb
      have hs := same_of hd hk h1 hb
      have ih := find_of hd hk h2 h
      cases r with
      | none => simpa [Instr.findNow, hs] using ih
      | some j =>
        obtain ⟨q, e', hj, he, hf⟩ := ih
        exact ⟨q + 1, e', by omega, by simpa using he, by simpa [Instr.findNow, hs] using hf⟩
    · cases h
theorem keyD_isKey {d : TypeDesc} {k : PV} {u : Value} (hd : keyD d k = true) (hk : RelP w R k u) : IsKey d u := by
  cases k <;> cases d <;> simp only [keyD, Bool.false_eq_true] at hd <;> simp only [RelP] at hk <;> subst hk <;> first | exact kEq_eq hd | trivial
theorem kfind_at {k : PV} : ∀ {ks : List PV} {i j : Nat}, kfind k ks i = some (some j) → ∃ q x, j = i + q ∧ ks[q]? = some x ∧ keq k x = some true
  | [], _, _, h => by simp [kfind] at h
  | x :: ks, i, j, h => by
    simp only [kfind] at h
    split at h
    · rename_i hb; cases h; exact ⟨0, x, rfl, rfl, hb⟩
    · obtain ⟨q, y, e, h1, h2⟩ := kfind_at h
      exact ⟨q + 1, y, by omega, by simpa using h1, h2⟩
    · cases h
theorem bytes_eq {a b : ByteArray} (h : (a == b) = true) : a = b := by
  have : (a.data == b.data) = true := h
  exact ByteArray.ext (eq_of_beq this)
theorem bytes_self (a : ByteArray) : (a == a) = true := by
  have : (a.data == a.data) = true := beq_self_eq_true a.data
  exact this
theorem keq_same {k x : PV} {u y : Value} (h : keq k x = some true) (hk : RelP w R k u) (hx : RelP w R x y) : u = y ∧ Instr.sameBits 10000 y u = true := by
  cases k <;> cases x <;> simp only [keq, reduceCtorEq, Option.some.injEq] at h <;> simp only [RelP] at hk hx <;> subst hk hx
  · replace h := bif_some h
    have h1 := kEq_eq h.1
    have h2 := h.2
    simp only [Option.some.injEq, beq_iff_eq] at h2
    subst h1 h2
    simp [Instr.sameBits]
  · simp at h; subst h; simp [Instr.sameBits]
  · have := bytes_eq h; subst this; exact ⟨rfl, by show (_ == _) = true; exact bytes_self _⟩
end
/-- Which map an operand names: one of the call's own, one that stands, or none. -/
def MapSrc (n : Nat) (σ : St) (x : Operand) (ks vs : List PV) : Prop :=
  (∃ id, σ.ev n x = .map id ∧ σ.ob id = some (.mp ks vs)) ∨ σ.ev n x = .pv (.mp ks vs) ∨ (σ.ev n x = .pv .nilmap ∧ ks = [] ∧ vs = [])
section
variable {C : Ctx} {n : Nat} {σ : St} {a : Act} {w : World} {m : Gm} {R : Nat → Prop} {x y z : Operand} {dst : Option Tmp} {ty t kt et : TypeId} {pos : String} {after : Array Edge} {gd : Option (Nat × Bool)} {ks vs : List PV}
theorem MapSrc.at (hw : SW C n σ a w m R) (h : MapSrc n σ x ks vs) : (∃ b es clock, a.eval x = .map (some b) ∧ w.heap[b]? = some (.map es clock) ∧ RelPL w R ks (es.toList.map (·.key)) ∧ RelPL w R vs (es.toList.map (·.val))) ∨ (a.eval x = .map none ∧ ks = [] ∧ vs = []) := by
  rcases h with ⟨id, hx, ho⟩ | hx | ⟨hx, h1, h2⟩
  · obtain ⟨b, N, hm, hr⟩ := hw.live ho
    have := hw.ev x
    rw [hx] at this
    simp only [Rel] at this
    obtain ⟨es, clock, q1, q2, q3, _⟩ := hr
    exact .inl ⟨b, es, clock, this.2 b N hm, q1, q2, q3⟩
  · have := hw.pv hx
    simp only [RelP] at this
    obtain ⟨b, e, _, es, clock, q1, q2, q3, _⟩ := this
    exact .inl ⟨b, es, clock, e, q1, q2, q3⟩
  · have := hw.pv hx
    simp only [RelP] at this
    exact .inr ⟨this, h1, h2⟩
theorem run_map {P : Program} {w : World} {r : Nat} {es : Array MapEntry} {clock : Nat} (hb : w.heap[r]? = some (.map es clock)) : (getObj r).run P w = .ok (.map es clock) w := by
  simp [getObj, Sem.run, hb]
theorem run_setMap {P : Program} {w : World} {r : Nat} {es : Array MapEntry} {clock : Nat} (o : Obj) (hb : w.heap[r]? = some (.map es clock)) : (setObj r o).run P w = .ok () { w with heap := w.heap.setIfInBounds r o } := by
  simp [setObj, Sem.run, hb]
/-- What a look-up finds: the value, and whether there is one. -/
def mlook (k : PV) (ks vs : List PV) : Option (Option PV) :=
  match kfind k ks 0 with
  | some none => some none
  | some (some j) => (vs[j]?).map some
  | none => none
theorem RelPL.at {ps : List PV} {us : List Value} (h : RelPL w R ps us) {i : Nat} {p : PV} {u : Value} (hp : ps[i]? = some p) (hu : us[i]? = some u) : RelP w R p u := by
  obtain ⟨u', h1, h2⟩ := h.get hp
  rw [hu] at h1
  cases h1
  exact h2
theorem run_look (hw : SW C n σ a w m R) {d : TypeDesc} {key zp : PV} {zv : Value} {r : Option PV} (ht : C.P.underlying t = some (.map kt et)) (hk : C.P.underlying kt = some d) (hd : keyD d key = true) (hx : MapSrc n σ x ks vs) (hy : σ.ev n y = .pv key) (hz : (C.P.info? et).map (·.zero) = some (some zv)) (hzp : ofC zv = zp) (hl : mlook key ks vs = some r) (ok : Bool) :
    ∃ u, RelP w R (r.getD zp) u ∧ (Instr.lookup t (a.eval x) (a.eval y) ok).run C.P w = .ok (if ok then .tuple #[u, .bool r.isSome] else u) w := by
  have hkey := hw.pv hy
  have hzr : (zeroValue et).run C.P w = .ok zv w := by
    cases hq : C.P.info? et with
    | none => simp [hq] at hz
    | some i => simp [hq] at hz; simp [zeroValue, typeInfo, hq, hz]
  have hzrel : RelP w R zp zv := hzp ▸ ofC_rel w R zv
  have hIs := keyD_isKey hd hkey
  rcases hx.at hw with ⟨b, es, clock, e, hb, q2, q3⟩ | ⟨e, rfl, rfl⟩
  · unfold mlook at hl
    split at hl
    · rename_i hf
      cases hl
      have := find_of hd hkey q2 hf
      simp only at this
      refine ⟨zv, hzrel, ?_⟩
      simp [Instr.lookup, e, run_underlying ht, run_map hb, run_checkKey hk hIs, run_findKey hk this, hzr, Result.andThen]
    · rename_i j hf
      obtain ⟨q, e', hj, he, hfn⟩ := find_of hd hkey q2 hf
      simp only [Nat.zero_add] at hj
      subst hj
      cases hv : vs[j]? with
      | none => rw [hv] at hl; cases hl
      | some p =>
        rw [hv] at hl
        simp at hl
        subst hl
        refine ⟨e'.val, RelPL.at q3 hv (by simp [he]), ?_⟩
        simp [Instr.lookup, e, run_underlying ht, run_map hb, run_checkKey hk hIs, run_findKey hk hfn, Result.andThen]
    · cases hl
  · simp only [mlook, kfind, Option.some.injEq] at hl
    subst hl
    refine ⟨zv, hzrel, ?_⟩
    have hf : Instr.findNow d (a.eval y) (#[] : Array MapEntry).toList 0 = some none := rfl
    simp [Instr.lookup, e, run_underlying ht, run_checkKey hk hIs, run_findKey hk hf, hzr, Result.andThen]
theorem xj_lookup {d : TypeDesc} {key zp p : PV} {zv : Value} {r : Option PV} {b : Bool} (ht : C.P.underlying t = some (.map kt et)) (hk : C.P.underlying kt = some d) (hx : MapSrc n σ x ks vs) (hy : σ.ev n y = .pv key) (hd : keyD d key = true) (hz : (C.P.info? et).map (·.zero) = some (some zv)) (hzp : ofC zv = zp) (hl : mlook key ks vs = some r) (hp : r.getD zp = p) (hb : r.isSome = b) :
    XJ C n ⟨dst, .lookup t x y true, ty, pos, after, gd⟩ σ ⟨.pv (.tup [p, .bool b]), [], []⟩ :=
  .val fun a w m R hw => by
    obtain ⟨u, hr, hrun⟩ := run_look hw ht hk hd hx hy hz hzp hl true
    subst hp hb
    refine ⟨_, by simp only [execOp, Sem.run_bind, hrun, Result.andThen_ok]; rfl, ?_⟩
    simp only [Rel, RelP]
    exact ⟨[u, .bool r.isSome], rfl, RelPL.cons hr (RelPL.cons (by simp only [RelP]) RelPL.nil)⟩
/-- A new block of any kind becomes a place of the call's own. -/
theorem SW.allocO (h : SW C n σ a w m R) {id : Nat} (hid : σ.av id = true) (obj : Obj) (N : Nat) (o : Ob)
    (ho : ∀ (w' : World) (m' : Gm) (av' : Av), (∀ b, R b → R b ∧ w'.heap[b]? = w.heap[b]?) → w'.heap[w.heap.size]? = some obj → ORel w' m' av' R w.heap.size N o) (hre : o.real = true := by rfl) :
    SW C n ⟨σ.sl, obL [(id, some o)] σ.ob, avL [id] σ.av⟩ a (w.alloc obj) (upd m id (some (w.heap.size, N))) R := by
  have hR : ∀ b, R b → R b ∧ (w.alloc obj).heap[b]? = w.heap[b]? := fun b hb => ⟨hb, Below.heap_alloc w _ b (h.hr.rsz b hb)⟩
  have hne : ∀ i, σ.av i = false → i ≠ id := fun i hi e => by rw [e, hid] at hi; cases hi
  have hm : ∀ i x, σ.av i = false → upd m id (some (w.heap.size, N)) i = some x → m i = some x := fun i x hi e => by rwa [upd_ne _ _ (hne i hi)] at e
  have ha : ∀ i, σ.av i = false → avL [id] σ.av i = false := fun i hi => by
    simp only [avL]
    cases Nat.beq i id <;> simp [hi]
  have hsz : (w.alloc obj).heap.size = w.heap.size + 1 := by simp
  have obe : ∀ i, i ≠ id → obL [(id, some o)] σ.ob i = σ.ob i := fun i hi => by
    have : Nat.beq i id = false := by cases hb : Nat.beq i id; rfl; exact absurd (Nat.eq_of_beq_eq_true hb) hi
    simp [obL, this]
  have obs : obL [(id, some o)] σ.ob id = some o := by simp [obL]
  refine h.world ⟨?_, ?_, ?_, ?_, ?_, ?_, h.hr.rfr, h.hr.r0, ?_, ?_, fun i hi => ha i (h.hr.res i hi)⟩ hR hm ha
  · intro i
    by_cases e : i = id
    · subst e; rw [upd_same, obs]; exact hre.symm
    · rw [upd_ne _ _ e, obe i e]; exact h.hr.dom i
  · intro i hi
    simp only [avL] at hi
    cases hb : Nat.beq i id with
    | true => rw [hb] at hi; simp at hi
    | false =>
      rw [hb] at hi
      rw [obe i (fun e => by subst e; simp at hb)]
      exact h.hr.free i (by simpa using hi)
  · intro i o' b N h1 h2
    by_cases e : i = id
    · subst e
      rw [obs] at h1
      rw [upd_same] at h2
      cases h1; cases h2
      exact ho _ _ _ hR (heap_alloc_new w _)
    · rw [obe i e] at h1
      rw [upd_ne _ _ e] at h2
      exact (h.hr.obj i o' b N h1 h2).mono hR hm ha (Below.heap_alloc w _ b (h.hr.own i b N h2).1)
  · intro i j b N N' h1 h2
    by_cases e1 : i = id <;> by_cases e2 : j = id
    · rw [e1, e2]
    · subst e1
      rw [upd_same] at h1
      rw [upd_ne _ _ e2] at h2
      cases h1
      have := (h.hr.own j _ _ h2).1
      omega
    · subst e2
      rw [upd_same] at h2
      rw [upd_ne _ _ e1] at h1
      cases h2
      have := (h.hr.own i _ _ h1).1
      omega
    · rw [upd_ne _ _ e1] at h1
      rw [upd_ne _ _ e2] at h2
      exact h.hr.inj i j b N N' h1 h2
  · intro i b N h1
    by_cases e : i = id
    · subst e
      rw [upd_same] at h1
      cases h1
      exact ⟨by omega, fun hb => by have := h.hr.rsz _ hb; omega, .inr h.hr.frame.size⟩
    · rw [upd_ne _ _ e] at h1
      obtain ⟨h2, h3, h4⟩ := h.hr.own i b N h1
      exact ⟨by omega, h3, h4⟩
  · intro b hb
    have := h.hr.rsz b hb
    omega
  · refine ⟨h.hr.frame.os, h.hr.frame.tape, h.hr.frame.output, ?_, ?_⟩
    · have := h.hr.frame.size; omega
    · intro k hk hF
      rw [Below.heap_alloc w _ k (by have := h.hr.frame.size; omega)]
      exact h.hr.frame.block k hk hF
  · intro i x hi e
    have hne' : i ≠ id := fun e' => by subst e'; rw [h.hr.res i hi] at hid; cases hid
    rw [upd_ne _ _ hne'] at e
    exact h.hr.keep i x hi e
/-- One block of the call's own turns. -/
theorem SW.turn (h : SW C n σ a w m R) {id b N : Nat} (hm0 : m id = some (b, N)) (w' : World) (hs : w'.heap.size = w.heap.size) (hoth : ∀ k, k ≠ b → w'.heap[k]? = w.heap[k]?) (e1 : w'.os = w.os) (e2 : w'.tape = w.tape) (e3 : w'.output = w.output) (o : Ob)
    (ho : (∀ b, R b → R b ∧ w'.heap[b]? = w.heap[b]?) → ORel w' m σ.av R b N o) (hre : o.real = true := by rfl) :
    SW C n ⟨σ.sl, obL [(id, some o)] σ.ob, avL [] σ.av⟩ a w' m R := by
  have own := h.hr.own id b N hm0
  have hR : ∀ k, R k → R k ∧ w'.heap[k]? = w.heap[k]? := fun k hk => ⟨hk, hoth k (fun e => own.2.1 (e ▸ hk))⟩
  have obe : ∀ i, i ≠ id → obL [(id, some o)] σ.ob i = σ.ob i := fun i hi => by
    have : Nat.beq i id = false := by cases hb : Nat.beq i id; rfl; exact absurd (Nat.eq_of_beq_eq_true hb) hi
    simp [obL, this]
  have obs : obL [(id, some o)] σ.ob id = some o := by simp [obL]
  have hm : ∀ i x, σ.av i = false → m i = some x → m i = some x := fun _ _ _ e => e
  have ha : ∀ i, σ.av i = false → avL [] σ.av i = false := fun _ hi => hi
  refine h.world ⟨?_, ?_, ?_, h.hr.inj, ?_, ?_, h.hr.rfr, h.hr.r0, ?_, h.hr.keep, h.hr.res⟩ hR hm ha
  · intro i
    by_cases e : i = id
    · subst e; rw [hm0, obs]; exact hre.symm
    · rw [obe i e]; exact h.hr.dom i
  · intro i hi
    have e : i ≠ id := fun e => by
      subst e
      have := h.hr.dom i
      rw [h.hr.free i hi, hm0] at this
      cases this
    rw [obe i e]
    exact h.hr.free i hi
  · intro i o' b' N' h1 h2
    by_cases e : i = id
    · subst e
      rw [obs] at h1
      rw [hm0] at h2
      cases h1; cases h2
      exact ho hR
    · rw [obe i e] at h1
      exact (h.hr.obj i o' b' N' h1 h2).mono hR hm ha (hoth b' (fun e' => e (h.hr.inj i id b N' N (e' ▸ h2) hm0)))
  · intro i b' N' h1
    obtain ⟨h2, h3, h4⟩ := h.hr.own i b' N' h1
    exact ⟨by omega, h3, h4⟩
  · intro b' hb'
    have := h.hr.rsz b' hb'
    omega
  · refine ⟨e1.trans h.hr.frame.os, e2.trans h.hr.frame.tape, e3.trans h.hr.frame.output, ?_, ?_⟩
    · have := h.hr.frame.size; omega
    · intro k hk hF
      rw [hoth k (fun e => by subst e; rcases own.2.2 with h' | h'; exact hF h'; omega)]
      exact h.hr.frame.block k hk hF
theorem xj_makeMap (id : Nat) (hid : σ.av id = true) : XJ C n ⟨dst, .makeMap t none, ty, pos, after, gd⟩ σ ⟨.map id, [(id, some (.mp [] []))], [id]⟩ := by
  rintro a w Q ⟨m, R, hw⟩
  unfold Oper.wp
  have hrun : (execOp a.eval ⟨dst, .makeMap t none, ty, pos, after, gd⟩).run C.P w = .ok (.value (.map (some w.heap.size))) (w.alloc (.map #[] 0)) := by
    simp only [execOp, Option.map_none, Sem.run_bind, run_makeMap, Result.andThen_ok]
    rfl
  rw [hrun]
  refine ⟨_, rfl, upd m id (some (w.heap.size, 0)), R, ?_⟩
  rw [St.app_new]
  refine SW.put (hw.allocO hid (.map #[] 0) 0 (.mp [] []) ?_) dst ?_
  · intro w' m' av' hR hb
    exact ⟨#[], 0, hb, RelPL.nil, RelPL.nil, by simp [Stamps]⟩
  · simp only [Rel]
    refine ⟨by simp [avL], fun b N e => ?_⟩
    rw [upd_same] at e
    cases e
    rfl
/-- What a map holds behind a store. -/
def mputK (k : PV) (ks : List PV) : List PV := match kfind k ks 0 with
  | some (some j) => ks.set j k
  | _ => ks ++ [k]
def mputV (k v : PV) (ks vs : List PV) : List PV := match kfind k ks 0 with
  | some (some j) => vs.set j v
  | _ => vs ++ [v]
theorem xj_mapUpdate {d : TypeDesc} {key v : PV} {id : Nat} {r : Option Nat} {ks' vs' : List PV} (ht : C.P.underlying t = some (.map kt et)) (hk : C.P.underlying kt = some d) (hx : σ.ev n x = .map id) (ho : σ.ob id = some (.mp ks vs)) (hy : σ.ev n y = .pv key) (hz : σ.ev n z = .pv v) (hd : keyD d key = true) (hf : kfind key ks 0 = some r)
    (hks : mputK key ks = ks') (hvs : mputV key v ks vs = vs') : XJ C n ⟨none, .mapUpdate t x y z, ty, pos, after, gd⟩ σ ⟨.pv .any, [(id, some (.mp ks' vs'))], []⟩ := by
  rintro a w Q ⟨m, R, hw⟩
  obtain ⟨b, N, hm, es, clock, hb, q2, q3, q4⟩ := hw.live ho
  have hxv := hw.ev x
  rw [hx] at hxv
  simp only [Rel] at hxv
  have hx := hxv.2 b N hm
  have hkey := hw.pv hy
  have hval := hw.pv hz
  have hIs := keyD_isKey hd hkey
  have hlt : b < w.heap.size := (Array.getElem?_eq_some_iff.1 hb).1
  have fin : ∀ (es' : Array MapEntry) (clock' : Nat), (Instr.mapUpdate t (a.eval x) (a.eval y) (a.eval z)).run C.P w = .ok () { w with heap := w.heap.setIfInBounds b (.map es' clock') } →
      RelPL w R ks' (es'.toList.map (·.key)) → RelPL w R vs' (es'.toList.map (·.val)) → Stamps es'.toList clock' → Oper.wp C.P ⟨none, .mapUpdate t x y z, ty, pos, after, gd⟩ a w (fun a' w' => ∃ σ', σ' = σ.app none ⟨.pv .any, [(id, some (.mp ks' vs'))], []⟩ ∧ SJ C n σ' a' w') Q := by
    intro es' clock' hrun h1 h2 h3
    unfold Oper.wp
    have hrun' : (execOp a.eval ⟨none, .mapUpdate t x y z, ty, pos, after, gd⟩).run C.P w = .ok .skip { w with heap := w.heap.setIfInBounds b (.map es' clock') } := by
      simp only [execOp, Sem.run_bind, hrun, Result.andThen_ok, Sem.run_pure]
    rw [hrun']
    refine ⟨_, rfl, m, R, hw.turn hm { w with heap := w.heap.setIfInBounds b (.map es' clock') } (by simp) (fun k hk => by simp only; rw [Array.getElem?_setIfInBounds_ne (fun e => hk e.symm)]) rfl rfl rfl (.mp ks' vs') fun hR => ?_⟩
    exact ⟨es', clock', by simp only; rw [Array.getElem?_setIfInBounds]; simp [hlt], h1.mono hR, h2.mono hR, h3⟩
  have hl := q2.length
  have hl2 := q3.length
  simp only [List.length_map] at hl hl2
  cases r with
  | none =>
    have hfn := find_of hd hkey q2 hf
    simp only at hfn
    refine fin (es.push ⟨a.eval y, a.eval z, clock⟩) (clock + 1) ?_ ?_ ?_ ?_
    · simp [Instr.mapUpdate, hx, run_underlying ht, run_map hb, run_checkKey hk hIs, run_findKey hk hfn, run_setMap _ hb, Result.andThen]
    · rw [← hks]
      simp only [mputK, hf, Array.toList_push, List.map_append, List.map_cons, List.map_nil]
      exact q2.append (RelPL.cons hkey RelPL.nil)
    · rw [← hvs]
      simp only [mputV, hf, Array.toList_push, List.map_append, List.map_cons, List.map_nil]
      exact q3.append (RelPL.cons hval RelPL.nil)
    · simp only [Stamps, Array.toList_push, List.map_append, List.map_cons, List.map_nil]
      refine ⟨List.nodup_append.2 ⟨q4.1, by simp, fun x hx y hy e => ?_⟩, fun e he => ?_⟩
      · obtain ⟨e', he', rfl⟩ := List.mem_map.1 hx
        have := q4.2 e' he'
        simp at hy
        omega
      · rcases List.mem_append.1 he with h | h
        · exact Nat.lt_succ_of_lt (q4.2 e h)
        · simp at h; subst h; exact Nat.lt_succ_self _
  | some j =>
    obtain ⟨q, e', hj, he, hfn⟩ := find_of hd hkey q2 hf
    obtain ⟨q', x', hj', hx', hkq⟩ := kfind_at hf
    simp only [Nat.zero_add] at hj hj'
    subst hj'
    subst hj
    have hrel := RelPL.at q2 hx' (by simp [he] : (es.toList.map (·.key))[j]? = some e'.key)
    have hsame := keq_same hkq hkey hrel
    have hjl : j < es.size := (List.getElem?_eq_some_iff.1 he).1 |> fun h => by simpa using h
    have hek : es[j]? = some e' := by simpa using he
    have hge : es[j] = e' := by have := Array.getElem?_eq_getElem hjl; rw [hek] at this; exact (Option.some.inj this).symm
    have hmod : (es.modify j fun e => { e with key := a.eval y, val := a.eval z }).toList = es.toList.set j ⟨a.eval y, a.eval z, e'.born⟩ := by
      apply List.ext_getElem?
      intro i
      rw [Array.getElem?_toList, Array.getElem?_modify, List.getElem?_set]
      by_cases e : j = i
      · subst e; simp [hjl, hge]
      · simp [e]
    refine fin (es.modify j fun e => { e with key := a.eval y, val := a.eval z }) clock ?_ ?_ ?_ ?_
    · simp [Instr.mapUpdate, hx, run_underlying ht, run_map hb, run_checkKey hk hIs, run_findKey hk hfn, run_setMap _ hb, Result.andThen, Instr.keyThatStays, hek, hsame.2]
    · rw [hmod, ← hks]
      simp only [mputK, hf, List.map_set]
      exact q2.set j hkey
    · rw [hmod, ← hvs]
      simp only [mputV, hf, List.map_set]
      exact q3.set j hval
    · rw [hmod]
      have hborn : (es.toList.set j ⟨a.eval y, a.eval z, e'.born⟩).map (·.born) = es.toList.map (·.born) := by
        rw [List.map_set]
        apply List.ext_getElem?
        intro i
        rw [List.getElem?_set]
        by_cases e : j = i
        · subst e; simp [hjl, hge]
        · simp [e]
      refine ⟨by rw [hborn]; exact q4.1, fun e hm => ?_⟩
      have : e.born ∈ es.toList.map (·.born) := by rw [← hborn]; exact List.mem_map.2 ⟨e, hm, rfl⟩
      obtain ⟨e2, h2, h3⟩ := List.mem_map.1 this
      rw [← h3]
      exact q4.2 e2 h2
/-- What a call that is handed places leaves, if it isn't told by a function: for DL.rel. -/
def RO (ids : List Nat) (base k' : Nat) (Q : V → (Nat → Option Ob) → Prop) (s : OS) : Prop := ∃ v ob', Q v ob' ∧ s = ⟨v.ren (renI ids base), wrO ids base k' ob', nwO base k'⟩
theorem wrO_keys (ids : List Nat) (base k' : Nat) (ob' : Nat → Option Ob) : (wrO ids base k' ob').map (·.1) = ids ++ nwO base k' := by
  have h : ∀ (l : List Nat) (j : Nat), (l.zipIdx j).map (fun p => p.1) = l := by
    intro l
    induction l with
    | nil => intro j; rfl
    | cons x l ih => intro j; rw [List.zipIdx_cons, List.map_cons, ih]
  unfold wrO nwO
  rw [List.map_append, List.map_map, List.map_map]
  exact congr (congrArg _ (h ids 0)) rfl
theorem relO {f : FuncId} {xs : Array Operand} {ts : Array TypeId} {args : List V} {os : List (Nat × Ob)} {k' : Nat} {Q : V → (Nat → Option Ob) → Prop} (ids : List Nat) (base : Nat) (hc : CallOk C.P f) (hf : FnO C.P f ids.length k' args os Q) (hargs : xs.toList.map (σ.ev n) = V.renL (renI ids base) args)
    (ha : V.allL (okR ids.length 0) args = true) (hos : os.map (·.1) = (List.range ids.length).map (big + ·)) (hob : os.all (fun p => p.2.all (okR ids.length 0)) = true) (hobs : allObR σ (renI ids base) os) (hnd : ids.Nodup) (hav : (nwO base k').all σ.av = true) :
    OJ C n ⟨dst, .call { callee := .value (.func f), args := xs, argTypes := ts }, ty, pos, after, gd⟩ (fun τ' => ∃ s, RO ids base k' Q s ∧ s.wr.map (·.1) = ids ++ nwO base k' ∧ s.nw = nwO base k' ∧ τ' = σ.app dst s) σ :=
  oj_callO ids base hc hargs ha hos hob hobs hnd hav hf fun v ob' h => ⟨_, ⟨v, ob', h, rfl⟩, wrO_keys _ _ _ _, rfl, rfl⟩
end
end Go.Proofs.YtkalgjnhaicabaaGreat
namespace Go.Proofs.YtkalgjnhaicabaaGreat
open Go.RowKit Mk
set_option maxRecDepth 100000
set_option maxHeartbeats 4000000
theorem size_spec (x : B64) : FnP Tryz.prog 109 [setP x] (· = .int .i64 (popB x)) := by
  refine FnP.of Tryz.func109 rfl Tryz.ntmps109 (by simp) fun m0 w0 F R0 => ?_
  repeat refine AW.seq ?_
  refine AW.region ?_
  refine A1 rfl ?_
  repeat refine AW.seq ?_
  refine AW.region ?_
  refine A1 rfl ?_
  repeat refine AW.seq ?_
  refine AW.block ?_
  repeat refine AW.seq ?_
  refine AW.loop (st := fun x_0 : B64 × Nat => mkS [(0, .pv (setP x_0.1)), (3, .pv (.int .i64 x_0.2))] [] 0)
    (I := fun x_0 => x_0.2 + popB x_0.1 = popB x) (μ := fun x_0 => popB x_0.1) (x0 := (x, 0)) (St.le_mk ⟨rfl, rfl, trivial⟩ trivial rfl rfl) (by simp) ?_
  rintro ⟨y, k⟩ hk
  try simp only at hk ⊢
  have h64 := pop_le x
  repeat refine AW.seq ?_
  refine AW.region ?_
  refine A1 rfl ?_
  refine RL.step (d := some 5) rfl rfl (xj_neqV (Y := 0#64) rfl rfl) ?_
  repeat refine AW.seq ?_
  refine AW.condP rfl (fun hc5 => ?_) (fun hc5 => ?_)
  · have hp := pop_pred hc5
    refine AW.skip ?_
    repeat refine AW.seq ?_
    refine AW.block ?_
    repeat refine AW.seq ?_
    refine AW.region ?_
    iterate 3 refine A1 rfl ?_
    repeat refine AW.seq ?_
    refine AW.region ?_
    iterate 2 refine A1 rfl ?_
    refine RL.step (d := some 8) rfl rfl (xj_subV (Y := 1#64) rfl rfl) ?_
    refine RL.step (d := some 9) rfl rfl (xj_andV rfl rfl) ?_
    refine A1 rfl ?_
    exact ⟨(y &&& (y - 1#64), k + 1), St.le_mk ⟨rfl, rfl, trivial⟩ trivial rfl rfl, by simp only; omega, by simp only; omega⟩
  · have hz : y = 0#64 := Classical.byContradiction hc5
    subst hz
    repeat refine AW.seq ?_
    refine AW.exit ?_
    repeat refine AW.seq ?_
    refine AW.region ?_
    iterate 2 refine A1 rfl ?_
    repeat refine AW.seq ?_
    refine AW.ret ?_
    exact ⟨_, _, rfl, rfl, by rw [← hk]; rfl⟩
theorem gkey_spec (G : List B64) (hG : GOk G) (c : B64) : FnP Tryz.prog 96 [psets G, setP c] (· = .int .i64 (keyN G c)) := by
  refine FnP.of Tryz.func96 rfl Tryz.ntmps96 (by simp) fun m0 w0 F R0 => ?_
  have h12 := hG.n
  repeat refine AW.seq ?_
  refine AW.region ?_
  refine A1 rfl ?_
  repeat refine AW.seq ?_
  refine AW.region ?_
  refine A1 rfl ?_
  repeat refine AW.seq ?_
  refine AW.region ?_
  iterate 3 refine A1 rfl ?_
  repeat refine AW.seq ?_
  refine AW.block ?_
  repeat refine AW.seq ?_
  refine AW.loop (st := fun x_0 : Nat × B64 => mkS [(1, .pv (setP c)), (5, .pv (setP x_0.2)), (8, .pv (psets G)), (9, .pv (.int .i64 G.length)), (10, .pv (.int .i64 x_0.1))] [] 0)
    (I := fun x_0 => x_0.1 ≤ G.length ∧ ∀ i, x_0.2.getLsbD i = (List.range x_0.1).any fun b => c.getLsbD b && (G.getD b 0#64).getLsbD i) (μ := fun x_0 => G.length - x_0.1) (x0 := (0, 0#64)) (St.le_mk ⟨rfl, rfl, rfl, rfl, rfl, trivial⟩ trivial rfl rfl) (⟨Nat.zero_le _, fun c => by simp⟩) ?_
  rintro ⟨k, near⟩ ⟨hk, hnear⟩
  try simp only at hk hnear ⊢
  repeat refine AW.seq ?_
  refine AW.region ?_
  refine A1 rfl ?_
  repeat refine AW.seq ?_
  refine AW.condP rfl (fun hc11 => ?_) (fun hc11 => ?_)
  · have hlt : k < G.length := by omega
    have hv := psets_at hlt
    have hne := psets_ne hlt
    refine AW.skip ?_
    repeat refine AW.seq ?_
    refine AW.block ?_
    repeat refine AW.seq ?_
    refine AW.region ?_
    iterate 2 refine A1 rfl ?_
    first | refine A2 rfl (by assumption) ?_ | refine A1 rfl ?_
    iterate 2 refine A1 rfl ?_
    repeat refine AW.seq ?_
    refine AW.region ?_
    iterate 2 refine A1 rfl ?_
    refine RL.step (d := some 17) rfl rfl (xj_call Tryz.call69 (has_sp c k (by omega)) rfl) ?_
    repeat refine AW.seq ?_
    refine AW.cond rfl (fun hc17 => ?_) (fun hc17 => ?_)
    · repeat refine AW.seq ?_
      refine AW.region ?_
      iterate 2 refine A1 rfl ?_
      refine RL.step (d := some 20) rfl rfl (xj_orV rfl rfl) ?_
      refine A1 rfl ?_
      repeat refine AW.seq ?_
      refine AW.region ?_
      iterate 2 refine A1 rfl ?_
      exact ⟨(k + 1, near ||| G[k]), St.le_mk ⟨rfl, rfl, rfl, rfl, rfl, trivial⟩ trivial rfl rfl, ⟨by simp only; omega, fun i => (near_next (hnear i) hlt).1 hc17⟩, by simp only; omega⟩
    · refine AW.skip ?_
      repeat refine AW.seq ?_
      refine AW.region ?_
      iterate 2 refine A1 rfl ?_
      exact ⟨(k + 1, near), St.le_mk ⟨rfl, rfl, rfl, rfl, rfl, trivial⟩ trivial rfl rfl, ⟨by simp only; omega, fun i => (near_next (hnear i) hlt).2 hc17⟩, by simp only; omega⟩
  · have hkG : k = G.length := by omega
    rw [hkG] at hnear
    have hnb : near = nearB G c := by apply BitVec.eq_of_getLsbD_eq; intro i hi; unfold nearB; rw [bitsOf_bit _ hi, hnear]
    subst hnb
    repeat refine AW.seq ?_
    refine AW.exit ?_
    repeat refine AW.seq ?_
    refine AW.region ?_
    iterate 2 refine A1 rfl ?_
    refine RL.step (d := some 24) rfl rfl (xj_andNotV rfl rfl) ?_
    refine RL.step (d := some 25) rfl rfl (xj_call Tryz.call109 (size_spec _) rfl) ?_
    refine A1 rfl ?_
    repeat refine AW.seq ?_
    refine AW.ret ?_
    exact ⟨_, _, rfl, rfl, rfl⟩
/-- What the finder knows. -/
abbrev mapO (M : List (B64 × Nat)) : Ob := .mp (M.map fun p => setP p.1) (M.map fun p => .int .i64 (p.2 : Int))
def MemOk (G : List B64) (M : List (B64 × Nat)) : Prop := ∀ p ∈ M, p.2 = partV G p.1
abbrev finV (G : List B64) : V := .agg [.pv (psets G), .map big]
theorem keq_sets (x y : B64) : keq (setP x) (setP y) = some (decide (x = y)) := by
  simp only [keq, setP]
  show some (_ == _) = _
  rw [setP_beq]
theorem find_sets (c : B64) : ∀ (M : List (B64 × Nat)) (i : Nat), (∃ r, kfind (setP c) (M.map fun p => setP p.1) i = some r) ∧ (kfind (setP c) (M.map fun p => setP p.1) i = some none → ∀ p ∈ M, p.1 ≠ c) ∧ (∀ j, kfind (setP c) (M.map fun p => setP p.1) i = some (some j) → i ≤ j ∧ ∃ w, M[j - i]? = some (c, w))
  | [], i => ⟨⟨none, rfl⟩, fun _ => by simp, fun j h => by simp [kfind] at h⟩
  | p :: M, i => by
    obtain ⟨h1, h2, h3⟩ := find_sets c M (i + 1)
    simp only [List.map_cons, kfind, keq_sets]
    by_cases e : c = p.1
    · rw [decide_eq_true e]
      refine ⟨⟨_, rfl⟩, fun h => by simp at h, fun j h => ?_⟩
      simp at h
      subst h
      exact ⟨Nat.le_refl _, p.2, by simp [e]⟩
    · rw [decide_eq_false e]
      refine ⟨h1, fun h q hq => ?_, fun j h => ?_⟩
      · rcases List.mem_cons.1 hq with rfl | hq
        · exact fun e' => e e'.symm
        · exact h2 h q hq
      · obtain ⟨h4, w, h5⟩ := h3 j h
        exact ⟨by omega, w, by rw [show j - i = (j - (i + 1)) + 1 by omega]; simpa using h5⟩
theorem look_sets {G : List B64} {M : List (B64 × Nat)} (hM : MemOk G M) (c : B64) : mlook (setP c) (M.map fun p => setP p.1) (M.map fun p => .int .i64 (p.2 : Int)) = some (if ∃ p ∈ M, p.1 = c then some (.int .i64 (partV G c)) else none) := by
  obtain ⟨⟨r, h1⟩, h2, h3⟩ := find_sets c M 0
  unfold mlook
  rw [h1]
  cases r with
  | none =>
    have := h2 h1
    rw [if_neg (fun ⟨p, hp, e⟩ => this p hp e)]
  | some j =>
    obtain ⟨_, w, h4⟩ := h3 j h1
    simp only [Nat.sub_zero] at h4
    have hm := List.mem_of_getElem? h4
    rw [if_pos ⟨_, hm, rfl⟩]
    have hw : w = partV G c := hM _ hm
    simp [h4, hw]
theorem put_sets {G : List B64} {M : List (B64 × Nat)} (hM : MemOk G M) (c : B64) : ∃ M', MemOk G M' ∧ mputK (setP c) (M.map fun p => setP p.1) = M'.map (fun p => setP p.1) ∧ mputV (setP c) (.int .i64 (partV G c : Nat)) (M.map fun p => setP p.1) (M.map fun p => .int .i64 (p.2 : Int)) = M'.map fun p => .int .i64 (p.2 : Int) := by
  obtain ⟨⟨r, h1⟩, _, _⟩ := find_sets c M 0
  unfold mputK mputV
  rw [h1]
  cases r with
  | none =>
    refine ⟨M ++ [(c, partV G c)], fun p hp => ?_, by simp, by simp⟩
    rcases List.mem_append.1 hp with h | h
    · exact hM p h
    · rw [List.mem_singleton.1 h]
  | some j =>
    refine ⟨M.set j (c, partV G c), fun p hp => ?_, by simp [List.map_set], by simp [List.map_set]⟩
    rcases List.mem_or_eq_of_mem_set hp with h | h
    · exact hM p h
    · rw [h]
theorem max_int (a b : Nat) : (if (b : Int) > (a : Int) then (b : Int) else (a : Int)) = ((max a b : Nat) : Int) := by split <;> omega
theorem min_int (a b : Nat) : (if (b : Int) < (a : Int) then (b : Int) else (a : Int)) = ((min a b : Nat) : Int) := by split <;> omega
def QW (G : List B64) (x : Nat) (v : V) (ob' : Nat → Option Ob) : Prop := ∃ M', MemOk G M' ∧ v = .pv (.int .i64 (x : Int)) ∧ ob' = lookO [(big, mapO M')]
def WidOk (P : Program) (f : FuncId) (G : List B64) (rest : B64) (x : Nat) : Prop := ∀ M, MemOk G M → FnO P f 1 0 [finV G, .pv (setP rest)] [(big, mapO M)] (QW G x)
theorem wid_step (G : List B64) (hG : GOk G) (rest : B64) (hr : InB G.length rest) (hp : ∀ d, Comp (adjG G) rest d → WidOk Tryz.prog 86 G d (partV G d)) : WidOk Tryz.prog 68 G rest (widV G rest) := by
  intro M hM
  refine FnO.of Tryz.func68 rfl Tryz.ntmps68 (by simp) fun m0 w0 F R0 => ?_
  have h12 := hG.n
  have hcs := comps_spec G h12 rest
  have hmem := fun d => mem_comps hG hr (d := d)
  have hwd : widV G rest = (compsN G rest G.length).1.foldl (fun z c => max z (partV G c)) 0 := rfl
  have hcl := comps_len G rest G.length
  generalize (compsN G rest G.length).1 = cs at *
  have hbd : ∀ d ∈ cs, partV G d ≤ 12 := fun d hd => Nat.le_trans (part_le hG _ d (Nat.le_refl _) (fun i hi => hr i (((hmem d).1 hd).sub i hi)) ((hmem d).1 hd).ne) h12
  repeat refine AW.seq ?_
  refine AW.region ?_
  iterate 2 refine A1 rfl ?_
  repeat refine AW.seq ?_
  refine AW.region ?_
  refine A1 rfl ?_
  repeat refine AW.seq ?_
  refine AW.region ?_
  iterate 3 refine A1 rfl ?_
  refine RL.step (d := some 11) rfl rfl (xj_call Tryz.call73 hcs rfl) ?_
  iterate 2 refine A1 rfl ?_
  repeat refine AW.seq ?_
  refine AW.block ?_
  repeat refine AW.seq ?_
  refine AW.loop (st := fun x_0 : Nat × Nat × List (B64 × Nat) => mkS [(2, .ptr 0 0), (5, .pv (.int .i64 x_0.2.1)), (11, .pv (psets cs)), (12, .pv (.int .i64 cs.length)), (13, .pv (.int .i64 x_0.1))] [(big, mapO x_0.2.2), (0, .mix 100 [.pv (psets G), .map big])] 1)
    (I := fun x_0 => x_0.1 ≤ cs.length ∧ x_0.2.1 = (cs.take x_0.1).foldl (fun z c => max z (partV G c)) 0 ∧ MemOk G x_0.2.2) (μ := fun x_0 => cs.length - x_0.1) (x0 := (0, 0, M)) (St.le_mk ⟨rfl, rfl, rfl, rfl, rfl, trivial⟩ ⟨rfl, rfl, trivial⟩ rfl rfl) (⟨Nat.zero_le _, rfl, hM⟩) ?_
  rintro ⟨k, m, M2⟩ ⟨hk, hm, hM2⟩
  try simp only at hk hm hM2 ⊢
  repeat refine AW.seq ?_
  refine AW.region ?_
  refine A1 rfl ?_
  repeat refine AW.seq ?_
  refine AW.condP rfl (fun hc14 => ?_) (fun hc14 => ?_)
  · have hlt : k < cs.length := by omega
    have hv := psets_at hlt
    have hne := psets_ne hlt
    have hpk := hp cs[k] ((hmem _).1 (List.getElem_mem hlt)) M2 hM2
    have hfd : (cs.take (k + 1)).foldl (fun z c => max z (partV G c)) 0 = max m (partV G cs[k]) := by rw [take_snoc hlt, List.foldl_append, ← hm]; rfl
    refine AW.skip ?_
    repeat refine AW.seq ?_
    refine AW.block ?_
    repeat refine AW.seq ?_
    refine AW.region ?_
    refine A1 rfl ?_
    first | refine A2 rfl (by assumption) ?_ | refine A1 rfl ?_
    refine A1 rfl ?_
    repeat refine AW.seq ?_
    refine AW.region ?_
    iterate 3 refine A1 rfl ?_
    refine RL.call rfl (oj_callF1 [big] 0 Tryz.call86 hpk rfl rfl rfl rfl ⟨rfl, trivial⟩ (by decide) rfl ?_)
    rintro _ _ ⟨M3, hM3, rfl, rfl⟩
    iterate 2 refine A1 rfl ?_
    repeat refine AW.seq ?_
    refine AW.region ?_
    iterate 2 refine A1 rfl ?_
    exact ⟨(k + 1, max m (partV G cs[k]), M3), St.le_mk ⟨rfl, congrArg (fun z => V.pv (.int .i64 z)) (max_int _ _), rfl, rfl, rfl, trivial⟩ ⟨rfl, rfl, trivial⟩ rfl rfl, ⟨by simp only; omega, hfd.symm, hM3⟩, by simp only; omega⟩
  · rw [List.take_of_length_le (by omega), ← hwd] at hm
    subst hm
    repeat refine AW.seq ?_
    refine AW.exit ?_
    repeat refine AW.seq ?_
    refine AW.region ?_
    iterate 2 refine A1 rfl ?_
    repeat refine AW.seq ?_
    refine AW.ret ?_
    exact ⟨[(4, .pv (.int .i64 (widV G rest : Nat)))], [(big, mapO M2)], [.pv (.int .i64 (widV G rest : Nat))], St.le_mk ⟨rfl, trivial⟩ ⟨rfl, trivial⟩ rfl rfl, rfl, rfl, rfl, M2, hM2, rfl, rfl⟩
theorem par_step (G : List B64) (hG : GOk G) (c : B64) (hc : InB G.length c) (hne : ∃ i, c.getLsbD i = true) (hw : ∀ a, a < G.length → c.getLsbD a = true → WidOk Tryz.prog 68 G (c &&& ~~~(BitVec.twoPow 64 a)) (widV G (c &&& ~~~(BitVec.twoPow 64 a)))) : WidOk Tryz.prog 86 G c (partV G c) := by
  intro M hM
  refine FnO.of Tryz.func86 rfl Tryz.ntmps86 (by simp) fun m0 w0 F R0 => ?_
  have h12 := hG.n
  have hlk := look_sets hM c
  have hpe := part_eq hG hc hne
  have hmb : ∀ k, minW (widV G) G c k ≤ G.length + 1 := fun k => minW_le.2 (.inl (Nat.le_refl _))
  have hkb : keyN G c ≤ 64 := pop_le _
  repeat refine AW.seq ?_
  refine AW.region ?_
  iterate 2 refine A1 rfl ?_
  by_cases hm : ∃ p ∈ M, p.1 = c
  · rw [if_pos hm] at hlk
    repeat refine AW.seq ?_
    refine AW.region ?_
    iterate 3 refine A1 rfl ?_
    refine RL.step (d := some 13) rfl rfl (xj_lookup (zp := .int .i64 0) Tryz.underlying98 Tryz.underlying101 (.inl ⟨big, rfl, rfl⟩) rfl rfl zero3 rfl hlk rfl rfl) ?_
    iterate 5 refine A1 rfl ?_
    repeat refine AW.seq ?_
    refine AW.region ?_
    refine A1 rfl ?_
    repeat refine AW.seq ?_
    refine AW.cond rfl (fun hc16 => ?_) (fun hc16 => absurd hc16 (by simp))
    repeat refine AW.seq ?_
    refine AW.region ?_
    iterate 2 refine A1 rfl ?_
    repeat refine AW.seq ?_
    refine AW.ret ?_
    exact ⟨[(4, .pv (.int .i64 (partV G c : Nat)))], [(big, mapO M)], [.pv (.int .i64 (partV G c : Nat))], St.le_mk ⟨rfl, trivial⟩ ⟨rfl, trivial⟩ rfl rfl, rfl, rfl, rfl, M, hM, rfl, rfl⟩
  · rw [if_neg hm] at hlk
    repeat refine AW.seq ?_
    refine AW.region ?_
    iterate 3 refine A1 rfl ?_
    refine RL.step (d := some 13) rfl rfl (xj_lookup (zp := .int .i64 0) Tryz.underlying98 Tryz.underlying101 (.inl ⟨big, rfl, rfl⟩) rfl rfl zero3 rfl hlk rfl rfl) ?_
    iterate 5 refine A1 rfl ?_
    repeat refine AW.seq ?_
    refine AW.region ?_
    refine A1 rfl ?_
    repeat refine AW.seq ?_
    refine AW.cond rfl (fun hc16 => absurd hc16 (by simp)) (fun hc16 => ?_)
    refine AW.skip ?_
    repeat refine AW.seq ?_
    refine AW.region ?_
    iterate 5 refine A1 rfl ?_
    repeat refine AW.seq ?_
    refine AW.region ?_
    iterate 4 refine A1 rfl ?_
    repeat refine AW.seq ?_
    refine AW.block ?_
    repeat refine AW.seq ?_
    refine AW.loop (st := fun x_0 : Nat × List (B64 × Nat) => mkS [(1, .pv (setP c)), (2, .ptr 0 0), (7, .pv (.int .i64 (minW (widV G) G c x_0.1 : Nat))), (24, .pv (.int .i64 G.length)), (25, .pv (.int .i64 x_0.1))] [(big, mapO x_0.2), (0, .mix 100 [.pv (psets G), .map big])] 1)
      (I := fun x_0 => x_0.1 ≤ G.length ∧ MemOk G x_0.2) (μ := fun x_0 => G.length - x_0.1) (x0 := (0, M)) (St.le_mk ⟨rfl, rfl, rfl, rfl, rfl, trivial⟩ ⟨rfl, rfl, trivial⟩ rfl rfl) (⟨Nat.zero_le _, hM⟩) ?_
    rintro ⟨k, M2⟩ ⟨hk, hM2⟩
    try simp only at hk hM2 ⊢
    repeat refine AW.seq ?_
    refine AW.region ?_
    refine A1 rfl ?_
    repeat refine AW.seq ?_
    refine AW.condP rfl (fun hc26 => ?_) (fun hc26 => ?_)
    · have hlt : k < G.length := by omega
      have hms := minW_succ (widV G) G c k
      refine AW.skip ?_
      repeat refine AW.seq ?_
      refine AW.block ?_
      repeat refine AW.seq ?_
      refine AW.region ?_
      iterate 2 refine A1 rfl ?_
      repeat refine AW.seq ?_
      refine AW.region ?_
      iterate 2 refine A1 rfl ?_
      refine RL.step (d := some 30) rfl rfl (xj_call Tryz.call69 (has_sp c k (by omega)) rfl) ?_
      repeat refine AW.seq ?_
      refine AW.cond rfl (fun hc30 => ?_) (fun hc30 => ?_)
      · rw [if_pos hc30] at hms
        have hwk := hw k hlt hc30 M2 hM2
        repeat refine AW.seq ?_
        refine AW.draw follows [[], [], [], [], [3], [4, 2, 3], [5, 1, 4, 2, 3], [6, 0, 5, 1, 4, 2, 3], [7, 6, 0, 5, 1, 4, 2, 3]] [0, 1, 2, 3, 4, 5, 6, 7, 8] (by kernel_rfl) (by kernel_rfl) ?_
        iterate 4 refine D1 rfl rfl ?_
        refine DL.step (d := some 35) [] rfl rfl rfl (fun τ h => xj_call Tryz.call71 (of_spec k (by omega)) (h.argsP rfl)) rfl (by kernel_rfl) ?_
        refine DL.step (d := some 36) [] rfl rfl rfl (fun τ h => xj_andNotV ((h.e 0 _ rfl).trans rfl) ((h.e 1 _ rfl).trans rfl)) rfl (by kernel_rfl) ?_
        refine DL.rel (RO [big] 0 0 (QW G (widV G (c &&& ~~~(BitVec.twoPow 64 k))))) [big] [] [big] rfl rfl rfl (fun τ h => relO [big] 0 Tryz.call68 hwk (h.args.trans rfl) rfl rfl rfl ⟨(h.o 0 _ rfl).trans rfl, trivial⟩ (by decide) rfl) rfl (by kernel_rfl) (by kernel_rfl) (by kernel_rfl) ?_
        rintro _ ⟨_, _, ⟨M3, hM3, rfl, rfl⟩, rfl⟩ _ _
        iterate 2 refine D1 rfl rfl ?_
        refine ⟨by kernel_rfl, ?_⟩
        repeat refine AW.seq ?_
        refine AW.region ?_
        iterate 2 refine A1 rfl ?_
        exact ⟨(k + 1, M3), St.le_mk ⟨rfl, rfl, congrArg (fun z => V.pv (.int .i64 z)) ((min_int _ _).trans (by rw [hms])), rfl, rfl, trivial⟩ ⟨rfl, rfl, trivial⟩ rfl rfl, ⟨by simp only; omega, hM3⟩, by simp only; omega⟩
      · rw [if_neg (by rw [hc30]; decide)] at hms
        refine AW.skip ?_
        repeat refine AW.seq ?_
        refine AW.region ?_
        iterate 2 refine A1 rfl ?_
        exact ⟨(k + 1, M2), St.le_mk ⟨rfl, rfl, by simp only [hms]; rfl, rfl, rfl, trivial⟩ ⟨rfl, rfl, trivial⟩ rfl rfl, ⟨by simp only; omega, hM2⟩, by simp only; omega⟩
    · have hkG : k = G.length := by omega
      subst hkG
      obtain ⟨M4, hM4, hpk, hpv⟩ := put_sets hM2 c
      obtain ⟨⟨r, hkf⟩, _, _⟩ := find_sets c M2 0
      have hmk := hmb G.length
      repeat refine AW.seq ?_
      refine AW.exit ?_
      repeat refine AW.seq ?_
      refine AW.region ?_
      iterate 4 refine A1 rfl ?_
      refine RL.step (d := some 44) rfl rfl (xj_call Tryz.call96 (gkey_spec G hG c) rfl) ?_
      refine A1 rfl ?_
      refine RL.step (d := some 46) rfl rfl (XJ.cast (v' := .pv (.int .i64 (partV G c : Nat))) (xj_max rfl rfl) (congrArg (fun z => V.pv (.int .i64 z)) ((max_int _ (keyN G c + 1)).trans (by rw [hpe])))) ?_
      refine A1 rfl ?_
      repeat refine AW.seq ?_
      refine AW.region ?_
      iterate 4 refine A1 rfl ?_
      refine RL.step (d := none) rfl rfl (xj_mapUpdate Tryz.underlying98 Tryz.underlying101 rfl rfl rfl rfl rfl hkf hpk hpv) ?_
      repeat refine AW.seq ?_
      refine AW.region ?_
      iterate 2 refine A1 rfl ?_
      repeat refine AW.seq ?_
      refine AW.ret ?_
      exact ⟨[(4, .pv (.int .i64 (partV G c : Nat)))], [(big, mapO M4)], [.pv (.int .i64 (partV G c : Nat))], St.le_mk ⟨rfl, trivial⟩ ⟨rfl, trivial⟩ rfl rfl, rfl, rfl, rfl, M4, hM4, rfl, rfl⟩
theorem wid_all (G : List B64) (hG : GOk G) : ∀ (k : Nat) (rest : B64), popB rest ≤ k → InB G.length rest → WidOk Tryz.prog 68 G rest (widV G rest)
  | 0, rest, h, hr => wid_step G hG rest hr fun d hd => by
    obtain ⟨i, hi⟩ := hd.ne
    have := pop_pos (hd.sub i hi)
    omega
  | k + 1, rest, h, hr => wid_step G hG rest hr fun d hd => par_step G hG d (fun i hi => hr i (hd.sub i hi)) hd.ne fun a ha hda => wid_all G hG k _ (by
    have h1 := pop_diff hda
    have h2 := pop_mono hd.sub
    omega) (InB.diff (fun i hi => hr i (hd.sub i hi)) a)
end Go.Proofs.YtkalgjnhaicabaaGreat
namespace Go.Proofs.YtkalgjnhaicabaaGreat
open Go.RowKit Mk
set_option maxRecDepth 100000
set_option maxHeartbeats 4000000
theorem gok_of {S : Sch} {G : List B64} (hV : Valid S) (h : IsG S G) : GOk G := by
  have h1 : G = gr S := isG_eq hV h
  subst h1
  have h2 := hV.n2
  have e := adjG_eq hV
  exact ⟨by rw [gr_len]; omega, by rw [e]; exact adjS_symm S, by rw [e, gr_len]; intro a b h; have := (link_lt hV h.2).2; omega⟩
theorem all_in (n : Nat) (hn : n ≤ 63) : InB n (allB n) := fun i hi => by rw [allB_bit (by omega), decide_eq_true_iff] at hi; exact hi
/-- What the loop of Least keeps. -/
structure LInv (G : List B64) (most : Nat) (L : List Int) (rest : B64) : Prop where
  inb : InB G.length rest
  wid : widV G rest ≤ most
  len : L.length + popB rest = G.length
  lst : L ++ leastF G most (popB rest) rest = leastL G
  nd : L.Nodup
  mem : ∀ x ∈ L, ∃ a : Nat, a < G.length ∧ x = (a : Int) ∧ rest.getLsbD a = false
  cov : ∀ a, a < G.length → (a : Int) ∈ L ∨ rest.getLsbD a = true
theorem LInv.first {G : List B64} (hG : GOk G) : LInv G (widV G (allB G.length)) [] (allB G.length) := by
  have h12 := hG.n
  have hp := pop_all (n := G.length) (by omega)
  exact ⟨all_in _ (by omega), Nat.le_refl _, by simp [hp], by rw [hp]; rfl, by simp, by simp, fun a ha => .inr (by rw [allB_bit (by omega)]; simpa using ha)⟩
theorem LInv.next {G : List B64} (hG : GOk G) {most : Nat} {L : List Int} {rest : B64} (h : LInv G most L rest) {k : Nat} (hk : k < G.length) (hno : ∀ b, b < k → ¬ (rest.getLsbD b = true ∧ widV G (compB G rest b &&& ~~~(BitVec.twoPow 64 b)) ≤ most))
    (h1 : rest.getLsbD k = true) (h2 : widV G (compB G rest k &&& ~~~(BitVec.twoPow 64 k)) ≤ most) : LInv G most (L ++ [(k : Int)]) (rest &&& ~~~(BitVec.twoPow 64 k)) := by
  have hp := pop_diff h1
  have hfind : (List.range G.length).find? (fun a => rest.getLsbD a && decide (widV G (compB G rest a &&& ~~~(BitVec.twoPow 64 a)) ≤ most)) = some k := by
    rw [List.find?_range_eq_some]
    refine ⟨by rw [h1]; simpa using h2, by simpa using hk, fun j hj => ?_⟩
    have := hno j hj
    cases e : rest.getLsbD j with
    | false => rfl
    | true => simp; exact Nat.lt_of_not_le fun h => this ⟨e, h⟩
  refine ⟨h.inb.diff k, next_le hG h.inb h1 h.wid h2, by have := h.len; simp; omega, ?_, ?_, fun x hx => ?_, fun a ha => ?_⟩
  · rw [← h.lst, ← hp]
    simp only [leastF, hfind, List.append_assoc, List.singleton_append]
  · rw [List.nodup_append]
    refine ⟨h.nd, by simp, fun x hx y hy e => ?_⟩
    rw [List.mem_singleton] at hy
    subst hy e
    obtain ⟨a, _, e, hr⟩ := h.mem _ hx
    have : k = a := by omega
    subst this
    rw [h1] at hr
    cases hr
  · rcases List.mem_append.1 hx with hx | hx
    · obtain ⟨a, ha, e, hr⟩ := h.mem x hx
      exact ⟨a, ha, e, by rw [diff_bit, hr]; rfl⟩
    · exact ⟨k, hk, List.mem_singleton.1 hx, by rw [diff_bit]; simp⟩
  · rcases h.cov a ha with h3 | h3
    · exact .inl (List.mem_append_left _ h3)
    · by_cases e : a = k
      · subst e; exact .inl (by simp)
      · exact .inr (by rw [diff_bit, h3]; simpa using fun e' => e e'.symm)
theorem LInv.last {G : List B64} {most : Nat} {L : List Int} (h : LInv G most L 0#64) : L = leastL G ∧ L.Perm (upZ G.length) := by
  have h0 : popB 0#64 = 0 := by unfold popB; simp
  have h1 := h.lst
  rw [h0] at h1
  simp only [leastF, List.append_nil] at h1
  refine ⟨h1, nodup_perm h.nd (upZ_nodup _) fun x => ?_⟩
  rw [upZ_mem]
  constructor
  · intro hx
    obtain ⟨a, ha, e, _⟩ := h.mem x hx
    exact ⟨a, ha, e⟩
  · rintro ⟨a, ha, rfl⟩
    rcases h.cov a ha with h2 | h2
    · exact h2
    · simp at h2
theorem ouLeast_spec (S : Sch) (hS : SB S) (hV : Valid S) : FnP Tryz.prog 43 [schP S] (fun v => ∃ G, IsG S G ∧ v = pints (leastL G) ∧ (leastL G).Perm (upZ G.length)) := by
  refine FnP.of Tryz.func43 rfl Tryz.ntmps43 (by simp) fun m0 w0 F R0 => ?_
  have hn12 := hV.n2
  repeat refine AW.seq ?_
  refine AW.region ?_
  iterate 2 refine A1 rfl ?_
  repeat refine AW.seq ?_
  refine AW.region ?_
  refine A1 rfl ?_
  refine RL.call rfl (oj_call Tryz.call66 (ounew_spec S hS hV) rfl ?_)
  rintro _ ⟨G, rfl, hIG⟩
  have hGl := hIG.len
  have hG := gok_of hV hIG
  have hw0 := wid_all G hG 64 (allB G.length) (pop_le _) (all_in _ (by omega)) [] (by intro p hp; cases hp)
  refine RL.step (d := some 10) rfl rfl (xj_makeMap 1 rfl) ?_
  iterate 3 refine A1 rfl ?_
  repeat refine AW.seq ?_
  refine AW.region ?_
  iterate 2 refine A1 rfl ?_
  refine RL.step (d := some 14) rfl rfl (xj_call Tryz.call67 (allB_spec G (by omega)) rfl) ?_
  refine A1 rfl ?_
  repeat refine AW.seq ?_
  refine AW.region ?_
  iterate 2 refine A1 rfl ?_
  refine RL.call rfl (oj_callF1 [1] 3 Tryz.call68 hw0 rfl rfl rfl rfl ⟨rfl, trivial⟩ (by decide) rfl ?_)
  rintro _ _ ⟨M0, hM0, rfl, rfl⟩
  refine A1 rfl ?_
  repeat refine AW.seq ?_
  refine AW.region ?_
  refine A1 rfl ?_
  refine AW.weaken (St.le_gro 6 3 1 3 rfl rfl) ?_
  repeat refine AW.seq ?_
  refine AW.block ?_
  repeat refine AW.seq ?_
  refine AW.loop (st := fun x_0 : List Int × B64 × List (B64 × Nat) => mkS [(3, .ptr 2 0), (4, .pv (setP x_0.2.1)), (5, .pv (.int .i64 (widV G (allB G.length) : Nat))), (6, .gsl 3 1 x_0.1.length)] [(1, mapO x_0.2.2), (2, .mix 100 [.pv (psets G), .map 1]), (3, .gro 3 (intsP x_0.1))] 4)
    (I := fun x_0 => LInv G (widV G (allB G.length)) x_0.1 x_0.2.1 ∧ MemOk G x_0.2.2) (μ := fun x_0 => popB x_0.2.1) (x0 := ([], allB G.length, M0)) (St.le_mk ⟨rfl, rfl, rfl, rfl, trivial⟩ ⟨rfl, rfl, rfl, trivial⟩ rfl rfl) (⟨LInv.first hG, hM0⟩) ?_
  rintro ⟨L, rest, M1⟩ ⟨hI, hM1⟩
  try simp only at hI hM1 ⊢
  repeat refine AW.seq ?_
  refine AW.region ?_
  refine A1 rfl ?_
  refine RL.step (d := some 19) rfl rfl (xj_neqV (Y := 0#64) rfl rfl) ?_
  repeat refine AW.seq ?_
  refine AW.condP rfl (fun hc19 => ?_) (fun hc19 => ?_)
  · obtain ⟨a0, ha0, hra0, hwa0⟩ := next_ex hG hI.inb (ne_bit hc19) hI.wid
    have hLl := hI.len
    have hsl : (intsP L).length = L.length * 1 := by simp
    refine AW.skip ?_
    repeat refine AW.seq ?_
    refine AW.block ?_
    repeat refine AW.seq ?_
    refine AW.region ?_
    iterate 4 refine A1 rfl ?_
    repeat refine AW.seq ?_
    refine AW.block ?_
    repeat refine AW.seq ?_
    refine AW.loop (st := fun x_1 : Nat × List (B64 × Nat) => mkS [(3, .ptr 2 0), (4, .pv (setP rest)), (5, .pv (.int .i64 (widV G (allB G.length) : Nat))), (6, .gsl 3 1 L.length), (22, .pv (.int .i64 G.length)), (23, .pv (.int .i64 x_1.1))] [(1, mapO x_1.2), (2, .mix 100 [.pv (psets G), .map 1]), (3, .gro 3 (intsP L))] 4)
      (I := fun x_1 => x_1.1 ≤ a0 ∧ MemOk G x_1.2 ∧ ∀ b, b < x_1.1 → ¬ (rest.getLsbD b = true ∧ widV G (compB G rest b &&& ~~~(BitVec.twoPow 64 b)) ≤ widV G (allB G.length))) (μ := fun x_1 => G.length - x_1.1) (x0 := (0, M1)) (St.le_mk ⟨rfl, rfl, rfl, rfl, rfl, rfl, trivial⟩ ⟨rfl, rfl, rfl, trivial⟩ rfl rfl) (⟨Nat.zero_le _, hM1, fun b hb => absurd hb (Nat.not_lt_zero _)⟩) ?_
    rintro ⟨k, M2⟩ ⟨hk, hM2, hno⟩
    try simp only at hk hM2 hno ⊢
    repeat refine AW.seq ?_
    refine AW.region ?_
    refine A1 rfl ?_
    repeat refine AW.seq ?_
    refine AW.condP rfl (fun hc24 => ?_) (fun hc24 => absurd hc24 (by omega))
    have hlt : k < G.length := by omega
    have hhas := has_sp rest k (by omega)
    have hof := of_spec k (by omega)
    have hcs := comp_spec G (by omega) rest k (by omega)
    refine AW.skip ?_
    repeat refine AW.seq ?_
    refine AW.block ?_
    repeat refine AW.seq ?_
    refine AW.region ?_
    iterate 2 refine A1 rfl ?_
    by_cases hb : rest.getLsbD k = true
    · rw [hb] at hhas
      have hcomp := comp_of hG rest hb
      have hin : InB G.length (compB G rest k &&& ~~~(BitVec.twoPow 64 k)) := InB.diff (fun i hi => hI.inb i (hcomp.1.sub i hi)) k
      have hwk := wid_all G hG 64 _ (pop_le _) hin M2 hM2
      have hnx := fun h2 => hI.next hG hlt hno hb h2
      repeat refine AW.seq ?_
      refine AW.draw follows [[], [], [1, 0], [2, 1, 0], [3, 2, 1, 0], [3, 2, 1, 0], [5, 3, 2, 1, 0], [3, 2, 1, 0], [3, 2, 1, 0], [8, 7, 6, 5, 3, 2, 1, 0], [3, 2, 1, 0], [9, 10, 3, 2, 1, 0, 8, 7, 6, 5], [11, 9, 8, 7, 6, 5, 3, 2, 1, 0, 10], [12, 4, 3, 2, 1, 0, 11, 9, 8, 7, 6, 5, 10], [3, 2, 1, 0], [14, 13, 12, 4, 3, 2, 1, 0, 11, 9, 8, 7, 6, 5, 10], [15, 3, 2, 1, 0, 14, 13, 12, 4, 11, 9, 8, 7, 6, 5, 10]] [0, 1, 2, 3, 4, 5, 6, 7, 8, 9, 10, 11, 12, 14, 13, 15, 16] (by kernel_rfl) (by kernel_rfl) ?_
      iterate 2 refine D1 rfl rfl ?_
      refine DL.step (d := some 28) [] rfl rfl rfl (fun τ h => xj_call Tryz.call69 hhas (h.argsP rfl)) rfl (by kernel_rfl) ?_
      iterate 6 refine D1 rfl rfl ?_
      refine DL.stepG (d := some 35) [] rfl rfl rfl rfl (fun τ h => xj_call Tryz.call70 hcs (h.argsP rfl)) rfl (by kernel_rfl) ?_
      refine D1 rfl rfl ?_
      refine DL.stepG (d := some 37) [] rfl rfl rfl rfl (fun τ h => xj_call Tryz.call71 hof (h.argsP rfl)) rfl (by kernel_rfl) ?_
      refine DL.stepG (d := some 38) [] rfl rfl rfl rfl (fun τ h => xj_andNotV ((h.e 0 _ rfl).trans rfl) ((h.e 1 _ rfl).trans rfl)) rfl (by kernel_rfl) ?_
      refine D1 rfl rfl ?_
      refine DL.relG (RO [1] 4 0 (QW G (widV G (compB G rest k &&& ~~~(BitVec.twoPow 64 k))))) [1] [] [1] rfl rfl rfl rfl (fun τ h => relO [1] 4 Tryz.call68 hwk (h.args.trans rfl) rfl rfl rfl ⟨(h.o 0 _ rfl).trans rfl, trivial⟩ (by decide) rfl) rfl (by kernel_rfl) (by kernel_rfl) (by kernel_rfl) ?_
      rintro _ ⟨_, _, ⟨M3, hM3, rfl, rfl⟩, rfl⟩ _ _
      iterate 2 refine D1 rfl rfl ?_
      refine ⟨by kernel_rfl, ?_⟩
      repeat refine AW.seq ?_
      refine AW.condP rfl (fun hc42 => ?_) (fun hc42 => ?_)
      · repeat refine AW.seq ?_
        refine AW.region ?_
        iterate 5 refine A1 rfl ?_
        repeat refine AW.seq ?_
        refine AW.region ?_
        iterate 2 refine A1 rfl ?_
        refine RL.step (d := some 49) rfl rfl (xj_call Tryz.call71 hof rfl) ?_
        refine RL.step (d := some 50) rfl rfl (xj_andNotV rfl rfl) ?_
        refine A1 rfl ?_
        repeat refine AW.seq ?_
        refine AW.exit ?_
        exact ⟨(L ++ [(k : Int)], rest &&& ~~~(BitVec.twoPow 64 k), M3), St.le_mkR [0, 1, 2, 5] ⟨rfl, rfl, rfl, by simp only [List.length_append, List.length_singleton]; rfl, trivial⟩ ⟨Eq.trans (b := some (mapO M3)) rfl rfl, rfl, congrArg (fun c => some (Ob.gro 3 c)) (ints_snoc L k).symm, trivial⟩ rfl rfl (by decide) rfl, ⟨hnx (by omega), hM3⟩, by have := pop_diff hb; simp only; omega⟩
      · refine AW.skip ?_
        repeat refine AW.seq ?_
        refine AW.region ?_
        iterate 2 refine A1 rfl ?_
        exact ⟨(k + 1, M3), St.le_mk ⟨rfl, rfl, rfl, rfl, rfl, rfl, trivial⟩ ⟨rfl, rfl, rfl, trivial⟩ rfl rfl, ⟨by simp only; by_cases e : k = a0; subst e; exact absurd hwa0 (by omega); omega, hM3, fun b hb2 => by rcases Nat.lt_succ_iff_lt_or_eq.1 hb2 with h1 | rfl; exact hno b h1; exact fun h => by have := h.2; omega⟩, by simp only; omega⟩
    · have hb' : rest.getLsbD k = false := by simpa using hb
      rw [hb'] at hhas
      repeat refine AW.seq ?_
      refine AW.draw follows [[], [], [1, 0], [2, 1, 0], [3, 2, 1, 0], [3, 2, 1, 0], [5, 3, 2, 1, 0], [3, 2, 1, 0], [3, 2, 1, 0], [8, 7, 6, 5, 3, 2, 1, 0], [3, 2, 1, 0], [9, 10, 3, 2, 1, 0, 8, 7, 6, 5], [11, 9, 8, 7, 6, 5, 3, 2, 1, 0, 10], [12, 4, 3, 2, 1, 0, 11, 9, 8, 7, 6, 5, 10], [3, 2, 1, 0], [14, 13, 12, 4, 3, 2, 1, 0, 11, 9, 8, 7, 6, 5, 10], [15, 3, 2, 1, 0, 14, 13, 12, 4, 11, 9, 8, 7, 6, 5, 10]] [0, 1, 2, 3, 4, 5, 6, 7, 8, 9, 10, 11, 12, 13, 14, 15, 16] (by kernel_rfl) (by kernel_rfl) ?_
      iterate 2 refine D1 rfl rfl ?_
      refine DL.step (d := some 28) [] rfl rfl rfl (fun τ h => xj_call Tryz.call69 hhas (h.argsP rfl)) rfl (by kernel_rfl) ?_
      iterate 14 refine D1 rfl rfl ?_
      refine ⟨by kernel_rfl, ?_⟩
      repeat refine AW.seq ?_
      refine AW.cond rfl (fun hc42 => absurd hc42 (by decide)) (fun hc42 => ?_)
      refine AW.skip ?_
      repeat refine AW.seq ?_
      refine AW.region ?_
      iterate 2 refine A1 rfl ?_
      exact ⟨(k + 1, M2), St.le_mk ⟨rfl, rfl, rfl, rfl, rfl, rfl, trivial⟩ ⟨rfl, rfl, rfl, trivial⟩ rfl rfl, ⟨by simp only; by_cases e : k = a0; subst e; exact absurd hra0 hb; omega, hM2, fun b hb2 => by rcases Nat.lt_succ_iff_lt_or_eq.1 hb2 with h1 | rfl; exact hno b h1; exact fun h => hb h.1⟩, by simp only; omega⟩
  · have hz : rest = 0#64 := Classical.byContradiction hc19
    subst hz
    obtain ⟨hLe, hperm⟩ := hI.last
    repeat refine AW.seq ?_
    refine AW.exit ?_
    refine AW.weaken (St.le_pubA 3 rfl rfl) ?_
    repeat refine AW.seq ?_
    refine AW.region ?_
    iterate 2 refine A1 rfl ?_
    repeat refine AW.seq ?_
    refine AW.ret ?_
    exact ⟨_, _, rfl, rfl, G, hIG, by rw [← hLe]; rfl, by rw [← hLe]; exact hperm⟩
/-- The least permutation of a schema. -/
noncomputable def lstL (S : Sch) : List Int := leastL (gr S)
theorem ouLeast_sp (S : Sch) (hS : SB S) (hV : Valid S) : (lstL S).Perm (upZ S.attrs.length) ∧ FnP Tryz.prog 43 [schP S] (· = pints (lstL S)) := by
  have h := ouLeast_spec S hS hV
  have key : ∀ {v : PV}, (∃ G, IsG S G ∧ v = pints (leastL G) ∧ (leastL G).Perm (upZ G.length)) → v = pints (lstL S) ∧ (lstL S).Perm (upZ S.attrs.length) := fun {v} ⟨G, hG, e, hp⟩ => by
    have := isG_eq hV hG
    subst this
    rw [gr_len] at hp
    exact ⟨e, hp⟩
  refine ⟨?_, h.mono fun v hv => (key hv).1⟩
  have hG : IsG S (gr S) := ⟨gr_len S, fun a ha b => gr_bit hV (by rwa [gr_len] at ha) b⟩
  have hI : LInv (gr S) (widV (gr S) (allB (gr S).length)) [] (allB (gr S).length) := LInv.first (gok_of hV hG)
  have fin : ∀ (k : Nat) (L : List Int) (rest : B64), popB rest = k → LInv (gr S) (widV (gr S) (allB (gr S).length)) L rest → (leastL (gr S)).Perm (upZ (gr S).length) := by
    intro k
    induction k with
    | zero =>
      intro L rest hk hI
      have hz : rest = 0#64 := by apply BitVec.eq_of_getLsbD_eq; intro i _; rw [pop_zero hk i]; simp
      subst hz
      have := hI.last
      rw [← this.1]; exact this.2
    | succ k ih =>
      intro L rest hk hI
      have hne : ∃ i, rest.getLsbD i = true := Classical.byContradiction fun hn => by
        have : popB rest = 0 := by unfold popB; rw [List.countP_eq_zero]; intro i _ hi; exact hn ⟨i, hi⟩
        omega
      obtain ⟨a, ha, h1, h2⟩ := next_ex (gok_of hV hG) hI.inb hne hI.wid
      obtain ⟨b, hb⟩ : ∃ b, (List.range (gr S).length).find? (fun a => rest.getLsbD a && decide (widV (gr S) (compB (gr S) rest a &&& ~~~(BitVec.twoPow 64 a)) ≤ widV (gr S) (allB (gr S).length))) = some b := by
        cases hf : (List.range (gr S).length).find? (fun a => rest.getLsbD a && decide (widV (gr S) (compB (gr S) rest a &&& ~~~(BitVec.twoPow 64 a)) ≤ widV (gr S) (allB (gr S).length))) with
        | some b => exact ⟨b, rfl⟩
        | none =>
          have := List.find?_eq_none.1 hf a (List.mem_range.2 ha)
          simp [h1, h2] at this
      have hb2 := hb
      rw [List.find?_range_eq_some] at hb2
      obtain ⟨hb3, hb4, hb5⟩ := hb2
      rw [Bool.and_eq_true, decide_eq_true_iff] at hb3
      refine ih (L ++ [(b : Int)]) (rest &&& ~~~(BitVec.twoPow 64 b)) (by have := pop_diff hb3.1; omega) (hI.next (gok_of hV hG) (by simpa using hb4) (fun j hj h => ?_) hb3.1 hb3.2)
      have := hb5 j hj
      simp [h.1, h.2] at this
  have := fin _ [] _ rfl hI
  rw [gr_len] at this
  exact this
theorem oleast_spec (S : Sch) (hS : SB S) : FnP Tryz.prog 10 [schP S] (· = if checkE S = 0 then .tup [ordP (ordL S (lstL S)), pints (lstL S), .int .i64 0] else .tup [ordP [], pints [], .int .i64 (checkE S)]) := by
  refine FnP.fg2 (FnP.ofC Tryz.func10 rfl Tryz.ntmps10 (by simp) fun m0 w0 F R0 => ?_)
  repeat refine AW.seq ?_
  refine AW.region ?_
  iterate 4 refine A1 rfl ?_
  repeat refine AW.seq ?_
  refine AW.region ?_
  refine A1 rfl ?_
  refine RL.step (d := some 8) rfl rfl (xj_call Tryz.call42 (chk_spec S hS) rfl) ?_
  refine A1 rfl ?_
  repeat refine AW.seq ?_
  refine AW.region ?_
  iterate 2 refine A1 rfl ?_
  repeat refine AW.seq ?_
  refine AW.cond rfl (fun hc10 => ?_) (fun hc10 => ?_)
  · repeat refine AW.seq ?_
    refine AW.region ?_
    iterate 5 refine A1 rfl ?_
    repeat refine AW.seq ?_
    refine AW.ret ?_
    exact ⟨_, _, rfl, rfl, ⟨cellOk1 ⟨_, Tryz.underlying29, rfl⟩ sz29 rfl rfl rfl, trivial⟩, by rw [if_neg (inT hc10)]; rfl⟩
  · have h0 : checkE S = 0 := inF hc10
    have hV := valid_of h0
    obtain ⟨hperm, hls⟩ := ouLeast_sp S hS hV
    have hq : ∀ a ∈ lstL S, 0 ≤ a ∧ a < S.attrs.length := fun a ha => by obtain ⟨x, hx, e⟩ := upZ_mem.1 (hperm.mem_iff.1 ha); omega
    have hql : (lstL S).length ≤ 1000 := by rw [hperm.length_eq, upZ_len]; have := hV.n2; omega
    refine AW.skip ?_
    repeat refine AW.seq ?_
    refine AW.region ?_
    refine A1 rfl ?_
    refine RL.step (d := some 14) rfl rfl (xj_call Tryz.call43 hls rfl) ?_
    refine A1 rfl ?_
    repeat refine AW.seq ?_
    refine AW.region ?_
    iterate 2 refine A1 rfl ?_
    refine RL.step (d := some 17) rfl rfl (xj_call Tryz.call44 (ouOf_sp S hS hV (lstL S) hq hql) rfl) ?_
    iterate 4 refine A1 rfl ?_
    repeat refine AW.seq ?_
    refine AW.ret ?_
    exact ⟨_, _, rfl, rfl, ⟨cellOk1 ⟨_, Tryz.underlying29, rfl⟩ sz29 rfl rfl rfl, trivial⟩, by rw [if_pos h0]; rfl⟩
end Go.Proofs.YtkalgjnhaicabaaGreat
namespace Go.Proofs.YtkalgjnhaicabaaGreat
open Mk
set_option maxHeartbeats 1000000
noncomputable def costN (G : List B64) (rest : B64) (a : Nat) : Nat := keyN G (compB G rest a) + 1
/-- The list has just the attributes of the set. -/
structure Lists (l : List Int) (rest : B64) : Prop where
  nd : l.Nodup
  nn : ∀ x ∈ l, 0 ≤ x
  mem : ∀ i : Nat, rest.getLsbD i = true ↔ (i : Int) ∈ l
section
variable {G : List B64} (hG : GOk G)
include hG
theorem least_step {m f : Nat} {rest : B64} (hr : InB G.length rest) (hp : popB rest = f + 1) (hw : widV G rest ≤ m) : ∃ b : Nat, leastF G m (f + 1) rest = (b : Int) :: leastF G m f (rest &&& ~~~(BitVec.twoPow 64 b)) ∧ rest.getLsbD b = true ∧ widV G (compB G rest b &&& ~~~(BitVec.twoPow 64 b)) ≤ m ∧
    ∀ j : Nat, j < b → ¬ (rest.getLsbD j = true ∧ widV G (compB G rest j &&& ~~~(BitVec.twoPow 64 j)) ≤ m) := by
  have hne : ∃ i, rest.getLsbD i = true := Classical.byContradiction fun hn => by
    have : popB rest = 0 := by unfold popB; rw [List.countP_eq_zero]; intro i _ hi; exact hn ⟨i, hi⟩
    omega
  obtain ⟨a, ha, h1, h2⟩ := next_ex hG hr hne hw
  simp only [leastF]
  cases hf : (List.range G.length).find? (fun a => rest.getLsbD a && decide (widV G (compB G rest a &&& ~~~(BitVec.twoPow 64 a)) ≤ m)) with
  | none =>
    have := List.find?_eq_none.1 hf a (List.mem_range.2 ha)
    simp [h1, h2] at this
  | some b =>
    rw [List.find?_range_eq_some] at hf
    obtain ⟨hb3, hb4, hb5⟩ := hf
    rw [Bool.and_eq_true, decide_eq_true_iff] at hb3
    refine ⟨b, rfl, hb3.1, hb3.2, fun j hj h => ?_⟩
    have := hb5 j hj
    simp [h.1, h.2] at this
end
theorem Path.more {adj : Nat → Nat → Prop} {ok ok' : Nat → Prop} {a b : Nat} (h : Path adj ok a b) (hm : ∀ x y, adj x y → ok y → ok' y) : Path adj ok' a b := by
  induction h with
  | refl => exact .refl
  | step _ h1 h2 ih => exact .step ih h1 (hm _ _ h1 h2)
section
variable {S : Sch} (hV : Valid S) {q : List Int} (hq : q.Perm (upZ S.attrs.length))
include hV hq
end
end Go.Proofs.YtkalgjnhaicabaaGreat
namespace Go.Proofs.YtkalgjnhaicabaaGreat
open Go.RowKit Mk
/-- The neighbours of each attribute, itself with them. -/
structure NOk (S : Sch) (N : List B64) : Prop where
  len : N.length = S.attrs.length
  bit : ∀ a, a < S.attrs.length → ∀ b : Nat, (N.getD a 0#64).getLsbD b = linkB S a b
structure CoIn (S : Sch) (N : List B64) (rem rest : B64) (a : Nat) (in0 inn all : B64) (k : Nat) (m : Bool) : Prop where
  sub0 : ∀ i, in0.getLsbD i = true → inn.getLsbD i = true
  ha : inn.getLsbD a = true
  re : ∀ i, inn.getLsbD i = true → Reach (gr S) rest a i
  al : ∀ i, all.getLsbD i = true → ∃ b : Nat, b < S.attrs.length ∧ inn.getLsbD b = true ∧ linkB S b i = true
  cl : m = false → ∀ b : Nat, b < k → inn.getLsbD b = true → ∀ i : Nat, linkB S b i = true → all.getLsbD i = true ∧ (rem.getLsbD i = false → inn.getLsbD i = true)
  gw : m = true → popB in0 < popB inn
section
variable {S : Sch} {N : List B64} {rem rest : B64} {a : Nat} (hV : Valid S) (hN : NOk S N) (hR : ∀ i, rest.getLsbD i = true ↔ i < S.attrs.length ∧ rem.getLsbD i = false)
theorem CoIn.skip {in0 inn all : B64} {k : Nat} {m : Bool} (h : CoIn S N rem rest a in0 inn all k m) (hk : ¬ inn.getLsbD k = true) : CoIn S N rem rest a in0 inn all (k + 1) m :=
  ⟨h.sub0, h.ha, h.re, h.al, fun hm b hb hib => by
    rcases Nat.lt_succ_iff_lt_or_eq.1 hb with h1 | rfl
    · exact h.cl hm b h1 hib
    · exact absurd hib hk, h.gw⟩
include hV hN hR in
theorem CoIn.take {in0 inn all : B64} {k : Nat} {m : Bool} (h : CoIn S N rem rest a in0 inn all k m) (hk : inn.getLsbD k = true) (hkn : k < S.attrs.length) :
    (inn ||| (N.getD k 0#64 &&& ~~~rem) ≠ inn → CoIn S N rem rest a in0 (inn ||| (N.getD k 0#64 &&& ~~~rem)) (all ||| N.getD k 0#64) (k + 1) true) ∧
    (inn ||| (N.getD k 0#64 &&& ~~~rem) = inn → CoIn S N rem rest a in0 inn (all ||| N.getD k 0#64) (k + 1) m) := by
  have hor : ∀ (x y : B64) (i : Nat), (x ||| y).getLsbD i = true ↔ x.getLsbD i = true ∨ y.getLsbD i = true := fun x y i => by rw [BitVec.getLsbD_or, Bool.or_eq_true]
  have hbt := hN.bit k hkn
  have hx : ∀ i, (inn ||| (N.getD k 0#64 &&& ~~~rem)).getLsbD i = true ↔ inn.getLsbD i = true ∨ linkB S k i = true ∧ ¬ rem.getLsbD i = true := fun i => by
    rw [hor, minus_bit, hbt]
  constructor
  · intro hne
    refine ⟨fun i hi => (hx i).2 (.inl (h.sub0 i hi)), (hx a).2 (.inl h.ha), fun i hi => ?_, fun i hi => ?_, fun hm => (by cases hm), fun _ => ?_⟩
    · rcases (hx i).1 hi with e | ⟨e1, e2⟩
      · exact h.re i e
      · have hin : i < S.attrs.length := by have := (link_lt hV e1).2.2; omega
        by_cases e : k = i
        · subst e; exact h.re k hk
        · refine .step (h.re k hk) ?_ ((hR i).2 ⟨hin, by simpa using e2⟩)
          rw [gr_bit hV hkn]; simp [e, e1]
    · rcases (hor _ _ i).1 hi with e | e
      · obtain ⟨b, h1, h2, h3⟩ := h.al i e
        exact ⟨b, h1, (hx b).2 (.inl h2), h3⟩
      · rw [hbt] at e
        exact ⟨k, hkn, (hx k).2 (.inl hk), e⟩
    · refine Nat.lt_of_le_of_lt (pop_mono h.sub0) ?_
      obtain ⟨i, hi⟩ : ∃ i, (inn ||| (N.getD k 0#64 &&& ~~~rem)).getLsbD i ≠ inn.getLsbD i := Classical.byContradiction fun hno => hne (BitVec.eq_of_getLsbD_eq fun i _ => Classical.byContradiction fun e => hno ⟨i, e⟩)
      have h1 : inn.getLsbD i = false := by
        cases e : inn.getLsbD i with
        | false => rfl
        | true => exact absurd (by rw [(hx i).2 (.inl e), e]) hi
      have h2 : (inn ||| (N.getD k 0#64 &&& ~~~rem)).getLsbD i = true := by
        cases e : (inn ||| (N.getD k 0#64 &&& ~~~rem)).getLsbD i with
        | true => rfl
        | false => rw [e, h1] at hi; exact absurd rfl hi
      exact pop_lt (fun i hi => (hx i).2 (.inl hi)) h1 h2
  · intro heq
    refine ⟨h.sub0, h.ha, h.re, fun i hi => ?_, fun hm b hb hib i hl => ?_, h.gw⟩
    · rcases (hor _ _ i).1 hi with e | e
      · exact h.al i e
      · rw [hbt] at e
        exact ⟨k, hkn, hk, e⟩
    · rcases Nat.lt_succ_iff_lt_or_eq.1 hb with h1 | rfl
      · have := h.cl hm b h1 hib i hl
        exact ⟨(hor _ _ i).2 (.inl this.1), this.2⟩
      · refine ⟨(hor _ _ i).2 (.inr (by rw [hbt]; exact hl)), fun hr => ?_⟩
        rw [← heq]
        exact (hx i).2 (.inr ⟨hl, by simp [hr]⟩)
include hV hR in
theorem CoIn.done {in0 inn all : B64} (h : CoIn S N rem rest a in0 inn all S.attrs.length false) (har : rest.getLsbD a = true) : popB (all &&& rem) + 1 = costN (gr S) rest a := by
  have hsub : ∀ i, Reach (gr S) rest a i → rest.getLsbD i = true := fun i hi => by
    cases hi with
    | refl => exact har
    | step _ _ h => exact h
  have hcl : ∀ i, Reach (gr S) rest a i → inn.getLsbD i = true := fun i hi => by
    induction hi with
    | refl => exact h.ha
    | @step b c hb h1 h2 ih =>
      have hbn := ((hR b).1 (hsub b hb)).1
      rw [gr_bit hV hbn] at h1
      simp at h1
      exact (h.cl rfl b hbn ih c h1.2).2 ((hR c).1 h2).2
  have hin : ∀ i, inn.getLsbD i = true ↔ Reach (gr S) rest a i := fun i => ⟨h.re i, hcl i⟩
  unfold costN keyN
  congr 1
  unfold popB
  refine List.countP_congr fun i hi => ?_
  have hi64 : i < 64 := List.mem_range.1 hi
  rw [BitVec.getLsbD_and, minus_bit, Bool.and_eq_true]
  unfold nearB
  rw [bitsOf_bit _ hi64, compB_bit hi64]
  constructor
  · rintro ⟨h1, h2⟩
    obtain ⟨b, hb, hib, hl⟩ := h.al i h1
    have hrb := hsub b (h.re b hib)
    refine ⟨?_, fun hr => ?_⟩
    · rw [List.any_eq_true]
      refine ⟨b, List.mem_range.2 (by rw [gr_len]; exact hb), ?_⟩
      have hne : b ≠ i := fun e => by subst e; rw [((hR b).1 hrb).2] at h2; cases h2
      rw [gr_bit hV hb, Bool.and_eq_true]
      exact ⟨(compB_bit (by have := bits_lt hib; omega)).2 (h.re b hib), by simp [hne, hl]⟩
    · have := ((hR i).1 (hsub i hr)).2
      rw [this] at h2; cases h2
  · rintro ⟨h1, h2⟩
    obtain ⟨b, hb, hb2⟩ := List.any_eq_true.1 h1
    rw [Bool.and_eq_true] at hb2
    have hrb := compB_reach hb2.1
    have hbn := ((hR b).1 (hsub b hrb)).1
    have hg := hb2.2
    rw [gr_bit hV hbn] at hg
    simp at hg
    have hc := h.cl rfl b hbn (hcl b hrb) i hg.2
    refine ⟨hc.1, ?_⟩
    cases e : rem.getLsbD i with
    | true => rfl
    | false => exact absurd (h.re i (hc.2 e)) h2
end
end Go.Proofs.YtkalgjnhaicabaaGreat
namespace Go.Proofs.YtkalgjnhaicabaaGreat
open Go.RowKit Mk
set_option maxRecDepth 100000
set_option maxHeartbeats 4000000
theorem wrap_u {a : Nat} (h : a < 9223372036854775808) : IntKind.u64.wrap (a : Int) = a := by
  have h1 : IntKind.u64.wrap (a : Int) = (a : Int) % 18446744073709551616 := by simp [IntKind.wrap, IntKind.bits, IntKind.signed]
  rw [h1]; omega
section
variable {C : Ctx} {n : Nat} {σ : St} {dst : Option Tmp} {ty t t' : TypeId} {pos : String} {after : Array Edge} {gd : Option (Nat × Bool)} {x y : Operand}
theorem xj_convU {a : Nat} {src d : TypeId} {sd : TypeDesc} (hs : C.P.underlying src = some sd) (hd : C.P.underlying d = some (.int .u64)) (hx : σ.ev n x = .pv (.int .i64 (a : Int))) (h : a < 9223372036854775808) :
    XJ C n ⟨dst, .convert src d x, ty, pos, after, gd⟩ σ ⟨.pv (.int .u64 (a : Int)), [], []⟩ := by
  have h3 := xj_conv (C := C) (n := n) (σ := σ) (dst := dst) (ty := ty) (x := x) (pos := pos) (after := after) (gd := gd) hs hd hx
  rw [wrap_u h] at h3
  exact h3
theorem dec_b {k : B64} (h : k.toNat ≠ 0) : ((k - 1#64).toNat : Int) = (k.toNat : Int) - 1 := by
  have hl := k.isLt
  rw [BitVec.toNat_sub]
  simp
  omega
theorem xj_decB {k : B64} (hx : σ.ev n x = .pv (bint k)) (hy : σ.ev n y = .pv (.int .i64 1)) (h : k.toNat ≠ 0) (hl : Low k) :
    XJ C n ⟨dst, .binOp .sub t x y t', ty, pos, after, gd⟩ σ ⟨.pv (bint (k - 1#64)), [], []⟩ := by
  unfold bint
  rw [dec_b h]
  exact xj_sub hx hy (by unfold Low at hl; omega)
end
abbrev nearP (N : List B64) : PV := .sl none N.length (N.map bint)
theorem near_at {N : List B64} {k : Nat} (h : k < N.length) : (N.map bint)[k * 1]? = some (bint (N.getD k 0#64)) := by
  rw [Nat.mul_one]; simp [List.getD, h]
theorem near_ne {N : List B64} {k : Nat} (h : k < N.length) : N.map bint ≠ [] := fun e => by
  have := congrArg List.length e
  simp at this
  subst this
  simp at h
theorem pop_64 (x : B64) : popB x ≤ 64 := by
  have := List.countP_le_length (p := fun i => x.getLsbD i) (l := List.range 64)
  unfold popB
  simpa using this
section
variable {S : Sch} {N : List B64} {rem rest : B64} {a : Nat}
theorem NOk.low (hV : Valid S) (hn : S.attrs.length ≤ 60) (hN : NOk S N) {k : Nat} (hk : k < S.attrs.length) : Low (N.getD k 0#64) := .bit fun i hi => by
  rw [hN.bit k hk] at hi
  have := (link_lt hV hi).2.2
  omega
theorem CoIn.lowI {in0 inn all : B64} {k : Nat} {m : Bool} (h : CoIn S N rem rest a in0 inn all k m) (hn : S.attrs.length ≤ 60) (hR : ∀ i, rest.getLsbD i = true ↔ i < S.attrs.length ∧ rem.getLsbD i = false) (har : rest.getLsbD a = true) : Low inn := .bit fun i hi => by
  have : rest.getLsbD i = true := by
    cases h.re i hi with
    | refl => exact har
    | step _ _ h => exact h
  have := ((hR i).1 this).1
  omega
theorem CoIn.lowA (hV : Valid S) {in0 inn all : B64} {k : Nat} {m : Bool} (h : CoIn S N rem rest a in0 inn all k m) (hn : S.attrs.length ≤ 60) : Low all := .bit fun i hi => by
  obtain ⟨b, _, _, hl⟩ := h.al i hi
  have := (link_lt hV hl).2.2
  omega
end
theorem rcost_spec (S : Sch) (hV : Valid S) (hn : S.attrs.length ≤ 60) {N : List B64} (hN : NOk S N) {rem rest : B64} {a : Nat} (hR : ∀ i, rest.getLsbD i = true ↔ i < S.attrs.length ∧ rem.getLsbD i = false) (har : rest.getLsbD a = true) :
    FnP Tryz.prog 47 [nearP N, bint rem, .int .i64 a] (· = .int .i64 (costN (gr S) rest a)) := by
  refine FnP.of Tryz.func47 rfl Tryz.ntmps47 (by simp) fun m0 w0 F R0 => ?_
  have han := ((hR a).1 har).1
  have hNl := hN.len
  have h2w : (BitVec.twoPow 64 a).getLsbD a = true := by rw [BitVec.getLsbD_twoPow]; simp; omega
  have hst : CoIn S N rem rest a 0#64 (BitVec.twoPow 64 a) 0#64 S.attrs.length true := ⟨fun i hi => by simp at hi, h2w, fun i hi => by
    rw [BitVec.getLsbD_twoPow] at hi
    simp at hi
    rw [← hi.2]; exact .refl, fun i hi => by simp at hi, fun h => (by cases h), fun _ => Nat.lt_of_le_of_lt (by simp [popB]) (pop_pos h2w)⟩
  repeat refine AW.seq ?_
  refine AW.region ?_
  refine A1 rfl ?_
  repeat refine AW.seq ?_
  refine AW.region ?_
  refine A1 rfl ?_
  refine RL.step (d := some 15) rfl rfl (xj_convU Tryz.underlying3 Tryz.underlying81 rfl (by omega)) ?_
  refine RL.step (d := some 16) rfl rfl (xj_oneB rfl rfl (by omega)) ?_
  iterate 2 refine A1 rfl ?_
  repeat refine AW.seq ?_
  refine AW.region ?_
  refine A1 rfl ?_
  repeat refine AW.seq ?_
  refine AW.block ?_
  repeat refine AW.seq ?_
  refine AW.loop (st := fun x_0 : B64 × B64 × Bool => mkS [(0, .pv (nearP N)), (1, .pv (bint rem)), (7, .pv (bint x_0.1)), (8, .pv (bint x_0.2.1)), (9, .pv (.bool x_0.2.2))] [] 0)
    (I := fun x_0 => CoIn S N rem rest a 0#64 x_0.1 x_0.2.1 S.attrs.length x_0.2.2) (μ := fun x_0 => 2 * (64 - popB x_0.1) + (if x_0.2.2 = true then 1 else 0)) (x0 := (BitVec.twoPow 64 a, 0#64, true)) (St.le_mk ⟨rfl, rfl, rfl, rfl, rfl, trivial⟩ trivial rfl rfl) (hst) ?_
  rintro ⟨inn, all, m⟩ hO
  try simp only at hO ⊢
  repeat refine AW.seq ?_
  refine AW.region ?_
  refine A1 rfl ?_
  repeat refine AW.seq ?_
  refine AW.cond rfl (fun hc17 => ?_) (fun hc17 => ?_)
  · have hO' : CoIn S N rem rest a inn inn all 0 false := ⟨fun _ h => h, hO.ha, hO.re, hO.al, fun _ b hb => absurd hb (Nat.not_lt_zero _), fun h => (by cases h)⟩
    refine AW.skip ?_
    repeat refine AW.seq ?_
    refine AW.block ?_
    repeat refine AW.seq ?_
    refine AW.region ?_
    refine A1 rfl ?_
    repeat refine AW.seq ?_
    refine AW.region ?_
    iterate 3 refine A1 rfl ?_
    repeat refine AW.seq ?_
    refine AW.block ?_
    repeat refine AW.seq ?_
    refine AW.loop (st := fun x_1 : Nat × B64 × B64 × Bool => mkS [(0, .pv (nearP N)), (1, .pv (bint rem)), (7, .pv (bint x_1.2.1)), (8, .pv (bint x_1.2.2.1)), (9, .pv (.bool x_1.2.2.2)), (19, .pv (.int .i64 N.length)), (20, .pv (.int .i64 x_1.1))] [] 0)
      (I := fun x_1 => x_1.1 ≤ S.attrs.length ∧ CoIn S N rem rest a inn x_1.2.1 x_1.2.2.1 x_1.1 x_1.2.2.2) (μ := fun x_1 => S.attrs.length - x_1.1) (x0 := (0, inn, all, false)) (St.le_mk ⟨rfl, rfl, rfl, rfl, rfl, rfl, rfl, trivial⟩ trivial rfl rfl) (⟨Nat.zero_le _, hO'⟩) ?_
    rintro ⟨k, i2, a2, m2⟩ ⟨hk, hI⟩
    try simp only at hk hI ⊢
    repeat refine AW.seq ?_
    refine AW.region ?_
    refine A1 rfl ?_
    repeat refine AW.seq ?_
    refine AW.condP rfl (fun hc21 => ?_) (fun hc21 => ?_)
    · have hlt : k < S.attrs.length := by omega
      have hva := near_at (N := N) (k := k) (by omega)
      have hne := near_ne (N := N) (k := k) (by omega)
      have hlI := hI.lowI hn hR har
      have hlA := hI.lowA hV hn
      have hlN := hN.low hV hn hlt
      refine AW.skip ?_
      repeat refine AW.seq ?_
      refine AW.block ?_
      repeat refine AW.seq ?_
      refine AW.region ?_
      iterate 2 refine A1 rfl ?_
      repeat refine AW.seq ?_
      refine AW.region ?_
      iterate 2 refine A1 rfl ?_
      refine RL.step (d := some 25) rfl rfl (xj_convU Tryz.underlying3 Tryz.underlying81 rfl (by omega)) ?_
      refine RL.step (d := some 26) rfl rfl (xj_shrB rfl rfl (by omega)) ?_
      refine RL.step (d := some 27) rfl rfl (xj_andB (b := 1#64) rfl rfl (low_shr hlI _)) ?_
      refine A1 rfl ?_
      repeat refine AW.seq ?_
      refine AW.cond rfl (fun hc28 => ?_) (fun hc28 => ?_)
      · have hbk : i2.getLsbD k = true := by rw [test_b] at hc28; revert hc28; cases i2.getLsbD k <;> simp
        have htk := hI.take hV hN hR hbk hlt
        repeat refine AW.seq ?_
        refine AW.region ?_
        iterate 4 refine A1 rfl ?_
        first | refine A2 rfl (by assumption) ?_ | refine A1 rfl ?_
        refine RL.step (d := some 34) rfl rfl (xj_orB rfl rfl hlA hlN) ?_
        refine A1 rfl ?_
        repeat refine AW.seq ?_
        refine AW.region ?_
        iterate 4 refine A1 rfl ?_
        first | refine A2 rfl (by assumption) ?_ | refine A1 rfl ?_
        refine A1 rfl ?_
        refine RL.step (d := some 41) rfl rfl (xj_andNotB rfl rfl hlN) ?_
        refine RL.step (d := some 42) rfl rfl (xj_orB rfl rfl hlI (hlN.and _)) ?_
        refine A1 rfl ?_
        repeat refine AW.seq ?_
        refine AW.region ?_
        iterate 3 refine A1 rfl ?_
        repeat refine AW.seq ?_
        refine AW.cond rfl (fun hc45 => ?_) (fun hc45 => ?_)
        · repeat refine AW.seq ?_
          refine AW.region ?_
          iterate 3 refine A1 rfl ?_
          repeat refine AW.seq ?_
          refine AW.region ?_
          iterate 2 refine A1 rfl ?_
          exact ⟨(k + 1, i2 ||| (N.getD k 0#64 &&& ~~~rem), a2 ||| N.getD k 0#64, true), St.le_mk ⟨rfl, rfl, rfl, rfl, rfl, rfl, rfl, trivial⟩ trivial rfl rfl, ⟨by simp only; omega, htk.1 (fun e => by rw [e] at hc45; simp at hc45)⟩, by simp only; omega⟩
        · refine AW.skip ?_
          repeat refine AW.seq ?_
          refine AW.region ?_
          iterate 2 refine A1 rfl ?_
          exact ⟨(k + 1, i2, a2 ||| N.getD k 0#64, m2), St.le_mk ⟨rfl, rfl, rfl, rfl, rfl, rfl, rfl, trivial⟩ trivial rfl rfl, ⟨by simp only; omega, htk.2 (BitVec.eq_of_toNat_eq (by have := bne_eq_false_iff_eq.1 hc45; omega))⟩, by simp only; omega⟩
      · have hbk : ¬ i2.getLsbD k = true := by rw [test_b] at hc28; revert hc28; cases i2.getLsbD k <;> simp
        refine AW.skip ?_
        repeat refine AW.seq ?_
        refine AW.region ?_
        iterate 2 refine A1 rfl ?_
        exact ⟨(k + 1, i2, a2, m2), St.le_mk ⟨rfl, rfl, rfl, rfl, rfl, rfl, rfl, trivial⟩ trivial rfl rfl, ⟨by simp only; omega, hI.skip hbk⟩, by simp only; omega⟩
    · have hkl : k = S.attrs.length := by omega
      subst hkl
      repeat refine AW.seq ?_
      refine AW.exit ?_
      exact ⟨(i2, a2, m2), St.le_mk ⟨rfl, rfl, rfl, rfl, rfl, trivial⟩ trivial rfl rfl, ⟨fun i hi => by simp at hi, hI.ha, hI.re, hI.al, hI.cl, fun _ => Nat.lt_of_le_of_lt (by simp [popB]) (pop_pos hI.ha)⟩, by have h1 := pop_64 i2; have h2 := pop_mono hI.sub0; have h3 := hI.gw; have h4 := pop_64 inn; simp only; cases m2 <;> simp_all <;> omega⟩
  · have hmf : m = false := by simpa using hc17
    subst hmf
    have hdn := hO.done hV hR har
    have hlA := hO.lowA hV hn
    repeat refine AW.seq ?_
    refine AW.exit ?_
    repeat refine AW.seq ?_
    refine AW.region ?_
    refine A1 rfl ?_
    repeat refine AW.seq ?_
    refine AW.region ?_
    iterate 2 refine A1 rfl ?_
    refine RL.step (d := some 50) rfl rfl (xj_andB rfl rfl hlA) ?_
    refine A1 rfl ?_
    repeat refine AW.seq ?_
    refine AW.block ?_
    repeat refine AW.seq ?_
    refine AW.loop (st := fun x_2 : Nat × B64 => mkS [(12, .pv (.int .i64 x_2.1)), (13, .pv (bint x_2.2))] [] 0)
      (I := fun x_2 => Low x_2.2 ∧ x_2.1 + popB x_2.2 = costN (gr S) rest a) (μ := fun x_2 => popB x_2.2) (x0 := (1, all &&& rem)) (St.le_mk ⟨rfl, rfl, trivial⟩ trivial rfl rfl) (⟨hlA.and _, by simp only; omega⟩) ?_
    rintro ⟨c, x⟩ ⟨hx, hcx⟩
    try simp only at hx hcx ⊢
    repeat refine AW.seq ?_
    refine AW.region ?_
    iterate 2 refine A1 rfl ?_
    repeat refine AW.seq ?_
    refine AW.condP rfl (fun hc52 => ?_) (fun hc52 => ?_)
    · have hx0 : x.toNat ≠ 0 := by omega
      have hpp := pop_pred (x := x) (fun e => hx0 (by rw [e]; rfl))
      have hcb : c ≤ 1000 := by have h1 := pop_64 (nearB (gr S) (compB (gr S) rest a) &&& ~~~(compB (gr S) rest a)); unfold costN keyN at hcx; omega
      refine AW.skip ?_
      repeat refine AW.seq ?_
      refine AW.block ?_
      repeat refine AW.seq ?_
      refine AW.region ?_
      iterate 3 refine A1 rfl ?_
      repeat refine AW.seq ?_
      refine AW.region ?_
      iterate 2 refine A1 rfl ?_
      refine RL.step (d := some 55) rfl rfl (xj_decB rfl rfl hx0 hx) ?_
      refine RL.step (d := some 56) rfl rfl (xj_andB rfl rfl hx) ?_
      refine A1 rfl ?_
      exact ⟨(c + 1, x &&& (x - 1#64)), St.le_mk ⟨rfl, rfl, trivial⟩ trivial rfl rfl, ⟨hx.and _, by simp only; omega⟩, by simp only; omega⟩
    · have hx0 : x = 0#64 := BitVec.eq_of_toNat_eq (by simp; omega)
      have hce : c = costN (gr S) rest a := by have h0 : popB 0#64 = 0 := (by simp [popB]); rw [hx0, h0] at hcx; omega
      repeat refine AW.seq ?_
      refine AW.exit ?_
      repeat refine AW.seq ?_
      refine AW.region ?_
      iterate 2 refine A1 rfl ?_
      repeat refine AW.seq ?_
      refine AW.ret ?_
      exact ⟨_, _, rfl, rfl, by rw [hce]; rfl⟩
end Go.Proofs.YtkalgjnhaicabaaGreat
namespace Go.Proofs.YtkalgjnhaicabaaGreat
open Go.RowKit Mk
section
variable {G : List B64} (hG : GOk G)
include hG
theorem wid_sub {rest : B64} (hr : InB G.length rest) {a m : Nat} (ha : rest.getLsbD a = true) (h : widV G (rest &&& ~~~(BitVec.twoPow 64 a)) ≤ m) : widV G (compB G rest a &&& ~~~(BitVec.twoPow 64 a)) ≤ m := by
  obtain ⟨hc, hca⟩ := comp_of hG rest ha
  exact (wid_le hG (InB.diff (fun i hi => hr i (hc.sub i hi)) a)).2 fun e he => (wid_le hG (hr.diff a)).1 h e ((comp_split hG hc hca).2 (.inr he))
theorem wid_cost {rest : B64} (hr : InB G.length rest) {a m : Nat} (ha : rest.getLsbD a = true) (h : widV G rest ≤ m) : costN G rest a ≤ m := by
  obtain ⟨hc, hca⟩ := comp_of hG rest ha
  have hp := (wid_le hG hr).1 h _ hc
  rw [part_eq hG (fun i hi => hr i (hc.sub i hi)) hc.ne] at hp
  unfold costN; omega
/-- The two ways to tell whether an attribute may come next. -/
theorem crit {rest : B64} (hr : InB G.length rest) {a m : Nat} (ha : rest.getLsbD a = true) (h : widV G rest ≤ m) :
    widV G (compB G rest a &&& ~~~(BitVec.twoPow 64 a)) ≤ m ↔ max (costN G rest a) (widV G (rest &&& ~~~(BitVec.twoPow 64 a))) ≤ m := by
  constructor
  · intro h2
    have h3 := next_le hG hr ha h h2
    have h4 := wid_cost hG hr ha h
    omega
  · intro h2
    exact wid_sub hG hr ha (by omega)
theorem wid_rec {rest : B64} (hr : InB G.length rest) {m : Nat} (hne : ∃ i, rest.getLsbD i = true) :
    widV G rest ≤ m ↔ ∃ a, a < G.length ∧ rest.getLsbD a = true ∧ max (costN G rest a) (widV G (rest &&& ~~~(BitVec.twoPow 64 a))) ≤ m := by
  constructor
  · intro h
    obtain ⟨a, h1, h2, h3⟩ := next_ex hG hr hne h
    exact ⟨a, h1, h2, (crit hG hr h2 h).1 h3⟩
  · rintro ⟨a, h1, h2, h3⟩
    obtain ⟨hc, hca⟩ := comp_of hG rest h2
    have hcn : InB G.length (compB G rest a) := fun i hi => hr i (hc.sub i hi)
    have hcost : keyN G (compB G rest a) + 1 ≤ m := by unfold costN at h3; omega
    have ih : widV G (rest &&& ~~~(BitVec.twoPow 64 a)) ≤ m := by omega
    refine (wid_le hG hr).2 fun d hd => ?_
    cases hda : d.getLsbD a with
    | true =>
      rw [comp_eq hd hc hda hca, part_eq hG hcn hc.ne]
      have h1 : minW (widV G) G (compB G rest a) G.length ≤ m := minW_le.2 (.inr ⟨a, h1, hca, wid_sub hG hr h2 ih⟩)
      omega
    | false => exact (wid_le hG (hr.diff a)).1 ih d ((comp_split hG hc hca).2 (.inl ⟨hd, hda⟩))
end
/-- The attributes that a set of n leaves. -/
def restB (n : Nat) (x : B64) : B64 := allB n &&& ~~~x
theorem rest_bit {n : Nat} (hn : n < 64) (x : B64) (i : Nat) : (restB n x).getLsbD i = true ↔ i < n ∧ x.getLsbD i = false := by
  unfold restB
  rw [minus_bit, allB_bit hn, decide_eq_true_iff]
  simp
theorem rest_in {n : Nat} (hn : n < 64) (x : B64) : InB n (restB n x) := fun i hi => ((rest_bit hn x i).1 hi).1
theorem rest_or {n : Nat} (hn : n < 64) (x : B64) (a : Nat) (ha : a < n) : restB n (x ||| BitVec.twoPow 64 a) = restB n x &&& ~~~(BitVec.twoPow 64 a) := by
  apply BitVec.eq_of_getLsbD_eq
  intro i hi
  rw [Bool.eq_iff_iff, rest_bit hn, minus_bit, rest_bit hn, BitVec.getLsbD_or, BitVec.getLsbD_twoPow]
  by_cases e : a = i
  · subst e; simp [hi]
  · simp [e]
/-- What the table's field of a set holds when the first k attributes have been tried: 0, or the least of those that are not in it. -/
noncomputable def tabF (G : List B64) (x : B64) (k : Nat) : Nat := (List.range k).foldl (fun m a => if x.getLsbD a = true then m else if m = 0 ∨ max (costN G (restB G.length x) a) (widV G (restB G.length x &&& ~~~(BitVec.twoPow 64 a))) < m then max (costN G (restB G.length x) a) (widV G (restB G.length x &&& ~~~(BitVec.twoPow 64 a))) else m) 0
theorem tabF_succ (G : List B64) (x : B64) (k : Nat) : tabF G x (k + 1) = if x.getLsbD k = true then tabF G x k else if tabF G x k = 0 ∨ max (costN G (restB G.length x) k) (widV G (restB G.length x &&& ~~~(BitVec.twoPow 64 k))) < tabF G x k then max (costN G (restB G.length x) k) (widV G (restB G.length x &&& ~~~(BitVec.twoPow 64 k))) else tabF G x k := by
  unfold tabF
  rw [List.range_succ, List.foldl_append]
  rfl
theorem tab_le (G : List B64) (x : B64) : ∀ k, (tabF G x k = 0 ↔ ∀ a, a < k → x.getLsbD a = true) ∧ ∀ b, 0 < tabF G x k → (tabF G x k ≤ b ↔ ∃ a, a < k ∧ x.getLsbD a = false ∧ max (costN G (restB G.length x) a) (widV G (restB G.length x &&& ~~~(BitVec.twoPow 64 a))) ≤ b)
  | 0 => ⟨by simp [tabF], fun b h => by simp [tabF] at h⟩
  | k + 1 => by
    obtain ⟨h1, h2⟩ := tab_le G x k
    have hpos : 0 < max (costN G (restB G.length x) k) (widV G (restB G.length x &&& ~~~(BitVec.twoPow 64 k))) := by unfold costN; omega
    have hsplit : ∀ p : Nat → Prop, (∃ a, a < k + 1 ∧ p a) ↔ (∃ a, a < k ∧ p a) ∨ p k := fun p => by
      constructor
      · rintro ⟨a, ha, hp⟩
        rcases Nat.lt_succ_iff_lt_or_eq.1 ha with h | rfl
        · exact .inl ⟨a, h, hp⟩
        · exact .inr hp
      · rintro (⟨a, ha, hp⟩ | hp)
        · exact ⟨a, by omega, hp⟩
        · exact ⟨k, by omega, hp⟩
    have hall : (∀ a, a < k + 1 → x.getLsbD a = true) ↔ (∀ a, a < k → x.getLsbD a = true) ∧ x.getLsbD k = true := by
      constructor
      · exact fun h => ⟨fun a ha => h a (by omega), h k (by omega)⟩
      · rintro ⟨h, h'⟩ a ha
        rcases Nat.lt_succ_iff_lt_or_eq.1 ha with e | rfl
        · exact h a e
        · exact h'
    rw [tabF_succ]
    by_cases hk : x.getLsbD k = true
    · rw [if_pos hk]
      refine ⟨by rw [hall, h1]; simp [hk], fun b hb => ?_⟩
      rw [hsplit, h2 b hb]
      simp [hk]
    · rw [if_neg hk]
      have hkf : x.getLsbD k = false := by simpa using hk
      by_cases hlt : tabF G x k = 0 ∨ max (costN G (restB G.length x) k) (widV G (restB G.length x &&& ~~~(BitVec.twoPow 64 k))) < tabF G x k
      · rw [if_pos hlt]
        refine ⟨by rw [hall]; simp [hkf]; omega, fun b hb => ?_⟩
        rw [hsplit]
        constructor
        · exact fun h => .inr ⟨hkf, h⟩
        · rintro (⟨a, ha, h3, h4⟩ | h)
          · rcases hlt with h0 | h0
            · exact absurd (h1.1 h0 a ha) (by simp [h3])
            · have := (h2 b (by omega)).2 ⟨a, ha, h3, h4⟩
              omega
          · exact h.2
      · rw [if_neg hlt]
        refine ⟨by rw [hall]; simp [hkf]; omega, fun b hb => ?_⟩
        rw [hsplit, h2 b hb]
        constructor
        · exact .inl
        · rintro (h | h)
          · exact h
          · exact (h2 b hb).1 (by omega)
theorem tab_full {G : List B64} (hG : GOk G) (hn : G.length < 64) {x : B64} (hx : ∃ a, a < G.length ∧ x.getLsbD a = false) : tabF G x G.length = widV G (restB G.length x) := by
  obtain ⟨h1, h2⟩ := tab_le G x G.length
  have hpos : 0 < tabF G x G.length := by
    refine Nat.pos_of_ne_zero fun e => ?_
    obtain ⟨a, ha, hf⟩ := hx
    rw [h1.1 e a ha] at hf; cases hf
  have key : ∀ b, tabF G x G.length ≤ b ↔ widV G (restB G.length x) ≤ b := fun b => by
    obtain ⟨a, ha, hf⟩ := hx
    rw [h2 b hpos, wid_rec hG (rest_in hn x) ⟨a, (rest_bit hn x a).2 ⟨ha, hf⟩⟩]
    constructor
    · rintro ⟨c, h3, h4, h5⟩
      exact ⟨c, h3, (rest_bit hn x c).2 ⟨h3, h4⟩, h5⟩
    · rintro ⟨c, h3, h4, h5⟩
      exact ⟨c, h3, ((rest_bit hn x c).1 h4).2, h5⟩
  have k1 := (key _).1 (Nat.le_refl _)
  have k2 := (key _).2 (Nat.le_refl _)
  omega
theorem wid_none {G : List B64} (hG : GOk G) {x : B64} (h : ∀ i, x.getLsbD i = false) : widV G x = 0 := by
  have : widV G x ≤ 0 := (wid_le hG (fun i hi => by rw [h i] at hi; cases hi)).2 fun d hd => by
    obtain ⟨i, hi⟩ := hd.ne
    have := hd.sub i hi
    rw [h i] at this; cases this
  omega
end Go.Proofs.YtkalgjnhaicabaaGreat
namespace Go.Proofs.YtkalgjnhaicabaaGreat
open Go.RowKit Mk
/-- The neighbours, when rows below k and in row k columns below j are done. -/
structure NI (S : Sch) (N : List B64) (k j : Nat) : Prop where
  len : N.length = S.attrs.length
  bit : ∀ a, a < S.attrs.length → ∀ b : Nat, (N.getD a 0#64).getLsbD b = ((decide (a < k) || (decide (a = k) && decide (b < j))) && linkB S a b)
theorem NI.first (S : Sch) : NI S (List.replicate S.attrs.length 0#64) 0 0 := ⟨by simp, fun a ha b => by simp [List.getD, ha]⟩
theorem NI.row {S : Sch} (hV : Valid S) {N : List B64} {k : Nat} (h : NI S N k S.attrs.length) : NI S N (k + 1) 0 := ⟨h.len, fun a ha b => by
  rw [h.bit a ha b]
  cases hl : linkB S a b with
  | false => simp
  | true =>
    have := (link_lt hV hl).2.2
    by_cases e : a = k
    · subst e; simp; omega
    · have h1 : (a < k + 1) = (a < k) := by simp only [eq_iff_iff]; omega
      simp [e, h1]⟩
theorem NI.skip {S : Sch} {N : List B64} {k j : Nat} (h : NI S N k j) (hl : linkB S k j = false) : NI S N k (j + 1) := ⟨h.len, fun a ha b => by
  rw [h.bit a ha b]
  by_cases e : a = k
  · subst e
    by_cases e2 : b = j
    · subst e2; simp [hl]
    · have h1 : (b < j + 1) = (b < j) := by simp only [eq_iff_iff]; omega
      simp [h1]
  · simp [e]⟩
theorem NI.put {S : Sch} (hV : Valid S) {N : List B64} {k j : Nat} (h : NI S N k j) (hk : k < S.attrs.length) (hl : linkB S k j = true) : NI S (N.set k (N.getD k 0#64 ||| BitVec.twoPow 64 j)) k (j + 1) := by
  refine ⟨by simp [h.len], fun a ha b => ?_⟩
  have hn12 := hV.n2
  by_cases e : a = k
  · subst e
    have e1 : (N.set a (N.getD a 0#64 ||| BitVec.twoPow 64 j)).getD a 0#64 = N.getD a 0#64 ||| BitVec.twoPow 64 j := by simp [List.getD, h.len, ha]
    rw [e1, BitVec.getLsbD_or, BitVec.getLsbD_twoPow, h.bit a ha b]
    have hj := (link_lt hV hl).2.2
    by_cases e2 : b = j
    · subst e2; simp [hl]; omega
    · have h1 : (b < j + 1) = (b < j) := by simp only [eq_iff_iff]; omega
      have h2 : ¬ j = b := fun e => e2 e.symm
      simp [h1, h2]
  · have e1 : (N.set k (N.getD k 0#64 ||| BitVec.twoPow 64 j)).getD a 0#64 = N.getD a 0#64 := by simp only [List.getD]; rw [List.getElem?_set_ne (fun e' => e e'.symm)]
    rw [e1, h.bit a ha b]
    simp [e]
theorem NI.nok {S : Sch} {N : List B64} (h : NI S N S.attrs.length 0) : NOk S N := ⟨h.len, fun a ha b => by rw [h.bit a ha b]; simp [ha]⟩
/-- The table of least widths, when the sets above v are done. -/
structure TabI (G : List B64) (T : List Int) (v : Int) : Prop where
  len : T.length = 2 ^ G.length
  hi : ∀ y : B64, y.toNat < 2 ^ G.length → v < y.toNat → T.getD y.toNat 0 = widV G (restB G.length y)
  lo : ∀ y : B64, y.toNat < 2 ^ G.length → (y.toNat : Int) ≤ v → T.getD y.toNat 0 = 0
theorem TabI.first {G : List B64} (hG : GOk G) (hn : G.length < 64) : TabI G (List.replicate (2 ^ G.length) 0) ((2 ^ G.length : Nat) - 2 : Int) := by
  refine ⟨by simp, fun y hy hv => ?_, fun y hy _ => by simp [List.getD, hy]⟩
  have e : y.toNat = 2 ^ G.length - 1 := by omega
  have : widV G (restB G.length y) = 0 := wid_none hG fun i => by
    cases h : (restB G.length y).getLsbD i with
    | false => rfl
    | true =>
      have h1 := (rest_bit hn y i).1 h
      have h2 := h1.2
      rw [← BitVec.testBit_toNat, e, Nat.testBit_two_pow_sub_one] at h2
      simp at h2; omega
  rw [this]; simp [List.getD, hy]
/-- The field of a set with k attributes tried. -/
noncomputable def rowT (G : List B64) (T : List Int) (y : B64) (k : Nat) : List Int := T.set y.toNat (tabF G y k : Int)
theorem rowT_zero {G : List B64} {T : List Int} {v : Int} (h : TabI G T v) {y : B64} (hy : y.toNat < 2 ^ G.length) (hv : (y.toNat : Int) ≤ v) : rowT G T y 0 = T := by
  unfold rowT
  have h1 := h.lo y hy hv
  have hlt : y.toNat < T.length := by rw [h.len]; exact hy
  have h2 : T[y.toNat] = 0 := by simpa [List.getD, hlt] using h1
  have : ((tabF G y 0 : Nat) : Int) = T[y.toNat] := by rw [h2]; rfl
  rw [this, List.set_getElem_self]
theorem rowT_set {G : List B64} {T : List Int} {y : B64} {k : Nat} (x : Int) : (rowT G T y k).set y.toNat x = T.set y.toNat x := by unfold rowT; rw [List.set_set]
theorem rowT_at {G : List B64} {T : List Int} {v : Int} (h : TabI G T v) {y : B64} (hy : y.toNat < 2 ^ G.length) (k : Nat) : (rowT G T y k).getD y.toNat 0 = tabF G y k := by
  have hlt : y.toNat < T.length := by rw [h.len]; exact hy
  unfold rowT; simp [List.getD, hlt]
theorem rowT_ne {G : List B64} {T : List Int} {y : B64} {k i : Nat} (hi : i ≠ y.toNat) : (rowT G T y k).getD i 0 = T.getD i 0 := by
  unfold rowT
  simp only [List.getD]; rw [List.getElem?_set_ne (fun e => hi e.symm)]
theorem TabI.next {G : List B64} (hG : GOk G) (hn : G.length < 64) {T : List Int} {y : B64} (h : TabI G T y.toNat) (hy : y.toNat < 2 ^ G.length) (hx : ∃ a, a < G.length ∧ y.getLsbD a = false) : TabI G (rowT G T y G.length) (y.toNat - 1) := by
  refine ⟨by simp [rowT, h.len], fun z hz hv => ?_, fun z hz hv => ?_⟩
  · by_cases e : z.toNat = y.toNat
    · have : z = y := BitVec.eq_of_toNat_eq e
      subst this
      rw [rowT_at h hy, tab_full hG hn hx]
    · rw [rowT_ne e]
      exact h.hi z hz (by omega)
  · rw [rowT_ne (by omega)]
    exact h.lo z hz (by omega)
end Go.Proofs.YtkalgjnhaicabaaGreat
namespace Go.Proofs.YtkalgjnhaicabaaGreat
open Go.RowKit Mk
theorem rest_zero {n : Nat} (hn : n < 64) : restB n 0#64 = allB n := by
  apply BitVec.eq_of_getLsbD_eq
  intro i hi
  rw [Bool.eq_iff_iff, rest_bit hn, allB_bit hn, decide_eq_true_iff]
  simp
/-- What tells that an attribute comes next. -/
def canB (G : List B64) (y : B64) (a : Nat) : Prop := y.getLsbD a = false ∧ max (costN G (restB G.length y) a) (widV G (restB G.length (y ||| BitVec.twoPow 64 a))) ≤ widV G (allB G.length)
structure GI (G : List B64) (L : List Int) (y : B64) : Prop where
  cat : L ++ leastF G (widV G (allB G.length)) (G.length - L.length) (restB G.length y) = leastL G
  pop : popB (restB G.length y) = G.length - L.length
  len : L.length ≤ G.length
  wid : widV G (restB G.length y) ≤ widV G (allB G.length)
  low : y.toNat < 2 ^ G.length
theorem GI.first {G : List B64} (hn : G.length < 64) : GI G [] 0#64 := by
  refine ⟨?_, ?_, Nat.zero_le _, ?_, ?_⟩
  · rw [rest_zero hn]; rfl
  · rw [rest_zero hn, pop_all (by omega)]; rfl
  · rw [rest_zero hn]; exact Nat.le_refl _
  · exact Nat.pow_pos (by decide)
theorem or_low {n a : Nat} (hn : n < 64) {y : B64} (hy : y.toNat < 2 ^ n) (ha : a < n) : (y ||| BitVec.twoPow 64 a).toNat < 2 ^ n := by
  rw [BitVec.toNat_or, BitVec.toNat_twoPow]
  refine Nat.or_lt_two_pow hy (Nat.lt_of_le_of_lt (Nat.mod_le _ _) (Nat.pow_lt_pow_right (by decide) ha))
theorem GI.step {G : List B64} (hG : GOk G) (hn : G.length < 64) {L : List Int} {y : B64} (h : GI G L y) (hl : L.length < G.length) :
    ∃ b, b < G.length ∧ canB G y b ∧ (∀ j, j < b → ¬ canB G y j) ∧ GI G (L ++ [(b : Int)]) (y ||| BitVec.twoPow 64 b) := by
  obtain ⟨f, hf⟩ : ∃ f, G.length - L.length = f + 1 := ⟨G.length - L.length - 1, by omega⟩
  have hp := h.pop
  rw [hf] at hp
  obtain ⟨b, e1, e2, e3, e4⟩ := least_step hG (rest_in hn y) hp h.wid
  have hb := (rest_bit hn y b).1 e2
  have can : ∀ a, a < G.length → (canB G y a ↔ (restB G.length y).getLsbD a = true ∧ widV G (compB G (restB G.length y) a &&& ~~~(BitVec.twoPow 64 a)) ≤ widV G (allB G.length)) := fun a ha => by
    unfold canB
    rw [rest_bit hn]
    constructor
    · rintro ⟨h1, h2⟩
      refine ⟨⟨ha, h1⟩, ?_⟩
      rw [crit hG (rest_in hn y) ((rest_bit hn y a).2 ⟨ha, h1⟩) h.wid, ← rest_or hn y a ha]
      exact h2
    · rintro ⟨h1, h2⟩
      refine ⟨h1.2, ?_⟩
      rw [crit hG (rest_in hn y) ((rest_bit hn y a).2 h1) h.wid, ← rest_or hn y a ha] at h2
      exact h2
  have hcb := (can b hb.1).2 ⟨e2, e3⟩
  refine ⟨b, hb.1, hcb, fun j hj hc => e4 j hj ((can j (by omega)).1 hc), ?_, ?_, ?_, ?_, or_low hn h.low hb.1⟩
  · rw [rest_or hn y b hb.1, ← h.cat, hf, e1, List.append_assoc]
    rw [show G.length - (L ++ [(b : Int)]).length = f by simp; omega]
    rfl
  · rw [rest_or hn y b hb.1]
    have := pop_diff e2
    simp; omega
  · simp; omega
  · have := hcb.2
    omega
end Go.Proofs.YtkalgjnhaicabaaGreat
namespace Go.Proofs.YtkalgjnhaicabaaGreat
open Go.RowKit Mk
set_option maxRecDepth 100000
set_option maxHeartbeats 4000000
theorem not_full {n : Nat} (hn : n < 64) {y : B64} (h : (y.toNat : Int) ≤ ((2 ^ n : Nat) : Int) - 2) : ∃ a, a < n ∧ y.getLsbD a = false := Classical.byContradiction fun hno => by
  have h1 : ∀ a, a < n → y.toNat.testBit a = true := fun a ha => by
    rw [BitVec.testBit_toNat]
    cases e : y.getLsbD a with
    | true => rfl
    | false => exact absurd ⟨a, ha, e⟩ hno
  have hlt : y.toNat < 2 ^ n := by omega
  have : y.toNat = 2 ^ n - 1 := by
    apply Nat.eq_of_testBit_eq
    intro i
    rw [Nat.testBit_two_pow_sub_one]
    by_cases hi : i < n
    · rw [h1 i hi]; simp [hi]
    · rw [Nat.testBit_lt_two_pow (Nat.lt_of_lt_of_le hlt (Nat.pow_le_pow_right (by decide) (by omega)))]; simp [hi]
  omega
theorem ints_at {T : List Int} {i : Nat} (h : i < T.length) : (intsP T)[i * 1]? = some (.int .i64 (T.getD i 0)) := by
  rw [Nat.mul_one]; simp [List.getD, h]
theorem low_pow {n : Nat} (hn : n ≤ 60) {y : B64} (h : y.toNat < 2 ^ n) : Low y := by
  unfold Low
  exact Nat.lt_of_lt_of_le h (by rw [show (9223372036854775808 : Nat) = 2 ^ 63 by decide]; exact Nat.pow_le_pow_right (by decide) (by omega))
theorem or_gt {y : B64} {k : Nat} (hk : k < 64) (h : y.getLsbD k = false) : y.toNat < (y ||| BitVec.twoPow 64 k).toNat := by
  refine Nat.lt_of_le_of_ne (by rw [BitVec.toNat_or]; exact Nat.left_le_or) fun e => ?_
  have e2 := congrArg (fun n : Nat => n.testBit k) e
  simp only [BitVec.testBit_toNat, BitVec.getLsbD_or, BitVec.getLsbD_twoPow, h] at e2
  simp at e2; omega
theorem row_in {G : List B64} {T : List Int} {y : B64} {k : Nat} (h : y.getLsbD k = true) : rowT G T y k = rowT G T y (k + 1) := by unfold rowT; rw [tabF_succ, if_pos h]
/-- The builtin max. -/
abbrev mxI (a b : Int) : Int := if b > a then b else a
theorem mxI_nat (a b : Nat) : mxI (a : Int) (b : Int) = ((max a b : Nat) : Int) := by unfold mxI; split <;> omega
theorem row_up {G : List B64} {T : List Int} {y : B64} {k n : Nat} (hn : n = G.length) (h : ¬ y.getLsbD k = true) (hc : (((tabF G y k : Int) == 0) || decide (mxI (costN G (restB n y) k) (widV G (restB n y &&& ~~~(BitVec.twoPow 64 k))) < (tabF G y k : Int))) = true) :
    T.set y.toNat (mxI (costN G (restB n y) k) (widV G (restB n y &&& ~~~(BitVec.twoPow 64 k)))) = rowT G T y (k + 1) := by
  subst hn
  rw [mxI_nat] at *
  rw [Bool.or_eq_true, beq_iff_eq, decide_eq_true_iff] at hc
  unfold rowT
  rw [tabF_succ, if_neg h, if_pos (by rcases hc with h | h; exact Or.inl (by omega); exact Or.inr (by omega))]
theorem row_st {G : List B64} {T : List Int} {y : B64} {k n : Nat} (hn : n = G.length) (h : ¬ y.getLsbD k = true) (hc : (((tabF G y k : Int) == 0) || decide (mxI (costN G (restB n y) k) (widV G (restB n y &&& ~~~(BitVec.twoPow 64 k))) < (tabF G y k : Int))) = false) :
    rowT G T y k = rowT G T y (k + 1) := by
  subst hn
  rw [mxI_nat] at *
  rw [Bool.or_eq_false_iff, beq_eq_false_iff_ne, decide_eq_false_iff_not] at hc
  unfold rowT
  rw [tabF_succ, if_neg h, if_neg (by rintro (h | h); exact hc.1 (by omega); exact hc.2 (by omega))]
theorem rleast_spec (S : Sch) (hS : SB S) : FnP Tryz.prog 11 [schP S] (· = if checkE S = 0 then .tup [ordP (ordL S (lstL S)), pints (lstL S), .int .i64 0] else .tup [ordP [], pints [], .int .i64 (checkE S)]) := by
  refine FnP.fg2 (FnP.ofC Tryz.func11 rfl Tryz.ntmps11 (by simp) fun m0 w0 F R0 => ?_)
  by_cases h0 : checkE S = 0
  case neg =>
    repeat refine AW.seq ?_
    refine AW.region ?_
    iterate 4 refine A1 rfl ?_
    repeat refine AW.seq ?_
    refine AW.region ?_
    refine A1 rfl ?_
    refine RL.step (d := some 18) rfl rfl (xj_call Tryz.call45 (rchk_spec S hS) rfl) ?_
    refine A1 rfl ?_
    repeat refine AW.seq ?_
    refine AW.region ?_
    iterate 2 refine A1 rfl ?_
    repeat refine AW.seq ?_
    refine AW.cond rfl (fun hc20 => ?_) (fun hc20 => absurd hc20 (fun h => h0 (inF h)))
    repeat refine AW.seq ?_
    refine AW.region ?_
    iterate 5 refine A1 rfl ?_
    repeat refine AW.seq ?_
    refine AW.ret ?_
    exact ⟨_, _, rfl, rfl, ⟨cellOk1 ⟨_, Tryz.underlying29, rfl⟩ sz29 rfl rfl rfl, trivial⟩, by rw [if_neg h0]; rfl⟩
  have hV := valid_of h0
  have hn12 := hV.n2
  have hgl := gr_len S
  obtain ⟨hperm, _⟩ := ouLeast_sp S hS hV
  have hG : GOk (gr S) := gok_of hV ⟨gr_len S, fun a ha c => gr_bit hV (by rwa [gr_len] at ha) c⟩
  have h2n : (BitVec.twoPow 64 S.attrs.length).toNat = 2 ^ S.attrs.length := by
    rw [BitVec.toNat_twoPow]; exact Nat.mod_eq_of_lt (Nat.pow_lt_pow_right (by decide) (by omega))
  have h2b : 2 ^ S.attrs.length ≤ 4096 := Nat.pow_le_pow_right (by decide) hn12
  have h2p : 0 < 2 ^ S.attrs.length := Nat.pow_pos (by decide)
  have hTI : TabI (gr S) (List.replicate (2 ^ S.attrs.length) 0) (((2 ^ S.attrs.length : Nat) : Int) - 2) := by
    have h := TabI.first hG (by omega)
    rw [hgl] at h
    exact h
  generalize hK : 2 ^ S.attrs.length = K at h2n h2b h2p hTI
  repeat refine AW.seq ?_
  refine AW.region ?_
  iterate 4 refine A1 rfl ?_
  repeat refine AW.seq ?_
  refine AW.region ?_
  refine A1 rfl ?_
  refine RL.step (d := some 18) rfl rfl (xj_call Tryz.call45 (rchk_spec S hS) rfl) ?_
  refine A1 rfl ?_
  repeat refine AW.seq ?_
  refine AW.region ?_
  iterate 2 refine A1 rfl ?_
  repeat refine AW.seq ?_
  refine AW.cond rfl (fun hc20 => absurd hc20 (fun h => (inT h) h0)) (fun hc20 => ?_)
  refine AW.skip ?_
  repeat refine AW.seq ?_
  refine AW.region ?_
  iterate 4 refine A1 rfl ?_
  repeat refine AW.seq ?_
  refine AW.region ?_
  refine A1 rfl ?_
  refine RL.step (d := some 27) rfl rfl (xj_make (zs := [.int .i64 0]) 2 S.attrs.length el22 rfl rfl rfl rfl rfl (by omega) rfl) ?_
  refine A1 rfl ?_
  repeat refine AW.seq ?_
  refine AW.region ?_
  iterate 3 refine A1 rfl ?_
  repeat refine AW.seq ?_
  refine AW.block ?_
  repeat refine AW.seq ?_
  refine AW.loop (st := fun x_0 : Nat × List B64 => mkS [(1, .ptr 0 0), (2, .ptr 1 0), (6, .pv (.int .i64 S.attrs.length)), (7, .osl 2 1 S.attrs.length), (29, .pv (.int .i64 S.attrs.length)), (30, .pv (.int .i64 x_0.1))] [(0, .mix 27 [.pv (.sl none S.attrs.length (attrsC S.attrs)), .pv (.sl none S.rels.length (relsC S.rels)), .pv (.sl none S.feats.length (featsC S.feats)), .pv (.int .i64 S.label)]), (1, .mix 29 [.pv (.sl (some true) 0 [])]), (2, .cells 3 (x_0.2.map bint))] 3)
    (I := fun x_0 => x_0.1 ≤ S.attrs.length ∧ NI S x_0.2 x_0.1 0) (μ := fun x_0 => S.attrs.length - x_0.1) (x0 := (0, List.replicate S.attrs.length 0#64)) (St.le_mk ⟨rfl, rfl, rfl, rfl, rfl, rfl, trivial⟩ ⟨rfl, rfl, congrArg (fun c => some (Ob.cells 3 c)) ((mkZ_one (.int .i64 0) (S.attrs.length * 1)).trans (by simp)), trivial⟩ rfl rfl) (⟨Nat.zero_le _, NI.first S⟩) ?_
  rintro ⟨k, N⟩ ⟨hk, hNI⟩
  try simp only at hk hNI ⊢
  repeat refine AW.seq ?_
  refine AW.region ?_
  refine A1 rfl ?_
  repeat refine AW.seq ?_
  refine AW.condP rfl (fun hc31 => ?_) (fun hc31 => ?_)
  · have hlt : k < S.attrs.length := by omega
    refine AW.skip ?_
    repeat refine AW.seq ?_
    refine AW.block ?_
    repeat refine AW.seq ?_
    refine AW.region ?_
    iterate 2 refine A1 rfl ?_
    repeat refine AW.seq ?_
    refine AW.region ?_
    iterate 3 refine A1 rfl ?_
    repeat refine AW.seq ?_
    refine AW.block ?_
    repeat refine AW.seq ?_
    refine AW.loop (st := fun x_1 : Nat × List B64 => mkS [(1, .ptr 0 0), (2, .ptr 1 0), (6, .pv (.int .i64 S.attrs.length)), (7, .osl 2 1 S.attrs.length), (8, .pv (.int .i64 k)), (29, .pv (.int .i64 S.attrs.length)), (30, .pv (.int .i64 k)), (34, .pv (.int .i64 S.attrs.length)), (35, .pv (.int .i64 x_1.1))] [(0, .mix 27 [.pv (.sl none S.attrs.length (attrsC S.attrs)), .pv (.sl none S.rels.length (relsC S.rels)), .pv (.sl none S.feats.length (featsC S.feats)), .pv (.int .i64 S.label)]), (1, .mix 29 [.pv (.sl (some true) 0 [])]), (2, .cells 3 (x_1.2.map bint))] 3)
      (I := fun x_1 => x_1.1 ≤ S.attrs.length ∧ NI S x_1.2 k x_1.1) (μ := fun x_1 => S.attrs.length - x_1.1) (x0 := (0, N)) (St.le_mk ⟨rfl, rfl, rfl, rfl, rfl, rfl, rfl, rfl, rfl, trivial⟩ ⟨rfl, rfl, rfl, trivial⟩ rfl rfl) (⟨Nat.zero_le _, hNI⟩) ?_
    rintro ⟨j, M⟩ ⟨hj, hMI⟩
    try simp only at hj hMI ⊢
    repeat refine AW.seq ?_
    refine AW.region ?_
    refine A1 rfl ?_
    repeat refine AW.seq ?_
    refine AW.condP rfl (fun hc36 => ?_) (fun hc36 => ?_)
    · have hjt : j < S.attrs.length := by omega
      have hMl := hMI.len
      have hva := near_at (N := M) (k := k) (by omega)
      have hlo : Low (M.getD k 0#64) := .bit fun i hi => by rw [hMI.bit k hlt] at hi; rw [Bool.and_eq_true] at hi; have := (link_lt hV hi.2).2.2; omega
      refine AW.skip ?_
      repeat refine AW.seq ?_
      refine AW.block ?_
      repeat refine AW.seq ?_
      refine AW.region ?_
      iterate 2 refine A1 rfl ?_
      repeat refine AW.seq ?_
      refine AW.region ?_
      iterate 3 refine A1 rfl ?_
      refine RL.step (d := some 41) rfl rfl (xj_call Tryz.call46 (share_spec S hS k j) rfl) ?_
      repeat refine AW.seq ?_
      refine AW.cond rfl (fun hc41 => ?_) (fun hc41 => ?_)
      · repeat refine AW.seq ?_
        refine AW.region ?_
        iterate 2 refine A1 rfl ?_
        refine RL.step (d := some 44) rfl rfl (xj_indexAddrO k Tryz.underlying22 sz3 rfl rfl rfl rfl hlt) ?_
        first | refine A2 rfl (by assumption) ?_ | refine A1 rfl ?_
        refine A1 rfl ?_
        refine RL.step (d := some 47) rfl rfl (xj_convU Tryz.underlying3 Tryz.underlying81 rfl (by omega)) ?_
        refine RL.step (d := some 48) rfl rfl (xj_oneB rfl rfl (by omega)) ?_
        refine RL.step (d := some 49) rfl rfl (xj_orB rfl rfl hlo (Low.two (by omega))) ?_
        refine RL.step (d := some 50) rfl rfl (xj_indexAddrO k Tryz.underlying22 sz3 rfl rfl rfl rfl hlt) ?_
        refine RL.step (d := none) rfl rfl (xj_storeP sz3 rfl rfl rfl rfl (by simp; omega)) ?_
        repeat refine AW.seq ?_
        refine AW.region ?_
        iterate 2 refine A1 rfl ?_
        exact ⟨(j + 1, M.set k (M.getD k 0#64 ||| BitVec.twoPow 64 j)), St.le_mk ⟨rfl, rfl, rfl, rfl, rfl, rfl, rfl, rfl, rfl, trivial⟩ ⟨rfl, rfl, congrArg (fun c => some (Ob.cells 3 c)) (by rw [Nat.mul_one, List.map_set]), trivial⟩ rfl rfl, ⟨by simp only; omega, hMI.put hV hlt hc41⟩, by simp only; omega⟩
      · refine AW.skip ?_
        repeat refine AW.seq ?_
        refine AW.region ?_
        iterate 2 refine A1 rfl ?_
        exact ⟨(j + 1, M), St.le_mk ⟨rfl, rfl, rfl, rfl, rfl, rfl, rfl, rfl, rfl, trivial⟩ ⟨rfl, rfl, rfl, trivial⟩ rfl rfl, ⟨by simp only; omega, hMI.skip hc41⟩, by simp only; omega⟩
    · have hje : j = S.attrs.length := by omega
      repeat refine AW.seq ?_
      refine AW.exit ?_
      repeat refine AW.seq ?_
      refine AW.region ?_
      iterate 2 refine A1 rfl ?_
      exact ⟨(k + 1, M), St.le_mk ⟨rfl, rfl, rfl, rfl, rfl, rfl, trivial⟩ ⟨rfl, rfl, rfl, trivial⟩ rfl rfl, ⟨by simp only; omega, by rw [hje] at hMI; exact hMI.row hV⟩, by simp only; omega⟩
  · have hkn : k = S.attrs.length := by omega
    have hN : NOk S N := by rw [hkn] at hNI; exact hNI.nok
    have hNl := hN.len
    have e7 : List.take (S.attrs.length * 1) (N.map bint) = N.map bint := List.take_of_length_le (by simp; omega)
    repeat refine AW.seq ?_
    refine AW.exit ?_
    refine AW.weaken (St.le_pub 2 [7] rfl ⟨rfl, trivial⟩ (by simp; omega)) ?_
    rw [e7]
    repeat refine AW.seq ?_
    refine AW.region ?_
    refine A1 rfl ?_
    refine RL.step (d := some 54) rfl rfl (xj_convU Tryz.underlying3 Tryz.underlying81 rfl (by omega)) ?_
    refine RL.step (d := some 55) rfl rfl (XJ.cast (v' := .pv (.int .i64 (K : Int))) (xj_oneB rfl rfl (by omega)) (by simp [bint, h2n])) ?_
    refine RL.step (d := some 56) rfl rfl (xj_make (zs := [.int .i64 0]) 3 K el22 rfl rfl rfl rfl rfl (by omega) rfl) ?_
    refine A1 rfl ?_
    repeat refine AW.seq ?_
    refine AW.region ?_
    iterate 4 refine A1 rfl ?_
    repeat refine AW.seq ?_
    refine AW.block ?_
    repeat refine AW.seq ?_
    refine AW.loop (st := fun x_2 : Int × List Int => mkS [(1, .ptr 0 0), (2, .ptr 1 0), (6, .pv (.int .i64 S.attrs.length)), (7, .pv (.sl none S.attrs.length (N.map bint))), (10, .osl 3 1 K), (11, .pv (.int .i64 x_2.1))] [(0, .mix 27 [.pv (.sl none S.attrs.length (attrsC S.attrs)), .pv (.sl none S.rels.length (relsC S.rels)), .pv (.sl none S.feats.length (featsC S.feats)), .pv (.int .i64 S.label)]), (1, .mix 29 [.pv (.sl (some true) 0 [])]), (3, intsO x_2.2)] 4)
      (I := fun x_2 => -1 ≤ x_2.1 ∧ x_2.1 ≤ (K : Int) - 2 ∧ TabI (gr S) x_2.2 x_2.1) (μ := fun x_2 => (x_2.1 + 1).toNat) (x0 := ((K : Int) - 2, List.replicate K 0)) (St.le_mk ⟨rfl, rfl, rfl, rfl, rfl, rfl, trivial⟩ ⟨rfl, rfl, congrArg (fun c => some (Ob.cells 3 c)) ((mkZ_one (.int .i64 0) (K * 1)).trans (by simp)), trivial⟩ rfl rfl) (⟨by simp only; omega, by simp only; omega, hTI⟩) ?_
    rintro ⟨v, T⟩ ⟨hv1, hv2, hT⟩
    try simp only at hv1 hv2 hT ⊢
    repeat refine AW.seq ?_
    refine AW.region ?_
    iterate 2 refine A1 rfl ?_
    repeat refine AW.seq ?_
    refine AW.condP rfl (fun hc61 => ?_) (fun hc61 => ?_)
    · have hv0 : 0 ≤ v := by omega
      obtain ⟨y, rfl⟩ : ∃ y : B64, v = (y.toNat : Int) := ⟨BitVec.ofNat 64 v.toNat, by rw [BitVec.toNat_ofNat, Nat.mod_eq_of_lt (by omega)]; omega⟩
      have hyK : y.toNat < 2 ^ (gr S).length := by rw [hgl, hK]; omega
      have hyl : Low y := low_pow (n := S.attrs.length) (by omega) (by rw [hK]; omega)
      have hTl : T.length = K := by rw [hT.len, hgl, hK]
      have hnf : ∃ a, a < S.attrs.length ∧ y.getLsbD a = false := not_full (by omega) (by rw [hK]; omega)
      refine AW.skip ?_
      repeat refine AW.seq ?_
      refine AW.block ?_
      repeat refine AW.seq ?_
      refine AW.region ?_
      refine A1 rfl ?_
      repeat refine AW.seq ?_
      refine AW.block ?_
      repeat refine AW.seq ?_
      refine AW.loop (st := fun x_3 : Nat => mkS [(1, .ptr 0 0), (2, .ptr 1 0), (6, .pv (.int .i64 S.attrs.length)), (7, .pv (.sl none S.attrs.length (N.map bint))), (10, .osl 3 1 K), (11, .pv (bint y)), (12, .pv (.int .i64 x_3))] [(0, .mix 27 [.pv (.sl none S.attrs.length (attrsC S.attrs)), .pv (.sl none S.rels.length (relsC S.rels)), .pv (.sl none S.feats.length (featsC S.feats)), .pv (.int .i64 S.label)]), (1, .mix 29 [.pv (.sl (some true) 0 [])]), (3, intsO (rowT (gr S) T y x_3))] 4)
        (I := fun x_3 => x_3 ≤ S.attrs.length) (μ := fun x_3 => S.attrs.length - x_3) (x0 := (0)) (St.le_mk ⟨rfl, rfl, rfl, rfl, rfl, rfl, rfl, trivial⟩ ⟨rfl, rfl, congrArg (fun c => some (intsO c)) (rowT_zero hT hyK (Int.le_refl _)).symm, trivial⟩ rfl rfl) (Nat.zero_le _) ?_
      rintro k hk3
      repeat refine AW.seq ?_
      refine AW.region ?_
      iterate 3 refine A1 rfl ?_
      repeat refine AW.seq ?_
      refine AW.condP rfl (fun hc66 => ?_) (fun hc66 => ?_)
      · have hlt : k < S.attrs.length := by omega
        have hrl : (rowT (gr S) T y k).length = K := by simp [rowT, hTl]
        refine AW.skip ?_
        repeat refine AW.seq ?_
        refine AW.block ?_
        repeat refine AW.seq ?_
        refine AW.region ?_
        iterate 2 refine A1 rfl ?_
        refine RL.step (d := some 71) rfl rfl (xj_convU Tryz.underlying3 Tryz.underlying81 rfl (by omega)) ?_
        refine RL.step (d := some 72) rfl rfl (xj_shrB rfl rfl (by omega)) ?_
        refine RL.step (d := some 73) rfl rfl (xj_andB (b := 1#64) rfl rfl (low_shr hyl _)) ?_
        refine A1 rfl ?_
        repeat refine AW.seq ?_
        refine AW.cond rfl (fun hc74 => ?_) (fun hc74 => ?_)
        · have hbk : y.getLsbD k = true := by rw [test_b] at hc74; revert hc74; cases y.getLsbD k <;> simp
          repeat refine AW.seq ?_
          refine AW.exit ?_
          repeat refine AW.seq ?_
          refine AW.region ?_
          iterate 3 refine A1 rfl ?_
          exact ⟨(k + 1), St.le_mk ⟨rfl, rfl, rfl, rfl, rfl, rfl, rfl, trivial⟩ ⟨rfl, rfl, congrArg (fun c => some (intsO c)) (row_in hbk), trivial⟩ rfl rfl, by omega, by omega⟩
        · have hbk : ¬ y.getLsbD k = true := by rw [test_b] at hc74; revert hc74; cases y.getLsbD k <;> simp
          have hbf : y.getLsbD k = false := by simpa using hbk
          have hcost := rcost_spec S hV (by omega) hN (rem := y) (rest := restB S.attrs.length y) (a := k) (rest_bit (by omega) y) ((rest_bit (by omega) y k).2 ⟨hlt, hbf⟩)
          rw [nearP, hNl] at hcost
          have hixK : (y ||| BitVec.twoPow 64 k).toNat < K := by rw [← hK]; exact or_low (by omega) (by rw [hK]; omega) hlt
          have hva := ints_at (T := rowT (gr S) T y k) (i := (y ||| BitVec.twoPow 64 k).toNat) (by omega)
          have hvb := ints_at (T := rowT (gr S) T y k) (i := y.toNat) (by omega)
          rw [rowT_at hT hyK] at hvb
          have hgt : y.toNat < (y ||| BitVec.twoPow 64 k).toNat := or_gt (by omega) hbf
          rw [rowT_ne (by omega), hT.hi _ (by rw [hgl, hK]; exact hixK) (by omega), hgl, rest_or (by omega) y k hlt] at hva
          refine AW.skip ?_
          repeat refine AW.seq ?_
          refine AW.draw follows [[], [], [], [2, 1, 0], [], [], [], [6], [7, 6], [8, 5, 7, 6], [9, 4, 8, 5, 7, 6], [10, 9, 4, 8, 5, 7, 6], [11, 3, 2, 1, 0, 10, 9, 4, 8, 5, 7, 6], [12, 11, 3, 2, 1, 0, 10, 9, 4, 8, 5, 7, 6]] [0, 1, 2, 3, 4, 5, 6, 7, 8, 9, 10, 11, 12, 13] (by kernel_rfl) (by kernel_rfl) ?_
          iterate 3 refine D1 rfl rfl ?_
          refine DL.step (d := some 78) [] rfl rfl rfl (fun τ h => xj_call Tryz.call47 hcost (h.argsP rfl)) rfl (by kernel_rfl) ?_
          iterate 3 refine D1 rfl rfl ?_
          refine DL.step (d := some 82) [] rfl rfl rfl (fun τ h => xj_convU Tryz.underlying3 Tryz.underlying81 ((h.e 0 _ rfl).trans rfl) (by omega)) rfl (by kernel_rfl) ?_
          refine DL.step (d := some 83) [] rfl rfl rfl (fun τ h => xj_oneB ((h.e 0 _ rfl).trans rfl) ((h.e 1 _ rfl).trans rfl) (by omega)) rfl (by kernel_rfl) ?_
          refine DL.step (d := some 84) [] rfl rfl rfl (fun τ h => xj_orB ((h.e 0 _ rfl).trans rfl) ((h.e 1 _ rfl).trans rfl) hyl (Low.two (by omega))) rfl (by kernel_rfl) ?_
          refine DL.step (d := some 85) [_] rfl rfl rfl (fun τ h => xj_indexAddrO (y ||| BitVec.twoPow 64 k).toNat Tryz.underlying22 sz3 ((h.e 0 _ rfl).trans rfl) ((h.o 0 _ rfl).trans rfl) ((h.e 1 _ rfl).trans rfl) rfl hixK) rfl (by kernel_rfl) ?_
          first | refine D2 rfl rfl (by assumption) ?_ | refine D1 rfl rfl ?_
          iterate 2 refine D1 rfl rfl ?_
          refine ⟨by kernel_rfl, ?_⟩
          repeat refine AW.seq ?_
          refine AW.region ?_
          iterate 2 refine A1 rfl ?_
          refine RL.step (d := some 90) rfl rfl (xj_indexAddrO y.toNat Tryz.underlying22 sz3 rfl rfl rfl rfl (by omega)) ?_
          first | refine A2 rfl (by assumption) ?_ | refine A1 rfl ?_
          iterate 2 refine A1 rfl ?_
          apply RL.orB 7 93 100 [94, 95, 96, 97, 98, 99] rfl (by first | exact MonoK.le | exact MonoK.aw | exact MonoK.back)
          · intro hb5
            iterate 7 refine A1 rfl ?_
            exact St.le_fg (fEq.upd (fEq.upd (fEq.upd (fEq.upd (fEq.upd (fEq.upd (fEq.upd (fEq.upd (fEq.refl) rfl) rfl) rfl) rfl) rfl) rfl) rfl) rfl) rfl rfl rfl
          · intro hb5
            iterate 3 refine A1 rfl ?_
            refine RL.stepG (d := some 97) rfl rfl rfl (xj_indexAddrO y.toNat Tryz.underlying22 sz3 rfl rfl rfl rfl (by omega)) ?_
            first | refine A2 rfl (by assumption) ?_ | refine A1 rfl ?_
            iterate 2 refine A1 rfl ?_
            exact St.le_fg (fEq.upd (fEq.upd (fEq.upd (fEq.upd (fEq.upd (fEq.upd (fEq.upd (fEq.upd (fEq.refl) rfl) rfl) rfl) rfl) rfl) rfl) rfl) rfl) rfl rfl rfl
          repeat refine AW.seq ?_
          refine AW.cond rfl (fun hc100 => ?_) (fun hc100 => ?_)
          · repeat refine AW.seq ?_
            refine AW.region ?_
            iterate 3 refine A1 rfl ?_
            refine RL.step (d := some 104) rfl rfl (xj_indexAddrO y.toNat Tryz.underlying22 sz3 rfl rfl rfl rfl (by omega)) ?_
            refine RL.step (d := none) rfl rfl (xj_storeP sz3 rfl rfl rfl rfl (by simp; omega)) ?_
            repeat refine AW.seq ?_
            refine AW.region ?_
            iterate 3 refine A1 rfl ?_
            exact ⟨(k + 1), St.le_mk ⟨rfl, rfl, rfl, rfl, rfl, rfl, rfl, trivial⟩ ⟨rfl, rfl, congrArg (fun c => some (Ob.cells 3 c)) (by rw [Nat.mul_one, ints_set, rowT_set, row_up hgl.symm hbk hc100]), trivial⟩ rfl rfl, by omega, by omega⟩
          · refine AW.skip ?_
            repeat refine AW.seq ?_
            refine AW.region ?_
            iterate 3 refine A1 rfl ?_
            exact ⟨(k + 1), St.le_mk ⟨rfl, rfl, rfl, rfl, rfl, rfl, rfl, trivial⟩ ⟨rfl, rfl, congrArg (fun c => some (intsO c)) (row_st hgl.symm hbk hc100), trivial⟩ rfl rfl, by omega, by omega⟩
      · have hk4 : k = S.attrs.length := by omega
        repeat refine AW.seq ?_
        refine AW.exit ?_
        repeat refine AW.seq ?_
        refine AW.region ?_
        iterate 3 refine A1 rfl ?_
        exact ⟨((y.toNat : Int) - 1, rowT (gr S) T y k), St.le_mk ⟨rfl, rfl, rfl, rfl, rfl, rfl, trivial⟩ ⟨rfl, rfl, rfl, trivial⟩ rfl rfl, ⟨by simp only; omega, by simp only; omega, by simp only; rw [hk4, ← hgl]; exact hT.next hG (by omega) hyK (by rw [hgl]; exact hnf)⟩, by simp only; omega⟩
    · have hvm : v = -1 := by omega
      have hTl : T.length = K := by rw [hT.len, hgl, hK]
      repeat refine AW.seq ?_
      refine AW.exit ?_
      repeat refine AW.seq ?_
      refine AW.region ?_
      refine A1 rfl ?_
      refine AW.weaken (St.le_gro 14 4 1 3 rfl rfl) ?_
      repeat refine AW.seq ?_
      refine AW.region ?_
      refine A1 rfl ?_
      repeat refine AW.seq ?_
      refine AW.block ?_
      repeat refine AW.seq ?_
      refine AW.loop (st := fun x_4 : List Int × B64 => mkS [(1, .ptr 0 0), (2, .ptr 1 0), (6, .pv (.int .i64 S.attrs.length)), (7, .pv (.sl none S.attrs.length (N.map bint))), (10, .osl 3 1 K), (14, .gsl 4 1 x_4.1.length), (15, .pv (bint x_4.2))] [(0, .mix 27 [.pv (.sl none S.attrs.length (attrsC S.attrs)), .pv (.sl none S.rels.length (relsC S.rels)), .pv (.sl none S.feats.length (featsC S.feats)), .pv (.int .i64 S.label)]), (1, .mix 29 [.pv (.sl (some true) 0 [])]), (3, intsO T), (4, .gro 3 (intsP x_4.1))] 5)
        (I := fun x_4 => GI (gr S) x_4.1 x_4.2) (μ := fun x_4 => S.attrs.length - x_4.1.length) (x0 := ([], 0#64)) (St.le_mk ⟨rfl, rfl, rfl, rfl, rfl, rfl, rfl, trivial⟩ ⟨rfl, rfl, rfl, rfl, trivial⟩ rfl rfl) (GI.first (by omega)) ?_
      rintro ⟨L, y⟩ hI
      try simp only at hI ⊢
      repeat refine AW.seq ?_
      refine AW.region ?_
      iterate 4 refine A1 rfl ?_
      repeat refine AW.seq ?_
      refine AW.condP rfl (fun hc108 => ?_) (fun hc108 => ?_)
      · have hLl : L.length < S.attrs.length := by omega
        obtain ⟨b, hb1, hb2, hb3, hb4⟩ := hI.step hG (by omega) (by omega)
        refine AW.skip ?_
        repeat refine AW.seq ?_
        refine AW.block ?_
        repeat refine AW.seq ?_
        refine AW.region ?_
        refine A1 rfl ?_
        repeat refine AW.seq ?_
        refine AW.block ?_
        repeat refine AW.seq ?_
        refine AW.loop (st := fun x_5 : Nat => mkS [(1, .ptr 0 0), (2, .ptr 1 0), (6, .pv (.int .i64 S.attrs.length)), (7, .pv (.sl none S.attrs.length (N.map bint))), (10, .osl 3 1 K), (14, .gsl 4 1 L.length), (15, .pv (bint y)), (16, .pv (.int .i64 x_5))] [(0, .mix 27 [.pv (.sl none S.attrs.length (attrsC S.attrs)), .pv (.sl none S.rels.length (relsC S.rels)), .pv (.sl none S.feats.length (featsC S.feats)), .pv (.int .i64 S.label)]), (1, .mix 29 [.pv (.sl (some true) 0 [])]), (3, intsO T), (4, .gro 3 (intsP L))] 5)
          (I := fun x_5 => x_5 ≤ S.attrs.length ∧ ∀ j, j < x_5 → ¬ canB (gr S) y j) (μ := fun x_5 => S.attrs.length - x_5) (x0 := (0)) (St.le_mk ⟨rfl, rfl, rfl, rfl, rfl, rfl, rfl, rfl, trivial⟩ ⟨rfl, rfl, rfl, rfl, trivial⟩ rfl rfl) (⟨Nat.zero_le _, fun j hj => absurd hj (Nat.not_lt_zero _)⟩) ?_
        rintro k ⟨hk, hno⟩
        repeat refine AW.seq ?_
        refine AW.region ?_
        iterate 3 refine A1 rfl ?_
        repeat refine AW.seq ?_
        refine AW.condP rfl (fun hc111 => ?_) (fun hc111 => absurd hc111 (fun h => absurd hb2 (hno b (by omega))))
        have hlt : k < S.attrs.length := by omega
        have hyl : Low y := low_pow (n := S.attrs.length) (by omega) (by rw [← hgl]; exact hI.low)
        have hyK : y.toNat < K := by rw [← hK, ← hgl]; exact hI.low
        have hixK : (y ||| BitVec.twoPow 64 k).toNat < K := by rw [← hK]; exact or_low (by omega) (by rw [hK]; omega) hlt
        have hva := ints_at (T := T) (i := (y ||| BitVec.twoPow 64 k).toNat) (by omega)
        have hvz := ints_at (T := T) (i := 0) (by omega)
        have hz0 := hT.hi 0#64 (by rw [hgl, hK]; exact h2p) (by rw [hvm]; decide)
        rw [rest_zero (by omega)] at hz0
        rw [show T.getD 0 0 = _ from hz0] at hvz
        rw [hT.hi _ (by rw [hgl, hK]; exact hixK) (by rw [hvm]; omega)] at hva
        refine AW.skip ?_
        repeat refine AW.seq ?_
        refine AW.block ?_
        by_cases hyb : y.getLsbD k = true
        · repeat refine AW.seq ?_
          refine AW.draw follows [[], [], [1], [2, 0, 1], [3, 2, 0, 1], [4, 3, 2, 0, 1], [5, 4, 3, 2, 0, 1], [6, 5, 4, 3, 2, 0, 1], [6, 5, 4, 3, 2, 0, 1], [6, 5, 4, 3, 2, 0, 1], [9, 8, 7, 6, 5, 4, 3, 2, 0, 1], [6, 5, 4, 3, 2, 0, 1], [6, 5, 4, 3, 2, 0, 1], [6, 5, 4, 3, 2, 0, 1], [13, 6, 5, 4, 3, 2, 0, 1], [14, 13, 6, 5, 4, 3, 2, 0, 1], [15, 12, 6, 5, 4, 3, 2, 0, 1, 14, 13], [16, 11, 6, 5, 4, 3, 2, 0, 1, 15, 12, 14, 13], [17, 16, 11, 6, 5, 4, 3, 2, 0, 1, 15, 12, 14, 13], [18, 10, 9, 8, 7, 6, 5, 4, 3, 2, 0, 1, 17, 16, 11, 15, 12, 14, 13], [6, 5, 4, 3, 2, 0, 1], [20, 6, 5, 4, 3, 2, 0, 1], [21, 20, 6, 5, 4, 3, 2, 0, 1], [22, 19, 18, 10, 9, 8, 7, 6, 5, 4, 3, 2, 0, 1, 17, 16, 11, 15, 12, 14, 13, 21, 20], [23, 6, 5, 4, 3, 2, 0, 1, 22, 19, 18, 10, 9, 8, 7, 17, 16, 11, 15, 12, 14, 13, 21, 20]] [0, 1, 2, 3, 4, 5, 6, 7, 8, 9, 10, 11, 12, 13, 14, 15, 16, 17, 18, 19, 20, 21, 22, 23, 24] (by kernel_rfl) (by kernel_rfl) ?_
          iterate 2 refine D1 rfl rfl ?_
          refine DL.step (d := some 116) [] rfl rfl rfl (fun τ h => xj_convU Tryz.underlying3 Tryz.underlying81 ((h.e 0 _ rfl).trans rfl) (by omega)) rfl (by kernel_rfl) ?_
          refine DL.step (d := some 117) [] rfl rfl rfl (fun τ h => xj_shrB ((h.e 0 _ rfl).trans rfl) ((h.e 1 _ rfl).trans rfl) (by omega)) rfl (by kernel_rfl) ?_
          refine DL.step (d := some 118) [] rfl rfl rfl (fun τ h => xj_andB (b := 1#64) ((h.e 0 _ rfl).trans rfl) ((h.e 1 _ rfl).trans rfl) (low_shr hyl _)) rfl (by kernel_rfl) ?_
          refine DL.step (d := some 119) [] rfl rfl rfl (fun τ h => XJ.cast (v' := .pv (.bool false)) (xj_bin ((h.e 0 _ rfl).trans rfl) ((h.e 1 _ rfl).trans rfl) rfl) (by rw [test_b, if_pos hyb]; rfl)) rfl (by kernel_rfl) ?_
          iterate 19 refine D1 rfl rfl ?_
          refine ⟨by kernel_rfl, ?_⟩
          repeat refine AW.seq ?_
          refine AW.cond rfl (fun hc138 => absurd hc138 (by decide)) (fun hc138 => ?_)
          refine AW.skip ?_
          repeat refine AW.seq ?_
          refine AW.region ?_
          iterate 3 refine A1 rfl ?_
          exact ⟨(k + 1), St.le_mk ⟨rfl, rfl, rfl, rfl, rfl, rfl, rfl, rfl, trivial⟩ ⟨rfl, rfl, rfl, rfl, trivial⟩ rfl rfl, ⟨by omega, fun j hj => by rcases Nat.lt_succ_iff_lt_or_eq.1 hj with h | rfl; exact hno j h; exact fun h => by rw [h.1] at hyb; cases hyb⟩, by omega⟩
        · have hyf : y.getLsbD k = false := by simpa using hyb
          have hcost := rcost_spec S hV (by omega) hN (rem := y) (rest := restB S.attrs.length y) (a := k) (rest_bit (by omega) y) ((rest_bit (by omega) y k).2 ⟨hlt, hyf⟩)
          rw [nearP, hNl] at hcost
          repeat refine AW.seq ?_
          refine AW.draw follows [[], [], [1], [2, 0, 1], [3, 2, 0, 1], [4, 3, 2, 0, 1], [5, 4, 3, 2, 0, 1], [6, 5, 4, 3, 2, 0, 1], [6, 5, 4, 3, 2, 0, 1], [6, 5, 4, 3, 2, 0, 1], [9, 8, 7, 6, 5, 4, 3, 2, 0, 1], [6, 5, 4, 3, 2, 0, 1], [6, 5, 4, 3, 2, 0, 1], [6, 5, 4, 3, 2, 0, 1], [13, 6, 5, 4, 3, 2, 0, 1], [14, 13, 6, 5, 4, 3, 2, 0, 1], [15, 12, 6, 5, 4, 3, 2, 0, 1, 14, 13], [16, 11, 6, 5, 4, 3, 2, 0, 1, 15, 12, 14, 13], [17, 16, 11, 6, 5, 4, 3, 2, 0, 1, 15, 12, 14, 13], [18, 10, 9, 8, 7, 6, 5, 4, 3, 2, 0, 1, 17, 16, 11, 15, 12, 14, 13], [6, 5, 4, 3, 2, 0, 1], [20, 6, 5, 4, 3, 2, 0, 1], [21, 20, 6, 5, 4, 3, 2, 0, 1], [22, 19, 18, 10, 9, 8, 7, 6, 5, 4, 3, 2, 0, 1, 17, 16, 11, 15, 12, 14, 13, 21, 20], [23, 6, 5, 4, 3, 2, 0, 1, 22, 19, 18, 10, 9, 8, 7, 17, 16, 11, 15, 12, 14, 13, 21, 20]] [0, 1, 2, 3, 4, 5, 6, 7, 8, 9, 10, 11, 12, 13, 14, 15, 16, 17, 18, 19, 20, 21, 22, 23, 24] (by kernel_rfl) (by kernel_rfl) ?_
          iterate 2 refine D1 rfl rfl ?_
          refine DL.step (d := some 116) [] rfl rfl rfl (fun τ h => xj_convU Tryz.underlying3 Tryz.underlying81 ((h.e 0 _ rfl).trans rfl) (by omega)) rfl (by kernel_rfl) ?_
          refine DL.step (d := some 117) [] rfl rfl rfl (fun τ h => xj_shrB ((h.e 0 _ rfl).trans rfl) ((h.e 1 _ rfl).trans rfl) (by omega)) rfl (by kernel_rfl) ?_
          refine DL.step (d := some 118) [] rfl rfl rfl (fun τ h => xj_andB (b := 1#64) ((h.e 0 _ rfl).trans rfl) ((h.e 1 _ rfl).trans rfl) (low_shr hyl _)) rfl (by kernel_rfl) ?_
          refine DL.step (d := some 119) [] rfl rfl rfl (fun τ h => XJ.cast (v' := .pv (.bool true)) (xj_bin ((h.e 0 _ rfl).trans rfl) ((h.e 1 _ rfl).trans rfl) rfl) (by rw [test_b, if_neg hyb]; rfl)) rfl (by kernel_rfl) ?_
          iterate 4 refine D1 rfl rfl ?_
          refine DL.stepG (d := some 124) [] rfl rfl rfl rfl (fun τ h => xj_call Tryz.call47 hcost (h.argsP rfl)) rfl (by kernel_rfl) ?_
          iterate 3 refine D1 rfl rfl ?_
          refine DL.stepG (d := some 128) [] rfl rfl rfl rfl (fun τ h => xj_convU Tryz.underlying3 Tryz.underlying81 ((h.e 0 _ rfl).trans rfl) (by omega)) rfl (by kernel_rfl) ?_
          refine DL.stepG (d := some 129) [] rfl rfl rfl rfl (fun τ h => xj_oneB ((h.e 0 _ rfl).trans rfl) ((h.e 1 _ rfl).trans rfl) (by omega)) rfl (by kernel_rfl) ?_
          refine DL.stepG (d := some 130) [] rfl rfl rfl rfl (fun τ h => xj_orB ((h.e 0 _ rfl).trans rfl) ((h.e 1 _ rfl).trans rfl) hyl (Low.two (by omega))) rfl (by kernel_rfl) ?_
          refine DL.stepG (d := some 131) [_] rfl rfl rfl rfl (fun τ h => xj_indexAddrO (y ||| BitVec.twoPow 64 k).toNat Tryz.underlying22 sz3 ((h.e 0 _ rfl).trans rfl) ((h.o 0 _ rfl).trans rfl) ((h.e 1 _ rfl).trans rfl) rfl hixK) rfl (by kernel_rfl) ?_
          first | refine D2 rfl rfl (by assumption) ?_ | refine D1 rfl rfl ?_
          iterate 2 refine D1 rfl rfl ?_
          refine DL.stepG (d := some 135) [_] rfl rfl rfl rfl (fun τ h => xj_indexAddrO 0 Tryz.underlying22 sz3 ((h.e 0 _ rfl).trans rfl) ((h.o 0 _ rfl).trans rfl) ((h.e 1 _ rfl).trans rfl) rfl h2p) rfl (by kernel_rfl) ?_
          first | refine D2 rfl rfl (by assumption) ?_ | refine D1 rfl rfl ?_
          iterate 2 refine D1 rfl rfl ?_
          refine ⟨by kernel_rfl, ?_⟩
          repeat refine AW.seq ?_
          refine AW.cond rfl (fun hc138 => ?_) (fun hc138 => ?_)
          · have hcan : canB (gr S) y k := ⟨hyf, by rw [hgl]; have := of_decide_eq_true hc138; rw [hgl] at this; omega⟩
            have hkb : k = b := by
              rcases Nat.lt_trichotomy k b with h | h | h
              · exact absurd hcan (hb3 k h)
              · exact h
              · exact absurd hb2 (hno b h)
            repeat refine AW.seq ?_
            refine AW.region ?_
            iterate 5 refine A1 rfl ?_
            repeat refine AW.seq ?_
            refine AW.region ?_
            iterate 2 refine A1 rfl ?_
            refine RL.step (d := some 145) rfl rfl (xj_convU Tryz.underlying3 Tryz.underlying81 rfl (by omega)) ?_
            refine RL.step (d := some 146) rfl rfl (xj_oneB rfl rfl (by omega)) ?_
            refine RL.step (d := some 147) rfl rfl (xj_orB rfl rfl hyl (Low.two (by omega))) ?_
            refine A1 rfl ?_
            repeat refine AW.seq ?_
            refine AW.exit ?_
            exact ⟨(L ++ [(k : Int)], y ||| BitVec.twoPow 64 k), St.le_mkR [0, 1, 2, 3, 6] ⟨rfl, rfl, rfl, rfl, rfl, by simp; rfl, rfl, trivial⟩ ⟨rfl, rfl, rfl, congrArg (fun c => some (Ob.gro 3 c)) (ints_snoc L k).symm, trivial⟩ rfl rfl (by decide) rfl, by simp only; rw [hkb]; exact hb4, by simp; omega⟩
          · have hncan : ¬ canB (gr S) y k := fun h => by have h2 := h.2; have := of_decide_eq_false hc138; rw [hgl] at h2 this; omega
            refine AW.skip ?_
            repeat refine AW.seq ?_
            refine AW.region ?_
            iterate 3 refine A1 rfl ?_
            exact ⟨(k + 1), St.le_mk ⟨rfl, rfl, rfl, rfl, rfl, rfl, rfl, rfl, trivial⟩ ⟨rfl, rfl, rfl, rfl, trivial⟩ rfl rfl, ⟨by omega, fun j hj => by rcases Nat.lt_succ_iff_lt_or_eq.1 hj with h | rfl; exact hno j h; exact hncan⟩, by omega⟩
      · have hLe : L = lstL S := by
          have h := hI.cat
          rw [show (gr S).length - L.length = 0 by omega] at h
          simpa [leastF, lstL] using h
        repeat refine AW.seq ?_
        refine AW.exit ?_
        refine AW.weaken (St.le_pubA 4 rfl rfl) ?_
        repeat refine AW.seq ?_
        refine AW.region ?_
        iterate 2 refine A1 rfl ?_
        refine RL.step (d := some 150) rfl rfl (xj_call Tryz.call48 (rof_spec S hS hV L (by rw [hLe]; exact hperm)) rfl) ?_
        iterate 4 refine A1 rfl ?_
        repeat refine AW.seq ?_
        refine AW.ret ?_
        exact ⟨_, _, rfl, rfl, ⟨cellOk1 ⟨_, Tryz.underlying29, rfl⟩ sz29 rfl rfl rfl, trivial⟩, by rw [if_pos h0, ← hLe]; simp [tk_all, resOne, PV.fg2, PV.fg]; rfl⟩
end Go.Proofs.YtkalgjnhaicabaaGreat
namespace Go.Proofs.YtkalgjnhaicabaaGreat
open Go.RowKit Mk
set_option maxHeartbeats 1000000
theorem asc_len {n : Nat} : ∀ {l : List Int}, l.Pairwise (· < ·) → (∀ a ∈ l, 0 ≤ a ∧ a < n) → l.length ≤ n := by
  intro l hp hr
  have hnd : l.Nodup := hp.imp (fun h e => by omega)
  have hsub : ∀ a ∈ l, a ∈ upZ n := fun a ha => by
    obtain ⟨x, hx⟩ := Int.eq_ofNat_of_zero_le (hr a ha).1
    exact upZ_mem.2 ⟨x, by have := (hr a ha).2; omega, hx⟩
  have : (((upZ n).filter fun a => decide (a ∈ l))).Perm l := nodup_perm (List.Pairwise.sublist List.filter_sublist (upZ_nodup _)) hnd fun a => by
    rw [List.mem_filter, decide_eq_true_iff]
    exact ⟨fun h => h.2, fun h => ⟨hsub a h, h⟩⟩
  rw [← this.length_eq]
  exact Nat.le_trans (List.length_filter_le _ _) (by rw [upZ_len]; exact Nat.le_refl _)
theorem nm_size (p : UInt8) (i : Nat) : (nm p i).size = 2 := by
  unfold nm chr
  simp [ByteArray.size_append]
  rfl
theorem made_SB {S : Sch} {most : Nat} (h : Made S most) (hm : most ≤ 8) : SB S := by
  have h1 := h.a2
  have h2 := h.r2
  have h3 := featsOk_len h.fs
  refine ⟨by omega, by omega, by omega, fun x hx => ?_, fun x hx => ?_, fun x hx => ?_⟩
  · obtain ⟨i, hi, rfl⟩ := List.getElem_of_mem hx
    rw [(h.at' i hi).1, nm_size]; decide
  · obtain ⟨i, hi, rfl⟩ := List.getElem_of_mem hx
    rw [(h.rs i hi).1, nm_size]; decide
  · obtain ⟨i, hi, rfl⟩ := List.getElem_of_mem hx
    have := asc_len (h.rs i hi).2.2.1 (h.rs i hi).2.2.2
    omega
section
variable {C : Ctx} {n : Nat} {σ : St} {dst : Option Tmp} {ty : TypeId} {ts : Array TypeId} {pos : String} {after : Array Edge} {gd : Option (Nat × Bool)}
/-- What a method leaves, if it isn't a function: for DL.rel. -/
def RM (T : TypeId) (id : Nat) (Q : PV → List PV → Prop) (s : OS) : Prop := ∃ r cs', Q r cs' ∧ s = ⟨.pv r, [(id, some (.mix T (cs'.map .pv)))], []⟩
theorem relM {f : FuncId} {xs : Array Operand} {ps : List PV} {T : TypeId} {id : Nat} {cs : List PV} {Q : PV → List PV → Prop} (hc : CallOk C.P f) (hf : FnM C.P f T cs ps Q) (hargs : xs.toList.map (σ.ev n) = .ptr id 0 :: ps.map .pv) (ho : σ.ob id = some (.mix T (cs.map .pv))) :
    OJ C n ⟨dst, .call { callee := .value (.func f), args := xs, argTypes := ts }, ty, pos, after, gd⟩ (fun τ' => ∃ s, RM T id Q s ∧ s.wr.map (·.1) = [id] ∧ s.nw = [] ∧ τ' = σ.app dst s) σ :=
  oj_callM hc hf hargs ho fun r cs' h => ⟨_, ⟨r, cs', h, rfl⟩, rfl, rfl, rfl⟩
end
/-- From a contract on plain values to a call. -/
theorem fn_calls {P : Program} {f : FuncId} {args : List PV} {us : List Value} (h : FnP P f args (· = .bool true)) (w : World) (hrel : RelPL w (fun b => b < w.heap.size) args us) :
    Calls P f us.toArray w fun e w' => e = .returned (.bool true) ∧ Below w.heap.size w w' :=
  (h w _ us (fun _ hb => hb) hrel).mono fun _ _ ⟨u, v, e, hv, hb, hr⟩ => by
    subst hv
    simp only [RelP] at hr
    subst hr
    exact ⟨e, hb⟩
end Go.Proofs.YtkalgjnhaicabaaGreat
namespace Go.Proofs.YtkalgjnhaicabaaGreat
open Go.RowKit Mk
set_option maxRecDepth 100000
set_option maxHeartbeats 4000000
theorem FnM.fg2 {P : Program} {f : FuncId} {T : TypeId} {cs args : List PV} {Q : PV → List PV → Prop} (h : FnM P f T cs args (fun v c => Q v.fg2 c)) : FnM P f T cs args Q :=
  fun w m R us h1 h2 => (h w m R us h1 h2).mono fun _ _ ⟨u, v, ob', m', R', e, ⟨r, cs', hv, ho, q⟩, _, hob, hr, hrel⟩ => ⟨u, .pv r.fg2, ob', m', R', e, ⟨r.fg2, cs', rfl, ho, q⟩, rfl, hob, hr, by subst hv; simp only [Rel] at hrel ⊢; exact hrel.fg2⟩
theorem mkOrder_spec (L : List Int) (k : Nat) (hL : L.length ≤ 600) (hk : k ≤ L.length) (S : Sch) (hS : SB S) (h0 : checkE S = 0) :
    FnM Tryz.prog 17 66 (srcC L k) [schP S] (fun v c => (∃ q : List Int, q.Perm (upZ S.attrs.length) ∧ v = ordP (ordL S q)) ∧ ∃ k', k' ≤ L.length ∧ c = srcC L k') := by
  refine FnM.ofC (rt := 29) (k := 1) Tryz.func17 rfl Tryz.ntmps17 (by simp) rfl (by simp) ⟨_, Tryz.underlying29, rfl⟩ sz29 fun m0 w0 F R0 => ?_
  have hV := valid_of h0
  have hn12 := hV.n2
  have hn1 := hV.n1
  repeat refine AW.seq ?_
  refine AW.region ?_
  iterate 2 refine A1 rfl ?_
  repeat refine AW.seq ?_
  refine AW.draw follows [[], [], [], [2], [3, 2], [4, 1, 3, 2], [5, 0, 4, 1, 3, 2], [6, 5, 0, 4, 1, 3, 2], [7, 6, 5, 0, 4, 1, 3, 2], [7, 6, 5, 0, 4, 1, 3, 2], [], [8, 10, 7, 6, 5, 0, 4, 1, 3, 2], [11, 9, 7, 6, 5, 0, 4, 1, 3, 2, 8, 10]] [0, 1, 2, 3, 4, 10, 5, 6, 7, 8, 9, 11, 12] (by kernel_rfl) (by kernel_rfl) ?_
  iterate 6 refine D1 rfl rfl ?_
  refine DL.rel (RM 66 big (fun v c => (∃ q : List Int, q.Perm (upZ S.attrs.length) ∧ v = pints q) ∧ ∃ k', k' ≤ L.length ∧ c = srcC L k')) [big] [] [big] rfl rfl rfl (fun τ h => relM Tryz.call14 (shuffle_spec L k S.attrs.length hL hk hn1 (by omega)) (h.args.trans rfl) ((h.o 0 _ rfl).trans rfl)) rfl (by kernel_rfl) (by kernel_rfl) (by kernel_rfl) ?_
  rintro _ ⟨_, _, ⟨⟨q, hq, rfl⟩, k2, hk2, rfl⟩, rfl⟩ _ _
  have hql : q.length = S.attrs.length := by rw [hq.length_eq, upZ_len]
  have hofv : ofV S q = .tup [ordP (ordL S q), .int .i64 0] := by unfold ofV; rw [perm_ofE h0 hq, if_pos rfl]
  have hof := rOf_spec S hS q (by omega)
  rw [hofv] at hof
  refine DL.step (d := some 14) [] rfl rfl rfl (fun τ h => xj_call Tryz.call16 hof (h.argsP rfl)) rfl (by kernel_rfl) ?_
  iterate 5 refine D1 rfl rfl ?_
  refine ⟨by kernel_rfl, ?_⟩
  repeat refine AW.seq ?_
  refine AW.region ?_
  iterate 2 refine A1 rfl ?_
  repeat refine AW.seq ?_
  refine AW.ret ?_
  exact ⟨1, _, [pints (ordL S q)], srcC L k2, rfl, rfl, rfl, rfl, rfl, ⟨q, hq, rfl⟩, k2, hk2, rfl⟩
theorem mkChain_spec (L : List Int) (k : Nat) (hL : L.length ≤ 600) (hk : k ≤ L.length) (S : Sch) (hn1 : 1 ≤ S.attrs.length) (hn2 : S.attrs.length ≤ 1000) :
    FnM Tryz.prog 18 66 (srcC L k) [schP S] (fun v c => (∃ q P : List Int, IsChain S.attrs.length q P ∧ v = ordP P) ∧ ∃ k', k' ≤ L.length ∧ c = srcC L k') := by
  refine FnM.fg2 (FnM.ofC (rt := 29) (k := 1) Tryz.func18 rfl Tryz.ntmps18 (by simp) rfl (by simp) ⟨_, Tryz.underlying29, rfl⟩ sz29 fun m0 w0 F R0 => ?_)
  repeat refine AW.seq ?_
  refine AW.region ?_
  iterate 2 refine A1 rfl ?_
  repeat refine AW.seq ?_
  refine AW.region ?_
  iterate 4 refine A1 rfl ?_
  refine RL.call rfl (oj_callM Tryz.call14 (shuffle_spec L k S.attrs.length hL hk hn1 hn2) rfl rfl ?_)
  rintro _ _ ⟨⟨q, hq, rfl⟩, k1, hk1, rfl⟩
  have hql : q.length = S.attrs.length := by rw [hq.length_eq, upZ_len]
  refine A1 rfl ?_
  repeat refine AW.seq ?_
  refine AW.region ?_
  iterate 2 refine A1 rfl ?_
  refine RL.step (d := some 16) rfl rfl (xj_make (zs := [.int .i64 0]) 2 q.length el22 rfl rfl rfl rfl rfl (by omega) rfl) ?_
  iterate 3 refine A1 rfl ?_
  repeat refine AW.seq ?_
  refine AW.region ?_
  iterate 3 refine A1 rfl ?_
  repeat refine AW.seq ?_
  refine AW.block ?_
  repeat refine AW.seq ?_
  refine AW.loop (st := fun x_0 : Nat × List Int => mkS [(4, .ptr 1 0), (5, .pv (pints q)), (6, .ptr 3 0), (18, .pv (pints q)), (19, .pv (.int .i64 q.length)), (20, .pv (.int .i64 x_0.1))] [(big, srcO L k1), (1, .mix 29 [.pv (.sl (some true) 0 [])]), (2, intsO x_0.2), (3, .mix 29 [.osl 2 1 q.length])] 4)
    (I := fun x_0 => x_0.1 ≤ q.length ∧ ChInv q x_0.2 S.attrs.length x_0.1) (μ := fun x_0 => q.length - x_0.1) (x0 := (0, List.replicate q.length 0)) (St.le_mk ⟨rfl, rfl, rfl, rfl, rfl, rfl, trivial⟩ ⟨rfl, rfl, congrArg (fun c => some (Ob.cells 3 c)) ((mkZ_one (.int .i64 0) (q.length * 1)).trans (by simp)), rfl, trivial⟩ rfl rfl) (⟨Nat.zero_le _, by simp [hql], fun j _ h => absurd h (Nat.not_lt_zero _)⟩) ?_
  rintro ⟨i, P⟩ ⟨hi, hC⟩
  try simp only at hi hC ⊢
  repeat refine AW.seq ?_
  refine AW.region ?_
  refine A1 rfl ?_
  repeat refine AW.seq ?_
  refine AW.condP rfl (fun hc21 => ?_) (fun hc21 => ?_)
  · have hil : i < q.length := by omega
    have hv := pints_at hil
    have hne := pints_ne hil
    obtain ⟨a, ha, hqa⟩ := upZ_mem.1 (hq.mem_iff.1 (List.getElem_mem hil))
    have hPl := hC.1
    refine AW.skip ?_
    repeat refine AW.seq ?_
    refine AW.block ?_
    repeat refine AW.seq ?_
    refine AW.region ?_
    iterate 2 refine A1 rfl ?_
    first | refine A2 rfl (by assumption) ?_ | refine A1 rfl ?_
    iterate 2 refine A1 rfl ?_
    repeat refine AW.seq ?_
    refine AW.region ?_
    iterate 3 refine A1 rfl ?_
    refine RL.step (d := some 28) rfl rfl (xj_indexAddrO a Tryz.underlying22 sz3 rfl rfl rfl hqa (by omega)) ?_
    refine A1 rfl ?_
    repeat refine AW.seq ?_
    refine AW.region ?_
    iterate 2 refine A1 rfl ?_
    repeat refine AW.seq ?_
    refine AW.condP rfl (fun hc30 => ?_) (fun hc30 => ?_)
    · have hi1 : i - 1 < q.length := by omega
      have hv1 : (intsP q)[(i - 1) * 1]? = some (.int .i64 q[i - 1]) := pints_at hi1
      repeat refine AW.seq ?_
      refine AW.draw follows [[], [0], [], [], [], [4], [5, 3, 4], [6, 5, 3, 4], [7, 6, 5, 4, 3, 2, 1, 0], [8, 7, 6, 5, 4, 3, 2, 1, 0]] [0, 1, 2, 3, 4, 5, 6, 7, 8, 9] (by kernel_rfl) (by kernel_rfl) ?_
      iterate 6 refine D1 rfl rfl ?_
      refine DL.step (d := some 37) [] rfl rfl rfl (fun τ h => xj_indexAddr (i - 1) Tryz.underlying22 sz3 ((h.e 0 _ rfl).trans rfl) ((h.e 1 _ rfl).trans rfl) (by omega) hi1 (pints_ne hi1)) rfl (by kernel_rfl) ?_
      first | refine D2 rfl rfl (by assumption) ?_ | refine D1 rfl rfl ?_
      refine DL.step (d := some 39) [_] rfl rfl rfl (fun τ h => xj_indexAddrO a Tryz.underlying22 sz3 ((h.e 0 _ rfl).trans rfl) ((h.o 0 _ rfl).trans rfl) ((h.e 1 _ rfl).trans rfl) hqa (by omega)) rfl (by kernel_rfl) ?_
      refine D1 rfl rfl ?_
      refine ⟨by kernel_rfl, ?_⟩
      repeat refine AW.seq ?_
      refine AW.region ?_
      iterate 2 refine A1 rfl ?_
      exact ⟨(i + 1, P.set a q[i - 1]), St.le_mk ⟨rfl, rfl, rfl, rfl, rfl, rfl, trivial⟩ ⟨rfl, rfl, congrArg (fun c => some (Ob.cells 3 c)) (by rw [Nat.mul_one]; simp [List.map_set]), rfl, trivial⟩ rfl rfl, ⟨by simp only; omega, hC.next hq hil ha hqa (by rw [if_neg (by omega), getD_eq hi1])⟩, by simp only; omega⟩
    · refine AW.skip ?_
      repeat refine AW.seq ?_
      refine AW.region ?_
      iterate 2 refine A1 rfl ?_
      exact ⟨(i + 1, P.set a (-1)), St.le_mk ⟨rfl, rfl, rfl, rfl, rfl, rfl, trivial⟩ ⟨rfl, rfl, congrArg (fun c => some (Ob.cells 3 c)) (by rw [Nat.mul_one]; simp [List.map_set]), rfl, trivial⟩ rfl rfl, ⟨by simp only; omega, hC.next hq hil ha hqa (by rw [if_pos (by omega)])⟩, by simp only; omega⟩
  · have hch := hC.last hq (by omega)
    repeat refine AW.seq ?_
    refine AW.exit ?_
    refine AW.weaken (St.le_pubA 2 rfl rfl) ?_
    repeat refine AW.seq ?_
    refine AW.region ?_
    iterate 2 refine A1 rfl ?_
    repeat refine AW.seq ?_
    refine AW.ret ?_
    exact ⟨1, _, [.sl (some false) q.length (intsP P)], srcC L k1, rfl, rfl, rfl, rfl, rfl, ⟨q, P, hch, by show PV.agg [.sl none q.length (intsP P)] = _; rw [ordP, pints, hch.len, hql]⟩, k1, hk1, rfl⟩
end Go.Proofs.YtkalgjnhaicabaaGreat
namespace Go.Proofs.YtkalgjnhaicabaaGreat
open Go.RowKit
section
variable {C : Ctx} {n : Nat} {σ : St} {dst : Option Tmp} {ty t t' : TypeId} {pos : String} {after : Array Edge} {gd : Option (Nat × Bool)} {x y : Operand}
/-- append onto nil: of whatever source. -/
theorem xj_append0G {e : TypeId} {z : Value} {size bytes j : Nat} {news : List PV} (id' : Nat) (he : ElemIs C.P t e z size bytes) (hs : σ.ev n x = .pv (.sl (some true) 0 []))
    (hsrc : SrcIs n σ y j news) (hl : news.length = j * size) (hlf : ∀ c ∈ news, c.leaf = true) (hb : j ≤ 1000000000) (hid : σ.av id' = true) :
    XJ C n ⟨dst, .call { callee := .builtin .append, args := #[x, y], argTypes := #[t, t] }, ty, pos, after, gd⟩ σ ⟨.gsl id' size j, [(id', some (.gro e news))], [id']⟩ := by
  rintro a w Q ⟨m, R, hw⟩
  have hx := hw.pv hs
  simp only [RelP] at hx
  obtain ⟨A0, c0, hev, _, _, hn, hc0, _⟩ := hx
  have hA0 : A0 = none := by cases A0; rfl; have := hn true rfl; simp at this
  subst hA0
  rw [hc0 trivial] at hev
  obtain ⟨A, c2, us, hev2, hr2, hrow⟩ := hsrc.row hw
  rcases Nat.eq_zero_or_pos j with rfl | hj
  · obtain rfl : news = [] := List.eq_nil_of_length_eq_zero (by simpa using hl)
    obtain ⟨i, hi, _⟩ := info_parts he.info
    have hrun : (Builtin.append_ #[t, t] ty #[.slice none 0 0, .slice A 0 c2]).run C.P w = .ok (.slice none 0 0) w := by
      cases A <;> simp [Builtin.append_, run_underlying he.u, sizeOf, typeInfo, hi, Builtin.lenOf, Builtin.firstCells, loadCells, loadCellsFrom]
    unfold Oper.wp execOp
    simp only [resolve, invoke, builtin, Sem.run_bind, Sem.run_pure, Result.andThen_ok, List.map_toArray, List.map_cons, List.map_nil, hev, hev2, hrun]
    obtain ⟨h, hmn⟩ := hw.gro0 hid e
    refine ⟨_, rfl, m, R, ?_⟩
    rw [St.app_new]
    refine SW.put h dst ?_
    exact nil_gsl (by simp only [RelP]; exact ⟨none, 0, rfl, Nat.le_refl _, by simp [maxLen], (fun _ e => by cases e; rfl), (fun _ => rfl), fun e => absurd rfl e⟩) hmn (by simp [avL])
  · have hnl : 0 < news.length := by rw [hl]; exact Nat.mul_pos hj he.pos
    have hne : news ≠ [] := List.length_pos_iff.1 hnl
    refine wp_appS x y t rfl 0 e z size bytes he.u he.info he.zs he.pos he.by_ _ 0 j c2 A _ us hev hev2 (World.ownsRow_nil w 0 e size) hrow (by rw [hr2.length, hl]) (leafP_cells hr2 hlf) (by omega) (Nat.zero_le _) ?_
    intro A' c' w' hown' hgr hat
    simp only [Nat.zero_add, List.nil_append] at hown' hat ⊢
    rcases hown'.2 with ⟨hv, h0⟩ | ⟨g, cap, cur, hv, _, hg, hkc', hcm', hcs', htk⟩
    · omega
    · simp only [Value.slice.injEq] at hv
      obtain ⟨rfl, -, rfl⟩ := hv
      have gge : w.heap.size ≤ g := by
        rcases hat with h | ⟨g', h, hle⟩
        · simp [Value.ownBlock] at h
        · simp only [Value.ownBlock, Option.some.injEq] at h
          subst h; exact hle
      refine ⟨_, rfl, upd m id' (some (g, cur.size)), R, ?_⟩
      rw [St.app_new]
      refine SW.put (hw.fresh hid hg hgr (fun q hq => by simp [Value.ownBlock] at hq) (fun h => by have := hw.hr.rsz _ h; omega) (fun i b N hi e => by have := (hw.hr.own i b N hi).1; omega) (.inr (by have := hw.hr.frame.size; omega)) (.gro e news) ?_ (gro_real hne)) dst ?_
      · intro m' av' hR _ _
        refine ⟨cur, hg, rfl, ?_, ?_⟩
        · rw [hcs', ← hr2.length, hown'.1]; exact Nat.mul_le_mul_right _ hkc'
        · rw [← hr2.length, hown'.1, htk]
          exact hr2.mono hR
      · simp only [Rel]
        refine ⟨by simp [avL], _, c', rfl, hkc', hcm', fun h => by omega, fun _ b N e => ?_⟩
        rw [upd_same] at e
        cases e
        exact ⟨rfl, hcs'⟩
end
/-- A growing slice in a cell of a variable, if it is not empty, is a slice of the call's own. -/
def St.ownC (σ : St) (pid j id sz k : Nat) (T T' : TypeId) (cs : List PV) (vs : List V) : St := ⟨σ.sl, obL [(pid, some (.mix T' (vs.set j (.osl id sz k)))), (id, some (.cells T cs))] σ.ob, σ.av⟩
theorem RelL.setG {w : World} {m : Gm} {av : Av} {R : Nat → Prop} : ∀ {ps : List V} {us : List Value} (i : Nat) {p q : V}, RelL w m av R ps us → ps[i]? = some p → (∀ u, Rel w m av R p u → Rel w m av R q u) → RelL w m av R (ps.set i q) us
  | [], _, n, _, _, h, hp, _ => by simp at hp
  | c :: cs, _, 0, _, _, h, hp, k => by
    simp only [RelL] at h
    obtain ⟨u, xs, rfl, h1, h2⟩ := h
    simp at hp; subst hp
    simp only [List.set_cons_zero, RelL]
    exact ⟨u, xs, rfl, k u h1, h2⟩
  | c :: cs, _, n + 1, _, _, h, hp, k => by
    simp only [RelL] at h
    obtain ⟨u, xs, rfl, h1, h2⟩ := h
    simp only [List.set_cons_succ, RelL]
    exact ⟨u, xs, rfl, h1, RelL.setG n h2 (by simpa using hp) k⟩
theorem St.le_ownC {σ : St} {id sz k : Nat} {T T' : TypeId} {cs : List PV} {vs : List V} (pid j : Nat) (ht : σ.ob pid = some (.mix T' vs)) (hj : vs[j]? = some (.gsl id sz k)) (ho : σ.ob id = some (.gro T cs)) (hn : 0 < k) (hc : cs ≠ []) : σ.le (σ.ownC pid j id sz k T T' cs vs) := by
  rintro C nn a w ⟨m, R, hw⟩
  have hne : pid ≠ id := fun e => by rw [e, ho] at ht; cases ht
  have hs : ∀ i, i ≠ pid → i ≠ id → obL [(pid, some (.mix T' (vs.set j (.osl id sz k)))), (id, some (Ob.cells T cs))] σ.ob i = σ.ob i := fun i h1 h2 => obL_get _ _ _ (by simp; exact ⟨h1, h2⟩)
  have hi : obL [(pid, some (.mix T' (vs.set j (.osl id sz k)))), (id, some (Ob.cells T cs))] σ.ob id = some (.cells T cs) := by
    have : Nat.beq id pid = false := by cases hb : Nat.beq id pid; rfl; exact absurd (Nat.eq_of_beq_eq_true hb).symm hne
    simp [obL, this]
  have hp : obL [(pid, some (.mix T' (vs.set j (.osl id sz k)))), (id, some (Ob.cells T cs))] σ.ob pid = some (.mix T' (vs.set j (.osl id sz k))) := by simp [obL]
  refine ⟨m, R, ⟨?_, ?_, ?_, hw.hr.inj, hw.hr.own, hw.hr.rsz, hw.hr.rfr, hw.hr.r0, hw.hr.frame, hw.hr.keep, hw.hr.res⟩, hw.df, hw.sz, hw.sl⟩
  · intro i
    show _ = liveO (obL _ _ _)
    by_cases e : i = id
    · subst e; rw [hw.hr.dom, ho, hi]; exact gro_real hc
    · by_cases e2 : i = pid
      · subst e2; rw [hw.hr.dom, ht, hp]; rfl
      · rw [hs i e2 e]; exact hw.hr.dom i
  · intro i h
    show obL _ _ _ = none
    by_cases e : i = id
    · subst e; have := hw.hr.free i h; rw [ho] at this; cases this
    · by_cases e2 : i = pid
      · subst e2; have := hw.hr.free i h; rw [ht] at this; cases this
      · rw [hs i e2 e]; exact hw.hr.free i h
  · intro i o b N h1 h2
    have h1' : obL [(pid, some (.mix T' (vs.set j (.osl id sz k)))), (id, some (Ob.cells T cs))] σ.ob i = some o := h1
    by_cases e : i = id
    · subst e
      rw [hi] at h1'
      cases h1'
      have q := hw.hr.obj i _ b N ho h2
      exact q
    · by_cases e2 : i = pid
      · subst e2
        rw [hp] at h1'
        cases h1'
        obtain ⟨arr, q1, q2, q3, q4⟩ := hw.hr.obj i _ b N ht h2
        refine ⟨arr, q1, q2, by rw [List.length_set]; exact q3, ?_⟩
        rw [List.length_set]
        refine RelL.setG j q4 hj fun u hu => ?_
        simp only [Rel] at hu ⊢
        obtain ⟨h0, A, c, he, h1, h2, h3, h4⟩ := hu
        refine ⟨h0, fun b N hm => ⟨c, ?_, h1, h2, (h4 hn b N hm).2⟩⟩
        rw [he, (h4 hn b N hm).1]
      · rw [hs i e2 e] at h1'
        exact hw.hr.obj i o b N h1' h2
end Go.Proofs.YtkalgjnhaicabaaGreat
