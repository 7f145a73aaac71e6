/-
  Texts of ours, joined: M4, O1, S1, S2, S3, S4, S5, R5, OSp, O2, So, O3, O4, B1, Gr, B2, B3, B4, P1, P2, P3, R8, R9, P4, W1, LA, R10, E22, E23, M5, M6, YA, YB, Leaf, Src, Sch, Schema, Check. No statement of the program is proved here.
-/
import Derived.MapKept
import Derived.Carry
import Derived.Laws.BytesArg
import Derived.Lib.ConvBytes
import Derived.Test.YtopblgabadljdaaAe2
namespace Go.Proofs.Ytopblgabadljdaa
open Go.RowKit Mk
set_option maxRecDepth 100000
theorem pick_specF (L : List Int) (k : Nat) (l : List Int) (hL : L.length ≤ 600) (hk : k ≤ L.length) (hl : l ≠ []) (hl2 : l.length ≤ 1000) : ∃ x ∈ l, FnM Try.prog 46 66 (srcC L k) [pints l] (fun v c => v = .int .i64 x ∧ c = srcC L (sNk L k)) := by
  have hpos : 0 < l.length := List.length_pos_iff.2 hl
  have hb := sNv_bd L k l.length (by omega)
  obtain ⟨j, hj⟩ := Int.eq_ofNat_of_zero_le hb.1
  have hjl : j < l.length := by omega
  refine ⟨l[j], List.getElem_mem hjl, ?_⟩
  refine FnM.of Try.func46 rfl Try.ntmps46 (by simp) rfl (by simp) fun m0 w0 F R0 => ?_
  have hv := pints_at hjl
  have hne := pints_ne hjl
  repeat refine AW.seq ?_
  refine AW.region ?_
  refine A1 rfl ?_
  repeat refine AW.seq ?_
  refine AW.region ?_
  iterate 4 refine A1 rfl ?_
  refine RL.step (d := some 9) rfl rfl (xj_callM Try.call25 (n_spec L k l.length hL hk (by omega) (by omega)) rfl rfl) ?_
  refine RL.step (d := some 10) rfl rfl (xj_indexAddr j Try.underlying22 sz3 rfl rfl hj hjl hne) ?_
  first | refine A2 rfl (by assumption) ?_ | refine A1 rfl ?_
  refine A1 rfl ?_
  refine AW.ret ?_
  exact ⟨_, srcC L (sNk L k), rfl, rfl, rfl, rfl⟩
theorem sNk_le {L : List Int} {k : Nat} (h : k ≤ L.length) : sNk L k ≤ L.length := by unfold sNk; split <;> omega
/-- The cells of lists of attributes, relations, features. -/
def attrsC (l : List (ByteArray × Int)) : List PV := l.flatMap fun a => [.str a.1, .int .i64 a.2]
def relsC (l : List (ByteArray × List Int)) : List PV := l.flatMap fun r => [.str r.1, pints r.2]
def featsC (l : List (Int × Int × Int)) : List PV := l.flatMap fun f => [.int .i64 f.1, .int .i64 f.2.1, .int .i64 f.2.2]
/-- A schema as a value. -/
abbrev schC (S : Sch) : List PV := [.sl none S.attrs.length (attrsC S.attrs), .sl none S.rels.length (relsC S.rels), .sl none S.feats.length (featsC S.feats), .int .i64 S.label]
abbrev schP (S : Sch) : PV := .agg (schC S)
theorem flat_len {α β : Type} (f : α → List β) (n : Nat) (h : ∀ a, (f a).length = n) : ∀ l : List α, (l.flatMap f).length = l.length * n
  | [] => by simp
  | a :: l => by rw [List.flatMap_cons, List.length_append, h, flat_len f n h l, List.length_cons, Nat.succ_mul, Nat.add_comm]
theorem flat_at {α β : Type} (f : α → List β) (n : Nat) (h : ∀ a, (f a).length = n) : ∀ (l : List α) (k j : Nat) (hk : k < l.length), j < n → (l.flatMap f)[k * n + j]? = (f l[k])[j]?
  | [], _, _, hk, _ => by simp at hk
  | a :: l, 0, j, _, hj => by
    rw [List.flatMap_cons, Nat.zero_mul, Nat.zero_add, List.getElem?_append_left (by rw [h]; exact hj)]
    rfl
  | a :: l, k + 1, j, hk, hj => by
    rw [List.flatMap_cons, List.getElem?_append_right (by rw [h, Nat.succ_mul]; omega), h, show (k + 1) * n + j - n = k * n + j by rw [Nat.succ_mul]; omega]
    rw [flat_at f n h l k j (by simpa using hk) hj]
    simp
theorem attrsC_len (l : List (ByteArray × Int)) : (attrsC l).length = l.length * 2 := flat_len _ 2 (fun _ => rfl) l
theorem relsC_len (l : List (ByteArray × List Int)) : (relsC l).length = l.length * 2 := flat_len _ 2 (fun _ => rfl) l
theorem featsC_len (l : List (Int × Int × Int)) : (featsC l).length = l.length * 3 := flat_len _ 3 (fun _ => rfl) l
theorem attrsC_snoc (l : List (ByteArray × Int)) (x : ByteArray × Int) : attrsC (l ++ [x]) = attrsC l ++ [.str x.1, .int .i64 x.2] := by simp [attrsC]
theorem relsC_snoc (l : List (ByteArray × List Int)) (x : ByteArray × List Int) : relsC (l ++ [x]) = relsC l ++ [.str x.1, pints x.2] := by simp [relsC]
theorem featsC_snoc (l : List (Int × Int × Int)) (x : Int × Int × Int) : featsC (l ++ [x]) = featsC l ++ [.int .i64 x.1, .int .i64 x.2.1, .int .i64 x.2.2] := by simp [featsC]
theorem ints_snoc (l : List Int) (x : Int) : intsP (l ++ [x]) = intsP l ++ [.int .i64 x] := by simp
abbrev zSch : Ob := .mix 28 [.pv (.sl (some true) 0 []), .pv (.sl (some true) 0 []), .pv (.sl (some true) 0 []), .pv (.int .i64 0)]
abbrev schO (a r f : Nat) (lb : Int) : Ob := .mix 28 [.gsl 2 2 a, .gsl 3 2 r, .gsl 4 3 f, .pv (.int .i64 lb)]
theorem flat_row {α β : Type} (f : α → List β) (n : Nat) (h : ∀ a, (f a).length = n) : ∀ (l : List α) (k : Nat) (hk : k < l.length), ((l.flatMap f).drop (k * n)).take n = f l[k]
  | [], _, hk => by simp at hk
  | a :: l, 0, _ => by
    rw [List.flatMap_cons, Nat.zero_mul, List.drop_zero, List.take_append_of_le_length (by rw [h]; exact Nat.le_refl _), List.take_of_length_le (by rw [h]; exact Nat.le_refl _)]
    rfl
  | a :: l, k + 1, hk => by
    rw [List.flatMap_cons, List.drop_append, List.drop_of_length_le (by rw [h, Nat.succ_mul]; omega), List.nil_append, h, show (k + 1) * n - n = k * n by rw [Nat.succ_mul]; omega]
    rw [flat_row f n h l k (by simpa using hk)]
    simp
set_option maxHeartbeats 4000000 in
theorem schema_spec (L : List Int) (k0 most : Nat) (hL : L.length ≤ 600) (hk0 : k0 ≤ L.length) (hm1 : 1 ≤ most) (hm2 : most ≤ 8) : FnM Try.prog 23 66 (srcC L k0) [.int .i64 most] (fun v c => (∃ S, Made S most ∧ v = schP S) ∧ ∃ k', k' ≤ L.length ∧ c = srcC L k') := by
  refine FnM.ofC (rt := 28) (k := 4) Try.func23 rfl Try.ntmps23 (by simp) rfl (by simp) ⟨_, Try.underlying28, rfl⟩ sz28 fun m0 w0 F R0 => ?_
  have hb := sNv_bd L k0 3 (by omega)
  obtain ⟨nn, hnn⟩ := Int.eq_ofNat_of_zero_le (show 0 ≤ 1 + sNv L k0 3 by omega)
  have hk1 := sNk_le hk0
  generalize hke : sNk L k0 = k1 at hk1
  repeat refine AW.seq ?_
  refine AW.region ?_
  refine A1 rfl ?_
  repeat refine AW.seq ?_
  refine AW.region ?_
  iterate 3 refine A1 rfl ?_
  repeat refine AW.seq ?_
  refine AW.region ?_
  refine A1 rfl ?_
  refine RL.step (d := some 15) rfl rfl (XJ.cast (v' := .pv (.int .i64 nn)) (xj_callM Try.call16 (range_spec L k0 1 3 hL hk0 (by omega) (by omega) (by omega)) rfl rfl) (by rw [← hnn]; rfl)) ?_
  refine A1 rfl ?_
  rw [hke]
  refine AW.weaken (St.le_groC 1 0 2 2 81 rfl rfl rfl) ?_
  refine AW.weaken (St.le_groC 1 1 3 2 33 rfl rfl rfl) ?_
  refine AW.weaken (St.le_groC 1 2 4 3 83 rfl rfl rfl) ?_
  repeat refine AW.seq ?_
  refine AW.region ?_
  refine A1 rfl ?_
  refine AW.block ?_
  refine AW.loop (st := fun x : Nat × List (ByteArray × Int) × List (ByteArray × List Int) × Nat => mkS [(0, .ptr big 0), (1, .pv (.int .i64 most)), (4, .ptr 0 0), (5, .ptr 1 0), (6, .pv (.int .i64 nn)), (7, .pv (.int .i64 x.1))] [(big, srcO L x.2.2.2), (0, zSch), (1, schO x.2.1.length x.2.2.1.length 0 (-1)), (2, .gro 81 (attrsC x.2.1)), (3, .gro 33 (relsC x.2.2.1)), (4, .gro 83 [])] 5)
    (I := fun x => x.1 ≤ nn ∧ HeadOk x.2.1 x.2.2.1 most x.1 ∧ x.2.2.2 ≤ L.length) (μ := fun x => nn - x.1) (x0 := (0, [], [], k1)) (St.le_mk ⟨rfl, rfl, rfl, rfl, rfl, rfl, trivial⟩ ⟨rfl, rfl, rfl, rfl, rfl, rfl, trivial⟩ rfl rfl) ⟨Nat.zero_le _, ⟨fun j hj => by simp at hj, fun j hj => by simp at hj, fun a ha => by simp at ha, by simp, rfl, fun h => by omega⟩, hk1⟩ ?_
  rintro ⟨k, at', rs, k2⟩ ⟨hk, hhead, hk2⟩
  simp only at hk hhead hk2 ⊢
  have hal : at'.length ≤ most := hhead.2.2.2.1
  have hrl : rs.length = k := hhead.2.2.2.2.1
  have hAl := attrsC_len at'
  have hRl := relsC_len rs
  repeat refine AW.seq ?_
  refine AW.region ?_
  iterate 3 refine A1 rfl ?_
  refine AW.condP rfl (fun hc => ?_) (fun hc => ?_)
  · refine AW.skip ?_
    repeat refine AW.seq ?_
    refine AW.block ?_
    repeat refine AW.seq ?_
    refine AW.region ?_
    refine A1 rfl ?_
    refine AW.weaken (St.le_gro 8 5 1 3 rfl rfl) ?_
    repeat refine AW.seq ?_
    refine AW.region ?_
    iterate 4 refine A1 rfl ?_
    refine AW.block ?_
    refine AW.loop (st := fun x : Nat × List Int × Nat => mkS [(0, .ptr big 0), (1, .pv (.int .i64 most)), (4, .ptr 0 0), (5, .ptr 1 0), (6, .pv (.int .i64 nn)), (7, .pv (.int .i64 k)), (8, .gsl 5 1 x.2.1.length), (23, .pv (.int .i64 at'.length)), (24, .pv (.int .i64 x.1))] [(big, srcO L x.2.2), (0, zSch), (1, schO at'.length rs.length 0 (-1)), (2, .gro 81 (attrsC at')), (3, .gro 33 (relsC rs)), (4, .gro 83 []), (5, .gro 3 (intsP x.2.1))] 6)
      (I := fun x => x.1 ≤ at'.length ∧ ListOk x.2.1 x.1 ∧ x.2.2 ≤ L.length) (μ := fun x => at'.length - x.1) (x0 := (0, [], k2)) (St.le_mk ⟨rfl, rfl, rfl, rfl, rfl, rfl, rfl, rfl, rfl, trivial⟩ ⟨rfl, rfl, rfl, rfl, rfl, rfl, rfl, trivial⟩ rfl rfl) ⟨Nat.zero_le _, ⟨by simp, by simp⟩, hk2⟩ ?_
    rintro ⟨j, l, k3⟩ ⟨hj, hlok, hk3⟩
    simp only at hj hlok hk3 ⊢
    have hll := hlok.len
    repeat refine AW.seq ?_
    refine AW.region ?_
    refine A1 rfl ?_
    repeat refine AW.seq ?_
    refine AW.condP rfl (fun hc => ?_) (fun hc => ?_)
    · refine AW.skip ?_
      repeat refine AW.seq ?_
      refine AW.block ?_
      repeat refine AW.seq ?_
      refine AW.region ?_
      iterate 2 refine A1 rfl ?_
      repeat refine AW.seq ?_
      refine AW.region ?_
      refine A1 rfl ?_
      refine RL.step (d := some 28) rfl rfl (xj_callM Try.call25 (n_spec L k3 3 hL hk3 (by omega) (by omega)) rfl rfl) ?_
      refine A1 rfl ?_
      refine AW.cond rfl (fun hc => ?_) (fun hc => ?_)
      · repeat refine AW.seq ?_
        refine AW.region ?_
        iterate 5 refine A1 rfl ?_
        repeat refine AW.seq ?_
        refine AW.region ?_
        iterate 2 refine A1 rfl ?_
        exact ⟨(j + 1, l ++ [(j : Int)], sNk L k3), St.le_mkR [0, 1, 2, 3, 4, 7] ⟨rfl, rfl, rfl, rfl, rfl, rfl, by simp; rfl, rfl, rfl, trivial⟩ ⟨rfl, rfl, rfl, rfl, rfl, rfl, by rw [ints_snoc]; rfl, trivial⟩ rfl rfl (by simp) rfl, ⟨by omega, hlok.snoc, sNk_le hk3⟩, by omega⟩
      · refine AW.skip ?_
        repeat refine AW.seq ?_
        refine AW.region ?_
        iterate 2 refine A1 rfl ?_
        exact ⟨(j + 1, l, sNk L k3), St.le_mk ⟨rfl, rfl, rfl, rfl, rfl, rfl, rfl, rfl, rfl, trivial⟩ ⟨rfl, rfl, rfl, rfl, rfl, rfl, rfl, trivial⟩ rfl rfl, ⟨by omega, hlok.mono (by omega), sNk_le hk3⟩, by omega⟩
    · obtain rfl : j = at'.length := by omega
      refine AW.exit ?_
      have hb2 := sNv_bd L k3 3 (by omega)
      repeat refine AW.seq ?_
      refine AW.region ?_
      refine A1 rfl ?_
      refine RL.step (d := some 36) rfl rfl (xj_callM Try.call25 (n_spec L k3 3 hL hk3 (by omega) (by omega)) rfl rfl) ?_
      refine A1 rfl ?_
      refine AW.block ?_
      refine AW.loop (st := fun x : List (ByteArray × Int) × List Int × Int × Nat => mkS [(0, .ptr big 0), (1, .pv (.int .i64 most)), (4, .ptr 0 0), (5, .ptr 1 0), (6, .pv (.int .i64 nn)), (7, .pv (.int .i64 k)), (8, .gsl 5 1 x.2.1.length), (10, .pv (.int .i64 x.2.2.1))] [(big, srcO L x.2.2.2), (0, zSch), (1, schO x.1.length rs.length 0 (-1)), (2, .gro 81 (attrsC x.1)), (3, .gro 33 (relsC rs)), (4, .gro 83 []), (5, .gro 3 (intsP x.2.1))] 6)
        (I := fun x => MidOk at' x.1 x.2.1 most ∧ -1000 + x.1.length * (-1) ≤ x.2.2.1 ∧ x.2.2.1 ≤ 1000 ∧ x.2.2.2 ≤ L.length) (μ := fun x => most - x.1.length) (x0 := (at', l, sNv L k3 3, sNk L k3)) (St.le_mk ⟨rfl, rfl, rfl, rfl, rfl, rfl, rfl, rfl, trivial⟩ ⟨rfl, rfl, rfl, rfl, rfl, rfl, rfl, trivial⟩ rfl rfl) ⟨⟨hhead.1, hal, Nat.le_refl _, hlok, fun a h1 h2 => absurd h2 (Nat.not_lt.2 h1)⟩, by simp only; omega, by simp only; omega, sNk_le hk3⟩ ?_
      clear hlok hll hb2 hk3
      rintro ⟨at2, l, c, k3⟩ ⟨hmid, hc1, hc2, hk3⟩
      simp only at hmid hc1 hc2 hk3 ⊢
      have hal2 : at2.length ≤ most := hmid.2.1
      have hll := hmid.2.2.2.1.len
      have hAl2 := attrsC_len at2
      obtain ⟨px, hpx, hpick⟩ := pick_specF L k3 [1, 2, 2, 3] hL hk3 (by simp) (by simp)
      by_cases hcp : 0 < c
      · repeat refine AW.seq ?_
        refine AW.region ?_
        refine A1 rfl ?_
        refine RL.step (d := some 38) rfl rfl (XJ.cast (v' := .pv (.bool true)) (xj_bin rfl rfl rfl) (by simp; omega)) ?_
        iterate 12 refine A1 rfl ?_
        refine AW.condP rfl (fun hc => ?_) (fun hc => ?_)
        · refine AW.skip ?_
          repeat refine AW.seq ?_
          refine AW.block ?_
          repeat refine AW.seq ?_
          refine AW.region ?_
          iterate 7 refine A1 rfl ?_
          repeat refine AW.seq ?_
          refine AW.draw follows [[], [0], [], [2], [3, 2], [4, 3, 2], [], [], [5, 7, 6, 4, 3, 2], [8, 5, 4, 3, 2, 7, 6], [9, 8, 5, 4, 3, 2, 7, 6], [10, 1, 0, 9, 8, 5, 4, 3, 2, 7, 6], [11, 10, 9, 8, 7, 6, 5, 4, 3, 2, 1, 0], [12, 11, 10, 9, 8, 7, 6, 5, 4, 3, 2, 1, 0]] [0, 1, 2, 3, 4, 5, 6, 7, 8, 9, 10, 11, 12, 13] (by kernel_rfl) (by kernel_rfl) ?_
          iterate 5 refine D1 rfl rfl ?_
          refine DL.step (d := some 64) [] rfl rfl rfl (fun τ h => xj_call Try.call45 (letter_spec ⟨#[97]⟩ at2.length (by decide) (by omega)) (h.argsP rfl)) rfl (by kernel_rfl) ?_
          refine D1 rfl rfl ?_
          refine DL.step (d := some 66) [] rfl rfl rfl (fun τ h => xj_buildSliceP none (by simp) el22 rfl (by decide) (by decide) (h.fillS rfl rfl) rfl) rfl (by kernel_rfl) ?_
          refine DL.step (d := some 67) [_] rfl rfl rfl (fun τ h => xj_callM Try.call46 hpick (h.args.trans rfl) ((h.o 0 _ rfl).trans rfl)) rfl (by kernel_rfl) ?_
          iterate 5 refine D1 rfl rfl ?_
          refine ⟨by kernel_rfl, ?_⟩
          repeat refine AW.seq ?_
          refine AW.region ?_
          iterate 3 refine A1 rfl ?_
          refine ⟨(at2 ++ [(nm 97 at2.length, px)], l ++ [(at2.length : Int)], c - 1, sNk L k3), St.le_mkR [0, 1, 9, 3, 4, 7] ⟨rfl, rfl, rfl, rfl, rfl, rfl, by simp; rfl, rfl, trivial⟩ ⟨rfl, rfl, by simp; rfl, by rw [attrsC_snoc]; rfl, rfl, rfl, by rw [ints_snoc]; rfl, trivial⟩ rfl rfl (by simp) rfl, ⟨mid_snoc hmid (by omega) hpx, by simp only [List.length_append, List.length_singleton]; omega, by simp only; omega, sNk_le hk3⟩, ?_⟩
          simp only [List.length_append, List.length_singleton]
          omega
        · refine AW.exit ?_
          refine AW.cut (st := fun l : List Int => mkS [(0, .ptr big 0), (1, .pv (.int .i64 most)), (4, .ptr 0 0), (5, .ptr 1 0), (6, .pv (.int .i64 nn)), (7, .pv (.int .i64 k)), (8, .pv (pints l))] [(big, srcO L k3), (0, zSch), (1, schO at2.length rs.length 0 (-1)), (2, .gro 81 (attrsC at2)), (3, .gro 33 (relsC rs)), (4, .gro 83 [])] 5) (I := fun l => EndOk at' at2 l most) ?_ ?_
          · repeat refine AW.seq ?_
            refine AW.region ?_
            iterate 3 refine A1 rfl ?_
            have hfin : l.length = 0 → most ≤ at2.length := by omega
            refine AW.cond rfl (fun hc => ?_) (fun hc => ?_)
            · have hl0' : l = [] := List.eq_nil_of_length_eq_zero (by simpa using hc)
              subst hl0'
              have hf := hfin rfl
              repeat refine AW.seq ?_
              refine AW.region ?_
              refine RL.step (d := some 75) rfl rfl (xj_buildSliceP none (by simp) el22 rfl (by decide) (by decide) rfl rfl) ?_
              refine A1 rfl ?_
              exact ⟨[0], St.le_mk ⟨rfl, rfl, rfl, rfl, rfl, rfl, rfl, trivial⟩ ⟨rfl, rfl, rfl, rfl, rfl, rfl, trivial⟩ rfl rfl, ⟨hmid.1, hmid.2.1, hmid.2.2.1, ⟨by simp, by simp; omega⟩, fun a h1 h2 => absurd (hmid.2.2.2.2 a h1 h2) (by simp)⟩, by simp, by omega⟩
            · have hne : l ≠ [] := fun e => by subst e; simp at hc
              have hpos : 0 < l.length := List.length_pos_iff.2 hne
              refine AW.skip ?_
              exact ⟨l, St.le.trans (St.le_pubA 5 rfl rfl) (St.le_mk ⟨rfl, rfl, rfl, rfl, rfl, rfl, by simp [pints]; rfl, trivial⟩ ⟨rfl, rfl, rfl, rfl, rfl, rfl, trivial⟩ rfl rfl), hmid, hne, by omega⟩
          · intro l2 hend
            repeat refine AW.seq ?_
            refine AW.draw follows [[], [0], [], [2], [], [4, 3, 2], [5, 4, 3, 2], [6, 1, 0, 5, 4, 3, 2], [7, 6, 5, 4, 3, 2, 1, 0], [8, 7, 6, 5, 4, 3, 2, 1, 0]] [0, 1, 2, 3, 4, 5, 6, 7, 8, 9] (by kernel_rfl) (by kernel_rfl) ?_
            iterate 3 refine D1 rfl rfl ?_
            refine DL.step (d := some 79) [] rfl rfl rfl (fun τ h => xj_call Try.call45 (letter_spec ⟨#[114]⟩ k (by decide) (by omega)) (h.argsP rfl)) rfl (by kernel_rfl) ?_
            iterate 6 refine D1 rfl rfl ?_
            refine ⟨by kernel_rfl, ?_⟩
            repeat refine AW.seq ?_
            refine AW.region ?_
            iterate 3 refine A1 rfl ?_
            refine ⟨(k + 1, at2, rs ++ [(nm 114 k, l2)], k3), St.le_mkR [0, 1, 2, 6, 4] ⟨rfl, rfl, rfl, rfl, rfl, rfl, trivial⟩ ⟨rfl, rfl, by simp; rfl, rfl, by rw [relsC_snoc]; rfl, rfl, trivial⟩ rfl rfl (by simp) rfl, ⟨by simp only; omega, head_next hhead hend, hk3⟩, by simp only; omega⟩
      · by_cases hl0 : l.length = 0
        · repeat refine AW.seq ?_
          refine AW.region ?_
          refine A1 rfl ?_
          refine RL.step (d := some 38) rfl rfl (XJ.cast (v' := .pv (.bool false)) (xj_bin rfl rfl rfl) (by simp; omega)) ?_
          iterate 3 refine A1 rfl ?_
          refine RL.stepG (d := some 42) rfl rfl rfl (XJ.cast (v' := .pv (.bool true)) (xj_bin rfl rfl rfl) (by simp [hl0])) ?_
          iterate 8 refine A1 rfl ?_
          refine AW.condP rfl (fun hc => ?_) (fun hc => ?_)
          · refine AW.skip ?_
            repeat refine AW.seq ?_
            refine AW.block ?_
            repeat refine AW.seq ?_
            refine AW.region ?_
            iterate 7 refine A1 rfl ?_
            repeat refine AW.seq ?_
            refine AW.draw follows [[], [0], [], [2], [3, 2], [4, 3, 2], [], [], [5, 7, 6, 4, 3, 2], [8, 5, 4, 3, 2, 7, 6], [9, 8, 5, 4, 3, 2, 7, 6], [10, 1, 0, 9, 8, 5, 4, 3, 2, 7, 6], [11, 10, 9, 8, 7, 6, 5, 4, 3, 2, 1, 0], [12, 11, 10, 9, 8, 7, 6, 5, 4, 3, 2, 1, 0]] [0, 1, 2, 3, 4, 5, 6, 7, 8, 9, 10, 11, 12, 13] (by kernel_rfl) (by kernel_rfl) ?_
            iterate 5 refine D1 rfl rfl ?_
            refine DL.step (d := some 64) [] rfl rfl rfl (fun τ h => xj_call Try.call45 (letter_spec ⟨#[97]⟩ at2.length (by decide) (by omega)) (h.argsP rfl)) rfl (by kernel_rfl) ?_
            refine D1 rfl rfl ?_
            refine DL.step (d := some 66) [] rfl rfl rfl (fun τ h => xj_buildSliceP none (by simp) el22 rfl (by decide) (by decide) (h.fillS rfl rfl) rfl) rfl (by kernel_rfl) ?_
            refine DL.step (d := some 67) [_] rfl rfl rfl (fun τ h => xj_callM Try.call46 hpick (h.args.trans rfl) ((h.o 0 _ rfl).trans rfl)) rfl (by kernel_rfl) ?_
            iterate 5 refine D1 rfl rfl ?_
            refine ⟨by kernel_rfl, ?_⟩
            repeat refine AW.seq ?_
            refine AW.region ?_
            iterate 3 refine A1 rfl ?_
            refine ⟨(at2 ++ [(nm 97 at2.length, px)], l ++ [(at2.length : Int)], c - 1, sNk L k3), St.le_mkR [0, 1, 9, 3, 4, 7] ⟨rfl, rfl, rfl, rfl, rfl, rfl, by simp; rfl, rfl, trivial⟩ ⟨rfl, rfl, by simp; rfl, by rw [attrsC_snoc]; rfl, rfl, rfl, by rw [ints_snoc]; rfl, trivial⟩ rfl rfl (by simp) rfl, ⟨mid_snoc hmid (by omega) hpx, by simp only [List.length_append, List.length_singleton]; omega, by simp only; omega, sNk_le hk3⟩, ?_⟩
            simp only [List.length_append, List.length_singleton]
            omega
          · refine AW.exit ?_
            refine AW.cut (st := fun l : List Int => mkS [(0, .ptr big 0), (1, .pv (.int .i64 most)), (4, .ptr 0 0), (5, .ptr 1 0), (6, .pv (.int .i64 nn)), (7, .pv (.int .i64 k)), (8, .pv (pints l))] [(big, srcO L k3), (0, zSch), (1, schO at2.length rs.length 0 (-1)), (2, .gro 81 (attrsC at2)), (3, .gro 33 (relsC rs)), (4, .gro 83 [])] 5) (I := fun l => EndOk at' at2 l most) ?_ ?_
            · repeat refine AW.seq ?_
              refine AW.region ?_
              iterate 3 refine A1 rfl ?_
              have hfin : l.length = 0 → most ≤ at2.length := by omega
              refine AW.cond rfl (fun hc => ?_) (fun hc => ?_)
              · have hl0' : l = [] := List.eq_nil_of_length_eq_zero (by simpa using hc)
                subst hl0'
                have hf := hfin rfl
                repeat refine AW.seq ?_
                refine AW.region ?_
                refine RL.step (d := some 75) rfl rfl (xj_buildSliceP none (by simp) el22 rfl (by decide) (by decide) rfl rfl) ?_
                refine A1 rfl ?_
                exact ⟨[0], St.le_mk ⟨rfl, rfl, rfl, rfl, rfl, rfl, rfl, trivial⟩ ⟨rfl, rfl, rfl, rfl, rfl, rfl, trivial⟩ rfl rfl, ⟨hmid.1, hmid.2.1, hmid.2.2.1, ⟨by simp, by simp; omega⟩, fun a h1 h2 => absurd (hmid.2.2.2.2 a h1 h2) (by simp)⟩, by simp, by omega⟩
              · have hne : l ≠ [] := fun e => by subst e; simp at hc
                have hpos : 0 < l.length := List.length_pos_iff.2 hne
                refine AW.skip ?_
                exact ⟨l, St.le.trans (St.le_pubA 5 rfl rfl) (St.le_mk ⟨rfl, rfl, rfl, rfl, rfl, rfl, by simp [pints]; rfl, trivial⟩ ⟨rfl, rfl, rfl, rfl, rfl, rfl, trivial⟩ rfl rfl), hmid, hne, by omega⟩
            · intro l2 hend
              repeat refine AW.seq ?_
              refine AW.draw follows [[], [0], [], [2], [], [4, 3, 2], [5, 4, 3, 2], [6, 1, 0, 5, 4, 3, 2], [7, 6, 5, 4, 3, 2, 1, 0], [8, 7, 6, 5, 4, 3, 2, 1, 0]] [0, 1, 2, 3, 4, 5, 6, 7, 8, 9] (by kernel_rfl) (by kernel_rfl) ?_
              iterate 3 refine D1 rfl rfl ?_
              refine DL.step (d := some 79) [] rfl rfl rfl (fun τ h => xj_call Try.call45 (letter_spec ⟨#[114]⟩ k (by decide) (by omega)) (h.argsP rfl)) rfl (by kernel_rfl) ?_
              iterate 6 refine D1 rfl rfl ?_
              refine ⟨by kernel_rfl, ?_⟩
              repeat refine AW.seq ?_
              refine AW.region ?_
              iterate 3 refine A1 rfl ?_
              refine ⟨(k + 1, at2, rs ++ [(nm 114 k, l2)], k3), St.le_mkR [0, 1, 2, 6, 4] ⟨rfl, rfl, rfl, rfl, rfl, rfl, trivial⟩ ⟨rfl, rfl, by simp; rfl, rfl, by rw [relsC_snoc]; rfl, rfl, trivial⟩ rfl rfl (by simp) rfl, ⟨by simp only; omega, head_next hhead hend, hk3⟩, by simp only; omega⟩
        · have hlb : ((l.length : Int) == 0) = false := by rw [beq_eq_false_iff_ne]; omega
          repeat refine AW.seq ?_
          refine AW.region ?_
          refine A1 rfl ?_
          refine RL.step (d := some 38) rfl rfl (XJ.cast (v' := .pv (.bool false)) (xj_bin rfl rfl rfl) (by simp; omega)) ?_
          iterate 3 refine A1 rfl ?_
          refine RL.stepG (d := some 42) rfl rfl rfl (XJ.cast (v' := .pv (.bool false)) (xj_bin rfl rfl rfl) (by rw [hlb])) ?_
          iterate 8 refine A1 rfl ?_
          refine AW.cond rfl (fun hc => absurd hc (by simp)) (fun hc => ?_)
          refine AW.exit ?_
          refine AW.cut (st := fun l : List Int => mkS [(0, .ptr big 0), (1, .pv (.int .i64 most)), (4, .ptr 0 0), (5, .ptr 1 0), (6, .pv (.int .i64 nn)), (7, .pv (.int .i64 k)), (8, .pv (pints l))] [(big, srcO L k3), (0, zSch), (1, schO at2.length rs.length 0 (-1)), (2, .gro 81 (attrsC at2)), (3, .gro 33 (relsC rs)), (4, .gro 83 [])] 5) (I := fun l => EndOk at' at2 l most) ?_ ?_
          · repeat refine AW.seq ?_
            refine AW.region ?_
            iterate 3 refine A1 rfl ?_
            have hfin : l.length = 0 → most ≤ at2.length := by omega
            refine AW.cond rfl (fun hc => ?_) (fun hc => ?_)
            · have hl0' : l = [] := List.eq_nil_of_length_eq_zero (by simpa using hc)
              subst hl0'
              have hf := hfin rfl
              repeat refine AW.seq ?_
              refine AW.region ?_
              refine RL.step (d := some 75) rfl rfl (xj_buildSliceP none (by simp) el22 rfl (by decide) (by decide) rfl rfl) ?_
              refine A1 rfl ?_
              exact ⟨[0], St.le_mk ⟨rfl, rfl, rfl, rfl, rfl, rfl, rfl, trivial⟩ ⟨rfl, rfl, rfl, rfl, rfl, rfl, trivial⟩ rfl rfl, ⟨hmid.1, hmid.2.1, hmid.2.2.1, ⟨by simp, by simp; omega⟩, fun a h1 h2 => absurd (hmid.2.2.2.2 a h1 h2) (by simp)⟩, by simp, by omega⟩
            · have hne : l ≠ [] := fun e => by subst e; simp at hc
              have hpos : 0 < l.length := List.length_pos_iff.2 hne
              refine AW.skip ?_
              exact ⟨l, St.le.trans (St.le_pubA 5 rfl rfl) (St.le_mk ⟨rfl, rfl, rfl, rfl, rfl, rfl, by simp [pints]; rfl, trivial⟩ ⟨rfl, rfl, rfl, rfl, rfl, rfl, trivial⟩ rfl rfl), hmid, hne, by omega⟩
          · intro l2 hend
            repeat refine AW.seq ?_
            refine AW.draw follows [[], [0], [], [2], [], [4, 3, 2], [5, 4, 3, 2], [6, 1, 0, 5, 4, 3, 2], [7, 6, 5, 4, 3, 2, 1, 0], [8, 7, 6, 5, 4, 3, 2, 1, 0]] [0, 1, 2, 3, 4, 5, 6, 7, 8, 9] (by kernel_rfl) (by kernel_rfl) ?_
            iterate 3 refine D1 rfl rfl ?_
            refine DL.step (d := some 79) [] rfl rfl rfl (fun τ h => xj_call Try.call45 (letter_spec ⟨#[114]⟩ k (by decide) (by omega)) (h.argsP rfl)) rfl (by kernel_rfl) ?_
            iterate 6 refine D1 rfl rfl ?_
            refine ⟨by kernel_rfl, ?_⟩
            repeat refine AW.seq ?_
            refine AW.region ?_
            iterate 3 refine A1 rfl ?_
            refine ⟨(k + 1, at2, rs ++ [(nm 114 k, l2)], k3), St.le_mkR [0, 1, 2, 6, 4] ⟨rfl, rfl, rfl, rfl, rfl, rfl, trivial⟩ ⟨rfl, rfl, by simp; rfl, rfl, by rw [relsC_snoc]; rfl, rfl, trivial⟩ rfl rfl (by simp) rfl, ⟨by simp only; omega, head_next hhead hend, hk3⟩, by simp only; omega⟩
  · obtain rfl : k = nn := by omega
    have ha1 : 1 ≤ at'.length := hhead.2.2.2.2.2 (by omega)
    refine AW.exit ?_
    refine AW.weaken (St.le_pubA 2 rfl rfl) ?_
    refine AW.weaken (St.le_pubA 3 rfl rfl) ?_
    repeat refine AW.seq ?_
    refine AW.region ?_
    iterate 4 refine A1 rfl ?_
    refine AW.block ?_
    refine AW.loop (st := fun x : Nat × List (Int × Int × Int) × Int × Nat => mkS [(0, .ptr big 0), (4, .ptr 0 0), (5, .ptr 1 0), (86, .pv (.sl none at'.length (attrsC at'))), (87, .pv (.int .i64 at'.length)), (88, .pv (.int .i64 x.1))] [(big, srcO L x.2.2.2), (0, zSch), (1, .mix 28 [.pv (.sl none at'.length (attrsC at')), .pv (.sl none rs.length (relsC rs)), .gsl 2 3 x.2.1.length, .pv (.int .i64 x.2.2.1)]), (2, .gro 83 (featsC x.2.1))] 3)
      (I := fun x => x.1 ≤ at'.length ∧ FeatsOk at' x.2.1 x.2.2.1 x.1 ∧ x.2.2.2 ≤ L.length) (μ := fun x => at'.length - x.1) (x0 := (0, [], -1, k2)) (St.le_mkR [0, 1, 4] ⟨rfl, rfl, rfl, rfl, rfl, rfl, trivial⟩ ⟨rfl, rfl, rfl, rfl, trivial⟩ rfl rfl (by simp) rfl) ⟨Nat.zero_le _, ⟨by simp, by simp, .inl rfl⟩, hk2⟩ ?_
    rintro ⟨j, fs, lb, k3⟩ ⟨hj, hfs, hk3⟩
    simp only at hj hfs hk3 ⊢
    have hFl := featsC_len fs
    have hfl := featsOk_len hfs
    have hlb := featsOk_lb hfs
    repeat refine AW.seq ?_
    refine AW.region ?_
    refine A1 rfl ?_
    repeat refine AW.seq ?_
    refine AW.condP rfl (fun hc => ?_) (fun hc => ?_)
    · have hjl : j < at'.length := by omega
      have hne : attrsC at' ≠ [] := fun e => by rw [e] at hAl; simp at hAl; omega
      have hrow : ((attrsC at').drop (j * 2)).take 2 = [.str at'[j].1, .int .i64 at'[j].2] := flat_row _ 2 (fun _ => rfl) at' j hjl
      have hgd : (at'.getD j default).2 = at'[j].2 := by simp [List.getD, hjl]
      refine AW.skip ?_
      repeat refine AW.seq ?_
      refine AW.block ?_
      repeat refine AW.seq ?_
      refine AW.region ?_
      iterate 2 refine A1 rfl ?_
      refine RL.step (d := some 92) rfl rfl (xj_loadAR ⟨_, Try.underlying81, rfl⟩ sz81 rfl hrow rfl) ?_
      iterate 3 refine A1 rfl ?_
      refine AW.block ?_
      generalize at'[j].2 = K at hgd ⊢
      generalize at'[j].1 = nme
      by_cases hK : K = 2
      · subst hK
        by_cases hl0 : lb < 0
        · repeat refine AW.seq ?_
          refine AW.region ?_
          iterate 2 refine A1 rfl ?_
          refine RL.step (d := some 96) rfl rfl (XJ.cast (v' := .pv (.bool true)) (xj_bin rfl rfl rfl) (by simp)) ?_
          iterate 3 refine A1 rfl ?_
          refine RL.stepG (d := some 100) rfl rfl rfl (XJ.cast (v' := .pv (.bool true)) (xj_bin rfl rfl rfl) (by simp; omega)) ?_
          iterate 3 refine A1 rfl ?_
          refine RL.stepG (d := some 104) rfl rfl rfl (xj_callM Try.call25 (n_spec L k3 2 hL hk3 (by omega) (by omega)) rfl rfl) ?_
          iterate 3 refine A1 rfl ?_
          have hk4 := sNk_le hk3
          generalize sNk L k3 = k4 at hk4 ⊢
          refine AW.cond rfl (fun hc => ?_) (fun hc => ?_)
          · repeat refine AW.seq ?_
            refine AW.region ?_
            iterate 3 refine A1 rfl ?_
            repeat refine AW.seq ?_
            refine AW.region ?_
            iterate 2 refine A1 rfl ?_
            exact ⟨(j + 1, fs, (j : Int), k4), St.le_mk ⟨rfl, rfl, rfl, rfl, rfl, rfl, trivial⟩ ⟨rfl, rfl, rfl, rfl, trivial⟩ rfl rfl, ⟨by simp only; omega, featsOk_label hfs hgd, hk4⟩, by simp only; omega⟩
          · repeat refine AW.seq ?_
            refine AW.region ?_
            iterate 2 refine A1 rfl ?_
            refine RL.step (d := some 112) rfl rfl (XJ.cast (v' := .pv (.bool true)) (xj_bin rfl rfl rfl) (by simp)) ?_
            iterate 2 refine A1 rfl ?_
            refine RL.stepG (d := some 115) rfl rfl rfl (xj_callM Try.call25 (n_spec L k4 4 hL hk4 (by omega) (by omega)) rfl rfl) ?_
            iterate 3 refine A1 rfl ?_
            have hk5 := sNk_le hk4
            generalize sNk L k4 = k5 at hk5 ⊢
            refine AW.condP rfl (fun hc => ?_) (fun hc => ?_)
            · have hnb := sNv_bd L k5 2 (by omega)
              repeat refine AW.seq ?_
              refine AW.draw follows [[], [0], [], [], [3], [4, 2, 3], [5, 4, 2, 3], [6, 1, 0, 5, 4, 2, 3], [7, 6, 5, 4, 3, 2, 1, 0], [8, 7, 6, 5, 4, 3, 2, 1, 0]] [0, 1, 2, 3, 4, 5, 6, 7, 8, 9] (by kernel_rfl) (by kernel_rfl) ?_
              iterate 4 refine D1 rfl rfl ?_
              refine DL.step (d := some 122) [_] rfl rfl rfl (fun τ h => xj_callM Try.call25 (n_spec L k5 2 hL hk5 (by omega) (by omega)) (h.args.trans rfl) ((h.o 0 _ rfl).trans rfl)) rfl (by kernel_rfl) ?_
              iterate 5 refine D1 rfl rfl ?_
              refine ⟨by kernel_rfl, ?_⟩
              repeat refine AW.seq ?_
              refine AW.region ?_
              iterate 2 refine A1 rfl ?_
              exact ⟨(j + 1, fs ++ [((j : Int), 1, sNv L k5 2)], lb, sNk L k5), St.le_mkR [0, 1, 5] ⟨rfl, rfl, rfl, rfl, rfl, rfl, trivial⟩ ⟨rfl, rfl, by simp only [List.length_append, List.length_singleton]; rfl, congrArg (fun c => some (Ob.gro 83 c)) (featsC_snoc fs ((j : Int), 1, sNv L k5 2)).symm, trivial⟩ rfl rfl (by simp) rfl, ⟨by simp only; omega, featsOk_snoc hfs (by omega) (.inl ⟨rfl, hgd, by omega⟩), sNk_le hk5⟩, by simp only; omega⟩
            · repeat refine AW.seq ?_
              refine AW.region ?_
              iterate 2 refine A1 rfl ?_
              refine RL.step (d := some 130) rfl rfl (XJ.cast (v' := .pv (.bool false)) (xj_bin rfl rfl rfl) (by simp)) ?_
              iterate 6 refine A1 rfl ?_
              refine AW.cond rfl (fun hc => absurd hc (by simp)) (fun hc => ?_)
              refine AW.skip ?_
              repeat refine AW.seq ?_
              refine AW.region ?_
              iterate 2 refine A1 rfl ?_
              exact ⟨(j + 1, fs, lb, k5), St.le_mk ⟨rfl, rfl, rfl, rfl, rfl, rfl, trivial⟩ ⟨rfl, rfl, rfl, rfl, trivial⟩ rfl rfl, ⟨by simp only; omega, featsOk_next hfs, hk5⟩, by simp only; omega⟩
        · repeat refine AW.seq ?_
          refine AW.region ?_
          iterate 2 refine A1 rfl ?_
          refine RL.step (d := some 96) rfl rfl (XJ.cast (v' := .pv (.bool true)) (xj_bin rfl rfl rfl) (by simp)) ?_
          iterate 3 refine A1 rfl ?_
          refine RL.stepG (d := some 100) rfl rfl rfl (XJ.cast (v' := .pv (.bool false)) (xj_bin rfl rfl rfl) (by simp; omega)) ?_
          iterate 7 refine A1 rfl ?_
          refine AW.cond rfl (fun hc => absurd hc (by simp)) (fun hc => ?_)
          repeat refine AW.seq ?_
          refine AW.region ?_
          iterate 2 refine A1 rfl ?_
          refine RL.step (d := some 112) rfl rfl (XJ.cast (v' := .pv (.bool true)) (xj_bin rfl rfl rfl) (by simp)) ?_
          iterate 2 refine A1 rfl ?_
          refine RL.stepG (d := some 115) rfl rfl rfl (xj_callM Try.call25 (n_spec L k3 4 hL hk3 (by omega) (by omega)) rfl rfl) ?_
          iterate 3 refine A1 rfl ?_
          have hk5 := sNk_le hk3
          generalize sNk L k3 = k5 at hk5 ⊢
          refine AW.condP rfl (fun hc => ?_) (fun hc => ?_)
          · have hnb := sNv_bd L k5 2 (by omega)
            repeat refine AW.seq ?_
            refine AW.draw follows [[], [0], [], [], [3], [4, 2, 3], [5, 4, 2, 3], [6, 1, 0, 5, 4, 2, 3], [7, 6, 5, 4, 3, 2, 1, 0], [8, 7, 6, 5, 4, 3, 2, 1, 0]] [0, 1, 2, 3, 4, 5, 6, 7, 8, 9] (by kernel_rfl) (by kernel_rfl) ?_
            iterate 4 refine D1 rfl rfl ?_
            refine DL.step (d := some 122) [_] rfl rfl rfl (fun τ h => xj_callM Try.call25 (n_spec L k5 2 hL hk5 (by omega) (by omega)) (h.args.trans rfl) ((h.o 0 _ rfl).trans rfl)) rfl (by kernel_rfl) ?_
            iterate 5 refine D1 rfl rfl ?_
            refine ⟨by kernel_rfl, ?_⟩
            repeat refine AW.seq ?_
            refine AW.region ?_
            iterate 2 refine A1 rfl ?_
            exact ⟨(j + 1, fs ++ [((j : Int), 1, sNv L k5 2)], lb, sNk L k5), St.le_mkR [0, 1, 5] ⟨rfl, rfl, rfl, rfl, rfl, rfl, trivial⟩ ⟨rfl, rfl, by simp only [List.length_append, List.length_singleton]; rfl, congrArg (fun c => some (Ob.gro 83 c)) (featsC_snoc fs ((j : Int), 1, sNv L k5 2)).symm, trivial⟩ rfl rfl (by simp) rfl, ⟨by simp only; omega, featsOk_snoc hfs (by omega) (.inl ⟨rfl, hgd, by omega⟩), sNk_le hk5⟩, by simp only; omega⟩
          · repeat refine AW.seq ?_
            refine AW.region ?_
            iterate 2 refine A1 rfl ?_
            refine RL.step (d := some 130) rfl rfl (XJ.cast (v' := .pv (.bool false)) (xj_bin rfl rfl rfl) (by simp)) ?_
            iterate 6 refine A1 rfl ?_
            refine AW.cond rfl (fun hc => absurd hc (by simp)) (fun hc => ?_)
            refine AW.skip ?_
            repeat refine AW.seq ?_
            refine AW.region ?_
            iterate 2 refine A1 rfl ?_
            exact ⟨(j + 1, fs, lb, k5), St.le_mk ⟨rfl, rfl, rfl, rfl, rfl, rfl, trivial⟩ ⟨rfl, rfl, rfl, rfl, trivial⟩ rfl rfl, ⟨by simp only; omega, featsOk_next hfs, hk5⟩, by simp only; omega⟩
      · have hKb : (K == 2) = false := by simpa using hK
        repeat refine AW.seq ?_
        refine AW.region ?_
        iterate 2 refine A1 rfl ?_
        refine RL.step (d := some 96) rfl rfl (XJ.cast (v' := .pv (.bool false)) (xj_bin rfl rfl rfl) (by rw [hKb])) ?_
        iterate 11 refine A1 rfl ?_
        refine AW.cond rfl (fun hc => absurd hc (by simp)) (fun hc => ?_)
        repeat refine AW.seq ?_
        refine AW.region ?_
        iterate 2 refine A1 rfl ?_
        refine RL.step (d := some 112) rfl rfl (XJ.cast (v' := .pv (.bool false)) (xj_bin rfl rfl rfl) (by rw [hKb])) ?_
        iterate 6 refine A1 rfl ?_
        refine AW.cond rfl (fun hc => absurd hc (by simp)) (fun hc => ?_)
        by_cases hK3 : K = 3
        · subst hK3
          repeat refine AW.seq ?_
          refine AW.region ?_
          iterate 2 refine A1 rfl ?_
          refine RL.step (d := some 130) rfl rfl (XJ.cast (v' := .pv (.bool true)) (xj_bin rfl rfl rfl) (by simp)) ?_
          iterate 2 refine A1 rfl ?_
          refine RL.stepG (d := some 133) rfl rfl rfl (xj_callM Try.call25 (n_spec L k3 4 hL hk3 (by omega) (by omega)) rfl rfl) ?_
          iterate 3 refine A1 rfl ?_
          refine AW.condP rfl (fun hc => ?_) (fun hc => ?_)
          · repeat refine AW.seq ?_
            refine AW.region ?_
            iterate 8 refine A1 rfl ?_
            repeat refine AW.seq ?_
            refine AW.region ?_
            iterate 2 refine A1 rfl ?_
            exact ⟨(j + 1, fs ++ [((j : Int), 2, 0)], lb, sNk L k3), St.le_mkR [0, 1, 5] ⟨rfl, rfl, rfl, rfl, rfl, rfl, trivial⟩ ⟨rfl, rfl, by simp only [List.length_append, List.length_singleton]; rfl, congrArg (fun c => some (Ob.gro 83 c)) (featsC_snoc fs ((j : Int), 2, 0)).symm, trivial⟩ rfl rfl (by simp) rfl, ⟨by simp only; omega, featsOk_snoc hfs (by omega) (.inr ⟨rfl, hgd, rfl⟩), sNk_le hk3⟩, by simp only; omega⟩
          · refine AW.skip ?_
            repeat refine AW.seq ?_
            refine AW.region ?_
            iterate 2 refine A1 rfl ?_
            exact ⟨(j + 1, fs, lb, sNk L k3), St.le_mk ⟨rfl, rfl, rfl, rfl, rfl, rfl, trivial⟩ ⟨rfl, rfl, rfl, rfl, trivial⟩ rfl rfl, ⟨by simp only; omega, featsOk_next hfs, sNk_le hk3⟩, by simp only; omega⟩
        · have hKb3 : (K == 3) = false := by simpa using hK3
          repeat refine AW.seq ?_
          refine AW.region ?_
          iterate 2 refine A1 rfl ?_
          refine RL.step (d := some 130) rfl rfl (XJ.cast (v' := .pv (.bool false)) (xj_bin rfl rfl rfl) (by rw [hKb3])) ?_
          iterate 6 refine A1 rfl ?_
          refine AW.cond rfl (fun hc => absurd hc (by simp)) (fun hc => ?_)
          refine AW.skip ?_
          repeat refine AW.seq ?_
          refine AW.region ?_
          iterate 2 refine A1 rfl ?_
          exact ⟨(j + 1, fs, lb, k3), St.le_mk ⟨rfl, rfl, rfl, rfl, rfl, rfl, trivial⟩ ⟨rfl, rfl, rfl, rfl, trivial⟩ rfl rfl, ⟨by simp only; omega, featsOk_next hfs, hk3⟩, by simp only; omega⟩
    · obtain rfl : j = at'.length := by omega
      refine AW.exit ?_
      repeat refine AW.seq ?_
      refine AW.region ?_
      iterate 4 refine A1 rfl ?_
      refine AW.condP rfl (fun hc => absurd hc (by omega)) (fun hc => ?_)
      refine AW.skip ?_
      refine AW.weaken (St.le_pubA 2 rfl rfl) ?_
      repeat refine AW.seq ?_
      refine AW.region ?_
      iterate 2 refine A1 rfl ?_
      refine AW.ret ?_
      exact ⟨0, _, schC ⟨at', rs, fs, lb⟩, srcC L k3, rfl, rfl, rfl, rfl, rfl, ⟨⟨at', rs, fs, lb⟩, ⟨ha1, hal, by simp only; omega, by simp only; omega, hhead.1, hhead.2.1, hhead.2.2.1, hfs⟩, rfl⟩, k3, hk3, rfl⟩
end Go.Proofs.Ytopblgabadljdaa
namespace Go.Proofs.Ytopblgabadljdaa
open Go.RowKit
set_option maxRecDepth 100000
end Go.Proofs.Ytopblgabadljdaa
namespace Go.Proofs.Ytopblgabadljdaa
open Go.RowKit Mk
set_option maxRecDepth 100000
set_option maxHeartbeats 1000000
abbrev strsP (l : List ByteArray) : List PV := l.map .str
abbrev pstrs (l : List ByteArray) : PV := .sl none l.length (strsP l)
theorem pstrs_at {l : List ByteArray} {k : Nat} (h : k < l.length) : (strsP l)[k * 1]? = some (.str l[k]) := by simp [h]
theorem pstrs_ne {l : List ByteArray} {k : Nat} (h : k < l.length) : strsP l ≠ [] := by intro e; simp at e; subst e; simp at h
abbrev boolsP (l : List Bool) : List PV := l.map .bool
abbrev pbools (l : List Bool) : PV := .sl none l.length (boolsP l)
end Go.Proofs.Ytopblgabadljdaa
namespace Go.Proofs.Ytopblgabadljdaa
open Go.RowKit Mk
set_option maxRecDepth 100000
set_option maxHeartbeats 1000000
/-- Bounds on the lengths in a schema. -/
structure SB (S : Sch) : Prop where
  a : S.attrs.length ≤ 1000000
  r : S.rels.length ≤ 1000000
  f : S.feats.length ≤ 1000000
  an : ∀ x ∈ S.attrs, x.1.size ≤ 9223372036854775807
  rn : ∀ x ∈ S.rels, x.1.size ≤ 9223372036854775807
  rl : ∀ x ∈ S.rels, x.2.length ≤ 1000000
theorem attr_ne {l : List (ByteArray × Int)} {k : Nat} (h : k < l.length) : attrsC l ≠ [] := fun e => by have := attrsC_len l; rw [e] at this; simp at this; omega
theorem take_snoc {α : Type} {l : List α} {k : Nat} (h : k < l.length) : l.take (k + 1) = l.take k ++ [l[k]] := List.take_succ_eq_append_getElem h
end Go.Proofs.Ytopblgabadljdaa
namespace Go.Proofs.Ytopblgabadljdaa
open Go.RowKit Mk
set_option maxRecDepth 100000
set_option maxHeartbeats 1000000
theorem rel_row {l : List (ByteArray × List Int)} {k : Nat} (h : k < l.length) : ((relsC l).drop (k * 2)).take 2 = [.str l[k].1, pints l[k].2] := flat_row _ 2 (fun _ => rfl) l k h
theorem rel_ne {l : List (ByteArray × List Int)} {k : Nat} (h : k < l.length) : relsC l ≠ [] := fun e => by have := relsC_len l; rw [e] at this; simp at this; omega
/-- Which attributes are used, as a list. -/
def UsedIs (n : Nat) (U : List Bool) (p : Nat → Bool) : Prop := U.length = n ∧ ∀ a, a < n → U[a]? = some (p a)
theorem UsedIs.zero (n : Nat) : UsedIs n (List.replicate n false) (fun _ => false) := ⟨by simp, fun a ha => by simp [ha]⟩
theorem UsedIs.set {n : Nat} {U : List Bool} {p : Nat → Bool} (h : UsedIs n U p) {a : Nat} (ha : a < n) : UsedIs n (U.set a true) (fun b => p b || (b == a)) := by
  refine ⟨by simp [h.1], fun b hb => ?_⟩
  by_cases e : b = a
  · subst e; simp [h.1, hb]
  · rw [List.getElem?_set_ne (fun e' => e e'.symm), h.2 b hb]; simp [e]
theorem UsedIs.congr {n : Nat} {U : List Bool} {p q : Nat → Bool} (h : UsedIs n U p) (e : ∀ a, a < n → p a = q a) : UsedIs n U q := ⟨h.1, fun a ha => by rw [h.2 a ha, e a ha]⟩
theorem UsedIs.mem {n : Nat} {U : List Bool} {p : Nat → Bool} (h : UsedIs n U p) : decide (false ∈ U) = !((List.range n).all p) := by
  rw [Bool.eq_iff_iff]
  simp only [decide_eq_true_eq, Bool.not_eq_true', List.all_eq_false, List.mem_range]
  constructor
  · intro hm
    obtain ⟨a, ha, e⟩ := List.getElem_of_mem hm
    refine ⟨a, by rw [← h.1]; exact ha, ?_⟩
    have := h.2 a (by rw [← h.1]; exact ha)
    rw [List.getElem?_eq_getElem ha, e] at this
    simpa using this.symm
  · rintro ⟨a, ha, e⟩
    have := h.2 a ha
    have e' : p a = false := by simpa using e
    rw [e'] at this
    exact List.mem_of_getElem? this
end Go.Proofs.Ytopblgabadljdaa
namespace Go.Proofs.Ytopblgabadljdaa
open Go.RowKit Mk
set_option maxRecDepth 100000
set_option maxHeartbeats 1000000
theorem feat_ne {l : List (Int × Int × Int)} {k : Nat} (h : k < l.length) : featsC l ≠ [] := fun e => by have := featsC_len l; rw [e] at this; simp at this; omega
end Go.Proofs.Ytopblgabadljdaa
namespace Go.Proofs.Ytopblgabadljdaa
open Go.RowKit Mk
set_option maxRecDepth 100000
set_option maxHeartbeats 2000000
end Go.Proofs.Ytopblgabadljdaa
namespace Go.Proofs.Ytopblgabadljdaa
open Go.RowKit Mk
set_option maxRecDepth 100000
set_option maxHeartbeats 4000000
end Go.Proofs.Ytopblgabadljdaa
namespace Go.Proofs.Ytopblgabadljdaa
/-- The way upward from x: at most k steps. -/
def upF (P : List Int) : Nat → Int → Option (List Int)
  | 0, x => if x < 0 then some [] else none
  | k + 1, x => if x < 0 then some [] else (upF P k (P.getD x.toNat 0)).map (x :: ·)
/-- The ancestors of a variable, the next one first; none if they do not lead to a root. -/
def abv (P : List Int) (v : Int) : Option (List Int) := upF P P.length (P.getD v.toNat 0)
def abvL (P : List Int) (v : Int) : List Int := (abv P v).getD []
/-- Is a an ancestor of b? -/
def hiB (P : List Int) (a b : Int) : Bool := decide (a ∈ abvL P b)
def rightB (P : List Int) (l : List Int) : Bool := l.all fun a => l.all fun b => a == b || hiB P a b || hiB P b a
def linkB (S : Sch) (a b : Int) : Bool := S.rels.any fun r => decide (a ∈ r.2) && decide (b ∈ r.2)
theorem upF_neg {P : List Int} {k : Nat} {x : Int} (h : x < 0) : upF P k x = some [] := by
  cases k <;> simp [upF, h]
theorem upF_nat {P : List Int} {k a : Nat} (ha : a < P.length) : upF P (k + 1) (a : Int) = (upF P k P[a]).map ((a : Int) :: ·) := by
  have h : ¬ ((a : Int) < 0) := by omega
  simp [upF, List.getD, ha, h]
end Go.Proofs.Ytopblgabadljdaa
namespace Go.Proofs.Ytopblgabadljdaa
open Go.RowKit Mk
set_option maxRecDepth 100000
set_option maxHeartbeats 1000000
abbrev ordP (P : List Int) : PV := .agg [pints P]
/-- What a valid schema is like. -/
structure Valid (S : Sch) : Prop where
  n1 : 1 ≤ S.attrs.length
  n2 : S.attrs.length ≤ 12
  r1 : 1 ≤ S.rels.length
  r2 : S.rels.length ≤ 6
  ne : ∀ r ∈ S.rels, r.2 ≠ []
  rng : ∀ r ∈ S.rels, ∀ a ∈ r.2, 0 ≤ a ∧ a < S.attrs.length
  asc : ∀ r ∈ S.rels, ascB r.2 = true
  use : ∀ a, a < S.attrs.length → ∃ r ∈ S.rels, (a : Int) ∈ r.2
end Go.Proofs.Ytopblgabadljdaa
namespace Go.Proofs.Ytopblgabadljdaa
open Go.RowKit Mk
set_option maxRecDepth 100000
set_option maxHeartbeats 1000000
/-- The numbers up to i are ascending, but for the one at j, which is at most what follows. -/
def Ins (l : List Int) (i j : Nat) : Prop := ∀ p q, p < q → q ≤ i → (p ≠ j → q ≠ j → l.getD p 0 ≤ l.getD q 0) ∧ (p = j → l.getD p 0 ≤ l.getD q 0)
def Asc (l : List Int) (i : Nat) : Prop := ∀ p q, p < q → q < i → l.getD p 0 ≤ l.getD q 0
theorem Ins.first {l : List Int} {i : Nat} (h : Asc l i) : Ins l i i := fun p q h1 h2 => ⟨fun _ h4 => h p q h1 (by omega), fun e => by omega⟩
theorem Asc.pw {l : List Int} {i : Nat} (h : Asc l i) (hi : l.length ≤ i) : l.Pairwise (· ≤ ·) := by
  rw [List.pairwise_iff_getElem]
  intro p q hp hq hpq
  have := h p q hpq (by omega)
  simpa [List.getD, hp, hq] using this
section
variable {C : Ctx} {n : Nat} {σ : St} {dst : Option Tmp} {ty : TypeId} {ts : Array TypeId} {pos : String} {after : Array Edge} {gd : Option (Nat × Bool)}
/-- oj_callO with the contract first. -/
theorem oj_callF1 {f : FuncId} {xs : Array Operand} {args : List V} {os : List (Nat × Ob)} {k' : Nat} {Q : V → (Nat → Option Ob) → Prop} {K : St → Prop} (ids : List Nat) (base : Nat) (hc : CallOk C.P f) (hf : FnO C.P f ids.length k' args os Q) (hargs : xs.toList.map (σ.ev n) = V.renL (renI ids base) args)
    (ha : V.allL (okR ids.length 0) args = true) (hos : os.map (·.1) = (List.range ids.length).map (big + ·)) (hob : os.all (fun p => p.2.all (okR ids.length 0)) = true) (hobs : allObR σ (renI ids base) os)
    (hnd : ids.Nodup) (hav : (nwO base k').all σ.av = true)
    (hk : ∀ v ob', Q v ob' → K (σ.app dst ⟨v.ren (renI ids base), wrO ids base k' ob', nwO base k'⟩)) :
    OJ C n ⟨dst, .call { callee := .value (.func f), args := xs, argTypes := ts }, ty, pos, after, gd⟩ K σ := oj_callO ids base hc hargs ha hos hob hobs hnd hav hf hk
end
end Go.Proofs.Ytopblgabadljdaa
namespace Go.Proofs.Ytopblgabadljdaa
open Go.RowKit Mk
set_option maxRecDepth 100000
set_option maxHeartbeats 1000000
/-- What order.Check says of an order that is right. -/
structure OrdOk (S : Sch) (P : List Int) : Prop where
  val : Valid S
  len : P.length = S.attrs.length
  rng : ∀ p ∈ P, -1 ≤ p ∧ p < P.length
  up : ∀ v, v < P.length → (abv P (v : Int)).isSome = true
  rt : ∀ r ∈ S.rels, rightB P r.2 = true
end Go.Proofs.Ytopblgabadljdaa
namespace Go.Proofs.Ytopblgabadljdaa
open Go.RowKit Mk
set_option maxRecDepth 100000
set_option maxHeartbeats 1000000
section
variable {C : Ctx} {n : Nat} {σ : St} {dst : Option Tmp} {ty : TypeId} {ts : Array TypeId} {pos : String} {after : Array Edge} {gd : Option (Nat × Bool)}
end
end Go.Proofs.Ytopblgabadljdaa
namespace Go.Proofs.Ytopblgabadljdaa
open Go.RowKit Mk
set_option maxRecDepth 100000
set_option maxHeartbeats 1000000
abbrev B64 := BitVec 64
section
variable {C : Ctx} {n : Nat} {σ : St} {dst : Option Tmp} {ty t t' : TypeId} {pos : String} {after : Array Edge} {gd : Option (Nat × Bool)} {x y : Operand} {X Y : B64}
end
def allB (n : Nat) : B64 := BitVec.twoPow 64 n - 1#64
end Go.Proofs.Ytopblgabadljdaa
namespace Go.Proofs.Ytopblgabadljdaa
theorem bits_ex (f : Nat → Bool) : ∀ w : Nat, ∃ x : BitVec w, ∀ i, i < w → x.getLsbD i = f i
  | 0 => ⟨0#0, fun i h => absurd h (Nat.not_lt_zero _)⟩
  | w + 1 => by
    obtain ⟨x, hx⟩ := bits_ex f w
    refine ⟨BitVec.cons (f w) x, fun i hi => ?_⟩
    rw [BitVec.getLsbD_cons]
    by_cases e : i = w
    · rw [if_pos e, e]
    · rw [if_neg e, hx i (by omega)]
/-- The set of the numbers below 64 that f has. -/
noncomputable def bitsOf (f : Nat → Bool) : BitVec 64 := Classical.choose (bits_ex f 64)
theorem bits_lt {x : BitVec 64} {i : Nat} (h : x.getLsbD i = true) : i < 64 := Classical.byContradiction fun e => by
  rw [BitVec.getLsbD_of_ge _ _ (by omega)] at h; cases h
/-- What is reached from a, where all that is entered lies in rest. -/
inductive Reach (G : List (BitVec 64)) (rest : BitVec 64) (a : Nat) : Nat → Prop
  | refl : Reach G rest a a
  | step {b c : Nat} : Reach G rest a b → (G.getD b 0#64).getLsbD c = true → rest.getLsbD c = true → Reach G rest a c
noncomputable def compB (G : List (BitVec 64)) (rest : BitVec 64) (a : Nat) : BitVec 64 := bitsOf fun b => @decide (Reach G rest a b) (Classical.propDecidable _)
theorem Reach.lt {G : List (BitVec 64)} {rest : BitVec 64} {a b : Nat} (h : Reach G rest a b) (ha : a < 64) : b < 64 := by
  cases h with
  | refl => exact ha
  | step _ _ h => exact bits_lt h
structure CInv (G : List (BitVec 64)) (rest : BitVec 64) (a : Nat) (out next : BitVec 64) : Prop where
  h1 : out.getLsbD a = true
  h2 : ∀ b, out.getLsbD b = true → Reach G rest a b
  h3 : ∀ b, next.getLsbD b = true → out.getLsbD b = true
  h4 : ∀ b c, out.getLsbD b = true → next.getLsbD b = false → (G.getD b 0#64).getLsbD c = true → rest.getLsbD c = true → out.getLsbD c = true
theorem CInv.first {G : List (BitVec 64)} {rest : BitVec 64} {a : Nat} (ha : a < 64) : CInv G rest a (BitVec.twoPow 64 a) (BitVec.twoPow 64 a) := by
  refine ⟨by rw [BitVec.getLsbD_twoPow]; simp [ha], fun b hb => ?_, fun _ h => h, fun b c h1 h2 => by rw [h1] at h2; cases h2⟩
  rw [BitVec.getLsbD_twoPow] at hb
  have : a = b := by simpa [ha] using hb
  subst this
  exact .refl
theorem CInv.next {G : List (BitVec 64)} {rest : BitVec 64} {a : Nat} {out next near : BitVec 64} (h : CInv G rest a out next)
    (hn : ∀ c, near.getLsbD c = (List.range G.length).any fun b => next.getLsbD b && (G.getD b 0#64).getLsbD c) :
    CInv G rest a (out ||| (near &&& rest &&& ~~~out)) (near &&& rest &&& ~~~out) := by
  have hnear : ∀ c, near.getLsbD c = true ↔ ∃ b, next.getLsbD b = true ∧ (G.getD b 0#64).getLsbD c = true := by
    intro c
    rw [hn, List.any_eq_true]
    constructor
    · rintro ⟨b, _, h⟩
      rw [Bool.and_eq_true] at h
      exact ⟨b, h⟩
    · rintro ⟨b, h1, h2⟩
      refine ⟨b, ?_, by rw [h1, h2]; rfl⟩
      rw [List.mem_range]
      apply Classical.byContradiction
      intro e
      rw [List.getD, List.getElem?_eq_none (by omega)] at h2
      simp at h2
  have hbit : ∀ c, (near &&& rest &&& ~~~out).getLsbD c = true ↔ near.getLsbD c = true ∧ rest.getLsbD c = true ∧ out.getLsbD c = false := by
    intro c
    rw [BitVec.getLsbD_and, BitVec.getLsbD_and, BitVec.getLsbD_not]
    constructor
    · intro h; simp at h; exact ⟨h.1.1, h.1.2, h.2.2⟩
    · rintro ⟨h1, h2, h3⟩; have := bits_lt h1; rw [h1, h2, h3, decide_eq_true this]; rfl
  have hor : ∀ c, (out ||| (near &&& rest &&& ~~~out)).getLsbD c = true ↔ out.getLsbD c = true ∨ (near &&& rest &&& ~~~out).getLsbD c = true := by
    intro c; rw [BitVec.getLsbD_or, Bool.or_eq_true]
  refine ⟨(hor _).2 (.inl h.h1), fun b hb => ?_, fun b hb => (hor b).2 (.inr hb), fun b c h1 h2 h3 h4 => ?_⟩
  · rcases (hor b).1 hb with h1 | h1
    · exact h.h2 b h1
    · obtain ⟨g1, g2, _⟩ := (hbit b).1 h1
      obtain ⟨d, g3, g4⟩ := (hnear b).1 g1
      exact .step (h.h2 d (h.h3 d g3)) g4 g2
  · rw [hor]
    by_cases hc : out.getLsbD c = true
    · exact .inl hc
    · right
      have hb : out.getLsbD b = true := by
        rcases (hor b).1 h1 with h5 | h5
        · exact h5
        · rw [h5] at h2; cases h2
      rw [hbit]
      refine ⟨?_, h4, by simpa using hc⟩
      rw [hnear]
      by_cases hnb : next.getLsbD b = true
      · exact ⟨b, hnb, h3⟩
      · exact absurd (h.h4 b c hb (by simpa using hnb) h3 h4) hc
/-- The components of a set, and what is left of it, when the first k numbers are done. -/
noncomputable def compsN (G : List (BitVec 64)) (rest : BitVec 64) : Nat → List (BitVec 64) × BitVec 64
  | 0 => ([], rest)
  | k + 1 => if (compsN G rest k).2.getLsbD k = true then ((compsN G rest k).1 ++ [compB G (compsN G rest k).2 k], (compsN G rest k).2 &&& ~~~compB G (compsN G rest k).2 k) else compsN G rest k
/-- The graph of a schema. -/
structure IsG (S : Sch) (G : List (BitVec 64)) : Prop where
  len : G.length = S.attrs.length
  bit : ∀ a, a < G.length → ∀ b : Nat, (G.getD a 0#64).getLsbD b = (decide (a ≠ b) && linkB S a b)
end Go.Proofs.Ytopblgabadljdaa
namespace Go.Proofs.Ytopblgabadljdaa
open Go.RowKit Mk
set_option maxRecDepth 100000
set_option maxHeartbeats 1000000
theorem getD_eq {α : Type} {l : List α} {k : Nat} (h : k < l.length) (d : α) : l.getD k d = l[k] := by simp [List.getD, h]
/-- A graph under way. -/
def GInv (n : Nat) (G : List B64) (p : Nat → Nat → Bool) : Prop := G.length = n ∧ ∀ a, a < n → ∀ b : Nat, (G.getD a 0#64).getLsbD b = p a b
theorem GInv.zero (n : Nat) : GInv n (List.replicate n 0#64) (fun _ _ => false) := ⟨by simp, fun a ha b => by simp [List.getD, ha]⟩
theorem GInv.congr {n : Nat} {G : List B64} {p q : Nat → Nat → Bool} (h : GInv n G p) (e : ∀ a, a < n → ∀ b, p a b = q a b) : GInv n G q := ⟨h.1, fun a ha b => by rw [h.2 a ha b, e a ha b]⟩
theorem GInv.or {n : Nat} {G : List B64} {p : Nat → Nat → Bool} (h : GInv n G p) {i : Nat} (hi : i < n) (x : B64) : GInv n (G.set i (G[i]'(by rw [h.1]; exact hi) ||| x)) (fun a b => p a b || (decide (a = i) && x.getLsbD b)) := by
  refine ⟨by simp [h.1], fun a ha b => ?_⟩
  have hl : i < G.length := by rw [h.1]; exact hi
  by_cases e : a = i
  · subst e
    have := h.2 a ha b
    rw [getD_eq hl] at this
    simp [List.getD, hl, BitVec.getLsbD_or, this]
  · have := h.2 a ha b
    simp only [List.getD] at this ⊢
    rw [List.getElem?_set_ne (fun e' => e e'.symm), this]; simp [e]
end Go.Proofs.Ytopblgabadljdaa
namespace Go.Proofs.Ytopblgabadljdaa
open Go.RowKit Mk
set_option maxRecDepth 100000
set_option maxHeartbeats 1000000
section
variable {C : Ctx} {n : Nat} {σ τ : St} {ops : Array Oper} {dst : Option Tmp} {ty : TypeId} {ts : Array TypeId} {pos : String} {after : Array Edge} {gd : Option (Nat × Bool)}
theorem Agr.argsV {s : OS} {rd : List Nat} {y : Operand} {xs : Array Operand} (h : Agr n ops ⟨dst, .call { callee := .value y, args := xs, argTypes := ts }, ty, pos, after, gd⟩ σ τ s rd) : xs.toList.map (τ.ev n) = xs.toList.map (σ.ev n) := by
  apply List.map_congr_left
  intro x hx
  obtain ⟨i, hi⟩ := List.getElem?_of_mem hx
  exact h.e (i + 1) x (by simpa [Op.operands, Call.operands, Nat.add_comm] using hi)
end
/-- What a component adds to the parents: its first number in q has the parent par; the rest of it is placed by W. -/
def placeC (q : List Int) (W : B64 → Int → List Int → List Int) (par : Int) (P : List Int) (c : B64) : List Int :=
  match q.find? (fun a => c.getLsbD a.toNat) with
  | some a => W (c &&& ~~~(BitVec.twoPow 64 a.toNat)) a (P.set a.toNat par)
  | none => P
noncomputable def placeF (G : List B64) (q : List Int) : Nat → B64 → Int → List Int → List Int
  | 0, _, _, P => P
  | f + 1, rest, par, P => (compsN G rest G.length).1.foldl (placeC q (placeF G q f) par) P
noncomputable def ofL (G : List B64) (q : List Int) : List Int := placeF G q 64 (allB G.length) (-1) (List.replicate G.length 0)
end Go.Proofs.Ytopblgabadljdaa
namespace Go.Proofs.Ytopblgabadljdaa
open Go.RowKit Mk
set_option maxRecDepth 100000
set_option maxHeartbeats 1000000
/-- The graph of a schema. -/
noncomputable def gr (S : Sch) : List B64 := (List.range S.attrs.length).map fun a => bitsOf fun b => decide (a ≠ b) && linkB S a b
noncomputable def ordL (S : Sch) (q : List Int) : List Int := ofL (gr S) q
def dupB (q : List Int) : Nat → Bool
  | 0 => false
  | k + 1 => dupB q k || decide (q.getD k 0 ∈ q.take k)
/-- What order.Of says of a permutation. -/
def ofE (S : Sch) (q : List Int) : Int :=
  if checkE S ≠ 0 then checkE S
  else if q.length ≠ S.attrs.length then 5
  else if (q.any fun a => decide (a < 0) || decide (a ≥ (q.length : Int))) = true then 2
  else if dupB q q.length = true then 9 else 0
noncomputable def ofV (S : Sch) (q : List Int) : PV := .tup [ordP (if ofE S q = 0 then ordL S q else []), .int .i64 (ofE S q)]
end Go.Proofs.Ytopblgabadljdaa
namespace Go.Proofs.Ytopblgabadljdaa
set_option maxHeartbeats 1000000
theorem nodup_perm {α : Type} [DecidableEq α] {l r : List α} (hl : l.Nodup) (hr : r.Nodup) (h : ∀ a, a ∈ l ↔ a ∈ r) : l.Perm r := by
  rw [List.perm_iff_count]
  intro a
  rw [hl.count, hr.count]
  by_cases e : a ∈ l
  · rw [if_pos e, if_pos ((h a).1 e)]
  · rw [if_neg e, if_neg (fun x => e ((h a).2 x))]
theorem upZ_mem {n : Nat} {x : Int} : x ∈ upZ n ↔ ∃ a : Nat, a < n ∧ x = (a : Int) := by
  unfold upZ
  rw [List.mem_map]
  constructor
  · rintro ⟨a, ha, rfl⟩; exact ⟨a, List.mem_range.1 ha, rfl⟩
  · rintro ⟨a, ha, rfl⟩; exact ⟨a, List.mem_range.2 ha, rfl⟩
theorem upZ_nodup (n : Nat) : (upZ n).Nodup := by
  unfold upZ; exact List.Pairwise.map _ (fun a b h e => h (Int.ofNat.inj e)) List.nodup_range
structure UpOk (P : List Int) : Prop where
  rng : ∀ p ∈ P, -1 ≤ p ∧ p < P.length
  up : ∀ v, v < P.length → (abv P (v : Int)).isSome = true
theorem upF_mono {P : List Int} : ∀ {k : Nat} {x : Int} {l : List Int}, upF P k x = some l → upF P (k + 1) x = some l
  | 0, x, l, h => by
    simp only [upF] at h ⊢
    split at h
    · rename_i hx; rw [if_pos hx]; exact h
    · cases h
  | k + 1, x, l, h => by
    simp only [upF] at h
    unfold upF
    split at h
    · rename_i hx; rw [if_pos hx]; exact h
    · rename_i hx
      rw [if_neg hx]
      cases e : upF P k (P.getD x.toNat 0) with
      | none => rw [e] at h; cases h
      | some l' =>
        rw [e] at h
        rw [upF_mono e]; exact h
section
variable {P : List Int} (hP : UpOk P)
include hP
theorem par_cases {v : Nat} (hv : v < P.length) : P[v] = -1 ∨ ∃ a : Nat, a < P.length ∧ P[v] = (a : Int) := by
  have := hP.rng _ (List.getElem_mem hv)
  by_cases h : P[v] = -1
  · exact .inl h
  · obtain ⟨a, ha⟩ := Int.eq_ofNat_of_zero_le (show 0 ≤ P[v] by omega)
    exact .inr ⟨a, by omega, ha⟩
omit hP in
theorem abv_eq {v : Nat} (hv : v < P.length) : abv P v = upF P P.length P[v] := by simp [abv, List.getD, hv]
omit hP in
theorem abvL_root {v : Nat} (hv : v < P.length) (h : P[v] = -1) : abvL P v = [] := by
  unfold abvL
  rw [abv_eq hv, h, upF_neg (by decide)]; rfl
theorem abvL_cons {v a : Nat} (hv : v < P.length) (ha : a < P.length) (h : P[v] = (a : Int)) : abvL P v = (a : Int) :: abvL P a := by
  have hs := hP.up v hv
  have e := abv_eq hv
  rw [h] at e
  obtain ⟨k, hk⟩ : ∃ k, P.length = k + 1 := ⟨P.length - 1, by omega⟩
  rw [hk, upF_nat ha] at e
  cases e2 : upF P k P[a] with
  | none => rw [e, e2] at hs; cases hs
  | some l =>
    have e3 : abv P a = some l := by rw [abv_eq ha, hk]; exact upF_mono e2
    unfold abvL
    rw [e, e2, e3]; rfl
theorem up_ind {motive : Nat → Prop} (root : ∀ v (hv : v < P.length), P[v] = -1 → abvL P v = [] → motive v)
    (step : ∀ v (hv : v < P.length) a (_ : a < P.length), P[v] = (a : Int) → abvL P v = (a : Int) :: abvL P a → motive a → motive v) : ∀ v, v < P.length → motive v := by
  have key : ∀ m v, v < P.length → (abvL P v).length ≤ m → motive v := by
    intro m
    induction m with
    | zero =>
      intro v hv hl
      rcases par_cases hP hv with h | ⟨a, ha, h⟩
      · exact root v hv h (abvL_root hv h)
      · rw [abvL_cons hP hv ha h] at hl; simp at hl
    | succ m ih =>
      intro v hv hl
      rcases par_cases hP hv with h | ⟨a, ha, h⟩
      · exact root v hv h (abvL_root hv h)
      · have e := abvL_cons hP hv ha h
        rw [e] at hl
        exact step v hv a ha h e (ih a ha (by simpa using hl))
  exact fun v hv => key _ v hv (Nat.le_refl _)
end
/-- In w each one's parent is v or stands before it. -/
def Bef (P : List Int) (v : Int) (w : List Int) : Prop := ∀ pre x post, w = pre ++ x :: post → P.getD x.toNat 0 = v ∨ P.getD x.toNat 0 ∈ pre
theorem Bef.nil {P : List Int} {v : Int} : Bef P v [] := fun pre x post h => by simp at h
theorem Bef.append {P : List Int} {v : Int} {w1 w2 : List Int} (h1 : Bef P v w1) (h2 : Bef P v w2) : Bef P v (w1 ++ w2) := by
  intro pre x post e
  rcases List.append_eq_append_iff.1 e with ⟨us, e1, e2⟩ | ⟨bs, e1, e2⟩
  · rcases h2 us x post e2 with h | h
    · exact .inl h
    · right; rw [e1]; exact List.mem_append_right _ h
  · cases bs with
    | nil =>
      simp at e1 e2
      rcases h2 [] x post (by simpa using e2.symm) with h | h
      · exact .inl h
      · cases h
    | cons b bs =>
      simp at e2
      exact h1 pre x bs (by rw [e1, ← e2.1])
theorem Bef.cons {P : List Int} {v a : Int} {w : List Int} (ha : P.getD a.toNat 0 = v) (h : Bef P a w) : Bef P v (a :: w) := by
  intro pre x post e
  cases pre with
  | nil => simp at e; rw [← e.1]; exact .inl ha
  | cons b pre =>
    simp at e
    rcases h pre x post e.2 with h | h
    · right; rw [h, e.1]; exact List.mem_cons_self ..
    · right; exact List.mem_cons_of_mem _ h
theorem link_of {S : Sch} {r : ByteArray × List Int} (hr : r ∈ S.rels) {a b : Int} (ha : a ∈ r.2) (hb : b ∈ r.2) : linkB S a b = true := by
  unfold linkB; rw [List.any_eq_true]; exact ⟨r, hr, by simp [ha, hb]⟩
theorem OrdOk.upOk {S : Sch} {P : List Int} (h : OrdOk S P) : UpOk P := ⟨h.rng, h.up⟩
end Go.Proofs.Ytopblgabadljdaa
namespace Go.Proofs.Ytopblgabadljdaa
set_option maxHeartbeats 1000000
/-- A way along adj whose steps enter ok numbers only. -/
inductive Path (adj : Nat → Nat → Prop) (ok : Nat → Prop) (a : Nat) : Nat → Prop
  | refl : Path adj ok a a
  | step {b c : Nat} : Path adj ok a b → adj b c → ok c → Path adj ok a c
section
variable {adj : Nat → Nat → Prop} {ok ok' : Nat → Prop}
theorem Path.trans {a b c : Nat} (h1 : Path adj ok a b) (h2 : Path adj ok b c) : Path adj ok a c := by
  induction h2 with
  | refl => exact h1
  | step _ h3 h4 ih => exact .step ih h3 h4
theorem Path.one {a b : Nat} (h : adj a b) (hb : ok b) : Path adj ok a b := .step .refl h hb
theorem Path.mono {a b : Nat} (h : Path adj ok a b) (hm : ∀ c, ok c → ok' c) : Path adj ok' a b := by
  induction h with
  | refl => exact .refl
  | step _ h3 h4 ih => exact .step ih h3 (hm _ h4)
theorem Path.fin {a b : Nat} (h : Path adj ok a b) (ha : ok a) : ok b := by
  cases h with
  | refl => exact ha
  | step _ _ h => exact h
theorem Path.symm (hs : ∀ a b, adj a b → adj b a) {a b : Nat} (h : Path adj ok a b) (ha : ok a) : Path adj ok b a := by
  induction h with
  | refl => exact .refl
  | step h1 h3 h4 ih => exact (Path.one (hs _ _ h3) (h1.fin ha)).trans ih
end
/-- a comes before b, and is connected with it when what comes before a is gone. -/
def Anc (adj : Nat → Nat → Prop) (pos : Nat → Nat) (a b : Nat) : Prop := pos a < pos b ∧ Path adj (fun c => pos a ≤ pos c) a b
section
variable {adj : Nat → Nat → Prop} {pos : Nat → Nat} (hs : ∀ a b, adj a b → adj b a)
theorem Anc.trans {a b c : Nat} (h1 : Anc adj pos a b) (h2 : Anc adj pos b c) : Anc adj pos a c := by
  have h3 := h1.1
  exact ⟨Nat.lt_trans h1.1 h2.1, h1.2.trans (h2.2.mono fun d hd => by omega)⟩
include hs in
end
/-- The parents of the order of a permutation. -/
structure IsOrd (n : Nat) (adj : Nat → Nat → Prop) (pos : Nat → Nat) (P : List Int) : Prop where
  len : P.length = n
  par : ∀ b, b < n → (P.getD b 0 = -1 ∧ ∀ a, a < n → ¬ Anc adj pos a b) ∨ (∃ a : Nat, a < n ∧ P.getD b 0 = (a : Int) ∧ Anc adj pos a b ∧ ∀ a', a' < n → Anc adj pos a' b → a' = a ∨ Anc adj pos a' a)
section
variable {n : Nat} {adj : Nat → Nat → Prop} {pos : Nat → Nat} {P : List Int}
theorem IsOrd.upF (h : IsOrd n adj pos P) : ∀ (m b k : Nat), b < n → pos b ≤ m → pos b ≤ k → (upF P k (P.getD b 0)).isSome = true := by
  intro m
  induction m with
  | zero =>
    intro b k hb hm hk
    rcases h.par b hb with ⟨h1, _⟩ | ⟨a, ha, h1, h2, _⟩
    · rw [h1, upF_neg (by decide)]; rfl
    · have := h2.1; omega
  | succ m ih =>
    intro b k hb hm hk
    rcases h.par b hb with ⟨h1, _⟩ | ⟨a, ha, h1, h2, _⟩
    · rw [h1, upF_neg (by decide)]; rfl
    · have := h2.1
      obtain ⟨k', rfl⟩ : ∃ k', k = k' + 1 := ⟨k - 1, by omega⟩
      rw [h1, upF_nat (by rw [h.len]; exact ha), Option.isSome_map]
      have := ih a k' ha (by omega) (by omega)
      rwa [getD_eq (by rw [h.len]; exact ha)] at this
theorem IsOrd.upOk (h : IsOrd n adj pos P) (hp : ∀ b, b < n → pos b < n) : UpOk P := by
  refine ⟨fun p hp => ?_, fun v hv => ?_⟩
  · obtain ⟨b, hb, e⟩ := List.getElem_of_mem hp
    rw [← getD_eq hb 0] at e
    have hb' : b < n := by rw [← h.len]; exact hb
    have := h.len
    rcases h.par b hb' with ⟨h1, _⟩ | ⟨a, ha, h1, _, _⟩ <;> omega
  · have hv' : v < n := by rw [← h.len]; exact hv
    have := h.upF (pos v) v P.length hv' (Nat.le_refl _) (by rw [h.len]; exact Nat.le_of_lt (hp v hv'))
    rwa [abv_eq hv, ← getD_eq hv 0]
theorem IsOrd.mem (h : IsOrd n adj pos P) (hp : ∀ b, b < n → pos b < n) : ∀ b, b < P.length → ∀ a : Nat, (a : Int) ∈ abvL P b ↔ a < n ∧ Anc adj pos a b := by
  have hl := h.len
  refine up_ind (h.upOk hp) (fun v hv hr e a => ?_) (fun v hv p hpl hr e ih a => ?_)
  · rw [e]
    rcases h.par v (by omega) with ⟨_, h2⟩ | ⟨c, hc, h1, _, _⟩
    · exact ⟨fun hh => absurd hh List.not_mem_nil, fun hh => absurd hh.2 (h2 a hh.1)⟩
    · rw [getD_eq hv, hr] at h1; omega
  · rw [e, List.mem_cons, ih a]
    rcases h.par v (by omega) with ⟨h1, _⟩ | ⟨c, hc, h1, h2, h3⟩
    · rw [getD_eq hv, hr] at h1; omega
    · rw [getD_eq hv, hr] at h1
      have : c = p := by omega
      subst this
      constructor
      · rintro (h4 | h4)
        · have : a = c := by omega
          subst this; exact ⟨hc, h2⟩
        · exact ⟨h4.1, h4.2.trans h2⟩
      · rintro ⟨h4, h5⟩
        rcases h3 a h4 h5 with rfl | h6
        · exact .inl rfl
        · exact .inr ⟨h4, h6⟩
end
/-- The graph of a schema. -/
def adjS (S : Sch) (a b : Nat) : Prop := a ≠ b ∧ linkB S a b = true
theorem link_symm {S : Sch} {a b : Int} (h : linkB S a b = true) : linkB S b a = true := by
  unfold linkB at h ⊢
  obtain ⟨r, hr, h2⟩ := List.any_eq_true.1 h
  rw [List.any_eq_true]
  exact ⟨r, hr, by rw [Bool.and_comm]; exact h2⟩
theorem adjS_symm (S : Sch) : ∀ a b, adjS S a b → adjS S b a := fun _ _ h => ⟨fun e => h.1 e.symm, link_symm h.2⟩
def posQ (q : List Int) (a : Nat) : Nat := q.idxOf (a : Int)
theorem posQ_lt {n : Nat} {q : List Int} (hq : q.Perm (upZ n)) {a : Nat} (ha : a < n) : posQ q a < n := by
  have : q.idxOf (a : Int) < q.length := List.idxOf_lt_length_of_mem (hq.mem_iff.2 (upZ_mem.2 ⟨a, ha, rfl⟩))
  rwa [hq.length_eq, upZ_len] at this
theorem posQ_inj {n : Nat} {q : List Int} (hq : q.Perm (upZ n)) {a b : Nat} (ha : a < n) (h : posQ q a = posQ q b) : a = b := by
  have h1 : q.idxOf (a : Int) < q.length := List.idxOf_lt_length_of_mem (hq.mem_iff.2 (upZ_mem.2 ⟨a, ha, rfl⟩))
  have h2 : q.idxOf (b : Int) < q.length := by unfold posQ at h; rw [← h]; exact h1
  have e1 : q[q.idxOf (a : Int)] = (a : Int) := List.getElem_idxOf h1
  have e2 : q[q.idxOf (b : Int)] = (b : Int) := List.getElem_idxOf h2
  have e3 : q[q.idxOf (a : Int)] = q[q.idxOf (b : Int)] := by unfold posQ at h; congr 1
  rw [e1, e2] at e3
  omega
/-- The order of a permutation is right. -/
theorem IsOrd.ok {S : Sch} (hV : Valid S) {q : List Int} (hq : q.Perm (upZ S.attrs.length)) {P : List Int} (h : IsOrd S.attrs.length (adjS S) (posQ q) P) : OrdOk S P := by
  have hp : ∀ b, b < S.attrs.length → posQ q b < S.attrs.length := fun b hb => posQ_lt hq hb
  have hu := h.upOk hp
  refine ⟨hV, h.len, hu.rng, hu.up, fun r hr => ?_⟩
  unfold rightB
  rw [List.all_eq_true]
  intro a ha
  rw [List.all_eq_true]
  intro b hb
  obtain ⟨x, hx⟩ := Int.eq_ofNat_of_zero_le (hV.rng r hr a ha).1
  obtain ⟨y, hy⟩ := Int.eq_ofNat_of_zero_le (hV.rng r hr b hb).1
  have hxl : x < S.attrs.length := by have := (hV.rng r hr a ha).2; omega
  have hyl : y < S.attrs.length := by have := (hV.rng r hr b hb).2; omega
  by_cases e : a = b
  · simp [e]
  · have hxy : x ≠ y := by omega
    have hadj : adjS S x y := ⟨hxy, by rw [← hx, ← hy]; exact link_of hr ha hb⟩
    have hl := h.len
    rcases Nat.lt_or_gt_of_ne (fun e => hxy (posQ_inj hq hxl e)) with h1 | h1
    · have : (x : Int) ∈ abvL P y := (h.mem hp y (by omega) x).2 ⟨hxl, h1, .one hadj (Nat.le_of_lt h1)⟩
      rw [hx, hy]; simp [hiB, this]
    · have : (y : Int) ∈ abvL P x := (h.mem hp x (by omega) y).2 ⟨hyl, h1, .one (adjS_symm S _ _ hadj) (Nat.le_of_lt h1)⟩
      rw [hx, hy]; simp [hiB, this]
end Go.Proofs.Ytopblgabadljdaa
namespace Go.Proofs.Ytopblgabadljdaa
set_option maxHeartbeats 1000000
def adjG (G : List B64) (a b : Nat) : Prop := (G.getD a 0#64).getLsbD b = true
structure Comp (adj : Nat → Nat → Prop) (rest c : B64) : Prop where
  sub : ∀ i, c.getLsbD i = true → rest.getLsbD i = true
  clo : ∀ i j, c.getLsbD i = true → adj i j → rest.getLsbD j = true → c.getLsbD j = true
  con : ∀ i j, c.getLsbD i = true → c.getLsbD j = true → Path adj (fun x => c.getLsbD x = true) i j
  ne : ∃ i, c.getLsbD i = true
structure CompsI (adj : Nat → Nat → Prop) (rest : B64) (k : Nat) (cs : List B64) (R : B64) : Prop where
  all : ∀ c ∈ cs, Comp adj rest c
  cov : ∀ i, rest.getLsbD i = true ↔ R.getLsbD i = true ∨ ∃ c ∈ cs, c.getLsbD i = true
  dis : ∀ i, R.getLsbD i = true → ∀ c ∈ cs, ¬ c.getLsbD i = true
  pw : cs.Pairwise (fun c d => ∀ i, c.getLsbD i = true → ¬ d.getLsbD i = true)
  low : ∀ i, i < k → ¬ R.getLsbD i = true
def AncR (adj : Nat → Nat → Prop) (pos : Nat → Nat) (rest : B64) (a b : Nat) : Prop :=
  rest.getLsbD a = true ∧ rest.getLsbD b = true ∧ pos a < pos b ∧ Path adj (fun c => rest.getLsbD c = true ∧ pos a ≤ pos c) a b
section
variable {n : Nat} {G : List B64} {q : List Int} (hG : G.length = n) (hs : ∀ a b, adjG G a b → adjG G b a) (hq : q.Perm (upZ n))
theorem AncR.sub {adj : Nat → Nat → Prop} {pos : Nat → Nat} {r r' : B64} (h : ∀ i, r.getLsbD i = true → r'.getLsbD i = true) {a b : Nat} (k : AncR adj pos r a b) : AncR adj pos r' a b :=
  ⟨h _ k.1, h _ k.2.1, k.2.2.1, k.2.2.2.mono fun c hc => ⟨h _ hc.1, hc.2⟩⟩
include hs hq in
end
end Go.Proofs.Ytopblgabadljdaa
namespace Go.Proofs.Ytopblgabadljdaa
open Go.RowKit Mk
set_option maxRecDepth 100000
set_option maxHeartbeats 4000000
/-- What component knows on its way: the set so far is reached, and has the first one; F: how many were outside at the beginning of the round. -/
structure RInv (S : Sch) (rem : List Bool) (a n : Nat) (I : List Bool) : Prop where
  len : I.length = n
  has : I.getD a false = true
  snd : ∀ b, I.getD b false = true → Path (adjS S) (fun c => rem.getD c false = false) a b
def extB (S : Sch) (rem I : List Bool) (x y : Nat) : Bool := ((I.getD x false && !I.getD y false) && !rem.getD y false) && linkB S x y
structure PInv (S : Sch) (rem : List Bool) (a n F k : Nat) (I : List Bool) (more : Bool) : Prop where
  r : RInv S rem a n I
  le : I.count false ≤ F
  lt : more = true → I.count false < F
  no : more = false → ∀ x, x < k → ∀ y, y < n → extB S rem I x y = false
theorem count_set {I : List Bool} {y : Nat} (hy : y < I.length) (h : I[y] = false) : (I.set y true).count false < I.count false := by
  rw [List.count_set hy, h]
  have : 0 < I.count false := List.count_pos_iff.2 (by rw [← h]; exact List.getElem_mem hy)
  simp; omega
theorem RInv.ext {S : Sch} {rem I : List Bool} {a n x y : Nat} (h : RInv S rem a n I) (hy : y < n) (he : extB S rem I x y = true) : RInv S rem a n (I.set y true) ∧ (I.set y true).count false < I.count false := by
  unfold extB at he
  simp only [Bool.and_eq_true, Bool.not_eq_true'] at he
  have hyl : y < I.length := by rw [h.len]; exact hy
  refine ⟨⟨by simp [h.len], ?_, fun b hb => ?_⟩, count_set hyl (by rw [← getD_eq hyl false]; exact he.1.1.2)⟩
  · by_cases e : a = y
    · subst e; simp [List.getD, hyl]
    · have := h.has
      simp only [List.getD] at this ⊢
      rw [List.getElem?_set_ne (fun e' => e e'.symm)]; exact this
  · by_cases e : b = y
    · subst e
      refine .step (h.snd x he.1.1.1) ⟨fun e => ?_, he.2⟩ he.1.2
      subst e
      rw [he.1.1.1] at he; exact absurd he.1.1.2 (by decide)
    · refine h.snd b ?_
      simp only [List.getD] at hb ⊢
      rw [List.getElem?_set_ne (fun e' => e e'.symm)] at hb; exact hb
end Go.Proofs.Ytopblgabadljdaa
namespace Go.Proofs.Ytopblgabadljdaa
open Go.RowKit Mk
set_option maxRecDepth 100000
set_option maxHeartbeats 4000000
/-- The parents when the first i of the permutation are done. -/
def OInv (n : Nat) (adj : Nat → Nat → Prop) (pos : Nat → Nat) (i : Nat) (P : List Int) : Prop :=
  ∀ b, b < n → (P.getD b 0 = -1 ∧ ∀ a, a < n → pos a < i → ¬ Anc adj pos a b) ∨ ∃ a : Nat, a < n ∧ P.getD b 0 = (a : Int) ∧ pos a < i ∧ Anc adj pos a b ∧ ∀ a', a' < n → pos a' < i → Anc adj pos a' b → pos a' ≤ pos a
theorem OInv.next {n : Nat} {adj : Nat → Nat → Prop} {pos : Nat → Nat} (hinj : ∀ a b, a < n → pos a = pos b → a = b) {i a : Nat} {P Q : List Int} (ha : a < n) (hpa : pos a = i) (h : OInv n adj pos i P) {I : Nat → Prop}
    (hI : ∀ b, b < n → (I b ↔ Path adj (fun c => pos a ≤ pos c) a b)) (hQ : ∀ b, b < n → (I b ∧ b ≠ a → Q.getD b 0 = (a : Int)) ∧ (¬ (I b ∧ b ≠ a) → Q.getD b 0 = P.getD b 0)) : OInv n adj pos (i + 1) Q := by
  intro b hb
  have hanc : I b ∧ b ≠ a ↔ Anc adj pos a b := by
    constructor
    · rintro ⟨h1, h2⟩
      have hp := (hI b hb).1 h1
      have h3 : pos a ≤ pos b := hp.fin (ok := fun c => pos a ≤ pos c) (Nat.le_refl _)
      exact ⟨Nat.lt_of_le_of_ne h3 (fun e => h2 (hinj a b ha e).symm), hp⟩
    · rintro ⟨h1, h2⟩
      exact ⟨(hI b hb).2 h2, fun e => by subst e; omega⟩
  have cases' : ∀ a', a' < n → pos a' < i + 1 → a' = a ∨ pos a' < i := fun a' ha' h1 => by
    by_cases e : pos a' = i
    · exact .inl (hinj a' a ha' (by omega))
    · exact .inr (by omega)
  by_cases hA : Anc adj pos a b
  · refine .inr ⟨a, ha, (hQ b hb).1 (hanc.2 hA), by omega, hA, fun a' ha' h1 _ => by omega⟩
  · rw [(hQ b hb).2 (fun h1 => hA (hanc.1 h1))]
    rcases h b hb with ⟨h1, h2⟩ | ⟨d, hd, h1, h2, h3, h4⟩
    · refine .inl ⟨h1, fun a' ha' h3 h4 => ?_⟩
      rcases cases' a' ha' h3 with rfl | h5
      · exact hA h4
      · exact h2 a' ha' h5 h4
    · refine .inr ⟨d, hd, h1, by omega, h3, fun a' ha' h5 h6 => ?_⟩
      rcases cases' a' ha' h5 with rfl | h7
      · exact absurd h6 hA
      · exact h4 a' ha' h7 h6
theorem pos_at {n : Nat} {q : List Int} (hq : q.Perm (upZ n)) {i a : Nat} (hi : i < q.length) (h : q[i] = (a : Int)) : posQ q a = i := by
  have hnd : q.Nodup := hq.nodup_iff.2 (upZ_nodup n)
  unfold posQ
  rw [← h]
  exact hnd.idxOf_getElem i hi
end Go.Proofs.Ytopblgabadljdaa
namespace Go.Proofs.Ytopblgabadljdaa
open Go.RowKit Mk
set_option maxHeartbeats 1000000
/-- Each attribute of the permutation has the one before as parent. -/
structure IsChain (n : Nat) (q P : List Int) : Prop where
  perm : q.Perm (upZ n)
  len : P.length = n
  par : ∀ i (hi : i < q.length), P.getD q[i].toNat 0 = if i = 0 then -1 else q.getD (i - 1) 0
theorem IsChain.ord {n : Nat} {q P : List Int} (h : IsChain n q P) : IsOrd n (fun _ _ => True) (posQ q) P := by
  have hql : q.length = n := by rw [h.perm.length_eq, upZ_len]
  refine ⟨h.len, fun b hb => ?_⟩
  have hi := posQ_lt h.perm hb
  have hat : q[posQ q b]'(by omega) = (b : Int) := List.getElem_idxOf (by show posQ q b < _; omega)
  have hp := h.par (posQ q b) (by omega)
  rw [hat, Int.toNat_natCast] at hp
  by_cases e : posQ q b = 0
  · rw [if_pos e] at hp
    exact .inl ⟨hp, fun a _ ha => by have := ha.1; omega⟩
  · rw [if_neg e] at hp
    obtain ⟨a, ha, hqa⟩ := upZ_mem.1 (h.perm.mem_iff.1 (List.getElem_mem (show posQ q b - 1 < q.length by omega)))
    have hpa := pos_at h.perm (by omega) hqa
    rw [getD_eq (show posQ q b - 1 < q.length by omega), hqa] at hp
    refine .inr ⟨a, ha, hp, ⟨by omega, .one trivial (by omega)⟩, fun a' ha' h2 => ?_⟩
    have h3 := h2.1
    by_cases e2 : posQ q a' = posQ q a
    · exact .inl (posQ_inj h.perm ha' e2)
    · exact .inr ⟨by omega, .one trivial (by omega)⟩
/-- An order along a full graph is right for every schema. -/
theorem IsChain.ok {S : Sch} (hV : Valid S) {q P : List Int} (h : IsChain S.attrs.length q P) : OrdOk S P := by
  have hp : ∀ b, b < S.attrs.length → posQ q b < S.attrs.length := fun b hb => posQ_lt h.perm hb
  have ho := h.ord
  have hu := ho.upOk hp
  refine ⟨hV, h.len, hu.rng, hu.up, fun r hr => ?_⟩
  unfold rightB
  rw [List.all_eq_true]
  intro a ha
  rw [List.all_eq_true]
  intro b hb
  obtain ⟨x, hx⟩ := Int.eq_ofNat_of_zero_le (hV.rng r hr a ha).1
  obtain ⟨y, hy⟩ := Int.eq_ofNat_of_zero_le (hV.rng r hr b hb).1
  have hxl : x < S.attrs.length := by have := (hV.rng r hr a ha).2; omega
  have hyl : y < S.attrs.length := by have := (hV.rng r hr b hb).2; omega
  by_cases e : a = b
  · simp [e]
  · have hxy : x ≠ y := by omega
    have hl := h.len
    rcases Nat.lt_or_gt_of_ne (fun e => hxy (posQ_inj h.perm hxl e)) with h1 | h1
    · have : (x : Int) ∈ abvL P y := (ho.mem hp y (by omega) x).2 ⟨hxl, h1, .one trivial (Nat.le_of_lt h1)⟩
      rw [hx, hy]; simp [hiB, this]
    · have : (y : Int) ∈ abvL P x := (ho.mem hp x (by omega) y).2 ⟨hyl, h1, .one trivial (Nat.le_of_lt h1)⟩
      rw [hx, hy]; simp [hiB, this]
/-- What the loop of Chain keeps: the first i of the permutation have their parents. -/
def ChInv (q P : List Int) (n i : Nat) : Prop := P.length = n ∧ ∀ j (hj : j < q.length), j < i → P.getD q[j].toNat 0 = if j = 0 then -1 else q.getD (j - 1) 0
theorem ChInv.next {q P : List Int} {n i a : Nat} (hq : q.Perm (upZ n)) (h : ChInv q P n i) (hi : i < q.length) (ha : a < n) (hqa : q[i] = (a : Int)) {x : Int} (hx : x = if i = 0 then -1 else q.getD (i - 1) 0) : ChInv q (P.set a x) n (i + 1) := by
  refine ⟨by rw [List.length_set, h.1], fun j hj hji => ?_⟩
  obtain ⟨b, hb, hqb⟩ := upZ_mem.1 (hq.mem_iff.1 (List.getElem_mem hj))
  rw [hqb, Int.toNat_natCast]
  by_cases e : j = i
  · subst e
    have : b = a := by rw [hqb] at hqa; omega
    subst this
    rw [hx.symm.trans rfl |>.symm] at *
    simp [List.getD, h.1, hb, hx]
  · have hne : b ≠ a := fun e2 => by
      subst e2
      exact e (by rw [← pos_at hq hj hqb, ← pos_at hq hi hqa])
    have := h.2 j hj (by omega)
    rw [hqb, Int.toNat_natCast] at this
    simp only [List.getD] at this ⊢
    rw [List.getElem?_set_ne (fun e' => hne e'.symm)]
    exact this
end Go.Proofs.Ytopblgabadljdaa
namespace Go.Proofs.Ytopblgabadljdaa
open Go.RowKit Mk
set_option maxRecDepth 100000
set_option maxHeartbeats 1000000
theorem ints_same (l : List Int) (hl : l.length ≤ 1000000000) : FnP Try.prog 28 [pints l, pints l] (· = .bool true) := by
  have h := ints_spec l l hl hl
  rw [decide_eq_true rfl] at h
  exact h
end Go.Proofs.Ytopblgabadljdaa
namespace Go.Proofs.Ytopblgabadljdaa
open Go.RowKit Mk
set_option maxHeartbeats 1000000
theorem asc_len {n : Nat} : ∀ {l : List Int}, l.Pairwise (· < ·) → (∀ a ∈ l, 0 ≤ a ∧ a < n) → l.length ≤ n := by
  intro l hp hr
  have hnd : l.Nodup := hp.imp (fun h e => by omega)
  have hsub : ∀ a ∈ l, a ∈ upZ n := fun a ha => by
    obtain ⟨x, hx⟩ := Int.eq_ofNat_of_zero_le (hr a ha).1
    exact upZ_mem.2 ⟨x, by have := (hr a ha).2; omega, hx⟩
  have : (((upZ n).filter fun a => decide (a ∈ l))).Perm l := nodup_perm (List.Pairwise.sublist List.filter_sublist (upZ_nodup _)) hnd fun a => by
    rw [List.mem_filter, decide_eq_true_iff]
    exact ⟨fun h => h.2, fun h => ⟨hsub a h, h⟩⟩
  rw [← this.length_eq]
  exact Nat.le_trans (List.length_filter_le _ _) (by rw [upZ_len]; exact Nat.le_refl _)
theorem nm_size (p : UInt8) (i : Nat) : (nm p i).size = 2 := by
  unfold nm chr
  simp [ByteArray.size_append]
  rfl
theorem made_SB {S : Sch} {most : Nat} (h : Made S most) (hm : most ≤ 8) : SB S := by
  have h1 := h.a2
  have h2 := h.r2
  have h3 := featsOk_len h.fs
  refine ⟨by omega, by omega, by omega, fun x hx => ?_, fun x hx => ?_, fun x hx => ?_⟩
  · obtain ⟨i, hi, rfl⟩ := List.getElem_of_mem hx
    rw [(h.at' i hi).1, nm_size]; decide
  · obtain ⟨i, hi, rfl⟩ := List.getElem_of_mem hx
    rw [(h.rs i hi).1, nm_size]; decide
  · obtain ⟨i, hi, rfl⟩ := List.getElem_of_mem hx
    have := asc_len (h.rs i hi).2.2.1 (h.rs i hi).2.2.2
    omega
section
variable {C : Ctx} {n : Nat} {σ : St} {dst : Option Tmp} {ty : TypeId} {ts : Array TypeId} {pos : String} {after : Array Edge} {gd : Option (Nat × Bool)}
/-- What a method leaves, if it isn't a function: for DL.rel. -/
def RM (T : TypeId) (id : Nat) (Q : PV → List PV → Prop) (s : OS) : Prop := ∃ r cs', Q r cs' ∧ s = ⟨.pv r, [(id, some (.mix T (cs'.map .pv)))], []⟩
theorem relM {f : FuncId} {xs : Array Operand} {ps : List PV} {T : TypeId} {id : Nat} {cs : List PV} {Q : PV → List PV → Prop} (hc : CallOk C.P f) (hf : FnM C.P f T cs ps Q) (hargs : xs.toList.map (σ.ev n) = .ptr id 0 :: ps.map .pv) (ho : σ.ob id = some (.mix T (cs.map .pv))) :
    OJ C n ⟨dst, .call { callee := .value (.func f), args := xs, argTypes := ts }, ty, pos, after, gd⟩ (fun τ' => ∃ s, RM T id Q s ∧ s.wr.map (·.1) = [id] ∧ s.nw = [] ∧ τ' = σ.app dst s) σ :=
  oj_callM hc hf hargs ho fun r cs' h => ⟨_, ⟨r, cs', h, rfl⟩, rfl, rfl, rfl⟩
end
/-- From a contract on plain values to a call. -/
theorem fn_calls {P : Program} {f : FuncId} {args : List PV} {us : List Value} (h : FnP P f args (· = .bool true)) (w : World) (hrel : RelPL w (fun b => b < w.heap.size) args us) :
    Calls P f us.toArray w fun e w' => e = .returned (.bool true) ∧ Below w.heap.size w w' :=
  (h w _ us (fun _ hb => hb) hrel).mono fun _ _ ⟨u, v, e, hv, hb, hr⟩ => by
    subst hv
    simp only [RelP] at hr
    subst hr
    exact ⟨e, hb⟩
end Go.Proofs.Ytopblgabadljdaa
namespace Go.Proofs.Ytopblgabadljdaa
open Go.RowKit Mk
set_option maxRecDepth 100000
set_option maxHeartbeats 4000000
theorem FnM.fg2 {P : Program} {f : FuncId} {T : TypeId} {cs args : List PV} {Q : PV → List PV → Prop} (h : FnM P f T cs args (fun v c => Q v.fg2 c)) : FnM P f T cs args Q :=
  fun w m R us h1 h2 => (h w m R us h1 h2).mono fun _ _ ⟨u, v, ob', m', R', e, ⟨r, cs', hv, ho, q⟩, _, hob, hr, hrel⟩ => ⟨u, .pv r.fg2, ob', m', R', e, ⟨r.fg2, cs', rfl, ho, q⟩, rfl, hob, hr, by subst hv; simp only [Rel] at hrel ⊢; exact hrel.fg2⟩
end Go.Proofs.Ytopblgabadljdaa
namespace Go.Proofs.Ytopblgabadljdaa
open Go.RowKit Go.MapKept
section
variable {w : World} {R : Nat → Prop}
end
/-- Which map an operand names: one of the call's own, one that stands, or none. -/
def MapSrc (n : Nat) (σ : St) (x : Operand) (ks vs : List PV) : Prop :=
  (∃ id, σ.ev n x = .map id ∧ σ.ob id = some (.mp ks vs)) ∨ σ.ev n x = .pv (.mp ks vs) ∨ (σ.ev n x = .pv .nilmap ∧ ks = [] ∧ vs = [])
section
variable {C : Ctx} {n : Nat} {σ : St} {a : Act} {w : World} {m : Gm} {R : Nat → Prop} {x y z : Operand} {dst : Option Tmp} {ty t kt et : TypeId} {pos : String} {after : Array Edge} {gd : Option (Nat × Bool)} {ks vs : List PV}
theorem MapSrc.at (hw : SW C n σ a w m R) (h : MapSrc n σ x ks vs) : (∃ b es clock, a.eval x = .map (some b) ∧ w.heap[b]? = some (.map es clock) ∧ RelPL w R ks (es.toList.map (·.key)) ∧ RelPL w R vs (es.toList.map (·.val))) ∨ (a.eval x = .map none ∧ ks = [] ∧ vs = []) := by
  rcases h with ⟨id, hx, ho⟩ | hx | ⟨hx, h1, h2⟩
  · obtain ⟨b, N, hm, hr⟩ := hw.live ho
    have := hw.ev x
    rw [hx] at this
    simp only [Rel] at this
    obtain ⟨es, clock, q1, q2, q3, _⟩ := hr
    exact .inl ⟨b, es, clock, this.2 b N hm, q1, q2, q3⟩
  · have := hw.pv hx
    simp only [RelP] at this
    obtain ⟨b, e, _, es, clock, q1, q2, q3, _⟩ := this
    exact .inl ⟨b, es, clock, e, q1, q2, q3⟩
  · have := hw.pv hx
    simp only [RelP] at this
    exact .inr ⟨this, h1, h2⟩
theorem run_map {P : Program} {w : World} {r : Nat} {es : Array MapEntry} {clock : Nat} (hb : w.heap[r]? = some (.map es clock)) : (getObj r).run P w = .ok (.map es clock) w := by
  simp [getObj, Sem.run, hb]
theorem RelPL.at {ps : List PV} {us : List Value} (h : RelPL w R ps us) {i : Nat} {p : PV} {u : Value} (hp : ps[i]? = some p) (hu : us[i]? = some u) : RelP w R p u := by
  obtain ⟨u', h1, h2⟩ := h.get hp
  rw [hu] at h1
  cases h1
  exact h2
end
end Go.Proofs.Ytopblgabadljdaa
namespace Go.Proofs.Ytopblgabadljdaa
open Go.RowKit
section
variable {C : Ctx} {n : Nat} {σ : St} {dst : Option Tmp} {ty t t' : TypeId} {pos : String} {after : Array Edge} {gd : Option (Nat × Bool)} {x y : Operand}
/-- append onto nil: of whatever source. -/
theorem xj_append0G {e : TypeId} {z : Value} {size bytes j : Nat} {news : List PV} (id' : Nat) (he : ElemIs C.P t e z size bytes) (hs : σ.ev n x = .pv (.sl (some true) 0 []))
    (hsrc : SrcIs n σ y j news) (hl : news.length = j * size) (hlf : ∀ c ∈ news, c.leaf = true) (hb : j ≤ 1000000000) (hid : σ.av id' = true) :
    XJ C n ⟨dst, .call { callee := .builtin .append, args := #[x, y], argTypes := #[t, t] }, ty, pos, after, gd⟩ σ ⟨.gsl id' size j, [(id', some (.gro e news))], [id']⟩ := by
  rintro a w Q ⟨m, R, hw⟩
  have hx := hw.pv hs
  simp only [RelP] at hx
  obtain ⟨A0, c0, hev, _, _, hn, hc0, _⟩ := hx
  have hA0 : A0 = none := by cases A0; rfl; have := hn true rfl; simp at this
  subst hA0
  rw [hc0 trivial] at hev
  obtain ⟨A, c2, us, hev2, hr2, hrow⟩ := hsrc.row hw
  rcases Nat.eq_zero_or_pos j with rfl | hj
  · obtain rfl : news = [] := List.eq_nil_of_length_eq_zero (by simpa using hl)
    obtain ⟨i, hi, _⟩ := info_parts he.info
    have hrun : (Builtin.append_ #[t, t] ty #[.slice none 0 0, .slice A 0 c2]).run C.P w = .ok (.slice none 0 0) w := by
      cases A <;> simp [Builtin.append_, run_underlying he.u, sizeOf, typeInfo, hi, Builtin.lenOf, Builtin.firstCells, loadCells, loadCellsFrom]
    unfold Oper.wp execOp
    simp only [resolve, invoke, builtin, Sem.run_bind, Sem.run_pure, Result.andThen_ok, List.map_toArray, List.map_cons, List.map_nil, hev, hev2, hrun]
    obtain ⟨h, hmn⟩ := hw.gro0 hid e
    refine ⟨_, rfl, m, R, ?_⟩
    rw [St.app_new]
    refine SW.put h dst ?_
    exact nil_gsl (by simp only [RelP]; exact ⟨none, 0, rfl, Nat.le_refl _, by simp [maxLen], (fun _ e => by cases e; rfl), (fun _ => rfl), fun e => absurd rfl e⟩) hmn (by simp [avL])
  · have hnl : 0 < news.length := by rw [hl]; exact Nat.mul_pos hj he.pos
    have hne : news ≠ [] := List.length_pos_iff.1 hnl
    refine wp_appS x y t rfl 0 e z size bytes he.u he.info he.zs he.pos he.by_ _ 0 j c2 A _ us hev hev2 (World.ownsRow_nil w 0 e size) hrow (by rw [hr2.length, hl]) (leafP_cells hr2 hlf) (by omega) (Nat.zero_le _) ?_
    intro A' c' w' hown' hgr hat
    simp only [Nat.zero_add, List.nil_append] at hown' hat ⊢
    rcases hown'.2 with ⟨hv, h0⟩ | ⟨g, cap, cur, hv, _, hg, hkc', hcm', hcs', htk⟩
    · omega
    · simp only [Value.slice.injEq] at hv
      obtain ⟨rfl, -, rfl⟩ := hv
      have gge : w.heap.size ≤ g := by
        rcases hat with h | ⟨g', h, hle⟩
        · simp [Value.ownBlock] at h
        · simp only [Value.ownBlock, Option.some.injEq] at h
          subst h; exact hle
      refine ⟨_, rfl, upd m id' (some (g, cur.size)), R, ?_⟩
      rw [St.app_new]
      refine SW.put (hw.fresh hid hg hgr (fun q hq => by simp [Value.ownBlock] at hq) (fun h => by have := hw.hr.rsz _ h; omega) (fun i b N hi e => by have := (hw.hr.own i b N hi).1; omega) (.inr (by have := hw.hr.frame.size; omega)) (.gro e news) ?_ (gro_real hne)) dst ?_
      · intro m' av' hR _ _
        refine ⟨cur, hg, rfl, ?_, ?_⟩
        · rw [hcs', ← hr2.length, hown'.1]; exact Nat.mul_le_mul_right _ hkc'
        · rw [← hr2.length, hown'.1, htk]
          exact hr2.mono hR
      · simp only [Rel]
        refine ⟨by simp [avL], _, c', rfl, hkc', hcm', fun h => by omega, fun _ b N e => ?_⟩
        rw [upd_same] at e
        cases e
        exact ⟨rfl, hcs'⟩
end
/-- A growing slice in a cell of a variable, if it is not empty, is a slice of the call's own. -/
def St.ownC (σ : St) (pid j id sz k : Nat) (T T' : TypeId) (cs : List PV) (vs : List V) : St := ⟨σ.sl, obL [(pid, some (.mix T' (vs.set j (.osl id sz k)))), (id, some (.cells T cs))] σ.ob, σ.av⟩
theorem RelL.setG {w : World} {m : Gm} {av : Av} {R : Nat → Prop} : ∀ {ps : List V} {us : List Value} (i : Nat) {p q : V}, RelL w m av R ps us → ps[i]? = some p → (∀ u, Rel w m av R p u → Rel w m av R q u) → RelL w m av R (ps.set i q) us
  | [], _, n, _, _, h, hp, _ => by simp at hp
  | c :: cs, _, 0, _, _, h, hp, k => by
    simp only [RelL] at h
    obtain ⟨u, xs, rfl, h1, h2⟩ := h
    simp at hp; subst hp
    simp only [List.set_cons_zero, RelL]
    exact ⟨u, xs, rfl, k u h1, h2⟩
  | c :: cs, _, n + 1, _, _, h, hp, k => by
    simp only [RelL] at h
    obtain ⟨u, xs, rfl, h1, h2⟩ := h
    simp only [List.set_cons_succ, RelL]
    exact ⟨u, xs, rfl, h1, RelL.setG n h2 (by simpa using hp) k⟩
theorem St.le_ownC {σ : St} {id sz k : Nat} {T T' : TypeId} {cs : List PV} {vs : List V} (pid j : Nat) (ht : σ.ob pid = some (.mix T' vs)) (hj : vs[j]? = some (.gsl id sz k)) (ho : σ.ob id = some (.gro T cs)) (hn : 0 < k) (hc : cs ≠ []) : σ.le (σ.ownC pid j id sz k T T' cs vs) := by
  rintro C nn a w ⟨m, R, hw⟩
  have hne : pid ≠ id := fun e => by rw [e, ho] at ht; cases ht
  have hs : ∀ i, i ≠ pid → i ≠ id → obL [(pid, some (.mix T' (vs.set j (.osl id sz k)))), (id, some (Ob.cells T cs))] σ.ob i = σ.ob i := fun i h1 h2 => obL_get _ _ _ (by simp; exact ⟨h1, h2⟩)
  have hi : obL [(pid, some (.mix T' (vs.set j (.osl id sz k)))), (id, some (Ob.cells T cs))] σ.ob id = some (.cells T cs) := by
    have : Nat.beq id pid = false := by cases hb : Nat.beq id pid; rfl; exact absurd (Nat.eq_of_beq_eq_true hb).symm hne
    simp [obL, this]
  have hp : obL [(pid, some (.mix T' (vs.set j (.osl id sz k)))), (id, some (Ob.cells T cs))] σ.ob pid = some (.mix T' (vs.set j (.osl id sz k))) := by simp [obL]
  refine ⟨m, R, ⟨?_, ?_, ?_, hw.hr.inj, hw.hr.own, hw.hr.rsz, hw.hr.rfr, hw.hr.r0, hw.hr.frame, hw.hr.keep, hw.hr.res⟩, hw.df, hw.sz, hw.sl⟩
  · intro i
    show _ = liveO (obL _ _ _)
    by_cases e : i = id
    · subst e; rw [hw.hr.dom, ho, hi]; exact gro_real hc
    · by_cases e2 : i = pid
      · subst e2; rw [hw.hr.dom, ht, hp]; rfl
      · rw [hs i e2 e]; exact hw.hr.dom i
  · intro i h
    show obL _ _ _ = none
    by_cases e : i = id
    · subst e; have := hw.hr.free i h; rw [ho] at this; cases this
    · by_cases e2 : i = pid
      · subst e2; have := hw.hr.free i h; rw [ht] at this; cases this
      · rw [hs i e2 e]; exact hw.hr.free i h
  · intro i o b N h1 h2
    have h1' : obL [(pid, some (.mix T' (vs.set j (.osl id sz k)))), (id, some (Ob.cells T cs))] σ.ob i = some o := h1
    by_cases e : i = id
    · subst e
      rw [hi] at h1'
      cases h1'
      have q := hw.hr.obj i _ b N ho h2
      exact q
    · by_cases e2 : i = pid
      · subst e2
        rw [hp] at h1'
        cases h1'
        obtain ⟨arr, q1, q2, q3, q4⟩ := hw.hr.obj i _ b N ht h2
        refine ⟨arr, q1, q2, by rw [List.length_set]; exact q3, ?_⟩
        rw [List.length_set]
        refine RelL.setG j q4 hj fun u hu => ?_
        simp only [Rel] at hu ⊢
        obtain ⟨h0, A, c, he, h1, h2, h3, h4⟩ := hu
        refine ⟨h0, fun b N hm => ⟨c, ?_, h1, h2, (h4 hn b N hm).2⟩⟩
        rw [he, (h4 hn b N hm).1]
      · rw [hs i e2 e] at h1'
        exact hw.hr.obj i o b N h1' h2
end Go.Proofs.Ytopblgabadljdaa
namespace Go.Proofs.Ytopblgabadljdaa
open Go.RowKit Mk
set_option maxRecDepth 100000
set_option maxHeartbeats 4000000
theorem some_spec (L : List Int) (k n : Nat) (q : Int) (hL : L.length ≤ 600) (hk : k ≤ L.length) (hn : n ≤ 1000) (hq1 : 1 ≤ q) (hq2 : q ≤ 1000) :
    FnM Try.prog 32 66 (srcC L k) [.int .i64 n, .int .i64 q] (fun v c => (∃ l : List Int, l.length ≤ n ∧ v = pints l) ∧ ∃ k', k' ≤ L.length ∧ c = srcC L k') := by
  refine FnM.of Try.func32 rfl Try.ntmps32 (by simp) rfl (by simp) fun m0 w0 F R0 => ?_
  repeat refine AW.seq ?_
  refine AW.region ?_
  refine A1 rfl ?_
  repeat refine AW.seq ?_
  refine AW.region ?_
  refine A1 rfl ?_
  refine AW.weaken (St.le_gro 7 0 1 3 rfl rfl) ?_
  repeat refine AW.seq ?_
  refine AW.region ?_
  refine A1 rfl ?_
  repeat refine AW.seq ?_
  refine AW.block ?_
  repeat refine AW.seq ?_
  refine AW.loop (st := fun x_0 : Nat × List Int × Nat => mkS [(0, .ptr big 0), (1, .pv (.int .i64 n)), (2, .pv (.int .i64 q)), (7, .gsl 0 1 x_0.2.1.length), (8, .pv (.int .i64 x_0.1))] [(big, srcO L x_0.2.2), (0, .gro 3 (intsP x_0.2.1))] 1)
    (I := fun x_0 => x_0.1 ≤ n ∧ x_0.2.1.length ≤ x_0.1 ∧ x_0.2.2 ≤ L.length) (μ := fun x_0 => n - x_0.1) (x0 := (0, [], k)) (St.le_mk ⟨rfl, rfl, rfl, rfl, rfl, trivial⟩ ⟨rfl, rfl, trivial⟩ rfl rfl) (⟨Nat.zero_le _, Nat.le_refl _, hk⟩) ?_
  rintro ⟨i, l, k2⟩ ⟨hi, hl, hk2⟩
  try simp only at hi hl hk2 ⊢
  repeat refine AW.seq ?_
  refine AW.region ?_
  iterate 3 refine A1 rfl ?_
  repeat refine AW.seq ?_
  refine AW.condP rfl (fun hc11 => ?_) (fun hc11 => ?_)
  · have hsl : (intsP l).length = l.length * 1 := by simp
    have hk3 := sNk_le hk2
    refine AW.skip ?_
    repeat refine AW.seq ?_
    refine AW.block ?_
    repeat refine AW.seq ?_
    refine AW.region ?_
    iterate 2 refine A1 rfl ?_
    refine RL.step (d := some 16) rfl rfl (xj_callM Try.call25 (n_spec L k2 q hL hk2 hq1 (by omega)) rfl rfl) ?_
    iterate 3 refine A1 rfl ?_
    repeat refine AW.seq ?_
    refine AW.cond rfl (fun hc19 => ?_) (fun hc19 => ?_)
    · repeat refine AW.seq ?_
      refine AW.region ?_
      iterate 5 refine A1 rfl ?_
      repeat refine AW.seq ?_
      refine AW.region ?_
      iterate 3 refine A1 rfl ?_
      exact ⟨(i + 1, l ++ [(i : Int)], sNk L k2), St.le_mkR [2] ⟨rfl, rfl, rfl, by simp; rfl, rfl, trivial⟩ ⟨rfl, congrArg (fun c => some (Ob.gro 3 c)) (ints_snoc l i).symm, trivial⟩ rfl rfl (by decide) rfl, ⟨by simp only; omega, by simp only [List.length_append, List.length_singleton]; omega, hk3⟩, by simp only; omega⟩
    · refine AW.skip ?_
      repeat refine AW.seq ?_
      refine AW.region ?_
      iterate 3 refine A1 rfl ?_
      exact ⟨(i + 1, l, sNk L k2), St.le_mk ⟨rfl, rfl, rfl, rfl, rfl, trivial⟩ ⟨rfl, rfl, trivial⟩ rfl rfl, ⟨by simp only; omega, by simp only; omega, hk3⟩, by simp only; omega⟩
  · repeat refine AW.seq ?_
    refine AW.exit ?_
    refine AW.weaken (St.le_pubA 0 rfl rfl) ?_
    repeat refine AW.seq ?_
    refine AW.region ?_
    iterate 2 refine A1 rfl ?_
    repeat refine AW.seq ?_
    refine AW.ret ?_
    exact ⟨_, srcC L k2, rfl, rfl, ⟨l, by omega, by simp [pints]⟩, k2, hk2, rfl⟩
theorem text_specF (L : List Int) (k : Nat) (l : List ByteArray) (hL : L.length ≤ 600) (hk : k ≤ L.length) (hl : l ≠ []) (hl2 : l.length ≤ 1000) : ∃ x ∈ l, FnM Try.prog 47 66 (srcC L k) [pstrs l] (fun v c => v = .str x ∧ c = srcC L (sNk L k)) := by
  have hpos : 0 < l.length := List.length_pos_iff.2 hl
  have hb := sNv_bd L k l.length (by omega)
  obtain ⟨j, hj⟩ := Int.eq_ofNat_of_zero_le hb.1
  have hjl : j < l.length := by omega
  refine ⟨l[j], List.getElem_mem hjl, ?_⟩
  refine FnM.of Try.func47 rfl Try.ntmps47 (by simp) rfl (by simp) fun m0 w0 F R0 => ?_
  have hv := pstrs_at hjl
  have hne := pstrs_ne hjl
  repeat refine AW.seq ?_
  refine AW.region ?_
  refine A1 rfl ?_
  repeat refine AW.seq ?_
  refine AW.region ?_
  iterate 4 refine A1 rfl ?_
  refine RL.step (d := some 9) rfl rfl (xj_callM Try.call25 (n_spec L k l.length hL hk (by omega) (by omega)) rfl rfl) ?_
  refine RL.step (d := some 10) rfl rfl (xj_indexAddr j Try.underlying85 sz9 rfl rfl hj hjl hne) ?_
  first | refine A2 rfl (by assumption) ?_ | refine A1 rfl ?_
  refine A1 rfl ?_
  repeat refine AW.seq ?_
  refine AW.ret ?_
  exact ⟨_, srcC L (sNk L k), rfl, rfl, rfl, rfl⟩
/-- What Small says. -/
def smallB (S : Sch) : Bool := !(decide (7 < S.attrs.length) || decide (5 < S.rels.length) || decide (9 < S.feats.length)) && S.rels.all fun r => decide (r.2.length ≤ 8)
theorem small_snoc {rs : List (ByteArray × List Int)} {k : Nat} (hk : k < rs.length) (h : (rs.take k).all (fun r => decide (r.2.length ≤ 8)) = true) (h2 : rs[k].2.length ≤ 8) : (rs.take (k + 1)).all (fun r => decide (r.2.length ≤ 8)) = true := by
  rw [take_snoc hk, List.all_append, h]; simpa using h2
theorem small_no {S : Sch} {k : Nat} (hk : k < S.rels.length) (h2 : 8 < S.rels[k].2.length) : smallB S = false := by
  have : (S.rels.all fun r => decide (r.2.length ≤ 8)) = false := by
    rw [List.all_eq_false]
    exact ⟨_, List.getElem_mem hk, by simpa using h2⟩
  simp [smallB, this]
theorem small_SB {S : Sch} (h : smallB S = true) (h2 : ∀ x ∈ S.attrs, x.1.size ≤ 9223372036854775807) (h3 : ∀ x ∈ S.rels, x.1.size ≤ 9223372036854775807) : SB S ∧ S.attrs.length ≤ 7 := by
  simp only [smallB, Bool.and_eq_true, Bool.not_eq_true', Bool.or_eq_false_iff, decide_eq_false_iff_not, List.all_eq_true, decide_eq_true_eq] at h
  obtain ⟨⟨⟨h4, h5⟩, h6⟩, h7⟩ := h
  exact ⟨⟨by omega, by omega, by omega, h2, h3, fun x hx => by have := h7 x hx; omega⟩, by omega⟩
theorem small_spec (S : Sch) (h1 : S.attrs.length ≤ 9223372036854775807) (h2 : S.rels.length ≤ 9223372036854775807) (h3 : S.feats.length ≤ 9223372036854775807) (h4 : ∀ r ∈ S.rels, r.2.length ≤ 9223372036854775807) :
    FnP Try.prog 22 [schP S, .sl none 0 []] (· = .bool (smallB S)) := by
  refine FnP.of Try.func22 rfl Try.ntmps22 (by simp) fun m0 w0 F R0 => ?_
  repeat refine AW.seq ?_
  refine AW.region ?_
  iterate 2 refine A1 rfl ?_
  repeat refine AW.seq ?_
  refine AW.region ?_
  iterate 5 refine A1 rfl ?_
  apply RL.orB 5 13 18 [14, 15, 16, 17] rfl (by first | exact MonoK.le | exact MonoK.aw | exact MonoK.back)
  · intro hb4
    iterate 5 refine A1 rfl ?_
    exact St.le_fg (fEq.upd (fEq.upd (fEq.upd (fEq.upd (fEq.upd (fEq.upd (fEq.refl) rfl) rfl) rfl) rfl) rfl) rfl) rfl rfl rfl
  · intro hb4
    iterate 5 refine A1 rfl ?_
    exact St.le_fg (fEq.upd (fEq.upd (fEq.upd (fEq.upd (fEq.upd (fEq.upd (fEq.refl) rfl) rfl) rfl) rfl) rfl) rfl) rfl rfl rfl
  refine A1 rfl ?_
  apply RL.orB 5 19 24 [20, 21, 22, 23] rfl (by first | exact MonoK.le | exact MonoK.aw | exact MonoK.back)
  · intro hb10
    iterate 5 refine A1 rfl ?_
    exact St.le_fg (fEq.upd (fEq.upd (fEq.upd (fEq.upd (fEq.upd (fEq.upd (fEq.refl) rfl) rfl) rfl) rfl) rfl) rfl) rfl rfl rfl
  · intro hb10
    iterate 5 refine A1 rfl ?_
    exact St.le_fg (fEq.upd (fEq.upd (fEq.upd (fEq.upd (fEq.upd (fEq.upd (fEq.refl) rfl) rfl) rfl) rfl) rfl) rfl) rfl rfl rfl
  refine A1 rfl ?_
  apply RL.orB 4 25 29 [26, 27, 28] rfl (by first | exact MonoK.le | exact MonoK.aw | exact MonoK.back)
  · intro hb16
    iterate 4 refine A1 rfl ?_
    exact St.le_fg (fEq.upd (fEq.upd (fEq.upd (fEq.upd (fEq.upd (fEq.refl) rfl) rfl) rfl) rfl) rfl) rfl rfl rfl
  · intro hb16
    iterate 4 refine A1 rfl ?_
    exact St.le_fg (fEq.upd (fEq.upd (fEq.upd (fEq.upd (fEq.upd (fEq.refl) rfl) rfl) rfl) rfl) rfl) rfl rfl rfl
  repeat refine AW.seq ?_
  refine AW.cond rfl (fun hc29 => ?_) (fun hc29 => ?_)
  · repeat refine AW.seq ?_
    refine AW.region ?_
    refine A1 rfl ?_
    repeat refine AW.seq ?_
    refine AW.ret ?_
    exact ⟨_, _, rfl, rfl, congrArg PV.bool (by unfold smallB; simp at hc29; simp; omega)⟩
  · have hq : S.attrs.length ≤ 7 ∧ S.rels.length ≤ 5 ∧ S.feats.length ≤ 9 := by simp at hc29; omega
    refine AW.skip ?_
    repeat refine AW.seq ?_
    refine AW.region ?_
    iterate 4 refine A1 rfl ?_
    repeat refine AW.seq ?_
    refine AW.block ?_
    repeat refine AW.seq ?_
    refine AW.loop (st := fun x_0 : Nat => mkS [(1, .pv (.sl none 0 [])), (31, .pv (.sl none S.rels.length (relsC S.rels))), (32, .pv (.int .i64 S.rels.length)), (33, .pv (.int .i64 x_0))] [] 1)
      (I := fun x_0 => x_0 ≤ S.rels.length ∧ (S.rels.take x_0).all (fun r => decide (r.2.length ≤ 8)) = true) (μ := fun x_0 => S.rels.length - x_0) (x0 := (0)) (St.le_mk ⟨rfl, rfl, rfl, rfl, trivial⟩ trivial rfl rfl) (⟨Nat.zero_le _, by simp⟩) ?_
    rintro k ⟨hk, hall⟩
    repeat refine AW.seq ?_
    refine AW.region ?_
    refine A1 rfl ?_
    repeat refine AW.seq ?_
    refine AW.condP rfl (fun hc34 => ?_) (fun hc34 => ?_)
    · have hlt : k < S.rels.length := by omega
      have hrow := rel_row hlt
      have hne := rel_ne hlt
      have hrl := h4 _ (List.getElem_mem hlt)
      refine AW.skip ?_
      repeat refine AW.seq ?_
      refine AW.block ?_
      repeat refine AW.seq ?_
      refine AW.region ?_
      refine A1 rfl ?_
      refine RL.step (d := some 36) rfl rfl (xj_loadAR ⟨_, Try.underlying33, rfl⟩ sz33 rfl hrow rfl) ?_
      iterate 2 refine A1 rfl ?_
      repeat refine AW.seq ?_
      refine AW.region ?_
      iterate 4 refine A1 rfl ?_
      repeat refine AW.seq ?_
      refine AW.condP rfl (fun hc40 => ?_) (fun hc40 => ?_)
      · repeat refine AW.seq ?_
        refine AW.region ?_
        refine A1 rfl ?_
        repeat refine AW.seq ?_
        refine AW.ret ?_
        exact ⟨_, _, rfl, rfl, congrArg PV.bool (small_no hlt (by omega)).symm⟩
      · refine AW.skip ?_
        repeat refine AW.seq ?_
        refine AW.region ?_
        iterate 2 refine A1 rfl ?_
        exact ⟨(k + 1), St.le_mk ⟨rfl, rfl, rfl, rfl, trivial⟩ trivial rfl rfl, ⟨by omega, small_snoc hlt hall (by omega)⟩, by omega⟩
    · repeat refine AW.seq ?_
      refine AW.exit ?_
      repeat refine AW.seq ?_
      refine AW.region ?_
      iterate 3 refine A1 rfl ?_
      repeat refine AW.seq ?_
      refine AW.block ?_
      repeat refine AW.seq ?_
      refine AW.loop (st := fun x_1 : Nat => mkS [(42, .pv (.sl none 0 [])), (43, .pv (.int .i64 0)), (44, .pv (.int .i64 x_1))] [] 1)
        (I := fun x_1 => x_1 = 0) (μ := fun x_1 => 0) (x0 := (0)) (St.le_mk ⟨rfl, rfl, rfl, trivial⟩ trivial rfl rfl) (rfl) ?_
      rintro j hj0
      repeat refine AW.seq ?_
      refine AW.region ?_
      refine A1 rfl ?_
      repeat refine AW.seq ?_
      refine AW.condP rfl (fun hc45 => absurd hc45 (by omega)) (fun hc45 => ?_)
      repeat refine AW.seq ?_
      refine AW.exit ?_
      repeat refine AW.seq ?_
      refine AW.region ?_
      refine A1 rfl ?_
      repeat refine AW.seq ?_
      refine AW.ret ?_
      exact ⟨_, _, rfl, rfl, congrArg PV.bool (by rw [List.take_of_length_le (by omega)] at hall; unfold smallB; rw [hall]; simp; omega)⟩
end Go.Proofs.Ytopblgabadljdaa
namespace Go.Proofs.Ytopblgabadljdaa
open Go.RowKit Mk
set_option maxRecDepth 100000
set_option maxHeartbeats 4000000
/-- What a bent schema has of the one that was bent. -/
structure Bent (S S' : Sch) : Prop where
  a1 : S.attrs.length ≤ S'.attrs.length
  a2 : S'.attrs.length ≤ S.attrs.length + 1
  r1 : S.rels.length ≤ S'.rels.length
  r2 : S'.rels.length ≤ S.rels.length + 1
  f1 : S.feats.length ≤ S'.feats.length
  f2 : S'.feats.length ≤ S.feats.length + 1
  an : ∀ x ∈ S'.attrs, x.1.size ≤ 13 ∨ ∃ y ∈ S.attrs, y.1 = x.1
  rn : ∀ x ∈ S'.rels, x.1.size ≤ 13 ∨ ∃ y ∈ S.rels, y.1 = x.1
  rl : ∀ x ∈ S'.rels, x.2.length ≤ 7 ∨ ∃ y ∈ S.rels, y.2 = x.2
theorem Bent.refl (S : Sch) (lb : Int) : Bent S { S with label := lb } := ⟨Nat.le_refl _, Nat.le_succ _, Nat.le_refl _, Nat.le_succ _, Nat.le_refl _, Nat.le_succ _, fun x hx => .inr ⟨x, hx, rfl⟩, fun x hx => .inr ⟨x, hx, rfl⟩, fun x hx => .inr ⟨x, hx, rfl⟩⟩
theorem Bent.attr {S : Sch} {j : Nat} (hj : j < S.attrs.length) (x : ByteArray × Int) (h : x.1.size ≤ 13 ∨ S.attrs[j].1 = x.1) : Bent S { S with attrs := S.attrs.set j x } :=
  ⟨by simp, by simp, Nat.le_refl _, Nat.le_succ _, Nat.le_refl _, Nat.le_succ _, fun y hy => by
    rcases List.mem_or_eq_of_mem_set hy with e | e
    · exact .inr ⟨y, e, rfl⟩
    · subst e; exact h.imp id fun e => ⟨_, List.getElem_mem hj, e⟩, fun x hx => .inr ⟨x, hx, rfl⟩, fun x hx => .inr ⟨x, hx, rfl⟩⟩
theorem Bent.attrs {S : Sch} (x : ByteArray × Int) (h : x.1.size ≤ 13) : Bent S { S with attrs := S.attrs ++ [x] } :=
  ⟨by simp, by simp, Nat.le_refl _, Nat.le_succ _, Nat.le_refl _, Nat.le_succ _, fun y hy => by
    rcases List.mem_append.1 hy with e | e
    · exact .inr ⟨y, e, rfl⟩
    · simp at e; subst e; exact .inl h, fun x hx => .inr ⟨x, hx, rfl⟩, fun x hx => .inr ⟨x, hx, rfl⟩⟩
theorem Bent.rel {S : Sch} {j : Nat} (hj : j < S.rels.length) (x : ByteArray × List Int) (h : x.1.size ≤ 13 ∨ S.rels[j].1 = x.1) (h2 : x.2.length ≤ 7 ∨ S.rels[j].2 = x.2) : Bent S { S with rels := S.rels.set j x } :=
  ⟨Nat.le_refl _, Nat.le_succ _, by simp, by simp, Nat.le_refl _, Nat.le_succ _, fun x hx => .inr ⟨x, hx, rfl⟩, fun y hy => by
    rcases List.mem_or_eq_of_mem_set hy with e | e
    · exact .inr ⟨y, e, rfl⟩
    · subst e; exact h.imp id fun e => ⟨_, List.getElem_mem hj, e⟩, fun y hy => by
    rcases List.mem_or_eq_of_mem_set hy with e | e
    · exact .inr ⟨y, e, rfl⟩
    · subst e; exact h2.imp id fun e => ⟨_, List.getElem_mem hj, e⟩⟩
theorem Bent.rels {S : Sch} (x : ByteArray × List Int) (h : x.1.size ≤ 13) (h2 : x.2.length ≤ 7) : Bent S { S with rels := S.rels ++ [x] } :=
  ⟨Nat.le_refl _, Nat.le_succ _, by simp, by simp, Nat.le_refl _, Nat.le_succ _, fun x hx => .inr ⟨x, hx, rfl⟩, fun y hy => by
    rcases List.mem_append.1 hy with e | e
    · exact .inr ⟨y, e, rfl⟩
    · simp at e; subst e; exact .inl h, fun y hy => by
    rcases List.mem_append.1 hy with e | e
    · exact .inr ⟨y, e, rfl⟩
    · simp at e; subst e; exact .inl h2⟩
theorem Bent.feat {S : Sch} {j : Nat} (x : Int × Int × Int) : Bent S { S with feats := S.feats.set j x } :=
  ⟨Nat.le_refl _, Nat.le_succ _, Nat.le_refl _, Nat.le_succ _, by simp, by simp, fun x hx => .inr ⟨x, hx, rfl⟩, fun x hx => .inr ⟨x, hx, rfl⟩, fun x hx => .inr ⟨x, hx, rfl⟩⟩
theorem Bent.feats {S : Sch} (x : Int × Int × Int) : Bent S { S with feats := S.feats ++ [x] } :=
  ⟨Nat.le_refl _, Nat.le_succ _, Nat.le_refl _, Nat.le_succ _, by simp, by simp, fun x hx => .inr ⟨x, hx, rfl⟩, fun x hx => .inr ⟨x, hx, rfl⟩, fun x hx => .inr ⟨x, hx, rfl⟩⟩
theorem Bent.SB {S S' : Sch} (h : Bent S S') (hS : SB S) (h1 : S.attrs.length ≤ 1000) (h2 : S.rels.length ≤ 1000) (h3 : S.feats.length ≤ 1000) : SB S' := by
  have := h.a2; have := h.r2; have := h.f2
  refine ⟨by omega, by omega, by omega, fun x hx => ?_, fun x hx => ?_, fun x hx => ?_⟩
  · rcases h.an x hx with e | ⟨y, hy, e⟩
    · omega
    · rw [← e]; exact hS.an y hy
  · rcases h.rn x hx with e | ⟨y, hy, e⟩
    · omega
    · rw [← e]; exact hS.rn y hy
  · rcases h.rl x hx with e | ⟨y, hy, e⟩
    · omega
    · rw [← e]; exact hS.rl y hy
theorem flat_set {α β : Type} (f : α → List β) (n : Nat) (h : ∀ a, (f a).length = n) (v : β) (y : α) (d : Nat) (hd : d < n) : ∀ (l : List α) (j : Nat) (hj : j < l.length), f y = (f l[j]).set d v → (l.flatMap f).set (j * n + d) v = (l.set j y).flatMap f
  | [], _, hj, _ => by simp at hj
  | a :: l, 0, _, e => by
    rw [List.flatMap_cons, List.set_cons_zero, List.flatMap_cons, Nat.zero_mul, Nat.zero_add, List.set_append_left _ _ (by rw [h]; exact hd), e]; rfl
  | a :: l, j + 1, hj, e => by
    rw [List.flatMap_cons, List.set_cons_succ, List.flatMap_cons, List.set_append_right _ _ (by rw [h, Nat.succ_mul]; omega), h, show (j + 1) * n + d - n = j * n + d by rw [Nat.succ_mul]; omega]
    rw [flat_set f n h v y d hd l j (by simpa using hj) (by simpa using e)]
theorem attrs_leaf (l : List (ByteArray × Int)) : ∀ c ∈ attrsC l, c.leaf = true := by
  intro c hc
  obtain ⟨x, _, h⟩ := List.mem_flatMap.1 hc
  simp at h
  rcases h with rfl | rfl <;> rfl
theorem rels_leaf (l : List (ByteArray × List Int)) : ∀ c ∈ relsC l, c.leaf = true := by
  intro c hc
  obtain ⟨x, _, h⟩ := List.mem_flatMap.1 hc
  simp at h
  rcases h with rfl | rfl <;> rfl
theorem feats_leaf (l : List (Int × Int × Int)) : ∀ c ∈ featsC l, c.leaf = true := by
  intro c hc
  obtain ⟨x, _, h⟩ := List.mem_flatMap.1 hc
  simp at h
  rcases h with rfl | rfl | rfl <;> rfl
theorem attr_set0 {l : List (ByteArray × Int)} {j : Nat} (hj : j < l.length) (x : ByteArray) : (attrsC l).set (j * 2) (PV.str x) = attrsC (l.set j (x, l[j].2)) := flat_set (fun a : ByteArray × Int => [PV.str a.1, .int .i64 a.2]) 2 (fun _ => rfl) (PV.str x) (x, l[j].2) 0 (by omega) l j hj rfl
theorem attr_set1 {l : List (ByteArray × Int)} {j : Nat} (hj : j < l.length) (x : Int) : (attrsC l).set (j * 2 + 1) (PV.int .i64 x) = attrsC (l.set j (l[j].1, x)) := flat_set (fun a : ByteArray × Int => [PV.str a.1, .int .i64 a.2]) 2 (fun _ => rfl) (PV.int .i64 x) (l[j].1, x) 1 (by omega) l j hj rfl
theorem rel_set0 {l : List (ByteArray × List Int)} {j : Nat} (hj : j < l.length) (x : ByteArray) : (relsC l).set (j * 2) (PV.str x) = relsC (l.set j (x, l[j].2)) := flat_set (fun r : ByteArray × List Int => [PV.str r.1, pints r.2]) 2 (fun _ => rfl) (PV.str x) (x, l[j].2) 0 (by omega) l j hj rfl
theorem rel_set1 {l : List (ByteArray × List Int)} {j : Nat} (hj : j < l.length) (x : List Int) : (relsC l).set (j * 2 + 1) (pints x) = relsC (l.set j (l[j].1, x)) := flat_set (fun r : ByteArray × List Int => [PV.str r.1, pints r.2]) 2 (fun _ => rfl) (pints x) (l[j].1, x) 1 (by omega) l j hj rfl
theorem feat_set1 {l : List (Int × Int × Int)} {j : Nat} (hj : j < l.length) (x : Int) : (featsC l).set (j * 3 + 1) (PV.int .i64 x) = featsC (l.set j (l[j].1, x, l[j].2.2)) := flat_set (fun f : Int × Int × Int => [PV.int .i64 f.1, .int .i64 f.2.1, .int .i64 f.2.2]) 3 (fun _ => rfl) (PV.int .i64 x) (l[j].1, x, l[j].2.2) 1 (by omega) l j hj rfl
theorem sch_fg2 {na nr nf : Nat} {ca cr cf : List PV} {b1 b2 b3 : Option Bool} {lb : Int} (S' : Sch) (h1 : ca = attrsC S'.attrs) (n1 : na = S'.attrs.length) (h2 : cr = relsC S'.rels) (n2 : nr = S'.rels.length) (h3 : cf = featsC S'.feats) (n3 : nf = S'.feats.length) (h4 : lb = S'.label) :
    (PV.agg [.sl b1 na ca, .sl b2 nr cr, .sl b3 nf cf, .int .i64 lb]).fg2 = schP S' := by subst h1 n1 h2 n2 h3 n3 h4; rfl
theorem bentSchema_spec (L : List Int) (k : Nat) (hL : L.length ≤ 600) (hk : k ≤ L.length) (S : Sch) (ha1 : 1 ≤ S.attrs.length) (ha2 : S.attrs.length ≤ 1000) (hr1 : 1 ≤ S.rels.length) (hr2 : S.rels.length ≤ 1000) (hf2 : S.feats.length ≤ 1000) :
    FnM Try.prog 24 66 (srcC L k) [schP S] (fun v c => (∃ S' : Sch, Bent S S' ∧ v = schP S') ∧ ∃ k', k' ≤ L.length ∧ c = srcC L k') := by
  refine FnM.fg2 (FnM.ofC (rt := 28) (k := 4) Try.func24 rfl Try.ntmps24 (by simp) rfl (by simp) ⟨_, Try.underlying28, rfl⟩ sz28 fun m0 w0 F R0 => ?_)
  have hAl := attrsC_len S.attrs
  have hRl := relsC_len S.rels
  have hFl := featsC_len S.feats
  have hk1 := sNk_le hk
  have hk2 := sNk_le hk1
  have hk3 := sNk_le hk2
  have hk4 := sNk_le hk3
  have hba := sNv_bd L (sNk L k) S.attrs.length (by omega)
  obtain ⟨ja, hja⟩ := Int.eq_ofNat_of_zero_le hba.1
  have hjal : ja < S.attrs.length := by omega
  have hane : attrsC S.attrs ≠ [] := attr_ne hjal
  have hbr := sNv_bd L (sNk L k) S.rels.length (by omega)
  obtain ⟨jr, hjr⟩ := Int.eq_ofNat_of_zero_le hbr.1
  have hjrl : jr < S.rels.length := by omega
  have hrne : relsC S.rels ≠ [] := rel_ne hjrl
  obtain ⟨tx, htx, htxs⟩ := text_specF L (sNk L (sNk L k)) [⟨#[]⟩, ⟨#[97, 97]⟩, ⟨#[65]⟩, ⟨#[97, 32, 98]⟩, ⟨#[97, 98, 99, 100, 101, 102, 103, 104, 105, 106, 107, 108, 109]⟩] hL hk2 (by simp) (by simp)
  obtain ⟨ty, hty, htys⟩ := text_specF L (sNk L (sNk L k)) [⟨#[]⟩, ⟨#[114, 97]⟩, ⟨#[57]⟩] hL hk2 (by simp) (by simp)
  have htx13 : tx.size ≤ 13 := by simp at htx; rcases htx with rfl | rfl | rfl | rfl | rfl <;> decide
  have hty13 : ty.size ≤ 13 := by simp at hty; rcases hty with rfl | rfl | rfl <;> decide
  repeat refine AW.seq ?_
  refine AW.region ?_
  iterate 2 refine A1 rfl ?_
  repeat refine AW.seq ?_
  refine AW.region ?_
  iterate 2 refine A1 rfl ?_
  refine RL.step (d := some 7) rfl rfl (xj_append0 2 el24 rfl (.inl ⟨none, rfl⟩) hAl (attrs_leaf _) (by omega) (by omega) rfl) ?_
  iterate 2 refine A1 rfl ?_
  repeat refine AW.seq ?_
  refine AW.region ?_
  iterate 2 refine A1 rfl ?_
  refine RL.step (d := some 11) rfl rfl (xj_append0 3 el25 rfl (.inl ⟨none, rfl⟩) hRl (rels_leaf _) (by omega) (by omega) rfl) ?_
  iterate 2 refine A1 rfl ?_
  repeat refine AW.seq ?_
  refine AW.region ?_
  iterate 2 refine A1 rfl ?_
  refine RL.step (d := some 15) rfl rfl (xj_append0G 4 el26 rfl (.inl ⟨none, rfl⟩) hFl (feats_leaf _) (by omega) rfl) ?_
  iterate 2 refine A1 rfl ?_
  repeat refine AW.seq ?_
  refine AW.region ?_
  refine A1 rfl ?_
  refine RL.step (d := some 18) rfl rfl (xj_callM Try.call25 (n_spec L k 9 hL hk (by omega) (by omega)) rfl rfl) ?_
  repeat refine AW.seq ?_
  refine AW.block ?_
  repeat refine AW.seq ?_
  refine AW.region ?_
  iterate 2 refine A1 rfl ?_
  repeat refine AW.seq ?_
  refine AW.cond rfl (fun hc34 => ?_) (fun hc34 => ?_)
  · repeat refine AW.seq ?_
    refine AW.region ?_
    refine A1 rfl ?_
    refine RL.step (d := some 37) rfl rfl (xj_callM Try.call16 (range_spec L (sNk L k) (-2) 6 hL hk1 (by omega) (by omega) (by omega)) rfl rfl) ?_
    iterate 2 refine A1 rfl ?_
    refine AW.weaken (St.le_pubA 2 rfl rfl) ?_
    refine AW.weaken (St.le_pubA 3 rfl rfl) ?_
    refine AW.weaken (St.le_pubA 4 rfl rfl) ?_
    repeat refine AW.seq ?_
    refine AW.region ?_
    iterate 2 refine A1 rfl ?_
    repeat refine AW.seq ?_
    refine AW.ret ?_
    exact ⟨1, _, [.sl (some false) S.attrs.length (attrsC S.attrs), .sl (some false) S.rels.length (relsC S.rels), .sl none S.feats.length (featsC S.feats), .int .i64 (-2 + sNv L (sNk L k) (6 - -2 + 1))], srcC L (sNk L (sNk L k)), rfl, rfl, rfl, rfl, rfl, ⟨{ S with label := -2 + sNv L (sNk L k) (6 - -2 + 1) }, Bent.refl _ _, sch_fg2 _ rfl rfl rfl rfl rfl rfl rfl⟩, _, hk2, rfl⟩
  · repeat refine AW.seq ?_
    refine AW.region ?_
    iterate 2 refine A1 rfl ?_
    repeat refine AW.seq ?_
    refine AW.cond rfl (fun hc39 => ?_) (fun hc39 => ?_)
    · repeat refine AW.seq ?_
      refine AW.draw follows [[], [0], [], [], [3], [4, 3], [5, 2, 4, 3], [], [], [6, 8, 7, 5, 2, 4, 3], [9, 8, 7, 6, 1, 0, 5, 2, 4, 3], [10, 9, 8, 7, 6, 1, 0, 5, 2, 4, 3], [11, 10, 9, 8, 7, 6, 1, 0, 5, 2, 4, 3]] [0, 1, 2, 3, 4, 5, 6, 7, 8, 9, 10, 11, 12] (by kernel_rfl) (by kernel_rfl) ?_
      iterate 6 refine D1 rfl rfl ?_
      refine DL.step (d := some 47) [_] rfl rfl rfl (fun τ h => xj_callM Try.call25 (n_spec L (sNk L k) S.attrs.length hL hk1 (by omega) (by omega)) (h.args.trans rfl) ((h.o 0 _ rfl).trans rfl)) rfl (by kernel_rfl) ?_
      refine D1 rfl rfl ?_
      refine DL.step (d := some 49) [] rfl rfl rfl (fun τ h => xj_buildSliceP none (by simp) el85 rfl (by decide) (by decide) (h.fillS rfl rfl) rfl) rfl (by kernel_rfl) ?_
      refine DL.step (d := some 50) [_] rfl rfl rfl (fun τ h => xj_callM Try.call47 htxs (h.args.trans rfl) ((h.o 0 _ rfl).trans rfl)) rfl (by kernel_rfl) ?_
      refine DL.step (d := some 51) [_] rfl rfl rfl (fun τ h => xj_indexAddrO ja Try.underlying24 sz81 ((h.e 0 _ rfl).trans rfl) ((h.o 0 _ rfl).trans rfl) ((h.e 1 _ rfl).trans rfl) hja hjal) rfl (by kernel_rfl) ?_
      iterate 2 refine D1 rfl rfl ?_
      refine ⟨by kernel_rfl, ?_⟩
      refine AW.weaken (St.le_pubA 2 rfl rfl) ?_
      refine AW.weaken (St.le_pubA 3 rfl rfl) ?_
      refine AW.weaken (St.le_pubA 4 rfl rfl) ?_
      repeat refine AW.seq ?_
      refine AW.region ?_
      iterate 2 refine A1 rfl ?_
      repeat refine AW.seq ?_
      refine AW.ret ?_
      exact ⟨1, _, [.sl (some false) S.attrs.length ((attrsC S.attrs).set (ja * 2) (.str tx)), .sl (some false) S.rels.length (relsC S.rels), .sl none S.feats.length (featsC S.feats), .int .i64 (S.label)], srcC L (sNk L (sNk L (sNk L k))), rfl, rfl, rfl, rfl, rfl, ⟨{ S with attrs := S.attrs.set ja (tx, S.attrs[ja].2) }, Bent.attr hjal _ (.inl htx13), sch_fg2 _ (attr_set0 hjal _) (by simp) rfl rfl rfl rfl rfl⟩, _, hk3, rfl⟩
    · repeat refine AW.seq ?_
      refine AW.region ?_
      iterate 2 refine A1 rfl ?_
      repeat refine AW.seq ?_
      refine AW.cond rfl (fun hc53 => ?_) (fun hc53 => ?_)
      · repeat refine AW.seq ?_
        refine AW.draw follows [[], [0], [], [], [3], [4, 3], [5, 2, 4, 3], [], [6, 7, 5, 2, 4, 3], [8, 7, 6, 1, 0, 5, 2, 4, 3], [9, 8, 7, 6, 1, 0, 5, 2, 4, 3], [10, 9, 8, 7, 6, 1, 0, 5, 2, 4, 3]] [0, 1, 2, 3, 4, 5, 6, 7, 8, 9, 10, 11] (by kernel_rfl) (by kernel_rfl) ?_
        iterate 6 refine D1 rfl rfl ?_
        refine DL.step (d := some 61) [_] rfl rfl rfl (fun τ h => xj_callM Try.call25 (n_spec L (sNk L k) S.attrs.length hL hk1 (by omega) (by omega)) (h.args.trans rfl) ((h.o 0 _ rfl).trans rfl)) rfl (by kernel_rfl) ?_
        refine D1 rfl rfl ?_
        refine DL.step (d := some 63) [_] rfl rfl rfl (fun τ h => xj_callM Try.call25 (n_spec L (sNk L (sNk L k)) 5 hL hk2 (by omega) (by omega)) (h.args.trans rfl) ((h.o 0 _ rfl).trans rfl)) rfl (by kernel_rfl) ?_
        refine DL.step (d := some 64) [_] rfl rfl rfl (fun τ h => xj_indexAddrO ja Try.underlying24 sz81 ((h.e 0 _ rfl).trans rfl) ((h.o 0 _ rfl).trans rfl) ((h.e 1 _ rfl).trans rfl) hja hjal) rfl (by kernel_rfl) ?_
        iterate 2 refine D1 rfl rfl ?_
        refine ⟨by kernel_rfl, ?_⟩
        refine AW.weaken (St.le_pubA 2 rfl rfl) ?_
        refine AW.weaken (St.le_pubA 3 rfl rfl) ?_
        refine AW.weaken (St.le_pubA 4 rfl rfl) ?_
        repeat refine AW.seq ?_
        refine AW.region ?_
        iterate 2 refine A1 rfl ?_
        repeat refine AW.seq ?_
        refine AW.ret ?_
        exact ⟨1, _, [.sl (some false) S.attrs.length ((attrsC S.attrs).set (ja * 2 + 1) (.int .i64 (sNv L (sNk L (sNk L k)) 5))), .sl (some false) S.rels.length (relsC S.rels), .sl none S.feats.length (featsC S.feats), .int .i64 (S.label)], srcC L (sNk L (sNk L (sNk L k))), rfl, rfl, rfl, rfl, rfl, ⟨{ S with attrs := S.attrs.set ja (S.attrs[ja].1, (sNv L (sNk L (sNk L k)) 5)) }, Bent.attr hjal _ (.inr rfl), sch_fg2 _ (attr_set1 hjal _) (by simp) rfl rfl rfl rfl rfl⟩, _, hk3, rfl⟩
      · repeat refine AW.seq ?_
        refine AW.region ?_
        iterate 2 refine A1 rfl ?_
        repeat refine AW.seq ?_
        refine AW.cond rfl (fun hc66 => ?_) (fun hc66 => ?_)
        · repeat refine AW.seq ?_
          refine AW.region ?_
          iterate 7 refine A1 rfl ?_
          refine AW.weaken (St.le_pubA 6 rfl rfl) ?_
          refine AW.weaken (St.le_pubA 3 rfl rfl) ?_
          refine AW.weaken (St.le_pubA 4 rfl rfl) ?_
          repeat refine AW.seq ?_
          refine AW.region ?_
          iterate 2 refine A1 rfl ?_
          repeat refine AW.seq ?_
          refine AW.ret ?_
          exact ⟨1, _, [.sl (some false) (S.attrs.length + 1) (attrsC S.attrs ++ [.str ⟨#[122, 122]⟩, .int .i64 1]), .sl (some false) S.rels.length (relsC S.rels), .sl none S.feats.length (featsC S.feats), .int .i64 (S.label)], srcC L (sNk L k), rfl, rfl, rfl, rfl, rfl, ⟨{ S with attrs := S.attrs ++ [(⟨#[122, 122]⟩, 1)] }, Bent.attrs _ (by decide), sch_fg2 _ (attrsC_snoc S.attrs (⟨#[122, 122]⟩, 1)).symm (by simp) rfl rfl rfl rfl rfl⟩, _, hk1, rfl⟩
        · repeat refine AW.seq ?_
          refine AW.region ?_
          iterate 2 refine A1 rfl ?_
          repeat refine AW.seq ?_
          refine AW.cond rfl (fun hc74 => ?_) (fun hc74 => ?_)
          · repeat refine AW.seq ?_
            refine AW.draw follows [[], [0], [], [], [3], [4, 3], [5, 2, 4, 3], [], [], [6, 8, 7, 5, 2, 4, 3], [9, 8, 7, 6, 1, 0, 5, 2, 4, 3], [10, 9, 8, 7, 6, 1, 0, 5, 2, 4, 3], [11, 10, 9, 8, 7, 6, 1, 0, 5, 2, 4, 3]] [0, 1, 2, 3, 4, 5, 6, 7, 8, 9, 10, 11, 12] (by kernel_rfl) (by kernel_rfl) ?_
            iterate 6 refine D1 rfl rfl ?_
            refine DL.step (d := some 82) [_] rfl rfl rfl (fun τ h => xj_callM Try.call25 (n_spec L (sNk L k) S.rels.length hL hk1 (by omega) (by omega)) (h.args.trans rfl) ((h.o 0 _ rfl).trans rfl)) rfl (by kernel_rfl) ?_
            refine D1 rfl rfl ?_
            refine DL.step (d := some 84) [] rfl rfl rfl (fun τ h => xj_buildSliceP none (by simp) el85 rfl (by decide) (by decide) (h.fillS rfl rfl) rfl) rfl (by kernel_rfl) ?_
            refine DL.step (d := some 85) [_] rfl rfl rfl (fun τ h => xj_callM Try.call47 htys (h.args.trans rfl) ((h.o 0 _ rfl).trans rfl)) rfl (by kernel_rfl) ?_
            refine DL.step (d := some 86) [_] rfl rfl rfl (fun τ h => xj_indexAddrO jr Try.underlying25 sz33 ((h.e 0 _ rfl).trans rfl) ((h.o 0 _ rfl).trans rfl) ((h.e 1 _ rfl).trans rfl) hjr hjrl) rfl (by kernel_rfl) ?_
            iterate 2 refine D1 rfl rfl ?_
            refine ⟨by kernel_rfl, ?_⟩
            refine AW.weaken (St.le_pubA 2 rfl rfl) ?_
            refine AW.weaken (St.le_pubA 3 rfl rfl) ?_
            refine AW.weaken (St.le_pubA 4 rfl rfl) ?_
            repeat refine AW.seq ?_
            refine AW.region ?_
            iterate 2 refine A1 rfl ?_
            repeat refine AW.seq ?_
            refine AW.ret ?_
            exact ⟨1, _, [.sl (some false) S.attrs.length (attrsC S.attrs), .sl (some false) S.rels.length ((relsC S.rels).set (jr * 2) (.str ty)), .sl none S.feats.length (featsC S.feats), .int .i64 (S.label)], srcC L (sNk L (sNk L (sNk L k))), rfl, rfl, rfl, rfl, rfl, ⟨{ S with rels := S.rels.set jr (ty, S.rels[jr].2) }, Bent.rel hjrl _ (.inl hty13) (.inr rfl), sch_fg2 _ rfl rfl (rel_set0 hjrl _) (by simp) rfl rfl rfl⟩, _, hk3, rfl⟩
          · repeat refine AW.seq ?_
            refine AW.region ?_
            iterate 2 refine A1 rfl ?_
            repeat refine AW.seq ?_
            refine AW.cond rfl (fun hc88 => ?_) (fun hc88 => ?_)
            · repeat refine AW.seq ?_
              refine AW.draw follows [[], [0], [], [], [3], [4, 3], [5, 2, 4, 3], [], [6, 7, 5, 2, 4, 3], [8, 7, 6, 1, 0, 5, 2, 4, 3], [9, 8, 7, 6, 1, 0, 5, 2, 4, 3], [10, 9, 8, 7, 6, 1, 0, 5, 2, 4, 3]] [0, 1, 2, 3, 4, 5, 6, 7, 8, 9, 10, 11] (by kernel_rfl) (by kernel_rfl) ?_
              iterate 6 refine D1 rfl rfl ?_
              refine DL.step (d := some 96) [_] rfl rfl rfl (fun τ h => xj_callM Try.call25 (n_spec L (sNk L k) S.rels.length hL hk1 (by omega) (by omega)) (h.args.trans rfl) ((h.o 0 _ rfl).trans rfl)) rfl (by kernel_rfl) ?_
              refine D1 rfl rfl ?_
              refine DL.rel (RM 66 big (fun v c => (∃ l : List Int, l.length ≤ 7 ∧ v = pints l) ∧ ∃ k', k' ≤ L.length ∧ c = srcC L k')) [big] [] [big] rfl rfl rfl (fun τ h => relM Try.call32 (some_spec L (sNk L (sNk L k)) 7 3 hL hk2 (by omega) (by omega) (by omega)) (h.args.trans rfl) ((h.o 0 _ rfl).trans rfl)) rfl (by kernel_rfl) (by kernel_rfl) (by kernel_rfl) ?_
              rintro _ ⟨_, _, ⟨⟨ql, hql, rfl⟩, k9, hk9, rfl⟩, rfl⟩ _ _
              refine DL.step (d := some 99) [_] rfl rfl rfl (fun τ h => xj_indexAddrO jr Try.underlying25 sz33 ((h.e 0 _ rfl).trans rfl) ((h.o 0 _ rfl).trans rfl) ((h.e 1 _ rfl).trans rfl) hjr hjrl) rfl (by kernel_rfl) ?_
              iterate 2 refine D1 rfl rfl ?_
              refine ⟨by kernel_rfl, ?_⟩
              refine AW.weaken (St.le_pubA 2 rfl rfl) ?_
              refine AW.weaken (St.le_pubA 3 rfl rfl) ?_
              refine AW.weaken (St.le_pubA 4 rfl rfl) ?_
              repeat refine AW.seq ?_
              refine AW.region ?_
              iterate 2 refine A1 rfl ?_
              repeat refine AW.seq ?_
              refine AW.ret ?_
              exact ⟨1, _, [.sl (some false) S.attrs.length (attrsC S.attrs), .sl (some false) S.rels.length ((relsC S.rels).set (jr * 2 + 1) (pints ql)), .sl none S.feats.length (featsC S.feats), .int .i64 (S.label)], srcC L k9, rfl, rfl, rfl, rfl, rfl, ⟨{ S with rels := S.rels.set jr (S.rels[jr].1, ql) }, Bent.rel hjrl _ (.inr rfl) (.inl hql), sch_fg2 _ rfl rfl (rel_set1 hjrl _) (by simp) rfl rfl rfl⟩, _, hk9, rfl⟩
            · repeat refine AW.seq ?_
              refine AW.region ?_
              iterate 2 refine A1 rfl ?_
              repeat refine AW.seq ?_
              refine AW.cond rfl (fun hc101 => ?_) (fun hc101 => ?_)
              · repeat refine AW.seq ?_
                refine AW.draw follows [[], [0], [], [2], [], [3, 4, 2], [5, 3, 2, 4], [6, 5, 3, 2, 4], [7, 6, 5, 3, 2, 4], [8, 1, 0, 7, 6, 5, 3, 2, 4], [9, 8, 7, 6, 5, 4, 3, 2, 1, 0], [10, 9, 8, 7, 6, 5, 4, 3, 2, 1, 0]] [0, 1, 2, 3, 4, 5, 6, 7, 8, 9, 10, 11] (by kernel_rfl) (by kernel_rfl) ?_
                iterate 3 refine D1 rfl rfl ?_
                refine DL.step (d := some 106) [_] rfl rfl rfl (fun τ h => xj_callM Try.call25 (n_spec L (sNk L k) 5 hL hk1 (by omega) (by omega)) (h.args.trans rfl) ((h.o 0 _ rfl).trans rfl)) rfl (by kernel_rfl) ?_
                refine D1 rfl rfl ?_
                refine DL.step (d := some 108) [_] rfl rfl rfl (fun τ h => xj_callM Try.call25 (n_spec L (sNk L (sNk L k)) 5 hL hk2 (by omega) (by omega)) (h.args.trans rfl) ((h.o 0 _ rfl).trans rfl)) rfl (by kernel_rfl) ?_
                refine DL.step (d := some 109) [] rfl rfl rfl (fun τ h => xj_buildSliceP none (by simp) el22 rfl (by decide) (by decide) (h.fillS rfl rfl) rfl) rfl (by kernel_rfl) ?_
                iterate 5 refine D1 rfl rfl ?_
                refine ⟨by kernel_rfl, ?_⟩
                refine AW.weaken (St.le_pubA 2 rfl rfl) ?_
                refine AW.weaken (St.le_pubA 6 rfl rfl) ?_
                refine AW.weaken (St.le_pubA 4 rfl rfl) ?_
                repeat refine AW.seq ?_
                refine AW.region ?_
                iterate 2 refine A1 rfl ?_
                repeat refine AW.seq ?_
                refine AW.ret ?_
                exact ⟨1, _, [.sl (some false) S.attrs.length (attrsC S.attrs), .sl (some false) (S.rels.length + 1) (relsC S.rels ++ [.str ⟨#[114, 122]⟩, pints [sNv L (sNk L k) 5, sNv L (sNk L (sNk L k)) 5]]), .sl none S.feats.length (featsC S.feats), .int .i64 (S.label)], srcC L (sNk L (sNk L (sNk L k))), rfl, rfl, rfl, rfl, rfl, ⟨{ S with rels := S.rels ++ [(⟨#[114, 122]⟩, [sNv L (sNk L k) 5, sNv L (sNk L (sNk L k)) 5])] }, Bent.rels _ (by show (⟨#[114, 122]⟩ : ByteArray).size ≤ 13; decide) (by simp), sch_fg2 _ rfl rfl (relsC_snoc S.rels (⟨#[114, 122]⟩, [sNv L (sNk L k) 5, sNv L (sNk L (sNk L k)) 5])).symm (by simp) rfl rfl rfl⟩, _, hk3, rfl⟩
              · repeat refine AW.seq ?_
                refine AW.region ?_
                iterate 2 refine A1 rfl ?_
                repeat refine AW.seq ?_
                refine AW.cond rfl (fun hc114 => ?_) (fun hc114 => ?_)
                · repeat refine AW.seq ?_
                  refine AW.draw follows [[], [0], [], [2], [], [3, 4, 2], [], [5, 6, 3, 4, 2], [7, 5, 3, 2, 4, 6], [8, 7, 5, 3, 2, 4, 6], [9, 1, 0, 8, 7, 5, 3, 2, 4, 6], [10, 9, 8, 7, 6, 5, 4, 3, 2, 1, 0], [11, 10, 9, 8, 7, 6, 5, 4, 3, 2, 1, 0]] [0, 1, 2, 3, 4, 5, 6, 7, 8, 9, 10, 11, 12] (by kernel_rfl) (by kernel_rfl) ?_
                  iterate 3 refine D1 rfl rfl ?_
                  refine DL.step (d := some 119) [_] rfl rfl rfl (fun τ h => xj_callM Try.call16 (range_spec L (sNk L k) (-1) 5 hL hk1 (by omega) (by omega) (by omega)) (h.args.trans rfl) ((h.o 0 _ rfl).trans rfl)) rfl (by kernel_rfl) ?_
                  refine D1 rfl rfl ?_
                  refine DL.step (d := some 121) [_] rfl rfl rfl (fun τ h => xj_callM Try.call25 (n_spec L (sNk L (sNk L k)) 4 hL hk2 (by omega) (by omega)) (h.args.trans rfl) ((h.o 0 _ rfl).trans rfl)) rfl (by kernel_rfl) ?_
                  refine D1 rfl rfl ?_
                  refine DL.step (d := some 123) [_] rfl rfl rfl (fun τ h => xj_callM Try.call25 (n_spec L (sNk L (sNk L (sNk L k))) 3 hL hk3 (by omega) (by omega)) (h.args.trans rfl) ((h.o 0 _ rfl).trans rfl)) rfl (by kernel_rfl) ?_
                  iterate 5 refine D1 rfl rfl ?_
                  refine ⟨by kernel_rfl, ?_⟩
                  refine AW.weaken (St.le_pubA 2 rfl rfl) ?_
                  refine AW.weaken (St.le_pubA 3 rfl rfl) ?_
                  refine AW.weaken (St.le_pubA 6 rfl rfl) ?_
                  repeat refine AW.seq ?_
                  refine AW.region ?_
                  iterate 2 refine A1 rfl ?_
                  repeat refine AW.seq ?_
                  refine AW.ret ?_
                  exact ⟨1, _, [.sl (some false) S.attrs.length (attrsC S.attrs), .sl (some false) S.rels.length (relsC S.rels), .sl none (S.feats.length + 1) (featsC S.feats ++ [.int .i64 (-1 + sNv L (sNk L k) (5 - -1 + 1)), .int .i64 (sNv L (sNk L (sNk L k)) 4), .int .i64 (sNv L (sNk L (sNk L (sNk L k))) 3)]), .int .i64 (S.label)], srcC L (sNk L (sNk L (sNk L (sNk L k)))), rfl, rfl, rfl, rfl, rfl, ⟨{ S with feats := S.feats ++ [(-1 + sNv L (sNk L k) (5 - -1 + 1), sNv L (sNk L (sNk L k)) 4, sNv L (sNk L (sNk L (sNk L k))) 3)] }, Bent.feats _, sch_fg2 _ rfl rfl rfl rfl (featsC_snoc S.feats (-1 + sNv L (sNk L k) (5 - -1 + 1), sNv L (sNk L (sNk L k)) 4, sNv L (sNk L (sNk L (sNk L k))) 3)).symm (by simp) rfl⟩, _, hk4, rfl⟩
                · repeat refine AW.seq ?_
                  refine AW.region ?_
                  iterate 4 refine A1 rfl ?_
                  repeat refine AW.seq ?_
                  refine AW.condP rfl (fun hc22 => ?_) (fun hc22 => ?_)
                  · have hfp : 0 < S.feats.length := by omega
                    have hbf := sNv_bd L (sNk L k) S.feats.length (by omega)
                    obtain ⟨jf, hjf⟩ := Int.eq_ofNat_of_zero_le hbf.1
                    have hjfl : jf < S.feats.length := by omega
                    have hfne : featsC S.feats ≠ [] := feat_ne hjfl
                    refine AW.weaken (St.le_ownC 0 2 rfl rfl rfl hfp hfne) ?_
                    repeat refine AW.seq ?_
                    refine AW.draw follows [[], [0], [], [], [3], [4, 3], [5, 2, 4, 3], [], [6, 7, 5, 2, 4, 3], [8, 7, 6, 1, 0, 5, 2, 4, 3], [9, 8, 7, 6, 1, 0, 5, 2, 4, 3], [10, 9, 8, 7, 6, 1, 0, 5, 2, 4, 3]] [0, 1, 2, 3, 4, 5, 6, 7, 8, 9, 10, 11] (by kernel_rfl) (by kernel_rfl) ?_
                    iterate 6 refine D1 rfl rfl ?_
                    refine DL.step (d := some 29) [_] rfl rfl rfl (fun τ h => xj_callM Try.call25 (n_spec L (sNk L k) S.feats.length hL hk1 (by omega) (by omega)) (h.args.trans rfl) ((h.o 0 _ rfl).trans rfl)) rfl (by kernel_rfl) ?_
                    refine D1 rfl rfl ?_
                    refine DL.step (d := some 31) [_] rfl rfl rfl (fun τ h => xj_callM Try.call25 (n_spec L (sNk L (sNk L k)) 4 hL hk2 (by omega) (by omega)) (h.args.trans rfl) ((h.o 0 _ rfl).trans rfl)) rfl (by kernel_rfl) ?_
                    refine DL.step (d := some 32) [_] rfl rfl rfl (fun τ h => xj_indexAddrO jf Try.underlying26 sz83 ((h.e 0 _ rfl).trans rfl) ((h.o 0 _ rfl).trans rfl) ((h.e 1 _ rfl).trans rfl) hjf hjfl) rfl (by kernel_rfl) ?_
                    iterate 2 refine D1 rfl rfl ?_
                    refine ⟨by kernel_rfl, ?_⟩
                    refine AW.weaken (St.le_pubA 2 rfl rfl) ?_
                    refine AW.weaken (St.le_pubA 3 rfl rfl) ?_
                    refine AW.weaken (St.le_pubA 4 rfl rfl) ?_
                    repeat refine AW.seq ?_
                    refine AW.region ?_
                    iterate 2 refine A1 rfl ?_
                    repeat refine AW.seq ?_
                    refine AW.ret ?_
                    exact ⟨1, _, [.sl (some false) S.attrs.length (attrsC S.attrs), .sl (some false) S.rels.length (relsC S.rels), .sl (some false) S.feats.length ((featsC S.feats).set (jf * 3 + 1) (.int .i64 (sNv L (sNk L (sNk L k)) 4))), .int .i64 (S.label)], srcC L (sNk L (sNk L (sNk L k))), rfl, rfl, rfl, rfl, rfl, ⟨{ S with feats := S.feats.set jf (S.feats[jf].1, (sNv L (sNk L (sNk L k)) 4), S.feats[jf].2.2) }, Bent.feat _, sch_fg2 _ rfl rfl rfl rfl (feat_set1 hjfl _) (by simp) rfl⟩, _, hk3, rfl⟩
                  · refine AW.skip ?_
                    refine AW.weaken (St.le_pubA 2 rfl rfl) ?_
                    refine AW.weaken (St.le_pubA 3 rfl rfl) ?_
                    refine AW.weaken (St.le_pubA 4 rfl rfl) ?_
                    repeat refine AW.seq ?_
                    refine AW.region ?_
                    iterate 2 refine A1 rfl ?_
                    repeat refine AW.seq ?_
                    refine AW.ret ?_
                    exact ⟨1, _, [.sl (some false) S.attrs.length (attrsC S.attrs), .sl (some false) S.rels.length (relsC S.rels), .sl none S.feats.length (featsC S.feats), .int .i64 (S.label)], srcC L (sNk L k), rfl, rfl, rfl, rfl, rfl, ⟨{ S with label := S.label }, Bent.refl _ _, sch_fg2 _ rfl rfl rfl rfl rfl rfl rfl⟩, _, hk1, rfl⟩
end Go.Proofs.Ytopblgabadljdaa
namespace Go.Proofs.Ytopblgabadljdaa
open Go.RowKit Mk
set_option maxRecDepth 100000
set_option maxHeartbeats 4000000
/-- A list of lists, aa cells. -/
def lsC (ls : List (List Int)) : List PV := ls.map pints
theorem lsC_len (ls : List (List Int)) : (lsC ls).length = ls.length := by simp [lsC]
theorem lsC_at {ls : List (List Int)} {k : Nat} (h : k < ls.length) : (lsC ls)[k * 1]? = some (pints ls[k]) := by simp [lsC, h]
theorem lsC_ne {ls : List (List Int)} {k : Nat} (h : k < ls.length) : lsC ls ≠ [] := fun e => by have := lsC_len ls; rw [e] at this; simp at this; omega
theorem lsC_snoc (ls : List (List Int)) (x : List Int) : lsC (ls ++ [x]) = lsC ls ++ [pints x] := by simp [lsC]
theorem someR_spec (L : List Int) (k n : Nat) (q : Int) (hL : L.length ≤ 600) (hk : k ≤ L.length) (hn : n ≤ 1000) (hq1 : 1 ≤ q) (hq2 : q ≤ 1000) :
    FnM Try.prog 32 66 (srcC L k) [.int .i64 n, .int .i64 q] (fun v c => (∃ l : List Int, (l.length ≤ n ∧ ∀ a ∈ l, 0 ≤ a ∧ a < n) ∧ v = pints l) ∧ ∃ k', k' ≤ L.length ∧ c = srcC L k') := by
  refine FnM.of Try.func32 rfl Try.ntmps32 (by simp) rfl (by simp) fun m0 w0 F R0 => ?_
  repeat refine AW.seq ?_
  refine AW.region ?_
  refine A1 rfl ?_
  repeat refine AW.seq ?_
  refine AW.region ?_
  refine A1 rfl ?_
  refine AW.weaken (St.le_gro 7 0 1 3 rfl rfl) ?_
  repeat refine AW.seq ?_
  refine AW.region ?_
  refine A1 rfl ?_
  repeat refine AW.seq ?_
  refine AW.block ?_
  repeat refine AW.seq ?_
  refine AW.loop (st := fun x_0 : Nat × List Int × Nat => mkS [(0, .ptr big 0), (1, .pv (.int .i64 n)), (2, .pv (.int .i64 q)), (7, .gsl 0 1 x_0.2.1.length), (8, .pv (.int .i64 x_0.1))] [(big, srcO L x_0.2.2), (0, .gro 3 (intsP x_0.2.1))] 1)
    (I := fun x_0 => x_0.1 ≤ n ∧ x_0.2.1.length ≤ x_0.1 ∧ x_0.2.2 ≤ L.length ∧ ∀ a ∈ x_0.2.1, 0 ≤ a ∧ a < n) (μ := fun x_0 => n - x_0.1) (x0 := (0, [], k)) (St.le_mk ⟨rfl, rfl, rfl, rfl, rfl, trivial⟩ ⟨rfl, rfl, trivial⟩ rfl rfl) (⟨Nat.zero_le _, Nat.le_refl _, hk, fun a ha => by simp at ha⟩) ?_
  rintro ⟨i, l, k2⟩ ⟨hi, hl, hk2, hla⟩
  try simp only at hi hl hk2 hla ⊢
  repeat refine AW.seq ?_
  refine AW.region ?_
  iterate 3 refine A1 rfl ?_
  repeat refine AW.seq ?_
  refine AW.condP rfl (fun hc11 => ?_) (fun hc11 => ?_)
  · have hsl : (intsP l).length = l.length * 1 := by simp
    have hk3 := sNk_le hk2
    have hla2 : ∀ a ∈ l ++ [(i : Int)], 0 ≤ a ∧ a < n := fun a ha => by rcases List.mem_append.1 ha with e | e; exact hla a e; simp at e; omega
    refine AW.skip ?_
    repeat refine AW.seq ?_
    refine AW.block ?_
    repeat refine AW.seq ?_
    refine AW.region ?_
    iterate 2 refine A1 rfl ?_
    refine RL.step (d := some 16) rfl rfl (xj_callM Try.call25 (n_spec L k2 q hL hk2 hq1 (by omega)) rfl rfl) ?_
    iterate 3 refine A1 rfl ?_
    repeat refine AW.seq ?_
    refine AW.cond rfl (fun hc19 => ?_) (fun hc19 => ?_)
    · repeat refine AW.seq ?_
      refine AW.region ?_
      iterate 5 refine A1 rfl ?_
      repeat refine AW.seq ?_
      refine AW.region ?_
      iterate 3 refine A1 rfl ?_
      exact ⟨(i + 1, l ++ [(i : Int)], sNk L k2), St.le_mkR [2] ⟨rfl, rfl, rfl, by simp; rfl, rfl, trivial⟩ ⟨rfl, congrArg (fun c => some (Ob.gro 3 c)) (ints_snoc l i).symm, trivial⟩ rfl rfl (by decide) rfl, ⟨by simp only; omega, by simp only [List.length_append, List.length_singleton]; omega, hk3, hla2⟩, by simp only; omega⟩
    · refine AW.skip ?_
      repeat refine AW.seq ?_
      refine AW.region ?_
      iterate 3 refine A1 rfl ?_
      exact ⟨(i + 1, l, sNk L k2), St.le_mk ⟨rfl, rfl, rfl, rfl, rfl, trivial⟩ ⟨rfl, rfl, trivial⟩ rfl rfl, ⟨by simp only; omega, by simp only; omega, hk3, hla⟩, by simp only; omega⟩
  · repeat refine AW.seq ?_
    refine AW.exit ?_
    refine AW.weaken (St.le_pubA 0 rfl rfl) ?_
    repeat refine AW.seq ?_
    refine AW.region ?_
    iterate 2 refine A1 rfl ?_
    repeat refine AW.seq ?_
    refine AW.ret ?_
    exact ⟨_, srcC L k2, rfl, rfl, ⟨l, ⟨by omega, hla⟩, by simp [pints]⟩, k2, hk2, rfl⟩
/-- What sch and relations make. -/
structure Made7 (S : Sch) : Prop where
  a1 : 1 ≤ S.attrs.length
  a2 : S.attrs.length ≤ 5
  r1 : 1 ≤ S.rels.length
  r2 : S.rels.length ≤ 5
  f : S.feats.length = 0
  an : ∀ x ∈ S.attrs, x.1.size ≤ 1000
  rn : ∀ x ∈ S.rels, x.1.size ≤ 1000
  rl : ∀ x ∈ S.rels, x.2.length ≤ 1000
theorem Made7.SB {S : Sch} (h : Made7 S) : SB S := ⟨by have := h.a2; omega, by have := h.r2; omega, by have := h.f; omega, fun x hx => by have := h.an x hx; omega, fun x hx => by have := h.rn x hx; omega, fun x hx => by have := h.rl x hx; omega⟩
theorem sch_spec (ls : List (List Int)) (h1 : 1 ≤ ls.length) (h5 : ls.length ≤ 5) (hl : ∀ x ∈ ls, x.length ≤ 1000 ∧ ∀ a ∈ x, a ≤ 4) :
    FnP Try.prog 31 [.sl none ls.length (lsC ls)] (fun v => ∃ S, Made7 S ∧ v = schP S) := by
  refine FnP.fg2 (FnP.ofC Try.func31 rfl Try.ntmps31 (by simp) fun m0 w0 F R0 => ?_)
  have hcl := lsC_len ls
  repeat refine AW.seq ?_
  refine AW.region ?_
  refine A1 rfl ?_
  repeat refine AW.seq ?_
  refine AW.region ?_
  iterate 3 refine A1 rfl ?_
  refine AW.weaken (St.le_groC 1 0 2 2 81 rfl rfl rfl) ?_
  refine AW.weaken (St.le_groC 1 1 3 2 33 rfl rfl rfl) ?_
  repeat refine AW.seq ?_
  refine AW.region ?_
  refine A1 rfl ?_
  repeat refine AW.seq ?_
  refine AW.region ?_
  iterate 3 refine A1 rfl ?_
  repeat refine AW.seq ?_
  refine AW.block ?_
  repeat refine AW.seq ?_
  refine AW.loop (st := fun x_0 : Nat × List (ByteArray × List Int) × Int => mkS [(2, .ptr 0 0), (3, .ptr 1 0), (4, .pv (.int .i64 x_0.2.2)), (11, .pv (.sl none ls.length (lsC ls))), (12, .pv (.int .i64 ls.length)), (13, .pv (.int .i64 x_0.1))] [(0, .mix 28 [.pv (.sl (some true) 0 []), .pv (.sl (some true) 0 []), .pv (.sl (some true) 0 []), .pv (.int .i64 0)]), (1, .mix 28 [.gsl 2 2 0, .gsl 3 2 x_0.2.1.length, .pv (.sl (some true) 0 []), .pv (.int .i64 (-1))]), (2, .gro 81 (attrsC [])), (3, .gro 33 (relsC x_0.2.1))] 4)
    (I := fun x_0 => x_0.1 ≤ ls.length ∧ x_0.2.1.length = x_0.1 ∧ (0 ≤ x_0.2.2 ∧ x_0.2.2 ≤ 4) ∧ ∀ r ∈ x_0.2.1, r.1.size ≤ 1000 ∧ r.2.length ≤ 1000) (μ := fun x_0 => ls.length - x_0.1) (x0 := (0, [], 0)) (St.le_mk ⟨rfl, rfl, rfl, rfl, rfl, rfl, trivial⟩ ⟨rfl, rfl, rfl, rfl, trivial⟩ rfl rfl) (⟨Nat.zero_le _, rfl, ⟨by simp, by simp⟩, fun r hr => by simp at hr⟩) ?_
  rintro ⟨i, rs, m⟩ ⟨hi, hrl, hm, hrs⟩
  try simp only at hi hrl hm hrs ⊢
  repeat refine AW.seq ?_
  refine AW.region ?_
  refine A1 rfl ?_
  repeat refine AW.seq ?_
  refine AW.condP rfl (fun hc14 => ?_) (fun hc14 => ?_)
  · have hlt : i < ls.length := by omega
    have hla := lsC_at hlt
    have hlne := lsC_ne hlt
    have hx := hl _ (List.getElem_mem hlt)
    have hRl := relsC_len rs
    have hb : (97 + i : Int) = ((UInt8.ofNat (97 + i)).toNat : Int) := by
      simp [Nat.mod_eq_of_lt (show 97 + i < 256 by omega)]
    refine AW.skip ?_
    repeat refine AW.seq ?_
    refine AW.block ?_
    repeat refine AW.seq ?_
    refine AW.region ?_
    iterate 2 refine A1 rfl ?_
    first | refine A2 rfl (by assumption) ?_ | refine A1 rfl ?_
    iterate 2 refine A1 rfl ?_
    repeat refine AW.seq ?_
    refine AW.region ?_
    iterate 4 refine A1 rfl ?_
    refine RL.step (d := some 22) rfl rfl (XJ.cast (v' := .pv (.int .u8 (((UInt8.ofNat (97 + i)).toNat : Nat) : Int))) (xj_conv Try.underlying3 Try.underlying5 rfl) (by rw [← hb, IntWalk.u8_in _ (by omega)])) ?_
    refine A1 rfl ?_
    refine RL.step (d := some 24) rfl rfl (xj_toS [UInt8.ofNat (97 + i)] Try.underlying86 Try.underlying5 Try.underlying9 (.inr ⟨_, _, _, _, rfl, rfl, rfl⟩)) ?_
    refine RL.step (d := some 25) rfl rfl (xj_cat rfl rfl (by show 1 + 1 ≤ 9223372036854775807; omega)) ?_
    iterate 6 refine A1 rfl ?_
    repeat refine AW.seq ?_
    refine AW.region ?_
    iterate 3 refine A1 rfl ?_
    repeat refine AW.seq ?_
    refine AW.block ?_
    repeat refine AW.seq ?_
    refine AW.loop (st := fun x_1 : Nat × Int => mkS [(2, .ptr 0 0), (3, .ptr 1 0), (4, .pv (.int .i64 x_1.2)), (11, .pv (.sl none ls.length (lsC ls))), (12, .pv (.int .i64 ls.length)), (13, .pv (.int .i64 i)), (31, .pv (pints ls[i])), (32, .pv (.int .i64 ls[i].length)), (33, .pv (.int .i64 x_1.1))] [(0, .mix 28 [.pv (.sl (some true) 0 []), .pv (.sl (some true) 0 []), .pv (.sl (some true) 0 []), .pv (.int .i64 0)]), (1, .mix 28 [.gsl 2 2 0, .gsl 6 2 (rs.length + 1), .pv (.sl (some true) 0 []), .pv (.int .i64 (-1))]), (2, .gro 81 (attrsC [])), (6, .gro 33 (relsC rs ++ [.str (⟨#[114]⟩ ++ ⟨[UInt8.ofNat (97 + i)].toArray⟩), pints ls[i]]))] 7)
      (I := fun x_1 => x_1.1 ≤ ls[i].length ∧ 0 ≤ x_1.2 ∧ x_1.2 ≤ 4) (μ := fun x_1 => ls[i].length - x_1.1) (x0 := (0, m)) (St.le_mk ⟨rfl, rfl, rfl, rfl, rfl, rfl, rfl, rfl, rfl, trivial⟩ ⟨rfl, rfl, rfl, rfl, trivial⟩ rfl rfl) (⟨Nat.zero_le _, hm⟩) ?_
    rintro ⟨j, m2⟩ ⟨hj, hm2⟩
    try simp only at hj hm2 ⊢
    repeat refine AW.seq ?_
    refine AW.region ?_
    refine A1 rfl ?_
    repeat refine AW.seq ?_
    refine AW.condP rfl (fun hc34 => ?_) (fun hc34 => ?_)
    · have hjl : j < ls[i].length := by omega
      have hja := pints_at hjl
      have hjne := pints_ne hjl
      have hj4 := hx.2 _ (List.getElem_mem hjl)
      have hmx : 0 ≤ (if m2 < ls[i][j] then ls[i][j] else m2) ∧ (if m2 < ls[i][j] then ls[i][j] else m2) ≤ 4 := by split <;> omega
      refine AW.skip ?_
      repeat refine AW.seq ?_
      refine AW.block ?_
      repeat refine AW.seq ?_
      refine AW.region ?_
      refine A1 rfl ?_
      first | refine A2 rfl (by assumption) ?_ | refine A1 rfl ?_
      refine A1 rfl ?_
      repeat refine AW.seq ?_
      refine AW.region ?_
      iterate 4 refine A1 rfl ?_
      repeat refine AW.seq ?_
      refine AW.region ?_
      iterate 2 refine A1 rfl ?_
      exact ⟨(j + 1, if m2 < ls[i][j] then ls[i][j] else m2), St.le_mk ⟨rfl, rfl, rfl, rfl, rfl, rfl, rfl, rfl, rfl, trivial⟩ ⟨rfl, rfl, rfl, rfl, trivial⟩ rfl rfl, ⟨by simp only; omega, hmx⟩, by simp only; omega⟩
    · repeat refine AW.seq ?_
      refine AW.exit ?_
      repeat refine AW.seq ?_
      refine AW.region ?_
      iterate 2 refine A1 rfl ?_
      exact ⟨(i + 1, rs ++ [(⟨#[114]⟩ ++ ⟨[UInt8.ofNat (97 + i)].toArray⟩, ls[i])], m2), St.le_mkR [0, 1, 2, 6] ⟨rfl, rfl, rfl, rfl, rfl, rfl, trivial⟩ ⟨rfl, by simp; rfl, rfl, congrArg (fun c => some (Ob.gro 33 c)) (relsC_snoc rs (⟨#[114]⟩ ++ ⟨[UInt8.ofNat (97 + i)].toArray⟩, ls[i])).symm, trivial⟩ rfl rfl (by decide) rfl, ⟨by simp only; omega, by simp; omega, hm2, fun r hr => by rcases List.mem_append.1 hr with e | e; exact hrs r e; simp only [List.mem_singleton] at e; subst e; exact ⟨by rw [ByteArray.size_append]; show 1 + 1 ≤ 1000; omega, hx.1⟩⟩, by simp only; omega⟩
  · obtain ⟨M, hMm⟩ := Int.eq_ofNat_of_zero_le hm.1
    have hM4 : M ≤ 4 := by omega
    repeat refine AW.seq ?_
    refine AW.exit ?_
    repeat refine AW.seq ?_
    refine AW.region ?_
    refine A1 rfl ?_
    repeat refine AW.seq ?_
    refine AW.block ?_
    repeat refine AW.seq ?_
    refine AW.loop (st := fun x_2 : Nat × List (ByteArray × Int) => mkS [(2, .ptr 0 0), (3, .ptr 1 0), (4, .pv (.int .i64 m)), (9, .pv (.int .i64 x_2.1))] [(0, .mix 28 [.pv (.sl (some true) 0 []), .pv (.sl (some true) 0 []), .pv (.sl (some true) 0 []), .pv (.int .i64 0)]), (1, .mix 28 [.gsl 2 2 x_2.2.length, .gsl 3 2 rs.length, .pv (.sl (some true) 0 []), .pv (.int .i64 (-1))]), (2, .gro 81 (attrsC x_2.2)), (3, .gro 33 (relsC rs))] 4)
      (I := fun x_2 => x_2.1 ≤ M + 1 ∧ x_2.2.length = x_2.1 ∧ ∀ x ∈ x_2.2, x.1.size ≤ 1000) (μ := fun x_2 => M + 1 - x_2.1) (x0 := (0, [])) (St.le_mk ⟨rfl, rfl, rfl, rfl, trivial⟩ ⟨rfl, rfl, rfl, rfl, trivial⟩ rfl rfl) (⟨Nat.zero_le _, rfl, fun x hx => by simp at hx⟩) ?_
    rintro ⟨q, aa⟩ ⟨hq, hal, has⟩
    try simp only at hq hal has ⊢
    repeat refine AW.seq ?_
    refine AW.region ?_
    iterate 3 refine A1 rfl ?_
    repeat refine AW.seq ?_
    refine AW.condP rfl (fun hc44 => ?_) (fun hc44 => ?_)
    · have hAl := attrsC_len aa
      have hb : (97 + q : Int) = ((UInt8.ofNat (97 + q)).toNat : Int) := by
        simp [Nat.mod_eq_of_lt (show 97 + q < 256 by omega)]
      refine AW.skip ?_
      repeat refine AW.seq ?_
      refine AW.block ?_
      repeat refine AW.seq ?_
      refine AW.region ?_
      iterate 4 refine A1 rfl ?_
      refine RL.step (d := some 51) rfl rfl (XJ.cast (v' := .pv (.int .u8 (((UInt8.ofNat (97 + q)).toNat : Nat) : Int))) (xj_conv Try.underlying3 Try.underlying5 rfl) (by rw [← hb, IntWalk.u8_in _ (by omega)])) ?_
      refine A1 rfl ?_
      refine RL.step (d := some 53) rfl rfl (xj_toS [UInt8.ofNat (97 + q)] Try.underlying86 Try.underlying5 Try.underlying9 (.inr ⟨_, _, _, _, rfl, rfl, rfl⟩)) ?_
      refine RL.step (d := some 54) rfl rfl (xj_cat rfl rfl (by show 1 + 1 ≤ 9223372036854775807; omega)) ?_
      iterate 5 refine A1 rfl ?_
      repeat refine AW.seq ?_
      refine AW.region ?_
      iterate 3 refine A1 rfl ?_
      exact ⟨(q + 1, aa ++ [(⟨#[97]⟩ ++ ⟨[UInt8.ofNat (97 + q)].toArray⟩, 1)]), St.le_mkR [0, 1, 6, 3] ⟨rfl, rfl, rfl, rfl, trivial⟩ ⟨rfl, by simp; rfl, congrArg (fun c => some (Ob.gro 81 c)) (attrsC_snoc aa (⟨#[97]⟩ ++ ⟨[UInt8.ofNat (97 + q)].toArray⟩, 1)).symm, rfl, trivial⟩ rfl rfl (by decide) rfl, ⟨by simp only; omega, by simp; omega, fun r hr => by rcases List.mem_append.1 hr with e | e; exact has r e; simp only [List.mem_singleton] at e; subst e; rw [ByteArray.size_append]; show 1 + 1 ≤ 1000; omega⟩, by simp only; omega⟩
    · repeat refine AW.seq ?_
      refine AW.exit ?_
      refine AW.weaken (St.le_pubA 2 rfl rfl) ?_
      refine AW.weaken (St.le_pubA 3 rfl rfl) ?_
      repeat refine AW.seq ?_
      refine AW.region ?_
      iterate 2 refine A1 rfl ?_
      repeat refine AW.seq ?_
      refine AW.ret ?_
      exact ⟨_, _, rfl, rfl, ⟨cellOk1 ⟨_, Try.underlying28, rfl⟩ sz28 rfl rfl rfl, trivial⟩, ⟨aa, rs, [], -1⟩, ⟨by simp only; omega, by simp only; omega, by simp only; omega, by simp only; omega, rfl, has, fun x hx => (hrs x hx).1, fun x hx => (hrs x hx).2⟩, rfl⟩
end Go.Proofs.Ytopblgabadljdaa
namespace Go.Proofs.Ytopblgabadljdaa
open Go.RowKit Mk
set_option maxRecDepth 100000
set_option maxHeartbeats 4000000
/-- The lists that relations makes: short, of numbers below 5. -/
def LsOk (B : Nat) (ls : List (List Int)) : Prop := ∀ x ∈ ls, x.length + 1 ≤ B ∧ ∀ a ∈ x, 0 ≤ a ∧ a ≤ 4
theorem LsOk.set {B B' k : Nat} {ls : List (List Int)} {y : List Int} (h : LsOk B ls) (hB : B ≤ B') (hy : y.length + 1 ≤ B' ∧ ∀ a ∈ y, 0 ≤ a ∧ a ≤ 4) : LsOk B' (ls.set k y) := fun x hx => by
  rcases List.mem_or_eq_of_mem_set hx with e | e
  · exact ⟨Nat.le_trans (h x e).1 hB, (h x e).2⟩
  · rw [e]; exact hy
theorem LsOk.snoc {B : Nat} {ls : List (List Int)} {y : List Int} (h : LsOk B ls) (hy : y.length + 1 ≤ B ∧ ∀ a ∈ y, 0 ≤ a ∧ a ≤ 4) : LsOk B (ls ++ [y]) := fun x hx => by
  rcases List.mem_append.1 hx with e | e
  · exact h x e
  · simp at e; rw [e]; exact hy
theorem LsOk.mono {B B' : Nat} {ls : List (List Int)} (h : LsOk B ls) (hB : B ≤ B') : LsOk B' ls := fun x hx => ⟨Nat.le_trans (h x hx).1 hB, (h x hx).2⟩
theorem y_snoc {y : List Int} {z : Int} (h : ∀ a ∈ y, 0 ≤ a ∧ a ≤ 4) (hz : 0 ≤ z ∧ z ≤ 4) : ∀ a ∈ y ++ [z], 0 ≤ a ∧ a ≤ 4 := fun a ha => by
  rcases List.mem_append.1 ha with e | e
  · exact h a e
  · simp at e; rw [e]; exact hz
theorem rels7_spec (L : List Int) (k : Nat) (hL : L.length ≤ 600) (hk : k ≤ L.length) :
    FnM Try.prog 9 66 (srcC L k) [] (fun v c => (∃ S, Made7 S ∧ v = schP S) ∧ ∃ k', k' ≤ L.length ∧ c = srcC L k') := by
  refine FnM.ofC (rt := 28) (k := 4) Try.func9 rfl Try.ntmps9 (by simp) rfl (by simp) ⟨_, Try.underlying28, rfl⟩ sz28 fun m0 w0 F R0 => ?_
  have hb := sNv_bd L k 5 (by omega)
  obtain ⟨n, hn⟩ := Int.eq_ofNat_of_zero_le (show 0 ≤ 1 + sNv L k 5 by omega)
  have hk1 := sNk_le hk
  repeat refine AW.seq ?_
  refine AW.region ?_
  refine A1 rfl ?_
  repeat refine AW.seq ?_
  refine AW.region ?_
  refine A1 rfl ?_
  refine RL.step (d := some 18) rfl rfl (xj_callM Try.call25 (n_spec L k 5 hL hk (by omega) (by omega)) rfl rfl) ?_
  refine RL.step (d := some 19) rfl rfl (XJ.cast (v' := .pv (.int .i64 n)) (xj_add rfl rfl (by omega)) (by rw [← hn])) ?_
  refine A1 rfl ?_
  repeat refine AW.seq ?_
  refine AW.region ?_
  refine A1 rfl ?_
  refine AW.weaken (St.le_gro 4 1 1 22 rfl rfl) ?_
  repeat refine AW.seq ?_
  refine AW.region ?_
  refine A1 rfl ?_
  repeat refine AW.seq ?_
  refine AW.block ?_
  repeat refine AW.seq ?_
  refine AW.loop (st := fun x_0 : Nat × List (List Int) × Nat => mkS [(0, .ptr big 0), (2, .ptr 0 0), (3, .pv (.int .i64 n)), (4, .gsl 1 1 x_0.2.1.length), (5, .pv (.int .i64 x_0.1))] [(big, srcO L x_0.2.2), (0, .mix 28 [.pv (.sl (some true) 0 []), .pv (.sl (some true) 0 []), .pv (.sl (some true) 0 []), .pv (.int .i64 0)]), (1, .gro 22 (lsC x_0.2.1))] 2)
    (I := fun x_0 => x_0.1 ≤ n ∧ x_0.2.1.length = x_0.1 ∧ LsOk 6 x_0.2.1 ∧ x_0.2.2 ≤ L.length) (μ := fun x_0 => n - x_0.1) (x0 := (0, [], sNk L k)) (St.le_mk ⟨rfl, rfl, rfl, rfl, rfl, trivial⟩ ⟨rfl, rfl, rfl, trivial⟩ rfl rfl) (⟨Nat.zero_le _, rfl, fun x hx => by simp at hx, hk1⟩) ?_
  rintro ⟨i, ls, k2⟩ ⟨hi, hll, hls, hk2⟩
  try simp only at hi hll hls hk2 ⊢
  repeat refine AW.seq ?_
  refine AW.region ?_
  iterate 3 refine A1 rfl ?_
  repeat refine AW.seq ?_
  refine AW.condP rfl (fun hc22 => ?_) (fun hc22 => ?_)
  · have hcl : (lsC ls).length = ls.length * 1 := by rw [lsC_len]; omega
    refine AW.skip ?_
    repeat refine AW.seq ?_
    refine AW.block ?_
    repeat refine AW.seq ?_
    refine AW.region ?_
    refine A1 rfl ?_
    refine RL.call rfl (oj_callM Try.call32 (someR_spec L k2 5 2 hL hk2 (by omega) (by omega) (by omega)) rfl rfl ?_)
    rintro _ _ ⟨⟨x, ⟨hxl, hxa⟩, rfl⟩, k3, hk3, rfl⟩
    have hx5 : x.length + 1 ≤ 6 ∧ ∀ a ∈ x, 0 ≤ a ∧ a ≤ 4 := ⟨by omega, fun a ha => by have := hxa a ha; omega⟩
    have hb3 := sNv_bd L k3 5 (by omega)
    have hk4 := sNk_le hk3
    have hv5 : [sNv L k3 5].length + 1 ≤ 6 ∧ ∀ a ∈ [sNv L k3 5], 0 ≤ a ∧ a ≤ 4 := ⟨by simp, fun a ha => by simp at ha; omega⟩
    refine A1 rfl ?_
    repeat refine AW.seq ?_
    refine AW.region ?_
    iterate 3 refine A1 rfl ?_
    repeat refine AW.seq ?_
    refine AW.cond rfl (fun hc29 => ?_) (fun hc29 => ?_)
    · repeat refine AW.seq ?_
      refine AW.region ?_
      refine A1 rfl ?_
      refine RL.step (d := some 31) rfl rfl (xj_callM Try.call25 (n_spec L k3 5 hL hk3 (by omega) (by omega)) rfl rfl) ?_
      refine RL.step (d := some 32) rfl rfl (xj_buildSliceP none (by simp) el22 rfl (by decide) (by decide) rfl rfl) ?_
      refine A1 rfl ?_
      repeat refine AW.seq ?_
      refine AW.region ?_
      iterate 5 refine A1 rfl ?_
      repeat refine AW.seq ?_
      refine AW.region ?_
      iterate 3 refine A1 rfl ?_
      exact ⟨(i + 1, ls ++ [[sNv L k3 5]], sNk L k3), St.le_mkR [0, 3] ⟨rfl, rfl, rfl, by simp; rfl, rfl, trivial⟩ ⟨rfl, rfl, congrArg (fun c => some (Ob.gro 22 c)) (lsC_snoc ls [sNv L k3 5]).symm, trivial⟩ rfl rfl (by decide) rfl, ⟨by simp only; omega, by simp; omega, hls.snoc hv5, hk4⟩, by simp only; omega⟩
    · refine AW.skip ?_
      repeat refine AW.seq ?_
      refine AW.region ?_
      iterate 5 refine A1 rfl ?_
      repeat refine AW.seq ?_
      refine AW.region ?_
      iterate 3 refine A1 rfl ?_
      exact ⟨(i + 1, ls ++ [x], k3), St.le_mkR [0, 3] ⟨rfl, rfl, rfl, by simp; rfl, rfl, trivial⟩ ⟨rfl, rfl, congrArg (fun c => some (Ob.gro 22 c)) (lsC_snoc ls _).symm, trivial⟩ rfl rfl (by decide) rfl, ⟨by simp only; omega, by simp; omega, hls.snoc hx5, hk3⟩, by simp only; omega⟩
  · have hlp : 0 < ls.length := by omega
    have hl5 : ls.length ≤ 5 := by omega
    refine AW.weaken (St.le_own 4 rfl rfl hlp (lsC_ne hlp)) ?_
    repeat refine AW.seq ?_
    refine AW.exit ?_
    repeat refine AW.seq ?_
    refine AW.region ?_
    refine A1 rfl ?_
    repeat refine AW.seq ?_
    refine AW.block ?_
    repeat refine AW.seq ?_
    refine AW.loop (st := fun x_1 : Nat × List (List Int) × Nat => mkS [(0, .ptr big 0), (2, .ptr 0 0), (4, .osl 1 1 ls.length), (7, .pv (.int .i64 x_1.1))] [(big, srcO L x_1.2.2), (0, .mix 28 [.pv (.sl (some true) 0 []), .pv (.sl (some true) 0 []), .pv (.sl (some true) 0 []), .pv (.int .i64 0)]), (1, .cells 22 (lsC x_1.2.1))] 2)
      (I := fun x_1 => x_1.1 ≤ 5 ∧ x_1.2.1.length = ls.length ∧ LsOk (6 * 2 ^ x_1.1) x_1.2.1 ∧ x_1.2.2 ≤ L.length) (μ := fun x_1 => 5 - x_1.1) (x0 := (0, ls, k2)) (St.le_mk ⟨rfl, rfl, rfl, rfl, trivial⟩ ⟨rfl, rfl, rfl, trivial⟩ rfl rfl) (⟨Nat.zero_le _, rfl, hls, hk2⟩) ?_
    rintro ⟨a, ms, k3⟩ ⟨ha, hml, hms, hk3⟩
    try simp only at ha hml hms hk3 ⊢
    repeat refine AW.seq ?_
    refine AW.region ?_
    iterate 2 refine A1 rfl ?_
    repeat refine AW.seq ?_
    refine AW.condP rfl (fun hc38 => ?_) (fun hc38 => ?_)
    · have hpw : 6 * 2 ^ (a + 1) = 2 * (6 * 2 ^ a) := by rw [Nat.pow_succ]; omega
      refine AW.skip ?_
      repeat refine AW.seq ?_
      refine AW.block ?_
      repeat refine AW.seq ?_
      refine AW.region ?_
      refine A1 rfl ?_
      repeat refine AW.seq ?_
      refine AW.region ?_
      iterate 3 refine A1 rfl ?_
      repeat refine AW.seq ?_
      refine AW.block ?_
      repeat refine AW.seq ?_
      refine AW.loop (st := fun x_2 : Nat × Bool => mkS [(0, .ptr big 0), (2, .ptr 0 0), (4, .osl 1 1 ls.length), (7, .pv (.int .i64 a)), (8, .pv (.bool x_2.2)), (41, .osl 1 1 ls.length), (42, .pv (.int .i64 ls.length)), (43, .pv (.int .i64 x_2.1))] [(big, srcO L k3), (0, .mix 28 [.pv (.sl (some true) 0 []), .pv (.sl (some true) 0 []), .pv (.sl (some true) 0 []), .pv (.int .i64 0)]), (1, .cells 22 (lsC ms))] 2)
        (I := fun x_2 => x_2.1 ≤ ls.length) (μ := fun x_2 => ls.length - x_2.1) (x0 := (0, false)) (St.le_mk ⟨rfl, rfl, rfl, rfl, rfl, rfl, rfl, rfl, trivial⟩ ⟨rfl, rfl, rfl, trivial⟩ rfl rfl) (Nat.zero_le _) ?_
      rintro ⟨j, fd⟩ hj
      try simp only at hj ⊢
      repeat refine AW.seq ?_
      refine AW.region ?_
      refine A1 rfl ?_
      repeat refine AW.seq ?_
      refine AW.condP rfl (fun hc44 => ?_) (fun hc44 => ?_)
      · have hjl : j < ms.length := by omega
        have hja := lsC_at hjl
        have hjne := lsC_ne hjl
        have hjx := hms _ (List.getElem_mem hjl)
        have hpa : 2 ^ a ≤ 32 := Nat.le_trans (Nat.pow_le_pow_right (by omega) (show a ≤ 5 by omega)) (by decide)
        refine AW.skip ?_
        repeat refine AW.seq ?_
        refine AW.block ?_
        repeat refine AW.seq ?_
        refine AW.region ?_
        refine A1 rfl ?_
        first | refine A2 rfl (by assumption) ?_ | refine A1 rfl ?_
        refine A1 rfl ?_
        repeat refine AW.seq ?_
        refine AW.region ?_
        iterate 2 refine A1 rfl ?_
        apply RL.orB 4 48 52 [49, 50, 51] rfl (by first | exact MonoK.le | exact MonoK.aw | exact MonoK.back)
        · intro hb1
          iterate 4 refine A1 rfl ?_
          exact St.le_fg (fEq.upd (fEq.upd (fEq.upd (fEq.upd (fEq.upd (fEq.refl) rfl) rfl) rfl) rfl) rfl) rfl rfl rfl
        · intro hb1
          iterate 2 refine A1 rfl ?_
          refine RL.stepG (d := some 51) rfl rfl rfl (xj_call Try.call13 (mkin_spec ms[j] (a : Int) (by omega)) rfl) ?_
          refine A1 rfl ?_
          exact St.le_fg (fEq.upd (fEq.upd (fEq.upd (fEq.upd (fEq.upd (fEq.refl) rfl) rfl) rfl) rfl) rfl) rfl rfl rfl
        refine A1 rfl ?_
        repeat refine AW.seq ?_
        refine AW.region ?_
        iterate 2 refine A1 rfl ?_
        exact ⟨(j + 1, (fd || decide ((a : Int) ∈ ms[j]))), St.le_mk ⟨rfl, rfl, rfl, rfl, rfl, rfl, rfl, rfl, trivial⟩ ⟨rfl, rfl, rfl, trivial⟩ rfl rfl, by simp only; omega, by simp only; omega⟩
      · repeat refine AW.seq ?_
        refine AW.exit ?_
        repeat refine AW.seq ?_
        refine AW.region ?_
        iterate 2 refine A1 rfl ?_
        repeat refine AW.seq ?_
        refine AW.cond rfl (fun hc55 => ?_) (fun hc55 => ?_)
        · repeat refine AW.seq ?_
          refine AW.region ?_
          refine A1 rfl ?_
          refine AW.weaken (St.le_gro 11 2 1 3 rfl rfl) ?_
          have hbk := sNv_bd L k3 ls.length (by omega)
          obtain ⟨kk, hkk⟩ := Int.eq_ofNat_of_zero_le hbk.1
          have hkl : kk < ms.length := by omega
          have hkl2 : kk < ls.length := by omega
          have hka := lsC_at hkl
          have hkne := lsC_ne hkl
          have hkx := hms _ (List.getElem_mem hkl)
          have hcl := lsC_len ms
          have hk4 := sNk_le hk3
          have hpa : 2 ^ a ≤ 32 := Nat.le_trans (Nat.pow_le_pow_right (by omega) (show a ≤ 5 by omega)) (by decide)
          repeat refine AW.seq ?_
          refine AW.region ?_
          iterate 3 refine A1 rfl ?_
          refine RL.step (d := some 59) rfl rfl (XJ.cast (v' := .pv (.int .i64 kk)) (xj_callM Try.call25 (n_spec L k3 ls.length hL hk3 (by omega) (by omega)) rfl rfl) (by rw [← hkk])) ?_
          refine A1 rfl ?_
          repeat refine AW.seq ?_
          refine AW.region ?_
          iterate 2 refine A1 rfl ?_
          refine RL.step (d := some 62) rfl rfl (xj_indexAddrO kk Try.underlying63 sz22 rfl rfl rfl rfl hkl2) ?_
          first | refine A2 rfl (by assumption) ?_ | refine A1 rfl ?_
          iterate 2 refine A1 rfl ?_
          repeat refine AW.seq ?_
          refine AW.block ?_
          repeat refine AW.seq ?_
          refine AW.loop (st := fun x_3 : Nat × List Int => mkS [(0, .ptr big 0), (2, .ptr 0 0), (4, .osl 1 1 ls.length), (7, .pv (.int .i64 a)), (11, .gsl 2 1 x_3.2.length), (12, .pv (.int .i64 kk)), (63, .pv (pints ms[kk])), (64, .pv (.int .i64 ms[kk].length)), (65, .pv (.int .i64 x_3.1))] [(big, srcO L (sNk L k3)), (0, .mix 28 [.pv (.sl (some true) 0 []), .pv (.sl (some true) 0 []), .pv (.sl (some true) 0 []), .pv (.int .i64 0)]), (1, .cells 22 (lsC ms)), (2, .gro 3 (intsP x_3.2))] 3)
            (I := fun x_3 => x_3.1 ≤ ms[kk].length ∧ x_3.2.length ≤ x_3.1 ∧ ∀ a ∈ x_3.2, 0 ≤ a ∧ a ≤ 4) (μ := fun x_3 => ms[kk].length - x_3.1) (x0 := (0, [])) (St.le_mk ⟨rfl, rfl, rfl, rfl, rfl, rfl, rfl, rfl, rfl, trivial⟩ ⟨rfl, rfl, rfl, rfl, trivial⟩ rfl rfl) (⟨Nat.zero_le _, Nat.le_refl _, fun a ha => by simp at ha⟩) ?_
          rintro ⟨p, y⟩ ⟨hp, hyl, hya⟩
          try simp only at hp hyl hya ⊢
          repeat refine AW.seq ?_
          refine AW.region ?_
          refine A1 rfl ?_
          repeat refine AW.seq ?_
          refine AW.condP rfl (fun hc66 => ?_) (fun hc66 => ?_)
          · have hpl : p < ms[kk].length := by omega
            have hpv := pints_at hpl
            have hpne := pints_ne hpl
            have hp4 := hkx.2 _ (List.getElem_mem hpl)
            have hsl : (intsP y).length = y.length * 1 := by simp
            refine AW.skip ?_
            repeat refine AW.seq ?_
            refine AW.block ?_
            repeat refine AW.seq ?_
            refine AW.region ?_
            refine A1 rfl ?_
            first | refine A2 rfl (by assumption) ?_ | refine A1 rfl ?_
            refine A1 rfl ?_
            repeat refine AW.seq ?_
            refine AW.region ?_
            iterate 3 refine A1 rfl ?_
            repeat refine AW.seq ?_
            refine AW.condP rfl (fun hc71 => ?_) (fun hc71 => ?_)
            · repeat refine AW.seq ?_
              refine AW.region ?_
              iterate 5 refine A1 rfl ?_
              repeat refine AW.seq ?_
              refine AW.region ?_
              iterate 2 refine A1 rfl ?_
              exact ⟨(p + 1, y ++ [ms[kk][p]]), St.le_mkR [0, 1, 4] ⟨rfl, rfl, rfl, rfl, by simp; rfl, rfl, rfl, rfl, rfl, trivial⟩ ⟨rfl, rfl, rfl, congrArg (fun c => some (Ob.gro 3 c)) (ints_snoc y _).symm, trivial⟩ rfl rfl (by decide) rfl, ⟨by simp only; omega, by simp; omega, y_snoc hya hp4⟩, by simp only; omega⟩
            · refine AW.skip ?_
              repeat refine AW.seq ?_
              refine AW.region ?_
              iterate 2 refine A1 rfl ?_
              exact ⟨(p + 1, y), St.le_mk ⟨rfl, rfl, rfl, rfl, rfl, rfl, rfl, rfl, rfl, trivial⟩ ⟨rfl, rfl, rfl, rfl, trivial⟩ rfl rfl, ⟨by simp only; omega, by simp only; omega, hya⟩, by simp only; omega⟩
          · repeat refine AW.seq ?_
            refine AW.exit ?_
            have hsl : (intsP y).length = y.length * 1 := by simp
            have hya2 := y_snoc hya (show 0 ≤ (a : Int) ∧ (a : Int) ≤ 4 by omega)
            repeat refine AW.seq ?_
            refine AW.region ?_
            iterate 5 refine A1 rfl ?_
            repeat refine AW.seq ?_
            refine AW.region ?_
            iterate 2 refine A1 rfl ?_
            refine RL.step (d := some 83) rfl rfl (xj_indexAddrO kk Try.underlying63 sz22 rfl rfl rfl rfl hkl2) ?_
            first | refine A2 rfl (by assumption) ?_ | refine A1 rfl ?_
            iterate 2 refine A1 rfl ?_
            repeat refine AW.seq ?_
            refine AW.block ?_
            repeat refine AW.seq ?_
            refine AW.loop (st := fun x_4 : Nat × List Int => mkS [(0, .ptr big 0), (2, .ptr 0 0), (4, .osl 1 1 ls.length), (7, .pv (.int .i64 a)), (11, .gsl 4 1 x_4.2.length), (12, .pv (.int .i64 kk)), (84, .pv (pints ms[kk])), (85, .pv (.int .i64 ms[kk].length)), (86, .pv (.int .i64 x_4.1))] [(big, srcO L (sNk L k3)), (0, .mix 28 [.pv (.sl (some true) 0 []), .pv (.sl (some true) 0 []), .pv (.sl (some true) 0 []), .pv (.int .i64 0)]), (1, .cells 22 (lsC ms)), (4, .gro 3 (intsP x_4.2))] 5)
              (I := fun x_4 => x_4.1 ≤ ms[kk].length ∧ x_4.2.length ≤ x_4.1 + (ms[kk].length + 1) ∧ ∀ a ∈ x_4.2, 0 ≤ a ∧ a ≤ 4) (μ := fun x_4 => ms[kk].length - x_4.1) (x0 := (0, y ++ [(a : Int)])) (St.le_mk ⟨rfl, rfl, rfl, rfl, by simp; rfl, rfl, rfl, rfl, rfl, trivial⟩ ⟨rfl, rfl, rfl, congrArg (fun c => some (Ob.gro 3 c)) (ints_snoc y (a : Int)).symm, trivial⟩ rfl rfl) (⟨Nat.zero_le _, by simp; omega, hya2⟩) ?_
            rintro ⟨p2, y2⟩ ⟨hp2, hyl2, hya3⟩
            try simp only at hp2 hyl2 hya3 ⊢
            repeat refine AW.seq ?_
            refine AW.region ?_
            refine A1 rfl ?_
            repeat refine AW.seq ?_
            refine AW.condP rfl (fun hc87 => ?_) (fun hc87 => ?_)
            · have hpl : p2 < ms[kk].length := by omega
              have hpv := pints_at hpl
              have hpne := pints_ne hpl
              have hp4 := hkx.2 _ (List.getElem_mem hpl)
              have hsl : (intsP y2).length = y2.length * 1 := by simp
              refine AW.skip ?_
              repeat refine AW.seq ?_
              refine AW.block ?_
              repeat refine AW.seq ?_
              refine AW.region ?_
              refine A1 rfl ?_
              first | refine A2 rfl (by assumption) ?_ | refine A1 rfl ?_
              refine A1 rfl ?_
              repeat refine AW.seq ?_
              refine AW.region ?_
              iterate 3 refine A1 rfl ?_
              repeat refine AW.seq ?_
              refine AW.condP rfl (fun hc92 => ?_) (fun hc92 => ?_)
              · repeat refine AW.seq ?_
                refine AW.region ?_
                iterate 5 refine A1 rfl ?_
                repeat refine AW.seq ?_
                refine AW.region ?_
                iterate 2 refine A1 rfl ?_
                exact ⟨(p2 + 1, y2 ++ [ms[kk][p2]]), St.le_mkR [0, 1, 2, 3, 6] ⟨rfl, rfl, rfl, rfl, by simp; rfl, rfl, rfl, rfl, rfl, trivial⟩ ⟨rfl, rfl, rfl, congrArg (fun c => some (Ob.gro 3 c)) (ints_snoc y2 _).symm, trivial⟩ rfl rfl (by decide) rfl, ⟨by simp only; omega, by simp; omega, y_snoc hya3 hp4⟩, by simp only; omega⟩
              · refine AW.skip ?_
                repeat refine AW.seq ?_
                refine AW.region ?_
                iterate 2 refine A1 rfl ?_
                exact ⟨(p2 + 1, y2), St.le_mk ⟨rfl, rfl, rfl, rfl, rfl, rfl, rfl, rfl, rfl, trivial⟩ ⟨rfl, rfl, rfl, rfl, trivial⟩ rfl rfl, ⟨by simp only; omega, by simp only; omega, hya3⟩, by simp only; omega⟩
            · repeat refine AW.seq ?_
              refine AW.exit ?_
              refine AW.weaken (St.le_pubA 4 rfl rfl) ?_
              repeat refine AW.seq ?_
              refine AW.region ?_
              iterate 3 refine A1 rfl ?_
              refine RL.step (d := some 101) rfl rfl (xj_indexAddrO kk Try.underlying63 sz22 rfl rfl rfl rfl hkl2) ?_
              refine A1 rfl ?_
              repeat refine AW.seq ?_
              refine AW.region ?_
              iterate 3 refine A1 rfl ?_
              exact ⟨(a + 1, ms.set kk y2, sNk L k3), St.le_mk ⟨rfl, rfl, rfl, rfl, trivial⟩ ⟨rfl, rfl, congrArg (fun c => some (Ob.cells 22 c)) (by rw [Nat.mul_one]; simp [lsC, List.map_set]), trivial⟩ rfl rfl, ⟨by simp only; omega, by simp; omega, hms.set (by simp only; omega) ⟨by simp only; omega, hya3⟩, hk4⟩, by simp only; omega⟩
        · refine AW.skip ?_
          repeat refine AW.seq ?_
          refine AW.region ?_
          iterate 3 refine A1 rfl ?_
          exact ⟨(a + 1, ms, k3), St.le_mk ⟨rfl, rfl, rfl, rfl, trivial⟩ ⟨rfl, rfl, rfl, trivial⟩ rfl rfl, ⟨by simp only; omega, hml, hms.mono (by simp only; omega), hk3⟩, by simp only; omega⟩
    · repeat refine AW.seq ?_
      refine AW.exit ?_
      have ha5 : a = 5 := by omega
      subst ha5
      have hsch := sch_spec ms (by omega) (by omega) (fun x hx => ⟨by have := (hms x hx).1; omega, fun b hb => ((hms x hx).2 b hb).2⟩)
      rw [hml] at hsch
      refine AW.weaken (St.le_pubA 1 rfl rfl) ?_
      repeat refine AW.seq ?_
      refine AW.region ?_
      refine A1 rfl ?_
      refine RL.call rfl (oj_call Try.call31 hsch rfl ?_)
      rintro _ ⟨S, hS, rfl⟩
      refine A1 rfl ?_
      repeat refine AW.seq ?_
      refine AW.ret ?_
      exact ⟨0, _, schC S, srcC L k3, rfl, rfl, rfl, rfl, rfl, ⟨S, hS, rfl⟩, k3, hk3, rfl⟩
end Go.Proofs.Ytopblgabadljdaa
namespace Go.Proofs.Ytopblgabadljdaa
open Go.RowKit
/-- joinlearnref05.In: does a list have a number? -/
theorem in_any (A : Option Addr) (c : Nat) (l : List Int) (x : Int) (w : World) {R : Nat → Prop} (h : Row w R A (ints l)) (hl : l.length ≤ 1000000) :
    Calls Try.prog 36 #[.slice A l.length c, .int .i64 x] w fun e w' => e = .returned (.bool (inB l x)) ∧ w = w' := by
  go_enter Try.func36, Try.ntmps36
  go_wp2
  go_loop [9] (fun i => ∃ k : Nat, k ≤ l.length ∧ i = .int .i64 k ∧ inB (l.take k) x = false) (fun i => l.length - (intOf i).toNat)
  case atStart => exact ⟨0, Nat.zero_le _, rfl, by simp [inB]⟩
  case round =>
    obtain ⟨k, hk, rfl, hno⟩ := hrel
    have HN := Lib.hid hno
    clear hno
    by_cases hlt : k < l.length
    · obtain ⟨b, off, rfl, hb, hck⟩ := h.int_at hlt
      clear h
      go_wp2
      · go_ret
        have he : (l[k] == x) = true := by assumption
        exact ⟨ret_bool (by simp at he; simp [inB, ← he]), rfl⟩
      · have he : (l[k] == x) = false := by assumption
        refine ⟨⟨k + 1, by omega, by go_num, ?_⟩, by simp [intOf]; omega⟩
        have hn := HN.out
        unfold inB at hn ⊢
        rw [List.take_succ_eq_append_getElem hlt]
        rw [List.contains_append, hn]
        simp at he ⊢
        exact fun h => he h.symm
    · go_wp2
      go_ret
      have hn := HN.out
      rw [List.take_of_length_le (by omega)] at hn
      exact ⟨ret_bool hn.symm, rfl⟩
/-- joinlearnmake.In. -/
theorem mkin_any (A : Option Addr) (c : Nat) (l : List Int) (x : Int) (w : World) {R : Nat → Prop} (h : Row w R A (ints l)) (hl : l.length ≤ 1000000) :
    Calls Try.prog 13 #[.slice A l.length c, .int .i64 x] w fun e w' => e = .returned (.bool (inB l x)) ∧ w = w' := by
  go_enter Try.func13, Try.ntmps13
  go_wp2_with (go_at_call 36; refine (in_any A c l x w h hl).mono ?_; rintro e w' ⟨rfl, rfl⟩)
  go_ret
  exact ⟨rfl, rfl⟩
theorem mod_eqL (x n : Int) (h1 : 1 ≤ n) (h2 : n ≤ 1000000) : (wrap64 (x.tmod n + n)).tmod n = x % n := by
  have hlt : x.tmod n < n := Int.tmod_lt_of_pos x (by omega)
  have hgt : -n < x.tmod n := by
    have := Int.lt_tmod_of_pos x (show 0 < n by omega)
    omega
  rw [IntWalk.wrap64_in _ ⟨by omega, by omega⟩, Int.tmod_eq_emod_of_nonneg (by omega), Int.add_emod_right]
  rcases Int.lt_or_le x 0 with hx | hx
  · rw [Int.tmod_eq_emod]
    split
    · simp
    · rw [show ((n.natAbs : Nat) : Int) = n by omega]; simp
  · rw [Int.tmod_eq_emod_of_nonneg hx, Int.emod_emod]
/-- joinlearnmake.Mod. -/
theorem mod_any (x n : Int) (w : World) (h1 : 1 ≤ n) (h2 : n ≤ 1000000) :
    Calls Try.prog 48 #[.int .i64 x, .int .i64 n] w fun e w' => e = .returned (.int .i64 (x % n)) ∧ w = w' := by
  go_enter Try.func48, Try.ntmps48
  go_wp2
  go_ret
  refine ⟨ret_int ?_, rfl⟩
  exact mod_eqL x n h1 h2
/-- joinlearnref05.Ints: are two lists equal? -/
theorem ints_any (A B : Option Addr) (c d : Nat) (l m : List Int) (w : World) {R : Nat → Prop} (h : Row w R A (ints l)) {R' : Nat → Prop} (h' : Row w R' B (ints m)) (hl : l.length ≤ 1000000) (hm : m.length ≤ 1000000) :
    Calls Try.prog 28 #[.slice A l.length c, .slice B m.length d] w fun e w' => e = .returned (.bool (eqB l m)) ∧ ∃ n, w' = w.drewN n := by
  by_cases hlm : l.length = m.length
  · have hb : ((l.length : Int) != (m.length : Int)) = false := by simp [hlm]
    have HL := Lib.hid hlm
    clear hlm
    go_enter Try.func28, Try.ntmps28
    go_wp2
    clear hb
    go_loopw [13] (fun i wr => ∃ k n : Nat, k ≤ l.length ∧ i = .int .i64 k ∧ l.take k = m.take k ∧ wr = w.drewN n) (fun i _ => l.length - (intOf i).toNat)
    case atStart => exact ⟨0, 0, Nat.zero_le _, rfl, by simp, rfl⟩
    case round =>
      obtain ⟨k, n, hk, rfl, hno, rfl⟩ := hrel
      have HN := Lib.hid hno
      clear hno
      by_cases hlt : k < l.length
      · obtain ⟨b, off, rfl, hb, hck⟩ := h.int_at hlt
        have hlt' : k < m.length := by rw [← HL.out]; exact hlt
        obtain ⟨b', off', rfl, hb', hck'⟩ := h'.int_at hlt'
        clear h h'
        have b1 : (0 : Int) ≤ (k : Int) := by omega
        have b2 : (k : Int) < (l.length : Int) := by omega
        have b3 : (k : Int) < (m.length : Int) := by omega
        go_wp2
        go_quiet (fail)
        go_wp2
        · have he : (l[k] != m[k]) = true := by assumption
          go_ret
          refine ⟨ret_bool ?_, _, World.drewN_drewN _ _ _⟩
          simp [eqB]
          rintro rfl
          simp at he
        · have he : (l[k] != m[k]) = false := by assumption
          refine ⟨⟨k + 1, _, by omega, by go_num, ?_, rfl⟩, by simp [intOf]; omega⟩
          simp at he
          rw [List.take_succ_eq_append_getElem hlt, List.take_succ_eq_append_getElem hlt', HN.out, he]
      · go_wp2
        go_ret
        have hn := HN.out
        have hl2 := HL.out
        rw [List.take_of_length_le (by omega), List.take_of_length_le (by omega)] at hn
        exact ⟨ret_bool (by simp [eqB, hn]), _, rfl⟩
  · have hb : ((l.length : Int) != (m.length : Int)) = true := by simp; omega
    go_enter Try.func28, Try.ntmps28
    go_wp2
    go_ret
    refine ⟨ret_bool ?_, 0, rfl⟩
    simp [eqB]
    intro h; rw [h] at hlm; exact hlm rfl
/-- slices.Equal at []int. -/
theorem equal_any (A B : Option Addr) (c d : Nat) (l m : List Int) (w : World) {R : Nat → Prop} (h : Row w R A (ints l)) {R' : Nat → Prop} (h' : Row w R' B (ints m)) (hl : l.length ≤ 1000000) (hm : m.length ≤ 1000000) :
    Calls Try.prog 42 #[.slice A l.length c, .slice B m.length d] w fun e w' => e = .returned (.bool (eqB l m)) ∧ ∃ n, w' = w.drewN n := by
  by_cases hlm : l.length = m.length
  · have hb : ((l.length : Int) != (m.length : Int)) = false := by simp [hlm]
    have HL := Lib.hid hlm
    clear hlm
    go_enter Try.func42, Try.ntmps42
    go_wp2
    clear hb
    go_loopw [13] (fun i wr => ∃ k n : Nat, k ≤ l.length ∧ i = .int .i64 k ∧ l.take k = m.take k ∧ wr = w.drewN n) (fun i _ => l.length - (intOf i).toNat)
    case atStart => exact ⟨0, 0, Nat.zero_le _, rfl, by simp, rfl⟩
    case round =>
      obtain ⟨k, n, hk, rfl, hno, rfl⟩ := hrel
      have HN := Lib.hid hno
      clear hno
      by_cases hlt : k < l.length
      · obtain ⟨b, off, rfl, hb, hck⟩ := h.int_at hlt
        have hlt' : k < m.length := by rw [← HL.out]; exact hlt
        obtain ⟨b', off', rfl, hb', hck'⟩ := h'.int_at hlt'
        clear h h'
        have b1 : (0 : Int) ≤ (k : Int) := by omega
        have b2 : (k : Int) < (l.length : Int) := by omega
        have b3 : (k : Int) < (m.length : Int) := by omega
        go_wp2
        go_quiet (fail)
        go_wp2
        · have he : (l[k] != m[k]) = true := by assumption
          go_ret
          refine ⟨ret_bool ?_, _, World.drewN_drewN _ _ _⟩
          simp [eqB]
          rintro rfl
          simp at he
        · have he : (l[k] != m[k]) = false := by assumption
          refine ⟨⟨k + 1, _, by omega, by go_num, ?_, rfl⟩, by simp [intOf]; omega⟩
          simp at he
          rw [List.take_succ_eq_append_getElem hlt, List.take_succ_eq_append_getElem hlt', HN.out, he]
      · go_wp2
        go_ret
        have hn := HN.out
        have hl2 := HL.out
        rw [List.take_of_length_le (by omega), List.take_of_length_le (by omega)] at hn
        exact ⟨ret_bool (by simp [eqB, hn]), _, rfl⟩
  · have hb : ((l.length : Int) != (m.length : Int)) = true := by simp; omega
    go_enter Try.func42, Try.ntmps42
    go_wp2
    go_ret
    refine ⟨ret_bool ?_, 0, rfl⟩
    simp [eqB]
    intro h; rw [h] at hlm; exact hlm rfl
section
variable {α : Type} [DecidableEq α] {l : List α} {x : α}
theorem idxI_snoc {k : Nat} (hk : k < l.length) (hn : hasB (l.take k) x = false) (he : l[k] = x) : idxI l x = k := by
  unfold idxI
  have : l.findIdx? (fun y => decide (y = x)) = some k := by
    rw [List.findIdx?_eq_some_iff_getElem]
    refine ⟨hk, by simp [he], fun j hj => ?_⟩
    simp [hasB] at hn
    have hjl : j < l.length := by omega
    simp
    intro hx
    exact hn (by rw [← hx]; exact List.mem_take_iff_getElem.2 ⟨j, by omega, rfl⟩)
  rw [this]
theorem idxI_none (hn : hasB l x = false) : idxI l x = -1 := by
  unfold idxI
  have : l.findIdx? (fun y => decide (y = x)) = none := by
    rw [List.findIdx?_eq_none_iff]
    intro y hy
    simp [hasB] at hn
    simp
    rintro rfl
    exact hn hy
  rw [this]
theorem idxI_bd (l : List α) (x : α) : (0 ≤ idxI l x ↔ hasB l x = true) ∧ -1 ≤ idxI l x ∧ idxI l x < l.length + 1 := by
  by_cases h : hasB l x = true
  · have hx : x ∈ l := by simpa [hasB] using h
    unfold idxI
    cases e : l.findIdx? (fun y => decide (y = x)) with
    | none =>
      rw [List.findIdx?_eq_none_iff] at e
      have := e x hx
      simp at this
    | some k =>
      rw [List.findIdx?_eq_some_iff_getElem] at e
      obtain ⟨hk, _⟩ := e
      simp [h]; omega
  · have h' : hasB l x = false := by simpa using h
    rw [idxI_none h', h']; simp; omega
theorem hasB_succ {k : Nat} (hk : k < l.length) (hn : hasB (l.take k) x = false) (he : ¬ l[k] = x) : hasB (l.take (k + 1)) x = false := by
  unfold hasB at hn ⊢
  simp only [decide_eq_false_iff_not] at hn ⊢
  rw [List.take_succ_eq_append_getElem hk, List.mem_append]
  rintro (h | h)
  · exact hn h
  · simp at h; exact he h.symm
end
/-- slices.Index at []int. -/
theorem index_int (A : Option Addr) (c : Nat) (l : List Int) (x : Int) (w : World) {R : Nat → Prop} (h : Row w R A (ints l)) (hl : l.length ≤ 1000000) :
    Calls Try.prog 57 #[.slice A l.length c, .int .i64 x] w fun e w' => e = .returned (.int .i64 (idxI l x)) ∧ w = w' := by
  go_enter Try.func57, Try.ntmps57
  go_wp2
  go_loop [8] (fun i => ∃ k : Nat, k ≤ l.length ∧ i = .int .i64 k ∧ hasB (l.take k) x = false) (fun i => l.length - (intOf i).toNat)
  case atStart => exact ⟨0, Nat.zero_le _, rfl, by simp [hasB]⟩
  case round =>
    obtain ⟨k, hk, rfl, hno⟩ := hrel
    have HN := Lib.hid hno
    clear hno
    by_cases hlt : k < l.length
    · obtain ⟨b, off, rfl, hb, hck⟩ := h.int_at hlt
      clear h
      go_wp2
      · go_ret
        have he : (x == l[k]) = true := by assumption
        exact ⟨ret_int (idxI_snoc hlt HN.out (by simpa using (beq_iff_eq.1 he).symm)).symm, rfl⟩
      · have he : (x == l[k]) = false := by assumption
        refine ⟨⟨k + 1, by omega, by go_num, hasB_succ hlt HN.out ?_⟩, by simp [intOf]; omega⟩
        simp at he
        exact fun h => he h.symm
    · go_wp2
      go_ret
      have hn := HN.out
      rw [List.take_of_length_le (by omega)] at hn
      exact ⟨ret_int (idxI_none hn).symm, rfl⟩
/-- slices.Contains at []int. -/
theorem contains_int (A : Option Addr) (c : Nat) (l : List Int) (x : Int) (w : World) {R : Nat → Prop} (h : Row w R A (ints l)) (hl : l.length ≤ 1000000) :
    Calls Try.prog 40 #[.slice A l.length c, .int .i64 x] w fun e w' => e = .returned (.bool (hasB l x)) ∧ w = w' := by
  go_enter Try.func40, Try.ntmps40
  go_wp2_with (go_at_call 57; refine (index_int A c l x w h hl).mono ?_; rintro e w' ⟨rfl, rfl⟩)
  go_ret
  exact ⟨ret_bool (by rw [Bool.eq_iff_iff]; simpa using (idxI_bd l x).1), rfl⟩
end Go.Proofs.Ytopblgabadljdaa
namespace Go.Proofs.Ytopblgabadljdaa
open Go.RowKit
/-- Block bs is a source whose numbers still to come are r. -/
def SrcAt (w : World) (bs : Nat) (r : List Int) : Prop :=
  ∃ (A : Option Addr) (c : Nat) (L : List Int) (k : Nat), Blk w bs 66 #[.slice A L.length c, .int .i64 k] ∧ k ≤ L.length ∧ r = L.drop k ∧ L.length ≤ 600 ∧
    Row w (· < bs) A (ints L)
/-- The number that N gives. -/
def nxt (r : List Int) (n : Int) : Int := match r with | [] => 0 | x :: _ => x % n
theorem nxt_bd (r : List Int) (n : Int) (h : 1 ≤ n) : 0 ≤ nxt r n ∧ nxt r n < n := by
  unfold nxt
  split
  · omega
  · exact ⟨Int.emod_nonneg _ (by omega), Int.emod_lt_of_pos _ (by omega)⟩
set_option maxHeartbeats 400000 in
theorem n_any (bs : Nat) (r : List Int) (n : Int) (w : World) (h : SrcAt w bs r) (h1 : 1 ≤ n) (h2 : n ≤ 1000000) :
    Calls Try.prog 25 #[.pointer (some ⟨bs, 0, none⟩), .int .i64 n] w fun e w' => e = .returned (.int .i64 (nxt r n)) ∧ SrcAt w' bs r.tail ∧ w.grownBy w' (some bs) := by
  obtain ⟨A, c, L, k, hb, hk, hr, hL, hrow⟩ := h
  have hc0 := hb.cell 0
  have hc1 := hb.cell 1
  have hfz := hb.frozen 1
  simp at hc0 hc1
  have HB := Lib.hid hb
  have HR := Lib.hid hr
  clear hb hr
  by_cases hlt : k < L.length
  · obtain ⟨b, off, rfl, hbl, hck⟩ := hrow.int_at hlt
    go_enter Try.func25, Try.ntmps25
    go_wp2
    go_quiet (fail)
    go_wp2
    obtain ⟨W, hW⟩ : ∃ W, W = (w.drewN nq).setCell ⟨bs, 1, none⟩ (.int .i64 ((k : Int) + 1)) := ⟨_, rfl⟩
    rw [← hW]
    have hB2 := ((HB.out).drewN nq).set 1 (.int .i64 ((k : Int) + 1))
    rw [← hW] at hB2
    have e0 := hB2.cell 0
    have e1 := hB2.cell 1
    simp at e0 e1
    have hrow2 : Row W (· < bs) (some ⟨b, off, none⟩) (ints L) := by rw [hW]; exact (hrow.drewN nq).setCell (fun b e => Nat.ne_of_lt e) _
    have e2 : W.cell? ⟨b, off + k, none⟩ = some (.int .i64 L[k]) := by
      obtain ⟨b', off', hbo, _, hc⟩ := hrow2.int_at hlt
      simp at hbo
      rw [hbo.1, hbo.2]; exact hc
    have hgw : w.grownBy W (some bs) := by rw [hW]; exact grown_set (grown_drewN (World.grownBy.refl w _) nq) (.inl rfl) _
    have HB2 := Lib.hid hB2
    have HW := Lib.hid hW
    clear hW hc0 hc1 hck hB2
    have i1 : IntKind.i64.wrap ((k : Int) + 1 - 1) = (k : Int) := by rw [show ((k : Int) + 1 - 1) = k by omega]; exact IntWalk.i64_in _ (by omega)
    have i2 : (0 : Int) ≤ (k : Int) := by omega
    have i3 : (k : Int) < (L.length : Int) := by omega
    go_quiet ((go_at_call 48; exact quiet_left (mod_any _ _ _ h1 h2)))
    go_wp2
    go_ret
    refine ⟨ret_int ?_, ?_, ?_⟩
    · rw [HR.out, List.drop_eq_getElem_cons hlt]; rfl
    · refine ⟨some ⟨b, off, none⟩, c, L, k + 1, ?_, by omega, by rw [HR.out, List.tail_drop], hL, hrow2⟩
      exact HB2.out
    · exact grown_drewN hgw _
  · go_enter Try.func25, Try.ntmps25
    go_wp2
    go_quiet (fail)
    go_wp2
    go_ret
    have hr0 : r = [] := by rw [HR.out]; exact List.drop_eq_nil_of_le (by omega)
    exact ⟨ret_int (by rw [hr0]; rfl), ⟨A, c, L, k, HB.out, hk, by rw [← HR.out, hr0]; rfl, hL, hrow⟩, grown_drewN (World.grownBy.refl w _) _⟩
theorem Try.infoInt : (Try.prog.info? 3).map (fun i => (i.zero, i.size, i.bytes)) = some (some (.int .i64 0), 1, 8) := by kernel_rfl
/-- The numbers that Some gives. -/
def someL (r : List Int) (n : Nat) (k : Int) : List Int := ((List.range n).filter fun j => nxt (r.drop j) k == k - 1).map Int.ofNat
theorem someL_len (r : List Int) (n : Nat) (k : Int) : (someL r n k).length ≤ n := by
  unfold someL
  rw [List.length_map]
  exact Nat.le_trans (List.length_filter_le _ _) (by simp)
theorem someL_yes {r : List Int} {n : Nat} {k : Int} (h : (nxt (r.drop n) k == k - 1) = true) : someL r (n + 1) k = someL r n k ++ [(n : Int)] := by
  simp [someL, List.range_succ, List.filter_append, h]
theorem someL_no {r : List Int} {n : Nat} {k : Int} (h : (nxt (r.drop n) k == k - 1) = false) : someL r (n + 1) k = someL r n k := by
  simp [someL, List.range_succ, List.filter_append, h]
theorem own_ne {w : World} {base bs size n : Nat} {e : TypeId} {v : Value} {xs : List Value} {r : List Int} (h : w.ownsRow base e size v n xs) (hs : SrcAt w bs r) (he : e ≠ 66) : v.ownBlock ≠ some bs := by
  obtain ⟨A, c, L, k, hb, _⟩ := hs
  exact own_ne_blk h hb he
theorem SrcAt.lt {w : World} {bs : Nat} {r : List Int} (h : SrcAt w bs r) : bs < w.heap.size := by
  obtain ⟨A, c, L, k, hb, _⟩ := h
  exact hb.lt
/-- A row that lies behind the source may grow. -/
theorem SrcAt.keep {w w' : World} {bs : Nat} {r : List Int} (h : SrcAt w bs r) {row : Option Nat} (hg : w.grownBy w' row) (h1 : ∀ g, row = some g → bs < g) : SrcAt w' bs r := by
  obtain ⟨A, c, L, k, hb, hk, hr, hL, hrow⟩ := h
  refine ⟨A, c, L, k, hb.grown hg (fun e => ?_), hk, hr, hL, hrow.grown hg (fun b hb2 _ e2 => ?_)⟩
  · have := h1 bs e.symm; omega
  · have := h1 b e2; omega
theorem own_after {w w0 : World} {bs size n : Nat} {e : TypeId} {v : Value} {xs : List Value} (h : w.ownsRow w0.heap.size e size v n xs) (hb : bs < w0.heap.size) : ∀ g, v.ownBlock = some g → bs < g :=
  fun g hg => by have := (h.lt g hg).1; omega
theorem own_new {w w0 : World} {size n : Nat} {e : TypeId} {v : Value} {xs : List Value} (h : w.ownsRow w0.heap.size e size v n xs) : ∀ g, v.ownBlock = some g → ¬ g < w0.heap.size :=
  fun g hg => by have := (h.lt g hg).1; omega
set_option maxHeartbeats 400000 in
theorem some_any (bs : Nat) (r : List Int) (n : Nat) (k : Int) (w : World) (h : SrcAt w bs r) (hn : n ≤ 1000) (h1 : 1 ≤ k) (h2 : k ≤ 1000000) :
    Calls Try.prog 32 #[.pointer (some ⟨bs, 0, none⟩), .int .i64 n, .int .i64 k] w fun e w' =>
      ∃ v, e = .returned v ∧ w'.ownsRow w.heap.size 3 1 v (someL r n k).length (ints (someL r n k)) ∧ SrcAt w' bs (r.drop n) ∧ w.grownBy w' (some bs) := by
  go_enter Try.func32, Try.ntmps32
  go_wp2
  go_loopw [7, 8] (fun v i wr => ∃ j : Nat, j ≤ n ∧ i = .int .i64 j ∧ wr.ownsRow w.heap.size 3 1 v (someL r j k).length (ints (someL r j k)) ∧ SrcAt wr bs (r.drop j) ∧ w.grownBy wr (some bs)) (fun _ i _ => n - (intOf i).toNat)
  case atStart => exact ⟨0, Nat.zero_le _, rfl, World.ownsRow_nil w _ _ _, h, World.grownBy.refl _ _⟩
  case round =>
    obtain ⟨j, hj, rfl, hown, hsrc, hg⟩ := hrel
    have hlen := someL_len r j k
    by_cases hlt : j < n
    · have hbd := nxt_bd (r.drop j) k h1
      cases htest : (nxt (r.drop j) k == k - 1)
      · go_wp2_with (go_at_call 25; refine (n_any bs (r.drop j) k _ hsrc h1 h2).mono ?_; rintro e w1 ⟨rfl, hsrc1, hg1⟩)
        refine ⟨⟨j + 1, by omega, by go_num, ?_⟩, by simp [intOf]; omega⟩
        rw [someL_no htest, ← List.tail_drop]
        exact ⟨hown.kept hg1 (.inr (own_ne hown hsrc (by decide))), hsrc1, grown_trans hg hg1 (fun _ h _ => h)⟩
      · go_wp2_with (first
          | (go_at_call 25; refine (n_any bs (r.drop j) k _ hsrc h1 h2).mono ?_; rintro e w1 ⟨rfl, hsrc1, hg1⟩)
          | (at_builtin; refine wpList_app rfl _ _ 22 rfl w.heap.size 3 (.int .i64 0) 1 8 Try.underlying22 Try.infoInt rfl (by decide) (by decide) _ (someL r j k).length 1 (ints (someL r j k)) rfl rfl rfl (hown.kept hg1 (.inr (own_ne hown hsrc (by decide)))) rfl (by simp; rfl) (by omega) (Nat.le_trans hg.size hg1.size) ?_; intro A2 c2 w2 hown2 hg2 hat2))
        refine ⟨⟨j + 1, by omega, by go_num, ?_⟩, by simp [intOf]; omega⟩
        rw [someL_yes htest, ← List.tail_drop]
        exact ⟨by simpa using hown2, hsrc1.keep hg2 (own_after hown h.lt), grown_trans (grown_trans hg hg1 (fun _ h _ => h)) hg2 (fun g e hlt => absurd hlt (own_new hown g e))⟩
    · go_wp2
      go_ret
      have : j = n := by omega
      subst this
      exact ⟨_, rfl, hown, hsrc, hg⟩
end Go.Proofs.Ytopblgabadljdaa
namespace Go.Proofs.Ytopblgabadljdaa
open Go.RowKit
def attrCells (l : List (ByteArray × Int)) : List Value := l.flatMap fun a => [.string a.1, .int .i64 a.2]
def featCells (l : List (Int × Int × Int)) : List Value := l.flatMap fun a => [.int .i64 a.1, .int .i64 a.2.1, .int .i64 a.2.2]
/-- A list of lists of numbers. -/
def ListsAt (w : World) (R : Nat → Prop) (A : Option Addr) (ls : List (List Int)) : Prop :=
  ∃ vs : List Value, vs.length = ls.length ∧ Row w R A vs ∧
    ∀ k (hk : k < ls.length), ∃ (A' : Option Addr) (c' : Nat), vs[k]? = some (.slice A' ls[k].length c') ∧ Row w R A' (ints ls[k])
/-- The relations of a schema. -/
def RelsAt (w : World) (R : Nat → Prop) (A : Option Addr) (rs : List (ByteArray × List Int)) : Prop :=
  ∃ vs : List Value, vs.length = rs.length * 2 ∧ Row w R A vs ∧
    ∀ k (hk : k < rs.length), vs[k * 2]? = some (.string rs[k].1) ∧ ∃ (A' : Option Addr) (c' : Nat), vs[k * 2 + 1]? = some (.slice A' rs[k].2.length c') ∧ Row w R A' (ints rs[k].2)
def SchAt (w : World) (R : Nat → Prop) (v : Value) (S : Sch) : Prop :=
  ∃ (A1 : Option Addr) (c1 : Nat) (A2 : Option Addr) (c2 : Nat) (A3 : Option Addr) (c3 : Nat),
    v = .agg #[.slice A1 S.attrs.length c1, .slice A2 S.rels.length c2, .slice A3 S.feats.length c3, .int .i64 S.label] ∧
    S.attrs.length ≤ c1 ∧ S.rels.length ≤ c2 ∧ S.feats.length ≤ c3 ∧
    Row w R A1 (attrCells S.attrs) ∧ RelsAt w R A2 S.rels ∧ Row w R A3 (featCells S.feats)
section
variable {w w' : World} {R R' : Nat → Prop} {A : Option Addr}
theorem ListsAt.keep {ls : List (List Int)} (h : ListsAt w R A ls) (hs : w.heap.size ≤ w'.heap.size) (hk : ∀ b, R b → b < w.heap.size → w'.heap[b]? = w.heap[b]?) : ListsAt w' R A ls := by
  obtain ⟨vs, h1, h2, h3⟩ := h
  refine ⟨vs, h1, h2.keep hs fun b _ _ => hk b, fun k hk2 => ?_⟩
  obtain ⟨A', c', h4, h5⟩ := h3 k hk2
  exact ⟨A', c', h4, h5.keep hs fun b _ _ => hk b⟩
theorem ListsAt.mono {ls : List (List Int)} (h : ListsAt w R A ls) (hR : ∀ b, b < w.heap.size → R b → R' b) : ListsAt w R' A ls := by
  obtain ⟨vs, h1, h2, h3⟩ := h
  refine ⟨vs, h1, h2.mono hR, fun k hk2 => ?_⟩
  obtain ⟨A', c', h4, h5⟩ := h3 k hk2
  exact ⟨A', c', h4, h5.mono hR⟩
theorem RelsAt.keep {rs : List (ByteArray × List Int)} (h : RelsAt w R A rs) (hs : w.heap.size ≤ w'.heap.size) (hk : ∀ b, R b → b < w.heap.size → w'.heap[b]? = w.heap[b]?) : RelsAt w' R A rs := by
  obtain ⟨vs, h1, h2, h3⟩ := h
  refine ⟨vs, h1, h2.keep hs fun b _ _ => hk b, fun k hk2 => ?_⟩
  obtain ⟨h6, A', c', h4, h5⟩ := h3 k hk2
  exact ⟨h6, A', c', h4, h5.keep hs fun b _ _ => hk b⟩
theorem RelsAt.mono {rs : List (ByteArray × List Int)} (h : RelsAt w R A rs) (hR : ∀ b, b < w.heap.size → R b → R' b) : RelsAt w R' A rs := by
  obtain ⟨vs, h1, h2, h3⟩ := h
  refine ⟨vs, h1, h2.mono hR, fun k hk2 => ?_⟩
  obtain ⟨h6, A', c', h4, h5⟩ := h3 k hk2
  exact ⟨h6, A', c', h4, h5.mono hR⟩
theorem SchAt.keep {v : Value} {S : Sch} (h : SchAt w R v S) (hs : w.heap.size ≤ w'.heap.size) (hk : ∀ b, R b → b < w.heap.size → w'.heap[b]? = w.heap[b]?) : SchAt w' R v S := by
  obtain ⟨A1, c1, A2, c2, A3, c3, rfl, l1, l2, l3, h1, h2, h3⟩ := h
  exact ⟨A1, c1, A2, c2, A3, c3, rfl, l1, l2, l3, h1.keep hs fun b _ _ => hk b, h2.keep hs hk, h3.keep hs fun b _ _ => hk b⟩
theorem SchAt.mono {v : Value} {S : Sch} (h : SchAt w R v S) (hR : ∀ b, b < w.heap.size → R b → R' b) : SchAt w R' v S := by
  obtain ⟨A1, c1, A2, c2, A3, c3, rfl, l1, l2, l3, h1, h2, h3⟩ := h
  exact ⟨A1, c1, A2, c2, A3, c3, rfl, l1, l2, l3, h1.mono hR, h2.mono hR, h3.mono hR⟩
theorem SchAt.ext {v : Value} {S : Sch} (h : SchAt w R v S) (hb : Below w.heap.size w w') : SchAt w' R v S := h.keep hb.size fun b _ hlt => hb.block b hlt
theorem SchAt.grown {v : Value} {S : Sch} {row : Option Nat} (h : SchAt w R v S) (hg : w.grownBy w' row) (hne : ∀ b, R b → row ≠ some b) : SchAt w' R v S :=
  h.keep hg.size fun b hR hlt => hg.block b hlt fun e => hne b hR e.symm
theorem ListsAt.ext {ls : List (List Int)} (h : ListsAt w R A ls) (hb : Below w.heap.size w w') : ListsAt w' R A ls := h.keep hb.size fun b _ hlt => hb.block b hlt
theorem ListsAt.at_ {ls : List (List Int)} (h : ListsAt w R A ls) {k : Nat} (hk : k < ls.length) : ∃ b off A' c', A = some ⟨b, off, none⟩ ∧ R b ∧ b < w.heap.size ∧ w.cell? ⟨b, off + k, none⟩ = some (.slice A' ls[k].length c') ∧ Row w R A' (ints ls[k]) := by
  obtain ⟨vs, h1, h2, h3⟩ := h
  obtain ⟨b, off, rfl, hR, hb, hc⟩ := h2.at_ (k := k) (by omega)
  obtain ⟨A', c', h4, h5⟩ := h3 k hk
  exact ⟨b, off, A', c', rfl, hR, hb, by rw [hc k (by omega)]; exact h4, h5⟩
theorem RelsAt.at_ {rs : List (ByteArray × List Int)} (h : RelsAt w R A rs) {k : Nat} (hk : k < rs.length) : ∃ b off A' c', A = some ⟨b, off, none⟩ ∧ R b ∧ b < w.heap.size ∧
    w.cell? ⟨b, off + k * 2, none⟩ = some (.string rs[k].1) ∧ w.cell? ⟨b, off + k * 2 + 1, none⟩ = some (.slice A' rs[k].2.length c') ∧ Row w R A' (ints rs[k].2) := by
  obtain ⟨vs, h1, h2, h3⟩ := h
  obtain ⟨b, off, rfl, hR, hb, hc⟩ := h2.at_ (k := k * 2) (by omega)
  obtain ⟨h6, A', c', h4, h5⟩ := h3 k hk
  exact ⟨b, off, A', c', rfl, hR, hb, by rw [hc (k * 2) (by omega)]; exact h6, by rw [Nat.add_assoc, hc (k * 2 + 1) (by omega)]; exact h4, h5⟩
end
/-- A name of one letter behind a sign. -/
def chr (n : Int) : ByteArray := ⟨#[UInt8.ofNat n.toNat]⟩
def nm (p : UInt8) (i : Nat) : ByteArray := ⟨#[p]⟩ ++ chr (97 + i)
def mostOf (l : List Int) : Int := l.foldl max 0
def schOf (ls : List (List Int)) : Sch :=
  { attrs := (List.range ((mostOf ls.flatten).toNat + 1)).map fun i => (nm 97 i, 1), rels := ls.mapIdx fun i l => (nm 114 i, l), feats := [], label := -1 }
def relVals (vs : List Value) (k : Nat) : List Value := (List.range k).flatMap fun i => [.string (nm 114 i), vs.getD i undef]
theorem Try.infoRel : (Try.prog.info? 33).map (fun i => (i.zero, i.size, i.bytes)) = some (some (.agg #[.string ⟨#[]⟩, .slice none 0 0]), 2, 40) := by kernel_rfl
theorem Try.infoAttr : (Try.prog.info? 81).map (fun i => (i.zero, i.size, i.bytes)) = some (some (.agg #[.string ⟨#[]⟩, .int .i64 0]), 2, 24) := by kernel_rfl
theorem mostOf_snoc (l : List Int) (x : Int) : mostOf (l ++ [x]) = if mostOf l < x then x else mostOf l := by
  unfold mostOf
  rw [List.foldl_append]
  show max _ _ = _
  split <;> omega
theorem mostOf_bd (l : List Int) (n : Int) (h0 : 0 ≤ n) (h : ∀ a ∈ l, 0 ≤ a ∧ a ≤ n) : 0 ≤ mostOf l ∧ mostOf l ≤ n := by
  unfold mostOf
  have : ∀ (l : List Int) (m : Int), 0 ≤ m → m ≤ n → (∀ a ∈ l, 0 ≤ a ∧ a ≤ n) → 0 ≤ l.foldl max m ∧ l.foldl max m ≤ n := by
    intro l
    induction l with
    | nil => intro m h1 h2 _; exact ⟨h1, h2⟩
    | cons a l ih =>
      intro m h1 h2 h3
      have := h3 a (by simp)
      exact ih (max m a) (by omega) (by omega) (fun b hb => h3 b (by simp [hb]))
  exact this l 0 (by omega) h0 h
theorem conv1 (W : World) (n : Int) : (convert 86 9 (.slice (some ⟨W.heap.size, 0, none⟩) 1 1)).run Try.prog (W.alloc (.cells #[.int .u8 n] 5)) = .ok (.string (chr n)) (W.alloc (.cells #[.int .u8 n] 5)) := by
  have hc := (Blk.new W 5 #[.int .u8 n]).cell 0
  have hc' : ∀ i, i < 1 → (W.alloc (.cells #[.int .u8 n] 5)).cell? ⟨W.heap.size, 0 + i, none⟩ = some (.int .u8 ([n].getD i 0)) := by
    intro i hi
    obtain rfl : i = 0 := by omega
    rw [Nat.zero_add, hc]; rfl
  exact run_convert_bytes_arg (W.alloc (.cells #[.int .u8 n] 5)) 86 5 Try.underlying86 Try.underlying5 W.heap.size 0 1 1 [n] rfl hc' 9 Try.underlying9
theorem relVals_succ (vs : List Value) (k : Nat) : relVals vs (k + 1) = relVals vs k ++ [.string (nm 114 k), vs.getD k undef] := by simp [relVals, List.range_succ]
theorem relVals_len (vs : List Value) (k : Nat) : (relVals vs k).length = k * 2 := by
  induction k with
  | zero => rfl
  | succ k ih => rw [relVals_succ, List.length_append, ih]; simp; omega
theorem relVals_get (vs : List Value) (k i : Nat) (hi : i < k) : (relVals vs k)[i * 2]? = some (.string (nm 114 i)) ∧ (relVals vs k)[i * 2 + 1]? = some (vs.getD i undef) := by
  induction k with
  | zero => omega
  | succ k ih =>
    rw [relVals_succ]
    by_cases h : i < k
    · rw [List.getElem?_append_left (by rw [relVals_len]; omega), List.getElem?_append_left (by rw [relVals_len]; omega)]
      exact ih h
    · obtain rfl : i = k := by omega
      rw [List.getElem?_append_right (by rw [relVals_len]; omega), List.getElem?_append_right (by rw [relVals_len]; omega), relVals_len]
      simp [show i * 2 + 1 - i * 2 = 1 by omega]
theorem sch_done (ls : List (List Int)) (vs : List Value) (q k : Nat) (A1 : Option Addr) (c1 : Nat) (A2 : Option Addr) (c2 : Nat) (w W : World) (R : Nat → Prop)
    (hq : q = (mostOf ls.flatten).toNat + 1) (hk : k = ls.length) (hc1 : q ≤ c1) (hc2 : k ≤ c2)
    (hra : Row W (fun b => w.heap.size + 2 ≤ b ∧ (Value.slice A1 q c1).ownBlock = some b) A1 (attrCells ((List.range q).map fun i => (nm 97 i, 1))))
    (hrr : Row W (fun b => w.heap.size + 2 ≤ b ∧ (Value.slice A2 k c2).ownBlock = some b) A2 (relVals vs k))
    (hel : ∀ k (hk : k < ls.length), ∃ (A' : Option Addr) (c' : Nat), vs[k]? = some (.slice A' ls[k].length c') ∧ Row w R A' (ints ls[k])) (hb : Below w.heap.size w W) :
    SchAt W (fun b => R b ∨ w.heap.size ≤ b) (.agg #[.slice A1 q c1, .slice A2 k c2, .slice none 0 0, .int .i64 (-1)]) (schOf ls) := by
  subst hq hk
  refine ⟨A1, c1, A2, c2, none, 0, by simp [schOf], by simpa [schOf] using hc1, by simpa [schOf] using hc2, by simp [schOf], ?_, ?_, Row.nil⟩
  · exact hra.mono fun b _ hb => .inr (by omega)
  · refine ⟨relVals vs ls.length, by rw [relVals_len]; simp [schOf], hrr.mono fun b _ hb => .inr (by omega), fun i hi => ?_⟩
    have hi' : i < ls.length := by simpa [schOf] using hi
    obtain ⟨h1, h2⟩ := relVals_get vs ls.length i hi'
    obtain ⟨A', c', h3, h4⟩ := hel i hi'
    refine ⟨by simpa [schOf] using h1, A', c', ?_, ?_⟩
    · rw [h2, List.getD, h3]; simp [schOf]
    · simpa [schOf] using (h4.ext hb).mono (R' := fun b => R b ∨ w.heap.size ≤ b) fun b _ h => .inl h
set_option maxRecDepth 100000 in
set_option maxHeartbeats 400000 in
theorem sch_any (A : Option Addr) (c : Nat) (ls : List (List Int)) (w : World) {R : Nat → Prop} (h : ListsAt w R A ls) (hn : ls.length ≤ 6) (hl : ∀ l ∈ ls, l.length ≤ 100 ∧ ∀ a ∈ l, 0 ≤ a ∧ a ≤ 20) :
    Calls Try.prog 31 #[.slice A ls.length c] w fun e w' => ∃ v, e = .returned v ∧ SchAt w' (fun b => R b ∨ w.heap.size ≤ b) v (schOf ls) ∧ Below w.heap.size w w' := by
  have hcv := conv1
  have hkeep := h
  obtain ⟨vs, hvl, hrow, hel⟩ := h
  go_enter Try.func31, Try.ntmps31
  go_wp2
  go_loopw [4, 13] (fun m i wr => ∃ (k : Nat) (v : Value), k ≤ ls.length ∧ i = .int .i64 k ∧ m = .int .i64 (mostOf (ls.take k).flatten) ∧
      Blk wr w.heap.size 28 #[.slice none 0 0, .slice none 0 0, .slice none 0 0, .int .i64 0] ∧ Blk wr (w.heap.size + 1) 28 #[.slice none 0 0, v, .slice none 0 0, .int .i64 (-1)] ∧
      wr.ownsRow (w.heap.size + 2) 33 2 v k (relVals vs k) ∧ Below w.heap.size w wr) (fun _ i _ => ls.length - (intOf i).toNat)
  case atStart => 
    refine ⟨0, .slice none 0 0, Nat.zero_le _, rfl, rfl, (Blk.new _ _ _).alloc _, ?_, World.ownsRow_nil _ _ _ _, ?_⟩
    · have := Blk.new (w.alloc (Obj.cells #[Value.slice none 0 0, Value.slice none 0 0, Value.slice none 0 0, Value.int IntKind.i64 0] 28)) 28 #[Value.slice none 0 0, Value.slice none 0 0, Value.slice none 0 0, Value.int IntKind.i64 (-1)]
      simpa using this
    · exact ((Below.refl _ _).alloc (Nat.le_refl _) _).alloc (by simp) _
  case round =>
    obtain ⟨k, v, hk, rfl, rfl, hb0, hb1, hown, hbel⟩ := hrel
    by_cases hlt : k < ls.length
    · obtain ⟨b, off, A', c', rfl, hR, hb, hcell, hrowk⟩ := hkeep.at_ hlt
      have hcell' : wr.cell? ⟨b, off + k, none⟩ = some (.slice A' ls[k].length c') := by rw [hbel.cell (p := ⟨b, off + k, none⟩) hb]; exact hcell
      have hrowk' := hrowk.ext hbel
      have c1 := hb1.cell 1
      have f1 := hb1.frozen 1
      simp at c1
      have hvk : vs[k]? = some (.slice A' ls[k].length c') := by
        obtain ⟨b', off', e1, _, _, hc⟩ := hrow.at_ (k := k) (by omega)
        simp at e1
        rw [← hc k (by omega), ← e1.1, ← e1.2]; exact hcell
      have HVK := Lib.hid hvk
      clear hcell hkeep hrow hel hvk
      have HB0 := Lib.hid hb0
      have HB1 := Lib.hid hb1
      clear hb0 hb1
      have hne : ∀ g, g < w.heap.size + 2 → some g ≠ v.ownBlock := fun g hg e => by have := (hown.lt g e.symm).1; omega
      have hsz2 : w.heap.size + 2 ≤ wr.heap.size := by have := HB1.out.lt; omega
      go_wp2_with (
        at_builtin
        refine wpList_app (W := wr.alloc _) rfl _ _ 25 rfl (w.heap.size + 2) 33 _ 2 40 Try.underlying25 Try.infoRel rfl (by decide) (by decide) _ k 1 (relVals vs k) rfl rfl (by simp) (hown.alloc _) rfl (by simp; exact ⟨rfl, rfl⟩) (by omega) (by simp; omega) ?_
        intro Av cv w1 hown1 hg1 hat1
        have hb0' := ((HB0.out).alloc _).grown hg1 (hne _ (by omega))
        have hb1' := ((HB1.out).alloc _).grown hg1 (hne _ (by omega))
        have hbel1 : Below w.heap.size w w1 := (hbel.alloc hbel.size _).grown hg1 (by simp; omega) (fun g e => by have := (hown.lt g e).1; omega)
        have c1' := hb1'.cell 1
        have f1' := hb1'.frozen 1
        simp at c1'
        have HB0' := Lib.hid hb0'
        have HB1' := Lib.hid hb1'
        clear hb0' hb1' c1 f1 HB0 HB1 hcell' hrowk' hg1)
      obtain ⟨W, hW⟩ : ∃ W, W = w1.setCell ⟨w.heap.size + 1, 1, none⟩ (.slice Av (k + 1) cv) := ⟨_, rfl⟩
      rw [← hW]
      have hb0W : Blk W w.heap.size 28 #[.slice none 0 0, .slice none 0 0, .slice none 0 0, .int .i64 0] := by rw [hW]; exact HB0'.out.far (by simp) _
      have hb1W : Blk W (w.heap.size + 1) 28 #[.slice none 0 0, .slice Av (k + 1) cv, .slice none 0 0, .int .i64 (-1)] := by rw [hW]; exact HB1'.out.set 1 _
      have hownW : W.ownsRow (w.heap.size + 2) 33 2 (.slice Av (k + 1) cv) (k + 1) (relVals vs (k + 1)) := by
        rw [hW, relVals_succ]
        refine ownsRow_setCell_below ?_ (by simp) _
        have e : vs.getD k undef = .slice A' ls[k].length c' := by
          rw [List.getD, HVK.out]; rfl
        rw [e]; exact hown1
      have hbelW : Below w.heap.size w W := by rw [hW]; exact hbel1.setCell (by simp) _
      have hrowW := hrowk.ext hbelW
      have HB0W := Lib.hid hb0W
      have HB1W := Lib.hid hb1W
      have HOW := Lib.hid hownW
      clear hW hb0W hb1W hownW HB0' HB1' hown1 hown hat1 hbel1
      go_loop [4, 33] (fun m i => ∃ j : Nat, j ≤ ls[k].length ∧ i = .int .i64 j ∧ m = .int .i64 (mostOf ((ls.take k).flatten ++ ls[k].take j))) (fun _ i => ls[k].length - (intOf i).toNat)
      case atStart => exact ⟨0, Nat.zero_le _, rfl, by simp⟩
      case round =>
        obtain ⟨j, hj, rfl, rfl⟩ := hrel
        have hlk := hl ls[k] (List.getElem_mem hlt)
        by_cases hjl : j < ls[k].length
        · obtain ⟨b', off', rfl, _, hcj⟩ := hrowW.int_at hjl
          have hlj := hlk.1
          clear hlk hl
          go_wp2
          refine ⟨⟨j + 1, by omega, by go_num, ?_⟩, by simp [intOf]; omega⟩
          rw [List.take_succ_eq_append_getElem hjl, ← List.append_assoc, mostOf_snoc]
        · clear hlk
          go_wp2
          refine ⟨⟨k + 1, _, by omega, by go_num, ?_, HB0W.out, HB1W.out, HOW.out, hbelW⟩, by simp [intOf]; omega⟩
          rw [List.take_of_length_le (l := ls[k]) (i := j) (by omega), List.take_succ_eq_append_getElem hlt, List.flatten_append, List.flatten_cons, List.flatten_nil, List.append_nil]
    · have hkl : k = ls.length := by omega
      have hmb : mostOf (ls.take k).flatten = mostOf ls.flatten := by rw [List.take_of_length_le (by omega)]
      rw [hmb]
      have hm1 := mostOf_bd ls.flatten 20 (by omega) (fun a ha => by
        obtain ⟨l, hl1, hl2⟩ := List.mem_flatten.1 ha
        exact (hl l hl1).2 a hl2)
      clear hmb
      obtain ⟨A2, c2, rfl, hc2, _⟩ := own_slice hown
      have hown' : wr.ownsRow (w.heap.size + 2) 33 2 (.slice A2 k c2) k (relVals vs k) := hown
      generalize hM : mostOf ls.flatten = M at *
      have HM := Lib.hid hM
      have HB0 := Lib.hid hb0
      have HB1 := Lib.hid hb1
      have HEL := Lib.hid hel
      have HKL := Lib.hid hkl
      clear hM hb0 hb1 hkl hrow hel hkeep
      obtain ⟨wo, rfl⟩ : ∃ wo : World, wo = wr := ⟨_, rfl⟩
      go_wp2
      go_loopw [9] (fun i wr => ∃ (q : Nat) (v : Value), (q : Int) ≤ M + 1 ∧ i = .int .i64 q ∧
          Blk wr w.heap.size 28 #[.slice none 0 0, .slice none 0 0, .slice none 0 0, .int .i64 0] ∧ Blk wr (w.heap.size + 1) 28 #[v, .slice A2 k c2, .slice none 0 0, .int .i64 (-1)] ∧
          wr.ownsRow (w.heap.size + 2) 33 2 (.slice A2 k c2) k (relVals vs k) ∧ wr.ownsRow (w.heap.size + 2) 81 2 v q (attrCells ((List.range q).map fun i => (nm 97 i, 1))) ∧ Below w.heap.size w wr) (fun i _ => (M + 1).toNat - (intOf i).toNat)
      case atStart => exact ⟨0, .slice none 0 0, by omega, rfl, HB0.out, HB1.out, hown', World.ownsRow_nil _ _ _ _, hbel⟩
      case round =>
        obtain ⟨q, v, hq, rfl, hb0, hb1, hownr, howna, hbelq⟩ := hrel
        have c0 := hb1.cell 0
        have f0 := hb1.frozen 0
        simp at c0
        by_cases hqlt : (q : Int) ≤ M
        · have hne : ∀ g, g < w.heap.size + 2 → some g ≠ v.ownBlock := fun g hg e => by have := (howna.lt g e.symm).1; omega
          have hsz2 : w.heap.size + 2 ≤ wr.heap.size := by have := hb1.lt; omega
          clear HB0 HB1
          have HB0 := Lib.hid hb0
          have HB1 := Lib.hid hb1
          clear hb0 hb1
          go_wp2_with (
            at_builtin
            go_must (
              refine wpList_app (W := wr.alloc _) rfl _ _ 24 rfl (w.heap.size + 2) 81 _ 2 24 Try.underlying24 Try.infoAttr rfl (by decide) (by decide) _ q 1 (attrCells ((List.range q).map fun i => (nm 97 i, 1))) rfl rfl (by simp) (howna.alloc _) rfl (by simp; exact ⟨rfl, rfl⟩) (by omega) (by simp; omega) ?_
              intro Av cv w1 hown1 hg1 hat1
              have hb0' := ((HB0.out).alloc _).grown hg1 (hne _ (by omega))
              have hb1' := ((HB1.out).alloc _).grown hg1 (hne _ (by omega))
              have hownr' := (hownr.alloc _).kept hg1 (own_ne_own hownr howna (by decide))
              have hbel1 : Below w.heap.size w w1 := (hbelq.alloc hbelq.size _).grown hg1 (by simp; omega) (fun g e => by have := (howna.lt g e).1; omega)
              have c1' := hb1'.cell 0
              have f1' := hb1'.frozen 0
              simp at c1'
              have HB0' := Lib.hid hb0'
              have HB1' := Lib.hid hb1'
              clear hb0' hb1' c0 f0 HB0 HB1 hg1))
          refine ⟨⟨q + 1, .slice Av (q + 1) cv, by omega, by go_num, HB0'.out.far (by simp) _, ?_, ownsRow_setCell_below hownr' (by simp) _, ownsRow_setCell_below ?_ (by simp) _, hbel1.setCell (by simp) _⟩, by simp [intOf]; omega⟩
          · exact HB1'.out.set 0 _
          · rw [List.range_succ]; simpa [attrCells, nm] using hown1
        · obtain ⟨A1, c1, rfl, hc1, _⟩ := own_slice howna
          have hqM : q = M.toNat + 1 := by omega
          have HQ := Lib.hid hqM
          clear hqM f0 c0
          have p0 := hb1.cell 0
          have p1 := hb1.cell 1
          have p2 := hb1.cell 2
          have p3 := hb1.cell 3
          have q0 := hb0.cell 0
          have q1 := hb0.cell 1
          have q2 := hb0.cell 2
          have q3 := hb0.cell 3
          have z0 := hb0.frozen 0
          have z1 := hb0.frozen 1
          have z2 := hb0.frozen 2
          have z3 := hb0.frozen 3
          simp at p0 p1 p2 p3 q0 q1 q2 q3
          clear HB0 HB1 hcv hl
          have HB0 := Lib.hid hb0
          have HB1 := Lib.hid hb1
          clear hb0 hb1
          go_wp2
          refine bodyPost_ret (v := .agg #[.slice A1 q c1, .slice A2 k c2, .slice none 0 0, .int .i64 (-1)]) (by simp [results, Try.results31, go_sem, q0, q1, q2, q3]) rfl ?_
          have hb4 : Below w.heap.size w ((((wr.setCell ⟨w.heap.size, 0, none⟩ (.slice A1 q c1)).setCell ⟨w.heap.size, 1, none⟩ (.slice A2 k c2)).setCell ⟨w.heap.size, 2, none⟩ (.slice none 0 0)).setCell ⟨w.heap.size, 3, none⟩ (.int .i64 (-1))) :=
            (((hbelq.setCell (by simp) _).setCell (by simp) _).setCell (by simp) _).setCell (by simp) _
          refine ⟨_, rfl, ?_, hb4⟩
          have hra := Row.of_own (ownsRow_setCell_below (ownsRow_setCell_below (ownsRow_setCell_below (ownsRow_setCell_below howna (a := ⟨w.heap.size, 0, none⟩) (by simp) (.slice A1 q c1)) (a := ⟨w.heap.size, 1, none⟩) (by simp) (.slice A2 k c2)) (a := ⟨w.heap.size, 2, none⟩) (by simp) (.slice none 0 0)) (a := ⟨w.heap.size, 3, none⟩) (by simp) (.int .i64 (-1)))
          have hrr := Row.of_own (ownsRow_setCell_below (ownsRow_setCell_below (ownsRow_setCell_below (ownsRow_setCell_below hownr (a := ⟨w.heap.size, 0, none⟩) (by simp) (.slice A1 q c1)) (a := ⟨w.heap.size, 1, none⟩) (by simp) (.slice A2 k c2)) (a := ⟨w.heap.size, 2, none⟩) (by simp) (.slice none 0 0)) (a := ⟨w.heap.size, 3, none⟩) (by simp) (.int .i64 (-1)))
          exact sch_done ls vs q k A1 c1 A2 c2 w _ R (by rw [HQ.out, HM.out]) HKL.out (by omega) hc2 hra hrr HEL.out hb4
end Go.Proofs.Ytopblgabadljdaa
namespace Go.Proofs.Ytopblgabadljdaa
open Go.RowKit
/-- May byte number i of a name be n? -/
def okAt (i n : Nat) : Bool := decide (97 ≤ n ∧ n ≤ 122) || (decide (i ≠ 0) && (n == 45 || decide (48 ≤ n ∧ n ≤ 57)))
theorem okAt_zero (c : UInt8) : okAt 0 c.toNat = letterB c := by
  rw [Bool.eq_iff_iff]; simp [okAt, letterB, UInt8.le_iff_toNat_le]
theorem okAt_succ (k : Nat) (c : UInt8) : okAt (k + 1) c.toNat = tailB c := by
  rw [Bool.eq_iff_iff]
  have e : c = 45 ↔ c.toNat = 45 := by
    constructor
    · rintro rfl; rfl
    · intro h; exact UInt8.toNat_inj.1 h
  simp [okAt, tailB, letterB, UInt8.le_iff_toNat_le, e]
  omega
theorem word_all (l : List UInt8) : wordL l = (((List.range l.length).all fun k => okAt k (l.getD k 0).toNat) && decide (1 ≤ l.length) && decide (l.length ≤ 12)) := by
  cases l with
  | nil => simp [wordL]
  | cons c r =>
    rw [Bool.eq_iff_iff]
    simp only [wordL, Bool.and_eq_true, List.all_eq_true, decide_eq_true_eq, List.mem_range, List.length_cons]
    constructor
    · rintro ⟨⟨h1, h2⟩, h3⟩
      refine ⟨⟨fun k hk => ?_, by omega⟩, by omega⟩
      cases k with
      | zero => rw [List.getD_cons_zero, okAt_zero]; exact h1
      | succ k =>
        rw [List.getD_cons_succ, okAt_succ]
        have hk' : k < r.length := by omega
        rw [List.getD, List.getElem?_eq_getElem hk']
        exact h2 _ (List.getElem_mem hk')
    · rintro ⟨⟨h1, _⟩, h3⟩
      refine ⟨⟨?_, fun x hx => ?_⟩, by omega⟩
      · have := h1 0 (by omega); rwa [List.getD_cons_zero, okAt_zero] at this
      · obtain ⟨k, hk, rfl⟩ := List.getElem_of_mem hx
        have := h1 (k + 1) (by omega)
        rwa [List.getD_cons_succ, okAt_succ, List.getD, List.getElem?_eq_getElem hk] at this
theorem word_no (s : ByteArray) (k : Nat) (hk : k < s.size) (h : okAt k (s.data.toList.getD k 0).toNat = false) : wordB s = false := by
  unfold wordB
  rw [word_all]
  have : ((List.range s.data.toList.length).all fun k => okAt k (s.data.toList.getD k 0).toNat) = false := by
    rw [List.all_eq_false]
    exact ⟨k, by simp; exact hk, by rw [h]; simp⟩
  rw [this]; rfl
theorem word_yes (s : ByteArray) (h : ∀ k, k < s.size → okAt k (s.data.toList.getD k 0).toNat = true) : wordB s = (decide (1 ≤ s.size) && decide (s.size ≤ 12)) := by
  unfold wordB
  rw [word_all]
  have : ((List.range s.data.toList.length).all fun k => okAt k (s.data.toList.getD k 0).toNat) = true := by
    rw [List.all_eq_true]
    intro k hk
    exact h k (by simpa using hk)
  rw [this]
  simp
theorem bytes_below (w : World) (e : TypeId) (s : ByteArray) : Below w.heap.size w (Lib.bytesWorld w e s) :=
  ⟨rfl, rfl, rfl, by rw [Lib.bytesWorld_size]; omega, fun k hk => Lib.bytesWorld_at_old w e s k hk⟩
set_option maxHeartbeats 1000000 in
theorem word_any (s : ByteArray) (w : World) (hs : s.size ≤ 9223372036854775807) :
    Calls Try.prog 66 #[.string s] w fun e w' => e = .returned (.bool (wordB s)) ∧ Below w.heap.size w w' := by
  have hcv := Lib.run_convert_string_bytes (P := Try.prog) w 9 86 5 s Try.underlying9 Try.underlying86 Try.underlying5
  have hcell := fun j hj => Lib.bytesWorld_cell w 5 s j hj
  have hbel := bytes_below w 5 s
  generalize Lib.bytesWorld w 5 s = W at *
  have HC := Lib.hid hcell
  clear hcell
  go_enter Try.func66, Try.ntmps66
  go_wp2
  clear hcv
  go_loop [9] (fun i => ∃ k : Nat, k ≤ s.size ∧ i = .int .i64 k ∧ ∀ j, j < k → okAt j (s.data.toList.getD j 0).toNat = true) (fun i => s.size - (intOf i).toNat)
  case atStart => exact ⟨0, by omega, rfl, fun j hj => absurd hj (by omega)⟩
  case round =>
    obtain ⟨k, hk, rfl, hall⟩ := hrel
    have HA := Lib.hid hall
    clear hall
    by_cases hlt : k < s.size
    · have hc := HC.out k hlt
      have hok : okAt k (s.data.toList.getD k 0).toNat = true → ∀ j, j < k + 1 → okAt j (s.data.toList.getD j 0).toNat = true := fun h j hj => by
        by_cases e : j < k
        · exact HA.out j e
        · obtain rfl : j = k := by omega
          exact h
      have HNO := Lib.hid (word_no s k hlt)
      have HOK := Lib.hid hok
      have hb := (s.data.toList.getD k 0).toNat_lt
      generalize (s.data.toList.getD k 0).toNat = n at *
      clear hok
      have hcase : (97 ≤ n ∧ n ≤ 122) ∨ ((n < 97 ∨ 122 < n) ∧ k < 1) ∨ ((n < 97 ∨ 122 < n) ∧ 1 ≤ k ∧ (45 ≤ n ∧ n ≤ 45)) ∨ ((n < 97 ∨ 122 < n) ∧ 1 ≤ k ∧ (48 ≤ n ∧ n ≤ 57)) ∨ ((n < 97 ∨ 122 < n) ∧ 1 ≤ k ∧ n ≠ 45 ∧ (n < 48 ∨ 57 < n)) := by omega
      rcases hcase with h1 | ⟨h1, h2⟩ | ⟨h1, h2, h3⟩ | ⟨h1, h2, h3⟩ | ⟨h1, h2, h3, h4⟩
      · go_wp2
        exact ⟨⟨k + 1, by omega, by go_num, HOK.out (by simp [okAt]; omega)⟩, by simp [intOf]; omega⟩
      · have b0 : ((k : Int) == 0) = true := by simp; omega
        rcases h1 with h1 | h1
        · go_wp2
          go_ret
          exact ⟨ret_bool (HNO.out (by simp [okAt]; omega)).symm, hbel⟩
        · have bl : decide ((n : Int) ≤ 122) = false := by simp; omega
          go_wp2
          go_ret
          exact ⟨ret_bool (HNO.out (by simp [okAt]; omega)).symm, hbel⟩
      · have b0 : ((k : Int) == 0) = false := by simp; omega
        have b45 : ((n : Int) != 45) = false := by simp; omega
        rcases h1 with h1 | h1
        · go_wp2
          exact ⟨⟨k + 1, by omega, by go_num, HOK.out (by simp [okAt]; omega)⟩, by simp [intOf]; omega⟩
        · omega
      · have b0 : ((k : Int) == 0) = false := by simp; omega
        have b45 : ((n : Int) != 45) = true := by simp; omega
        rcases h1 with h1 | h1
        · go_wp2
          exact ⟨⟨k + 1, by omega, by go_num, HOK.out (by simp [okAt]; omega)⟩, by simp [intOf]; omega⟩
        · omega
      · have b0 : ((k : Int) == 0) = false := by simp; omega
        have b45 : ((n : Int) != 45) = true := by simp; omega
        have hno := HNO.out (by simp [okAt]; omega)
        clear h3 HNO HOK
        have HNO := Lib.hid hno
        clear hno
        rcases h1 with h1 | h1
        · rcases h4 with h4 | h4
          all_goals
            go_wp2
            go_ret
            exact ⟨ret_bool HNO.out.symm, hbel⟩
        · rcases h4 with h4 | h4
          · omega
          · have bl : decide ((n : Int) ≤ 122) = false := by simp; omega
            go_wp2
            go_ret
            exact ⟨ret_bool HNO.out.symm, hbel⟩
    · have hy := word_yes s (fun j hj => HA.out j (by omega))
      have HY := Lib.hid hy
      clear hy
      by_cases h1 : 1 ≤ s.size
      · by_cases h2 : s.size ≤ 12
        all_goals
          go_wp2
          go_ret
          exact ⟨ret_bool (by rw [HY.out, Bool.eq_iff_iff, Bool.and_eq_true, decide_eq_true_eq, decide_eq_true_eq, decide_eq_true_eq]; omega), hbel⟩
      · go_wp2
        go_ret
        exact ⟨ret_bool (by rw [HY.out]; simp; omega), hbel⟩
theorem str_eq (x y : ByteArray) : (x.toList == y.toList) = decide (x = y) := by
  rw [Bool.eq_iff_iff, beq_iff_eq, decide_eq_true_eq, ByteArray.toList_eq, ByteArray.toList_eq]
  constructor
  · intro h
    exact ByteArray.ext (Array.toList_inj.1 h)
  · rintro rfl; rfl
/-- slices.Index at []string. -/
theorem index_str (A : Option Addr) (c : Nat) (l : List ByteArray) (x : ByteArray) (w : World) {R : Nat → Prop} (h : Row w R A (strs l)) (hl : l.length ≤ 1000000) :
    Calls Try.prog 72 #[.slice A l.length c, .string x] w fun e w' => e = .returned (.int .i64 (idxI l x)) ∧ w = w' := by
  go_enter Try.func72, Try.ntmps72
  go_wp2
  go_loop [8] (fun i => ∃ k : Nat, k ≤ l.length ∧ i = .int .i64 k ∧ hasB (l.take k) x = false) (fun i => l.length - (intOf i).toNat)
  case atStart => exact ⟨0, Nat.zero_le _, rfl, by simp [hasB]⟩
  case round =>
    obtain ⟨k, hk, rfl, hno⟩ := hrel
    have HN := Lib.hid hno
    clear hno
    by_cases hlt : k < l.length
    · obtain ⟨b, off, rfl, hb, hck⟩ := h.str_at hlt
      clear h
      by_cases he : x = l[k]
      · have hb1 : (x.toList == l[k].toList) = true := by rw [str_eq]; simp [he]
        have HE := Lib.hid he
        clear he
        go_wp2
        go_ret
        exact ⟨ret_int (idxI_snoc hlt HN.out HE.out.symm).symm, rfl⟩
      · have hb1 : (x.toList == l[k].toList) = false := by rw [str_eq]; simp [he]
        have HE := Lib.hid he
        clear he
        go_wp2
        exact ⟨⟨k + 1, by omega, by go_num, hasB_succ hlt HN.out fun h => HE.out h.symm⟩, by simp [intOf]; omega⟩
    · go_wp2
      go_ret
      have hn := HN.out
      rw [List.take_of_length_le (by omega)] at hn
      exact ⟨ret_int (idxI_none hn).symm, rfl⟩
/-- slices.Contains at []string. -/
theorem contains_str (A : Option Addr) (c : Nat) (l : List ByteArray) (x : ByteArray) (w : World) {R : Nat → Prop} (h : Row w R A (strs l)) (hl : l.length ≤ 1000000) :
    Calls Try.prog 67 #[.slice A l.length c, .string x] w fun e w' => e = .returned (.bool (hasB l x)) ∧ w = w' := by
  go_enter Try.func67, Try.ntmps67
  go_wp2_with (go_at_call 72; refine (index_str A c l x w h hl).mono ?_; rintro e w' ⟨rfl, rfl⟩)
  go_ret
  exact ⟨ret_bool (by rw [Bool.eq_iff_iff]; simpa using (idxI_bd l x).1), rfl⟩
/-- slices.Index at []bool. -/
theorem index_bool (A : Option Addr) (c : Nat) (l : List Bool) (x : Bool) (w : World) {R : Nat → Prop} (h : Row w R A (bools l)) (hl : l.length ≤ 1000000) :
    Calls Try.prog 68 #[.slice A l.length c, .bool x] w fun e w' => e = .returned (.int .i64 (idxI l x)) ∧ w = w' := by
  go_enter Try.func68, Try.ntmps68
  go_wp2
  go_loop [8] (fun i => ∃ k : Nat, k ≤ l.length ∧ i = .int .i64 k ∧ hasB (l.take k) x = false) (fun i => l.length - (intOf i).toNat)
  case atStart => exact ⟨0, Nat.zero_le _, rfl, by simp [hasB]⟩
  case round =>
    obtain ⟨k, hk, rfl, hno⟩ := hrel
    have HN := Lib.hid hno
    clear hno
    by_cases hlt : k < l.length
    · obtain ⟨b, off, rfl, hb, hck⟩ := h.bool_at hlt
      clear h
      by_cases he : x = l[k]
      · have hb1 : (x == l[k]) = true := by simp [he]
        have HE := Lib.hid he
        clear he
        go_wp2
        go_ret
        exact ⟨ret_int (idxI_snoc hlt HN.out HE.out.symm).symm, rfl⟩
      · have hb1 : (x == l[k]) = false := by simp [he]
        have HE := Lib.hid he
        clear he
        go_wp2
        exact ⟨⟨k + 1, by omega, by go_num, hasB_succ hlt HN.out fun h => HE.out h.symm⟩, by simp [intOf]; omega⟩
    · go_wp2
      go_ret
      have hn := HN.out
      rw [List.take_of_length_le (by omega)] at hn
      exact ⟨ret_int (idxI_none hn).symm, rfl⟩
/-- slices.Contains at []bool. -/
theorem contains_bool (A : Option Addr) (c : Nat) (l : List Bool) (x : Bool) (w : World) {R : Nat → Prop} (h : Row w R A (bools l)) (hl : l.length ≤ 1000000) :
    Calls Try.prog 62 #[.slice A l.length c, .bool x] w fun e w' => e = .returned (.bool (hasB l x)) ∧ w = w' := by
  go_enter Try.func62, Try.ntmps62
  go_wp2_with (go_at_call 68; refine (index_bool A c l x w h hl).mono ?_; rintro e w' ⟨rfl, rfl⟩)
  go_ret
  exact ⟨ret_bool (by rw [Bool.eq_iff_iff]; simpa using (idxI_bd l x).1), rfl⟩
set_option maxHeartbeats 400000 in
theorem named_any (A : Option Addr) (c : Nat) (l : List ByteArray) (k : Nat) (w : World) {R : Nat → Prop} (h : Row w R A (strs l)) (hl : l.length ≤ 1000000) (hc : l.length ≤ c) (hk : k < l.length) (hs : l[k].size ≤ 9223372036854775807) :
    Calls Try.prog 61 #[.slice A l.length c, .int .i64 k] w fun e w' => e = .returned (.int .i64 (namedE l k)) ∧ Below w.heap.size w w' := by
  obtain ⟨b, off, rfl, hb, hck⟩ := h.str_at hk
  have hgd : l.getD k default = l[k] := by simp [List.getD, hk]
  have hE : namedE l k = if wordB l[k] = false then 14 else if hasB (l.take k) l[k] = true then 9 else 0 := by unfold namedE; rw [hgd]
  have HE := Lib.hid hE
  have htl : (l.take k).length = k := by simp; omega
  have hrt : Row w R (some ⟨b, off, none⟩) (strs (l.take k)) := by
    have := h.take k
    rwa [← List.map_take] at this
  have HTL := Lib.hid htl
  clear hE hgd htl
  cases hwd : wordB l[k]
  · go_enter Try.func61, Try.ntmps61
    go_wp2_with (go_at_call 66; refine (word_any l[k] _ hs).mono ?_; rintro e w1 ⟨rfl, hb1⟩)
    go_ret
    exact ⟨ret_int (by rw [HE.out, if_pos hwd]), hb1⟩
  · go_enter Try.func61, Try.ntmps61
    go_wp2_with (
      go_at_call 66
      go_must (
        refine (word_any l[k] _ hs).mono ?_
        rintro e w1 ⟨rfl, hb1⟩
        have hck1 : w1.cell? ⟨b, off + k, none⟩ = some (.string l[k]) := by rw [hb1.cell (p := ⟨b, off + k, none⟩) hb]; exact hck
        have hrt1 := hrt.ext hb1
        clear hck))
    have hct : ∀ n, Calls Try.prog 67 #[.slice (some ⟨b, off, none⟩) k c, .string l[k]] (w1.drewN n) fun e w' => e = .returned (.bool (hasB (l.take k) l[k])) ∧ w1.drewN n = w' := fun n => by
      have := contains_str (some ⟨b, off, none⟩) c (l.take k) l[k] (w1.drewN n) (hrt1.drewN n) (by rw [HTL.out]; omega)
      rw [HTL.out] at this
      exact this
    have HCT := Lib.hid hct
    have i1 : (0 : Int) ≤ (k : Int) := by omega
    have i2 : (k : Int) < (l.length : Int) := by omega
    have i3 : (k : Int) ≤ (c : Int) := by omega
    clear hct hrt1 h hrt
    go_quiet ((go_at_call 67; exact quiet_left (HCT.out _)))
    cases hh : hasB (l.take k) l[k]
    · go_wp2
      go_ret
      exact ⟨ret_int (by rw [HE.out, if_neg (by simp [hwd]), if_neg (by simp [hh])]), below_drewN hb1 _⟩
    · go_wp2
      go_ret
      exact ⟨ret_int (by rw [HE.out, if_neg (by simp [hwd]), if_pos hh]), below_drewN hb1 _⟩
end Go.Proofs.Ytopblgabadljdaa
namespace Go.Proofs.Ytopblgabadljdaa
open Go.RowKit
/-- What any schema in memory satisfies: few elements, and texts that fit. -/
structure SBd (S : Sch) : Prop where
  a : S.attrs.length ≤ 1000
  r : S.rels.length ≤ 1000
  f : S.feats.length ≤ 1000
  an : ∀ x ∈ S.attrs, x.1.size ≤ 9223372036854775807
  rn : ∀ x ∈ S.rels, x.1.size ≤ 9223372036854775807
  rl : ∀ x ∈ S.rels, x.2.length ≤ 1000
theorem attrCells_get (l : List (ByteArray × Int)) (k : Nat) (hk : k < l.length) : (attrCells l)[k * 2]? = some (.string l[k].1) ∧ (attrCells l)[k * 2 + 1]? = some (.int .i64 l[k].2) := by
  induction l generalizing k with
  | nil => simp at hk
  | cons a l ih =>
    cases k with
    | zero => exact ⟨rfl, rfl⟩
    | succ k =>
      have := ih k (by simpa using hk)
      simp only [attrCells, List.flatMap_cons] at this ⊢
      rw [show (k + 1) * 2 = (k * 2) + 2 by omega, List.getElem?_append_right (by simp), show (k * 2 + 2 + 1) = (k * 2 + 1) + 2 by omega, List.getElem?_append_right (by simp)]
      simpa using this
theorem attrCells_len (l : List (ByteArray × Int)) : (attrCells l).length = l.length * 2 := by
  induction l with
  | nil => rfl
  | cons a l ih => simp only [attrCells, List.flatMap_cons, List.length_append, List.length_cons, List.length_nil] at ih ⊢; omega
theorem attr_at {w : World} {R : Nat → Prop} {A : Option Addr} {l : List (ByteArray × Int)} (h : Row w R A (attrCells l)) {k : Nat} (hk : k < l.length) :
    ∃ b off : Nat, A = some ⟨b, off, none⟩ ∧ b < w.heap.size ∧ w.cell? ⟨b, off + k * 2, none⟩ = some (.string l[k].1) ∧ w.cell? ⟨b, off + k * 2 + 1, none⟩ = some (.int .i64 l[k].2) := by
  obtain ⟨b, off, e, _, hb, hc⟩ := h.at_ (k := k * 2) (by rw [attrCells_len]; omega)
  obtain ⟨h1, h2⟩ := attrCells_get l k hk
  exact ⟨b, off, e, hb, by rw [hc _ (by rw [attrCells_len]; omega)]; exact h1, by rw [Nat.add_assoc, hc _ (by rw [attrCells_len]; omega)]; exact h2⟩
theorem namedE_take (l : List ByteArray) (k : Nat) : namedE (l.take (k + 1)) k = namedE l k := by
  unfold namedE
  have h1 : (l.take (k + 1)).getD k default = l.getD k default := by simp [List.getD]
  have h2 : (l.take (k + 1)).take k = l.take k := by rw [List.take_take]; congr 1; omega
  rw [h1, h2]
theorem namedE_cases (l : List ByteArray) (k : Nat) : namedE l k = 0 ∨ namedE l k = 9 ∨ namedE l k = 14 := by
  unfold namedE
  split
  · simp
  · split <;> simp
theorem Try.infoStr : (Try.prog.info? 9).map (fun i => (i.zero, i.size, i.bytes)) = some (some (.string ⟨#[]⟩), 1, 16) := by kernel_rfl
set_option maxRecDepth 100000 in
set_option maxHeartbeats 400000 in
theorem attributes_any (v : Value) (S : Sch) (w : World) {R : Nat → Prop} (h : SchAt w R v S) (hb : SBd S) :
    Calls Try.prog 50 #[v] w fun e w' => e = .returned (.int .i64 (scanE (attrE S) S.attrs.length)) ∧ Below w.heap.size w w' := by
  obtain ⟨A1, c1, A2, c2, A3, c3, rfl, l1, l2, l3, h1, h2, h3⟩ := h
  clear h2 h3 l2 l3
  have hba := hb.a
  go_enter Try.func50, Try.ntmps50
  go_wp2
  have hnl : (S.attrs.map (·.1)).length = S.attrs.length := by simp
  generalize hN : S.attrs.map (·.1) = names at *
  have HNM := Lib.hid hN
  have HNL := Lib.hid hnl
  clear hN hnl
  go_loopw [3, 10] (fun v i wr => ∃ k : Nat, k ≤ S.attrs.length ∧ i = .int .i64 k ∧ wr.ownsRow w.heap.size 9 1 v k (strs (names.take k)) ∧ scanE (attrE S) k = 0 ∧ Below w.heap.size w wr) (fun _ i _ => S.attrs.length - (intOf i).toNat)
  case atStart => exact ⟨0, Nat.zero_le _, rfl, World.ownsRow_nil _ _ _ _, rfl, (Below.refl _ _).alloc (Nat.le_refl _) _⟩
  case round =>
    obtain ⟨k, hk, rfl, hown, hsc, hbel⟩ := hrel
    have HSC := Lib.hid hsc
    clear hsc
    by_cases hlt : k < S.attrs.length
    · obtain ⟨b, off, rfl, hbb, hc1, hc2⟩ := attr_at h1 hlt
      have hc1' : wr.cell? ⟨b, off + k * 2, none⟩ = some (.string S.attrs[k].1) := by rw [hbel.cell (p := ⟨b, off + k * 2, none⟩) hbb]; exact hc1
      have hc2' : wr.cell? ⟨b, off + k * 2 + 1, none⟩ = some (.int .i64 S.attrs[k].2) := by rw [hbel.cell (p := ⟨b, off + k * 2 + 1, none⟩) hbb]; exact hc2
      clear hc1 hc2
      have hkn : k < names.length := by rw [HNL.out]; exact hlt
      have hnk : names[k] = S.attrs[k].1 := by have := HNM.out; subst this; simp
      have hsize : names[k].size ≤ 9223372036854775807 := by rw [hnk]; exact hb.an _ (List.getElem_mem hlt)
      have htk : names.take (k + 1) = names.take k ++ [S.attrs[k].1] := by rw [List.take_succ_eq_append_getElem hkn, hnk]
      have htl : (names.take (k + 1)).length = k + 1 := by simp; omega
      have hfe : attrE S k = if namedE names k ≠ 0 then namedE names k else if S.attrs[k].2 < 1 ∨ 3 < S.attrs[k].2 then 7 else 0 := by
        unfold attrE; rw [HNM.out]; simp [List.getD, hlt]
      have hbox : u3.ownBlock ≠ some wr.heap.size := fun e => by have := (hown.lt _ e).2; omega
      have HTK := Lib.hid htk
      have HTL := Lib.hid htl
      have HFE := Lib.hid hfe
      have HNK := Lib.hid hnk
      have HSZ := Lib.hid hsize
      clear htk htl hfe hnk hsize
      have hcase := namedE_cases names k
      have HNT := Lib.hid (namedE_take names k)
      generalize namedE names k = ne at *
      have hcc : ((ne != 0) = true ∧ ne ≠ 0) ∨ ((ne != 0) = false ∧ ne = 0) := by rcases hcase with h | h | h <;> simp [h]
      clear hcase
      rcases hcc with ⟨hcb, hne⟩ | ⟨hcb, hne⟩
      · have HNE := Lib.hid hne
        clear hne
        go_wp2_with (first
          | (at_builtin
             go_must (
              refine wpList_app (W := wr.alloc _) rfl _ _ 85 rfl w.heap.size 9 _ 1 16 Try.underlying85 Try.infoStr rfl (by decide) (by decide) u3 k 1 (strs (names.take k)) rfl rfl (by simp) (hown.alloc _) rfl (by simp; rfl) (by omega) (by have := hbel.size; simp; omega) ?_
              intro A4 c4 w4 hown4 hg4 hat4
              have hown5 : w4.ownsRow w.heap.size 9 1 (.slice A4 (k + 1) c4) (k + 1) (strs (names.take (k + 1))) := by rw [HTK.out]; simpa using hown4
              have hrow5 := Row.of_own hown5
              have hbel4 : Below w.heap.size w w4 := (hbel.alloc hbel.size _).grown hg4 (by have := hbel.size; simp; omega) (fun g e => (hown.lt g e).1)
              obtain ⟨_, _, hsl, hcc4, _⟩ := own_slice hown5
              simp at hsl
              have hct : Calls Try.prog 61 #[.slice A4 (k + 1) c4, .int .i64 k] w4 fun e w' => e = .returned (.int .i64 ne) ∧ Below w4.heap.size w4 w' := by
                have := named_any A4 c4 (names.take (k + 1)) k w4 hrow5 (by rw [HTL.out]; omega) (by rw [HTL.out, hsl.2]; exact hcc4) (by rw [HTL.out]; omega) (by simpa using HSZ.out)
                rw [HNT.out, HTL.out] at this
                exact this
              have HCT := Lib.hid hct
              clear hct hown4 hg4 hat4 hsl hcc4 hrow5 hown5))
          | (go_at_call 61
             go_must (
              refine HCT.out.mono ?_
              rintro e w5 ⟨rfl, hb5⟩)))
        go_ret
        refine ⟨ret_int ?_, hbel4.trans (hb5.mono hbel4.size)⟩
        have hf : attrE S k = ne := by rw [HFE.out, if_pos HNE.out]
        rw [scanE_at HSC.out (by rw [hf]; exact HNE.out) hlt, hf]
      · have HNE := Lib.hid hne
        clear hne
        have hkind : ((1 ≤ S.attrs[k].2) ∧ S.attrs[k].2 ≤ 3) ∨ S.attrs[k].2 < 1 ∨ 3 < S.attrs[k].2 := by omega
        rcases hkind with hkd | hkd | hkd
        all_goals
          go_wp2_with (first
            | (at_builtin
               go_must (
                refine wpList_app (W := wr.alloc _) rfl _ _ 85 rfl w.heap.size 9 _ 1 16 Try.underlying85 Try.infoStr rfl (by decide) (by decide) u3 k 1 (strs (names.take k)) rfl rfl (by simp) (hown.alloc _) rfl (by simp; rfl) (by omega) (by have := hbel.size; simp; omega) ?_
                intro A4 c4 w4 hown4 hg4 hat4
                have hown5 : w4.ownsRow w.heap.size 9 1 (.slice A4 (k + 1) c4) (k + 1) (strs (names.take (k + 1))) := by rw [HTK.out]; simpa using hown4
                have hrow5 := Row.of_own hown5
                have hbel4 : Below w.heap.size w w4 := (hbel.alloc hbel.size _).grown hg4 (by have := hbel.size; simp; omega) (fun g e => (hown.lt g e).1)
                have hbx := (Blk.new wr 81 #[.string S.attrs[k].1, .int .i64 S.attrs[k].2]).grown hg4 (fun e => hbox e.symm)
                obtain ⟨_, _, hsl, hcc4, _⟩ := own_slice hown5
                simp at hsl
                have hct : Calls Try.prog 61 #[.slice A4 (k + 1) c4, .int .i64 k] w4 fun e w' => e = .returned (.int .i64 ne) ∧ Below w4.heap.size w4 w' := by
                  have := named_any A4 c4 (names.take (k + 1)) k w4 hrow5 (by rw [HTL.out]; omega) (by rw [HTL.out, hsl.2]; exact hcc4) (by rw [HTL.out]; omega) (by simpa using HSZ.out)
                  rw [HNT.out, HTL.out] at this
                  exact this
                have HCT := Lib.hid hct
                have HBX := Lib.hid hbx
                have HO5 := Lib.hid hown5
                clear hct hown4 hg4 hat4 hsl hcc4 hrow5 hown5 hbx))
            | (go_at_call 61
               go_must (
                refine HCT.out.mono ?_
                rintro e w5 ⟨rfl, hb5⟩
                have hbx5 := HBX.out.ext hb5
                have y1 := hbx5.cell 1
                simp at y1
                clear hbx5)))
        · refine ⟨⟨k + 1, by omega, by go_num, HO5.out.kept (grown_of_ext hb5 none) (by simp [Value.ownBlock]; cases A4 <;> simp), ?_, hbel4.trans (hb5.mono hbel4.size)⟩, by simp [intOf]; omega⟩
          rw [scanE_succ HSC.out, HFE.out, HNE.out]
          simp; omega
        all_goals
          go_ret
          refine ⟨ret_int ?_, hbel4.trans (hb5.mono hbel4.size)⟩
          have hf : attrE S k = 7 := by rw [HFE.out, HNE.out]; simp; omega
          rw [scanE_at HSC.out (by rw [hf]; decide) hlt, hf]
    · go_wp2
      go_ret
      obtain rfl : k = S.attrs.length := by omega
      exact ⟨ret_int HSC.out.symm, hbel⟩
end Go.Proofs.Ytopblgabadljdaa
