/-
  Src.Schema: it makes a valid schema. In our step logic. No statement of the program is proved here.
-/
import Derived.Test.YtkalgjnhaicabaaM3
namespace Go.Proofs.Ytkalgjnhaicabaa
open Go.RowKit Mk
set_option maxRecDepth 100000

theorem pick_specF (L : List Int) (k : Nat) (l : List Int) (hL : L.length ≤ 600) (hk : k ≤ L.length) (hl : l ≠ []) (hl2 : l.length ≤ 1000) : ∃ x ∈ l, FnM Try.prog 27 55 (srcC L k) [pints l] (fun v c => v = .int .i64 x ∧ c = srcC L (sNk L k)) := by
  have hpos : 0 < l.length := List.length_pos_iff.2 hl
  have hb := sNv_bd L k l.length (by omega)
  obtain ⟨j, hj⟩ := Int.eq_ofNat_of_zero_le hb.1
  have hjl : j < l.length := by omega
  refine ⟨l[j], List.getElem_mem hjl, ?_⟩
  refine FnM.of Try.func27 rfl Try.ntmps27 (by simp) rfl (by simp) fun m0 w0 F R0 => ?_
  have hv := pints_at hjl
  have hne := pints_ne hjl
  repeat refine AW.seq ?_
  refine AW.region ?_
  refine RL.step (d := some 4) rfl rfl (xj_assignE rfl) ?_
  repeat refine AW.seq ?_
  refine AW.region ?_
  refine RL.step (d := some 5) rfl rfl (xj_moveE rfl) ?_
  refine RL.step (d := some 6) rfl rfl (xj_moveE rfl) ?_
  refine RL.step (d := some 7) rfl rfl (xj_moveE rfl) ?_
  first | refine RL.step (d := some 8) rfl rfl (xj_len Try.underlying22 rfl) ?_ | refine RL.step (d := some 8) rfl rfl (xj_lenO Try.underlying22 rfl rfl) ?_ | refine RL.step (d := some 8) rfl rfl (xj_lenG Try.underlying22 rfl) ?_
  refine RL.step (d := some 9) rfl rfl (xj_callM Try.call25 (n_spec L k l.length hL hk (by omega) (by omega)) rfl rfl) ?_
  refine RL.step (d := some 10) rfl rfl (xj_indexAddr j Try.underlying22 sz3 rfl rfl hj hjl hne) ?_
  first | refine RL.step (d := some 11) rfl rfl (xj_load1 ⟨_, Try.underlying3, rfl⟩ rfl rfl rfl) ?_ | refine RL.step (d := some 11) rfl rfl (xj_load1P ⟨_, Try.underlying3, rfl⟩ rfl rfl (by first | rfl | assumption)) ?_ | refine RL.step (d := some 11) rfl rfl (xj_loadR ⟨_, Try.underlying3, rfl⟩ rfl (by first | rfl | assumption)) ?_
  refine RL.step (d := some 4) rfl rfl (xj_assignE rfl) ?_
  refine AW.ret ?_
  exact ⟨_, srcC L (sNk L k), rfl, rfl, rfl, rfl⟩
theorem sNk_le {L : List Int} {k : Nat} (h : k ≤ L.length) : sNk L k ≤ L.length := by unfold sNk; split <;> omega

/-- The cells of lists of attributes, relations, features. -/
def attrsC (l : List (ByteArray × Int)) : List PV := l.flatMap fun a => [.str a.1, .int .i64 a.2]
def relsC (l : List (ByteArray × List Int)) : List PV := l.flatMap fun r => [.str r.1, pints r.2]
def featsC (l : List (Int × Int × Int)) : List PV := l.flatMap fun f => [.int .i64 f.1, .int .i64 f.2.1, .int .i64 f.2.2]
/-- A schema as a value. -/
abbrev schC (S : Sch) : List PV := [.sl none S.attrs.length (attrsC S.attrs), .sl none S.rels.length (relsC S.rels), .sl none S.feats.length (featsC S.feats), .int .i64 S.label]
abbrev schP (S : Sch) : PV := .agg (schC S)
theorem flat_len {α β : Type} (f : α → List β) (n : Nat) (h : ∀ a, (f a).length = n) : ∀ l : List α, (l.flatMap f).length = l.length * n
  | [] => by simp
  | a :: l => by rw [List.flatMap_cons, List.length_append, h, flat_len f n h l, List.length_cons, Nat.succ_mul, Nat.add_comm]
theorem flat_at {α β : Type} (f : α → List β) (n : Nat) (h : ∀ a, (f a).length = n) : ∀ (l : List α) (k j : Nat) (hk : k < l.length), j < n → (l.flatMap f)[k * n + j]? = (f l[k])[j]?
  | [], _, _, hk, _ => by simp at hk
  | a :: l, 0, j, _, hj => by
    rw [List.flatMap_cons, Nat.zero_mul, Nat.zero_add, List.getElem?_append_left (by rw [h]; exact hj)]
    rfl
  | a :: l, k + 1, j, hk, hj => by
    rw [List.flatMap_cons, List.getElem?_append_right (by rw [h, Nat.succ_mul]; omega), h, show (k + 1) * n + j - n = k * n + j by rw [Nat.succ_mul]; omega]
    rw [flat_at f n h l k j (by simpa using hk) hj]
    simp
theorem attrsC_len (l : List (ByteArray × Int)) : (attrsC l).length = l.length * 2 := flat_len _ 2 (fun _ => rfl) l
theorem relsC_len (l : List (ByteArray × List Int)) : (relsC l).length = l.length * 2 := flat_len _ 2 (fun _ => rfl) l
theorem featsC_len (l : List (Int × Int × Int)) : (featsC l).length = l.length * 3 := flat_len _ 3 (fun _ => rfl) l
theorem attrsC_snoc (l : List (ByteArray × Int)) (x : ByteArray × Int) : attrsC (l ++ [x]) = attrsC l ++ [.str x.1, .int .i64 x.2] := by simp [attrsC]
theorem relsC_snoc (l : List (ByteArray × List Int)) (x : ByteArray × List Int) : relsC (l ++ [x]) = relsC l ++ [.str x.1, pints x.2] := by simp [relsC]
theorem featsC_snoc (l : List (Int × Int × Int)) (x : Int × Int × Int) : featsC (l ++ [x]) = featsC l ++ [.int .i64 x.1, .int .i64 x.2.1, .int .i64 x.2.2] := by simp [featsC]
theorem ints_snoc (l : List Int) (x : Int) : intsP (l ++ [x]) = intsP l ++ [.int .i64 x] := by simp

abbrev zSch : Ob := .mix 30 [.pv (.sl (some true) 0 []), .pv (.sl (some true) 0 []), .pv (.sl (some true) 0 []), .pv (.int .i64 0)]
abbrev schO (a r f : Nat) (lb : Int) : Ob := .mix 30 [.gsl 2 2 a, .gsl 3 2 r, .gsl 4 3 f, .pv (.int .i64 lb)]



theorem flat_row {α β : Type} (f : α → List β) (n : Nat) (h : ∀ a, (f a).length = n) : ∀ (l : List α) (k : Nat) (hk : k < l.length), ((l.flatMap f).drop (k * n)).take n = f l[k]
  | [], _, hk => by simp at hk
  | a :: l, 0, _ => by
    rw [List.flatMap_cons, Nat.zero_mul, List.drop_zero, List.take_append_of_le_length (by rw [h]; exact Nat.le_refl _), List.take_of_length_le (by rw [h]; exact Nat.le_refl _)]
    rfl
  | a :: l, k + 1, hk => by
    rw [List.flatMap_cons, List.drop_append, List.drop_of_length_le (by rw [h, Nat.succ_mul]; omega), List.nil_append, h, show (k + 1) * n - n = k * n by rw [Nat.succ_mul]; omega]
    rw [flat_row f n h l k (by simpa using hk)]
    simp


set_option maxHeartbeats 4000000 in
theorem schema_spec (L : List Int) (k0 most : Nat) (hL : L.length ≤ 600) (hk0 : k0 ≤ L.length) (hm1 : 1 ≤ most) (hm2 : most ≤ 8) : FnM Try.prog 8 55 (srcC L k0) [.int .i64 most] (fun v c => (∃ S, Made S most ∧ v = schP S) ∧ ∃ k', k' ≤ L.length ∧ c = srcC L k') := by
  refine FnM.ofC (rt := 30) (k := 4) Try.func8 rfl Try.ntmps8 (by simp) rfl (by simp) ⟨_, Try.underlying30, rfl⟩ sz30 fun m0 w0 F R0 => ?_
  have hb := sNv_bd L k0 3 (by omega)
  obtain ⟨nn, hnn⟩ := Int.eq_ofNat_of_zero_le (show 0 ≤ 1 + sNv L k0 3 by omega)
  have hk1 := sNk_le hk0
  generalize hke : sNk L k0 = k1 at hk1
  repeat refine AW.seq ?_
  refine AW.region ?_
  refine RL.step (d := some 4) rfl rfl (xj_alloc 0 zero30 rfl rfl) ?_
  repeat refine AW.seq ?_
  refine AW.region ?_
  refine RL.step (d := some 13) rfl rfl (xj_build bi30 rfl) ?_
  refine RL.step (d := some 5) rfl rfl (xj_alloc 1 zero30 rfl rfl) ?_
  first | refine RL.step (d := none) rfl rfl (xj_store sz30 rfl rfl rfl rfl (by first | (simp; done) | exact Nat.le_of_ble_eq_true rfl) rfl rfl) ?_ | refine RL.step (d := none) rfl rfl (xj_storeP sz30 rfl rfl rfl rfl (by simp; omega)) ?_
  repeat refine AW.seq ?_
  refine AW.region ?_
  refine RL.step (d := some 14) rfl rfl (xj_moveE rfl) ?_
  refine RL.step (d := some 15) rfl rfl (XJ.cast (v' := .pv (.int .i64 nn)) (xj_callM Try.call24 (range_spec L k0 1 3 hL hk0 (by omega) (by omega) (by omega)) rfl rfl) (by rw [← hnn]; rfl)) ?_
  refine RL.step (d := some 6) rfl rfl (xj_assignE rfl) ?_
  rw [hke]
  refine AW.weaken (St.le_groC 1 0 2 2 61 rfl rfl rfl) ?_
  refine AW.weaken (St.le_groC 1 1 3 2 40 rfl rfl rfl) ?_
  refine AW.weaken (St.le_groC 1 2 4 3 63 rfl rfl rfl) ?_
  repeat refine AW.seq ?_
  refine AW.region ?_
  refine RL.step (d := some 7) rfl rfl (xj_assignE rfl) ?_
  refine AW.block ?_
  refine AW.loop (st := fun x : Nat × List (ByteArray × Int) × List (ByteArray × List Int) × Nat => mkS [(0, .ptr big 0), (1, .pv (.int .i64 most)), (4, .ptr 0 0), (5, .ptr 1 0), (6, .pv (.int .i64 nn)), (7, .pv (.int .i64 x.1))] [(big, srcO L x.2.2.2), (0, zSch), (1, schO x.2.1.length x.2.2.1.length 0 (-1)), (2, .gro 61 (attrsC x.2.1)), (3, .gro 40 (relsC x.2.2.1)), (4, .gro 63 [])] 5)
    (I := fun x => x.1 ≤ nn ∧ HeadOk x.2.1 x.2.2.1 most x.1 ∧ x.2.2.2 ≤ L.length) (μ := fun x => nn - x.1) (x0 := (0, [], [], k1)) (St.le_mk ⟨rfl, rfl, rfl, rfl, rfl, rfl, trivial⟩ ⟨rfl, rfl, rfl, rfl, rfl, rfl, trivial⟩ rfl rfl) ⟨Nat.zero_le _, ⟨fun j hj => by simp at hj, fun j hj => by simp at hj, fun a ha => by simp at ha, by simp, rfl, fun h => by omega⟩, hk1⟩ ?_
  rintro ⟨k, at', rs, k2⟩ ⟨hk, hhead, hk2⟩
  simp only at hk hhead hk2 ⊢
  have hal : at'.length ≤ most := hhead.2.2.2.1
  have hrl : rs.length = k := hhead.2.2.2.2.1
  have hAl := attrsC_len at'
  have hRl := relsC_len rs
  repeat refine AW.seq ?_
  refine AW.region ?_
  refine RL.step (d := some 16) rfl rfl (xj_moveE rfl) ?_
  refine RL.step (d := some 17) rfl rfl (xj_moveE rfl) ?_
  refine RL.step (d := some 18) rfl rfl (xj_bin rfl rfl rfl) ?_
  refine AW.condP rfl (fun hc => ?_) (fun hc => ?_)
  · refine AW.skip ?_
    repeat refine AW.seq ?_
    refine AW.block ?_
    repeat refine AW.seq ?_
    refine AW.region ?_
    refine RL.step (d := some 8) rfl rfl (xj_assignE rfl) ?_
    refine AW.weaken (St.le_gro 8 5 1 3 rfl rfl) ?_
    repeat refine AW.seq ?_
    refine AW.region ?_
    first | refine RL.step (d := some 21) rfl rfl (xj_fieldAddr fo30_0 rfl rfl) ?_ | refine RL.step (d := some 21) rfl rfl (xj_fieldAddrR fo30_0 rfl) ?_
    first | refine RL.step (d := some 22) rfl rfl (xj_load1 ⟨_, Try.underlying26, rfl⟩ rfl rfl rfl) ?_ | refine RL.step (d := some 22) rfl rfl (xj_load1P ⟨_, Try.underlying26, rfl⟩ rfl rfl (by first | rfl | assumption)) ?_ | refine RL.step (d := some 22) rfl rfl (xj_loadR ⟨_, Try.underlying26, rfl⟩ rfl (by first | rfl | assumption)) ?_
    first | refine RL.step (d := some 23) rfl rfl (xj_len Try.underlying26 rfl) ?_ | refine RL.step (d := some 23) rfl rfl (xj_lenO Try.underlying26 rfl rfl) ?_ | refine RL.step (d := some 23) rfl rfl (xj_lenG Try.underlying26 rfl) ?_
    refine RL.step (d := some 24) rfl rfl (xj_moveE rfl) ?_
    refine AW.block ?_
    refine AW.loop (st := fun x : Nat × List Int × Nat => mkS [(0, .ptr big 0), (1, .pv (.int .i64 most)), (4, .ptr 0 0), (5, .ptr 1 0), (6, .pv (.int .i64 nn)), (7, .pv (.int .i64 k)), (8, .gsl 5 1 x.2.1.length), (23, .pv (.int .i64 at'.length)), (24, .pv (.int .i64 x.1))] [(big, srcO L x.2.2), (0, zSch), (1, schO at'.length rs.length 0 (-1)), (2, .gro 61 (attrsC at')), (3, .gro 40 (relsC rs)), (4, .gro 63 []), (5, .gro 3 (intsP x.2.1))] 6)
      (I := fun x => x.1 ≤ at'.length ∧ ListOk x.2.1 x.1 ∧ x.2.2 ≤ L.length) (μ := fun x => at'.length - x.1) (x0 := (0, [], k2)) (St.le_mk ⟨rfl, rfl, rfl, rfl, rfl, rfl, rfl, rfl, rfl, trivial⟩ ⟨rfl, rfl, rfl, rfl, rfl, rfl, rfl, trivial⟩ rfl rfl) ⟨Nat.zero_le _, ⟨by simp, by simp⟩, hk2⟩ ?_
    rintro ⟨j, l, k3⟩ ⟨hj, hlok, hk3⟩
    simp only at hj hlok hk3 ⊢
    have hll := hlok.len
    repeat refine AW.seq ?_
    refine AW.region ?_
    refine RL.step (d := some 25) rfl rfl (xj_bin rfl rfl rfl) ?_
    repeat refine AW.seq ?_
    refine AW.condP rfl (fun hc => ?_) (fun hc => ?_)
    · refine AW.skip ?_
      repeat refine AW.seq ?_
      refine AW.block ?_
      repeat refine AW.seq ?_
      refine AW.region ?_
      refine RL.step (d := some 26) rfl rfl (xj_moveE rfl) ?_
      refine RL.step (d := some 9) rfl rfl (xj_assignE rfl) ?_
      repeat refine AW.seq ?_
      refine AW.region ?_
      refine RL.step (d := some 27) rfl rfl (xj_moveE rfl) ?_
      refine RL.step (d := some 28) rfl rfl (xj_callM Try.call25 (n_spec L k3 3 hL hk3 (by omega) (by omega)) rfl rfl) ?_
      refine RL.step (d := some 29) rfl rfl (xj_bin rfl rfl rfl) ?_
      refine AW.cond rfl (fun hc => ?_) (fun hc => ?_)
      · repeat refine AW.seq ?_
        refine AW.region ?_
        refine RL.step (d := some 30) rfl rfl (xj_moveE rfl) ?_
        refine RL.step (d := some 31) rfl rfl (xj_moveE rfl) ?_
        refine RL.step (d := some 32) rfl rfl (xj_buildSlice 6 el22 rfl (by decide) (by decide) rfl rfl rfl) ?_
        first | refine RL.step (d := some 33) rfl rfl (xj_append1 7 el22 rfl rfl (by first | assumption | simp) rfl rfl rfl rfl (by omega) rfl) ?_ | refine RL.step (d := some 33) rfl rfl (xj_append01 7 el22 rfl rfl rfl rfl rfl rfl) ?_ | refine RL.step (d := some 33) rfl rfl (xj_appendG1 7 el22 rfl rfl (by first | assumption | simp) rfl rfl rfl rfl (by omega) rfl) ?_
        refine RL.step (d := some 8) rfl rfl (xj_assignE rfl) ?_
        repeat refine AW.seq ?_
        refine AW.region ?_
        refine RL.step (d := some 34) rfl rfl (xj_add rfl rfl (by omega)) ?_
        refine RL.step (d := some 24) rfl rfl (xj_moveE rfl) ?_
        exact ⟨(j + 1, l ++ [(j : Int)], sNk L k3), St.le_mkR [0, 1, 2, 3, 4, 7] ⟨rfl, rfl, rfl, rfl, rfl, rfl, by simp; rfl, rfl, rfl, trivial⟩ ⟨rfl, rfl, rfl, rfl, rfl, rfl, by rw [ints_snoc]; rfl, trivial⟩ rfl rfl (by simp) rfl, ⟨by omega, hlok.snoc, sNk_le hk3⟩, by omega⟩
      · refine AW.skip ?_
        repeat refine AW.seq ?_
        refine AW.region ?_
        refine RL.step (d := some 34) rfl rfl (xj_add rfl rfl (by omega)) ?_
        refine RL.step (d := some 24) rfl rfl (xj_moveE rfl) ?_
        exact ⟨(j + 1, l, sNk L k3), St.le_mk ⟨rfl, rfl, rfl, rfl, rfl, rfl, rfl, rfl, rfl, trivial⟩ ⟨rfl, rfl, rfl, rfl, rfl, rfl, rfl, trivial⟩ rfl rfl, ⟨by omega, hlok.mono (by omega), sNk_le hk3⟩, by omega⟩
    · obtain rfl : j = at'.length := by omega
      refine AW.exit ?_
      have hb2 := sNv_bd L k3 3 (by omega)
      repeat refine AW.seq ?_
      refine AW.region ?_
      refine RL.step (d := some 35) rfl rfl (xj_moveE rfl) ?_
      refine RL.step (d := some 36) rfl rfl (xj_callM Try.call25 (n_spec L k3 3 hL hk3 (by omega) (by omega)) rfl rfl) ?_
      refine RL.step (d := some 10) rfl rfl (xj_assignE rfl) ?_
      refine AW.block ?_
      refine AW.loop (st := fun x : List (ByteArray × Int) × List Int × Int × Nat => mkS [(0, .ptr big 0), (1, .pv (.int .i64 most)), (4, .ptr 0 0), (5, .ptr 1 0), (6, .pv (.int .i64 nn)), (7, .pv (.int .i64 k)), (8, .gsl 5 1 x.2.1.length), (10, .pv (.int .i64 x.2.2.1))] [(big, srcO L x.2.2.2), (0, zSch), (1, schO x.1.length rs.length 0 (-1)), (2, .gro 61 (attrsC x.1)), (3, .gro 40 (relsC rs)), (4, .gro 63 []), (5, .gro 3 (intsP x.2.1))] 6)
        (I := fun x => MidOk at' x.1 x.2.1 most ∧ -1000 + x.1.length * (-1) ≤ x.2.2.1 ∧ x.2.2.1 ≤ 1000 ∧ x.2.2.2 ≤ L.length) (μ := fun x => most - x.1.length) (x0 := (at', l, sNv L k3 3, sNk L k3)) (St.le_mk ⟨rfl, rfl, rfl, rfl, rfl, rfl, rfl, rfl, trivial⟩ ⟨rfl, rfl, rfl, rfl, rfl, rfl, rfl, trivial⟩ rfl rfl) ⟨⟨hhead.1, hal, Nat.le_refl _, hlok, fun a h1 h2 => absurd h2 (Nat.not_lt.2 h1)⟩, by simp only; omega, by simp only; omega, sNk_le hk3⟩ ?_
      clear hlok hll hb2 hk3
      rintro ⟨at2, l, c, k3⟩ ⟨hmid, hc1, hc2, hk3⟩
      simp only at hmid hc1 hc2 hk3 ⊢
      have hal2 : at2.length ≤ most := hmid.2.1
      have hll := hmid.2.2.2.1.len
      have hAl2 := attrsC_len at2
      obtain ⟨px, hpx, hpick⟩ := pick_specF L k3 [1, 2, 2, 3] hL hk3 (by simp) (by simp)
      by_cases hcp : 0 < c
      · repeat refine AW.seq ?_
        refine AW.region ?_
        refine RL.step (d := some 37) rfl rfl (xj_moveE rfl) ?_
        refine RL.step (d := some 38) rfl rfl (XJ.cast (v' := .pv (.bool true)) (xj_bin rfl rfl rfl) (by simp; omega)) ?_
        refine RL.step (d := some 39) rfl rfl (xj_moveE rfl) ?_
        refine RL.skipG rfl rfl rfl ?_
        refine RL.skipG rfl rfl rfl ?_
        refine RL.skipG rfl rfl rfl ?_
        refine RL.step (d := some 43) rfl rfl (xj_pick rfl) ?_
        refine RL.step (d := some 44) rfl rfl (xj_moveE rfl) ?_
        first | refine RL.stepG (d := some 45) rfl rfl rfl (xj_fieldAddr fo30_0 rfl rfl) ?_ | refine RL.stepG (d := some 45) rfl rfl rfl (xj_fieldAddrR fo30_0 rfl) ?_
        first | refine RL.stepG (d := some 46) rfl rfl rfl (xj_load1 ⟨_, Try.underlying26, rfl⟩ rfl rfl rfl) ?_ | refine RL.stepG (d := some 46) rfl rfl rfl (xj_load1P ⟨_, Try.underlying26, rfl⟩ rfl rfl (by first | rfl | assumption)) ?_ | refine RL.stepG (d := some 46) rfl rfl rfl (xj_loadR ⟨_, Try.underlying26, rfl⟩ rfl (by first | rfl | assumption)) ?_
        first | refine RL.stepG (d := some 47) rfl rfl rfl (xj_len Try.underlying26 rfl) ?_ | refine RL.stepG (d := some 47) rfl rfl rfl (xj_lenO Try.underlying26 rfl rfl) ?_ | refine RL.stepG (d := some 47) rfl rfl rfl (xj_lenG Try.underlying26 rfl) ?_
        refine RL.stepG (d := some 48) rfl rfl rfl (xj_moveE rfl) ?_
        refine RL.stepG (d := some 49) rfl rfl rfl (xj_bin rfl rfl rfl) ?_
        refine RL.step (d := some 50) rfl rfl (xj_pick rfl) ?_
        refine AW.condP rfl (fun hc => ?_) (fun hc => ?_)
        · refine AW.skip ?_
          repeat refine AW.seq ?_
          refine AW.block ?_
          repeat refine AW.seq ?_
          refine AW.region ?_
          refine RL.step (d := some 53) rfl rfl (xj_moveE rfl) ?_
          first | refine RL.step (d := some 54) rfl rfl (xj_fieldAddr fo30_0 rfl rfl) ?_ | refine RL.step (d := some 54) rfl rfl (xj_fieldAddrR fo30_0 rfl) ?_
          first | refine RL.step (d := some 55) rfl rfl (xj_load1 ⟨_, Try.underlying26, rfl⟩ rfl rfl rfl) ?_ | refine RL.step (d := some 55) rfl rfl (xj_load1P ⟨_, Try.underlying26, rfl⟩ rfl rfl (by first | rfl | assumption)) ?_ | refine RL.step (d := some 55) rfl rfl (xj_loadR ⟨_, Try.underlying26, rfl⟩ rfl (by first | rfl | assumption)) ?_
          first | refine RL.step (d := some 56) rfl rfl (xj_len Try.underlying26 rfl) ?_ | refine RL.step (d := some 56) rfl rfl (xj_lenO Try.underlying26 rfl rfl) ?_ | refine RL.step (d := some 56) rfl rfl (xj_lenG Try.underlying26 rfl) ?_
          refine RL.step (d := some 57) rfl rfl (xj_buildSlice 6 el22 rfl (by decide) (by decide) rfl rfl rfl) ?_
          first | refine RL.step (d := some 58) rfl rfl (xj_append1 7 el22 rfl rfl (by first | assumption | simp) rfl rfl rfl rfl (by omega) rfl) ?_ | refine RL.step (d := some 58) rfl rfl (xj_append01 7 el22 rfl rfl rfl rfl rfl rfl) ?_ | refine RL.step (d := some 58) rfl rfl (xj_appendG1 7 el22 rfl rfl (by first | assumption | simp) rfl rfl rfl rfl (by omega) rfl) ?_
          refine RL.step (d := some 8) rfl rfl (xj_assignE rfl) ?_
          repeat refine AW.seq ?_
          refine AW.draw follows [[], [0], [], [2], [3, 2], [4, 3, 2], [], [], [5, 7, 6, 4, 3, 2], [8, 5, 4, 3, 2, 7, 6], [9, 8, 5, 4, 3, 2, 7, 6], [10, 1, 0, 9, 8, 5, 4, 3, 2, 7, 6], [11, 10, 9, 8, 7, 6, 5, 4, 3, 2, 1, 0], [12, 11, 10, 9, 8, 7, 6, 5, 4, 3, 2, 1, 0]] [0, 1, 2, 3, 4, 5, 6, 7, 8, 9, 10, 11, 12, 13] (by kernel_rfl) (by kernel_rfl) ?_
          first | refine DL.step (d := some 59) [_] rfl rfl rfl (fun τ h => xj_fieldAddr fo30_0 ((h.e 0 _ rfl).trans rfl) ((h.o 0 _ rfl).trans rfl)) rfl (by kernel_rfl) ?_ | refine DL.step (d := some 59) [] rfl rfl rfl (fun τ h => xj_fieldAddrR fo30_0 ((h.e 0 _ rfl).trans rfl)) rfl (by kernel_rfl) ?_
          first | refine DL.step (d := some 60) [_] rfl rfl rfl (fun τ h => xj_load1 ⟨_, Try.underlying26, rfl⟩ ((h.e 0 _ rfl).trans rfl) ((h.o 0 _ rfl).trans rfl) rfl) rfl (by kernel_rfl) ?_ | refine DL.step (d := some 60) [_] rfl rfl rfl (fun τ h => xj_load1P ⟨_, Try.underlying26, rfl⟩ ((h.e 0 _ rfl).trans rfl) ((h.o 0 _ rfl).trans rfl) (by first | rfl | assumption)) rfl (by kernel_rfl) ?_ | refine DL.step (d := some 60) [] rfl rfl rfl (fun τ h => xj_loadR ⟨_, Try.underlying26, rfl⟩ ((h.e 0 _ rfl).trans rfl) (by first | rfl | assumption)) rfl (by kernel_rfl) ?_
          first | refine DL.step (d := some 61) [_] rfl rfl rfl (fun τ h => xj_fieldAddr fo30_0 ((h.e 0 _ rfl).trans rfl) ((h.o 0 _ rfl).trans rfl)) rfl (by kernel_rfl) ?_ | refine DL.step (d := some 61) [] rfl rfl rfl (fun τ h => xj_fieldAddrR fo30_0 ((h.e 0 _ rfl).trans rfl)) rfl (by kernel_rfl) ?_
          first | refine DL.step (d := some 62) [_] rfl rfl rfl (fun τ h => xj_load1 ⟨_, Try.underlying26, rfl⟩ ((h.e 0 _ rfl).trans rfl) ((h.o 0 _ rfl).trans rfl) rfl) rfl (by kernel_rfl) ?_ | refine DL.step (d := some 62) [_] rfl rfl rfl (fun τ h => xj_load1P ⟨_, Try.underlying26, rfl⟩ ((h.e 0 _ rfl).trans rfl) ((h.o 0 _ rfl).trans rfl) (by first | rfl | assumption)) rfl (by kernel_rfl) ?_ | refine DL.step (d := some 62) [] rfl rfl rfl (fun τ h => xj_loadR ⟨_, Try.underlying26, rfl⟩ ((h.e 0 _ rfl).trans rfl) (by first | rfl | assumption)) rfl (by kernel_rfl) ?_
          first | refine DL.step (d := some 63) [] rfl rfl rfl (fun τ h => xj_len Try.underlying26 ((h.e 0 _ rfl).trans rfl)) rfl (by kernel_rfl) ?_ | refine DL.step (d := some 63) [_] rfl rfl rfl (fun τ h => xj_lenO Try.underlying26 ((h.e 0 _ rfl).trans rfl) ((h.o 0 _ rfl).trans rfl)) rfl (by kernel_rfl) ?_ | refine DL.step (d := some 63) [] rfl rfl rfl (fun τ h => xj_lenG Try.underlying26 ((h.e 0 _ rfl).trans rfl)) rfl (by kernel_rfl) ?_
          refine DL.step (d := some 64) [] rfl rfl rfl (fun τ h => xj_call Try.call26 (letter_spec ⟨#[97]⟩ at2.length (by decide) (by omega)) (h.argsP rfl)) rfl (by kernel_rfl) ?_
          refine DL.step (d := some 65) [] rfl rfl rfl (fun τ h => xj_moveE ((h.e 0 _ rfl).trans rfl)) rfl (by kernel_rfl) ?_
          refine DL.step (d := some 66) [] rfl rfl rfl (fun τ h => xj_buildSliceP none (by simp) el22 rfl (by decide) (by decide) (h.fillS rfl rfl) rfl) rfl (by kernel_rfl) ?_
          refine DL.step (d := some 67) [_] rfl rfl rfl (fun τ h => xj_callM Try.call27 hpick (h.args.trans rfl) ((h.o 0 _ rfl).trans rfl)) rfl (by kernel_rfl) ?_
          refine DL.step (d := some 68) [] rfl rfl rfl (fun τ h => xj_build bi61 (h.fill rfl rfl)) rfl (by kernel_rfl) ?_
          refine DL.step (d := some 69) [] rfl rfl rfl (fun τ h => xj_buildSlice 8 el26 rfl (by decide) (by decide) (h.n 0 _ rfl) (h.fillS rfl rfl) rfl) rfl (by kernel_rfl) ?_
          first | refine DL.step (d := some 70) [_, _] rfl rfl rfl (fun τ h => xj_append1 9 el26 ((h.e 0 _ rfl).trans rfl) ((h.o 0 _ rfl).trans rfl) (by first | assumption | simp) ((h.e 1 _ rfl).trans rfl) ((h.o 1 _ rfl).trans rfl) rfl rfl (by omega) (h.n 0 _ rfl)) rfl (by kernel_rfl) ?_ | refine DL.step (d := some 70) [_] rfl rfl rfl (fun τ h => xj_append01 9 el26 ((h.e 0 _ rfl).trans rfl) ((h.e 1 _ rfl).trans rfl) ((h.o 0 _ rfl).trans rfl) rfl rfl (h.n 0 _ rfl)) rfl (by kernel_rfl) ?_ | refine DL.step (d := some 70) [_, _] rfl rfl rfl (fun τ h => xj_appendG1 9 el26 ((h.e 0 _ rfl).trans rfl) ((h.o 0 _ rfl).trans rfl) (by first | assumption | simp) ((h.e 1 _ rfl).trans rfl) ((h.o 1 _ rfl).trans rfl) rfl rfl (by omega) (h.n 0 _ rfl)) rfl (by kernel_rfl) ?_
          first | refine DL.step (d := some 71) [_] rfl rfl rfl (fun τ h => xj_fieldAddr fo30_0 ((h.e 0 _ rfl).trans rfl) ((h.o 0 _ rfl).trans rfl)) rfl (by kernel_rfl) ?_ | refine DL.step (d := some 71) [] rfl rfl rfl (fun τ h => xj_fieldAddrR fo30_0 ((h.e 0 _ rfl).trans rfl)) rfl (by kernel_rfl) ?_
          first | refine DL.step (d := none) [_] rfl rfl rfl (fun τ h => xj_store sz26 ((h.e 0 _ rfl).trans rfl) ((h.o 0 _ rfl).trans rfl) ((h.e 1 _ rfl).trans rfl) rfl (by first | (simp; done) | exact Nat.le_of_ble_eq_true rfl) rfl rfl) rfl (by kernel_rfl) ?_ | refine DL.step (d := none) [_] rfl rfl rfl (fun τ h => xj_storeP sz26 ((h.e 0 _ rfl).trans rfl) ((h.o 0 _ rfl).trans rfl) ((h.e 1 _ rfl).trans rfl) rfl (by simp; omega)) rfl (by kernel_rfl) ?_
          refine ⟨by kernel_rfl, ?_⟩
          repeat refine AW.seq ?_
          refine AW.region ?_
          refine RL.step (d := some 51) rfl rfl (xj_moveE rfl) ?_
          refine RL.step (d := some 52) rfl rfl (xj_sub rfl rfl (by omega)) ?_
          refine RL.step (d := some 10) rfl rfl (xj_assignE rfl) ?_
          refine ⟨(at2 ++ [(nm 97 at2.length, px)], l ++ [(at2.length : Int)], c - 1, sNk L k3), St.le_mkR [0, 1, 9, 3, 4, 7] ⟨rfl, rfl, rfl, rfl, rfl, rfl, by simp; rfl, rfl, trivial⟩ ⟨rfl, rfl, by simp; rfl, by rw [attrsC_snoc]; rfl, rfl, rfl, by rw [ints_snoc]; rfl, trivial⟩ rfl rfl (by simp) rfl, ⟨mid_snoc hmid (by omega) hpx, by simp only [List.length_append, List.length_singleton]; omega, by simp only; omega, sNk_le hk3⟩, ?_⟩
          simp only [List.length_append, List.length_singleton]
          omega
        · refine AW.exit ?_
          refine AW.cut (st := fun l : List Int => mkS [(0, .ptr big 0), (1, .pv (.int .i64 most)), (4, .ptr 0 0), (5, .ptr 1 0), (6, .pv (.int .i64 nn)), (7, .pv (.int .i64 k)), (8, .pv (pints l))] [(big, srcO L k3), (0, zSch), (1, schO at2.length rs.length 0 (-1)), (2, .gro 61 (attrsC at2)), (3, .gro 40 (relsC rs)), (4, .gro 63 [])] 5) (I := fun l => EndOk at' at2 l most) ?_ ?_
          · repeat refine AW.seq ?_
            refine AW.region ?_
            refine RL.step (d := some 72) rfl rfl (xj_moveE rfl) ?_
            first | refine RL.step (d := some 73) rfl rfl (xj_len Try.underlying22 rfl) ?_ | refine RL.step (d := some 73) rfl rfl (xj_lenO Try.underlying22 rfl rfl) ?_ | refine RL.step (d := some 73) rfl rfl (xj_lenG Try.underlying22 rfl) ?_
            refine RL.step (d := some 74) rfl rfl (xj_bin rfl rfl rfl) ?_
            have hfin : l.length = 0 → most ≤ at2.length := by omega
            refine AW.cond rfl (fun hc => ?_) (fun hc => ?_)
            · have hl0' : l = [] := List.eq_nil_of_length_eq_zero (by simpa using hc)
              subst hl0'
              have hf := hfin rfl
              repeat refine AW.seq ?_
              refine AW.region ?_
              refine RL.step (d := some 75) rfl rfl (xj_buildSliceP none (by simp) el22 rfl (by decide) (by decide) rfl rfl) ?_
              refine RL.step (d := some 8) rfl rfl (xj_assignE rfl) ?_
              exact ⟨[0], St.le_mk ⟨rfl, rfl, rfl, rfl, rfl, rfl, rfl, trivial⟩ ⟨rfl, rfl, rfl, rfl, rfl, rfl, trivial⟩ rfl rfl, ⟨hmid.1, hmid.2.1, hmid.2.2.1, ⟨by simp, by simp; omega⟩, fun a h1 h2 => absurd (hmid.2.2.2.2 a h1 h2) (by simp)⟩, by simp, by omega⟩
            · have hne : l ≠ [] := fun e => by subst e; simp at hc
              have hpos : 0 < l.length := List.length_pos_iff.2 hne
              refine AW.skip ?_
              exact ⟨l, St.le.trans (St.le_pubA 5 rfl rfl) (St.le_mk ⟨rfl, rfl, rfl, rfl, rfl, rfl, by simp [pints]; rfl, trivial⟩ ⟨rfl, rfl, rfl, rfl, rfl, rfl, trivial⟩ rfl rfl), hmid, hne, by omega⟩
          · intro l2 hend
            repeat refine AW.seq ?_
            refine AW.draw follows [[], [0], [], [2], [], [4, 3, 2], [5, 4, 3, 2], [6, 1, 0, 5, 4, 3, 2], [7, 6, 5, 4, 3, 2, 1, 0], [8, 7, 6, 5, 4, 3, 2, 1, 0]] [0, 1, 2, 3, 4, 5, 6, 7, 8, 9] (by kernel_rfl) (by kernel_rfl) ?_
            first | refine DL.step (d := some 76) [_] rfl rfl rfl (fun τ h => xj_fieldAddr fo30_1 ((h.e 0 _ rfl).trans rfl) ((h.o 0 _ rfl).trans rfl)) rfl (by kernel_rfl) ?_ | refine DL.step (d := some 76) [] rfl rfl rfl (fun τ h => xj_fieldAddrR fo30_1 ((h.e 0 _ rfl).trans rfl)) rfl (by kernel_rfl) ?_
            first | refine DL.step (d := some 77) [_] rfl rfl rfl (fun τ h => xj_load1 ⟨_, Try.underlying27, rfl⟩ ((h.e 0 _ rfl).trans rfl) ((h.o 0 _ rfl).trans rfl) rfl) rfl (by kernel_rfl) ?_ | refine DL.step (d := some 77) [_] rfl rfl rfl (fun τ h => xj_load1P ⟨_, Try.underlying27, rfl⟩ ((h.e 0 _ rfl).trans rfl) ((h.o 0 _ rfl).trans rfl) (by first | rfl | assumption)) rfl (by kernel_rfl) ?_ | refine DL.step (d := some 77) [] rfl rfl rfl (fun τ h => xj_loadR ⟨_, Try.underlying27, rfl⟩ ((h.e 0 _ rfl).trans rfl) (by first | rfl | assumption)) rfl (by kernel_rfl) ?_
            refine DL.step (d := some 78) [] rfl rfl rfl (fun τ h => xj_moveE ((h.e 0 _ rfl).trans rfl)) rfl (by kernel_rfl) ?_
            refine DL.step (d := some 79) [] rfl rfl rfl (fun τ h => xj_call Try.call26 (letter_spec ⟨#[114]⟩ k (by decide) (by omega)) (h.argsP rfl)) rfl (by kernel_rfl) ?_
            refine DL.step (d := some 80) [] rfl rfl rfl (fun τ h => xj_moveE ((h.e 0 _ rfl).trans rfl)) rfl (by kernel_rfl) ?_
            refine DL.step (d := some 81) [] rfl rfl rfl (fun τ h => xj_build bi40 (h.fill rfl rfl)) rfl (by kernel_rfl) ?_
            refine DL.step (d := some 82) [] rfl rfl rfl (fun τ h => xj_buildSlice 5 el27 rfl (by decide) (by decide) (h.n 0 _ rfl) (h.fillS rfl rfl) rfl) rfl (by kernel_rfl) ?_
            first | refine DL.step (d := some 83) [_, _] rfl rfl rfl (fun τ h => xj_append1 6 el27 ((h.e 0 _ rfl).trans rfl) ((h.o 0 _ rfl).trans rfl) (by first | assumption | simp) ((h.e 1 _ rfl).trans rfl) ((h.o 1 _ rfl).trans rfl) rfl rfl (by omega) (h.n 0 _ rfl)) rfl (by kernel_rfl) ?_ | refine DL.step (d := some 83) [_] rfl rfl rfl (fun τ h => xj_append01 6 el27 ((h.e 0 _ rfl).trans rfl) ((h.e 1 _ rfl).trans rfl) ((h.o 0 _ rfl).trans rfl) rfl rfl (h.n 0 _ rfl)) rfl (by kernel_rfl) ?_ | refine DL.step (d := some 83) [_, _] rfl rfl rfl (fun τ h => xj_appendG1 6 el27 ((h.e 0 _ rfl).trans rfl) ((h.o 0 _ rfl).trans rfl) (by first | assumption | simp) ((h.e 1 _ rfl).trans rfl) ((h.o 1 _ rfl).trans rfl) rfl rfl (by omega) (h.n 0 _ rfl)) rfl (by kernel_rfl) ?_
            first | refine DL.step (d := some 84) [_] rfl rfl rfl (fun τ h => xj_fieldAddr fo30_1 ((h.e 0 _ rfl).trans rfl) ((h.o 0 _ rfl).trans rfl)) rfl (by kernel_rfl) ?_ | refine DL.step (d := some 84) [] rfl rfl rfl (fun τ h => xj_fieldAddrR fo30_1 ((h.e 0 _ rfl).trans rfl)) rfl (by kernel_rfl) ?_
            first | refine DL.step (d := none) [_] rfl rfl rfl (fun τ h => xj_store sz27 ((h.e 0 _ rfl).trans rfl) ((h.o 0 _ rfl).trans rfl) ((h.e 1 _ rfl).trans rfl) rfl (by first | (simp; done) | exact Nat.le_of_ble_eq_true rfl) rfl rfl) rfl (by kernel_rfl) ?_ | refine DL.step (d := none) [_] rfl rfl rfl (fun τ h => xj_storeP sz27 ((h.e 0 _ rfl).trans rfl) ((h.o 0 _ rfl).trans rfl) ((h.e 1 _ rfl).trans rfl) rfl (by simp; omega)) rfl (by kernel_rfl) ?_
            refine ⟨by kernel_rfl, ?_⟩
            repeat refine AW.seq ?_
            refine AW.region ?_
            refine RL.step (d := some 19) rfl rfl (xj_moveE rfl) ?_
            refine RL.step (d := some 20) rfl rfl (xj_add rfl rfl (by omega)) ?_
            refine RL.step (d := some 7) rfl rfl (xj_assignE rfl) ?_
            refine ⟨(k + 1, at2, rs ++ [(nm 114 k, l2)], k3), St.le_mkR [0, 1, 2, 6, 4] ⟨rfl, rfl, rfl, rfl, rfl, rfl, trivial⟩ ⟨rfl, rfl, by simp; rfl, rfl, by rw [relsC_snoc]; rfl, rfl, trivial⟩ rfl rfl (by simp) rfl, ⟨by simp only; omega, head_next hhead hend, hk3⟩, by simp only; omega⟩
      · by_cases hl0 : l.length = 0
        · repeat refine AW.seq ?_
          refine AW.region ?_
          refine RL.step (d := some 37) rfl rfl (xj_moveE rfl) ?_
          refine RL.step (d := some 38) rfl rfl (XJ.cast (v' := .pv (.bool false)) (xj_bin rfl rfl rfl) (by simp; omega)) ?_
          refine RL.step (d := some 39) rfl rfl (xj_moveE rfl) ?_
          refine RL.stepG (d := some 40) rfl rfl rfl (xj_moveE rfl) ?_
          first | refine RL.stepG (d := some 41) rfl rfl rfl (xj_len Try.underlying22 rfl) ?_ | refine RL.stepG (d := some 41) rfl rfl rfl (xj_lenO Try.underlying22 rfl rfl) ?_ | refine RL.stepG (d := some 41) rfl rfl rfl (xj_lenG Try.underlying22 rfl) ?_
          refine RL.stepG (d := some 42) rfl rfl rfl (XJ.cast (v' := .pv (.bool true)) (xj_bin rfl rfl rfl) (by simp [hl0])) ?_
          refine RL.step (d := some 43) rfl rfl (xj_pick rfl) ?_
          refine RL.step (d := some 44) rfl rfl (xj_moveE rfl) ?_
          first | refine RL.stepG (d := some 45) rfl rfl rfl (xj_fieldAddr fo30_0 rfl rfl) ?_ | refine RL.stepG (d := some 45) rfl rfl rfl (xj_fieldAddrR fo30_0 rfl) ?_
          first | refine RL.stepG (d := some 46) rfl rfl rfl (xj_load1 ⟨_, Try.underlying26, rfl⟩ rfl rfl rfl) ?_ | refine RL.stepG (d := some 46) rfl rfl rfl (xj_load1P ⟨_, Try.underlying26, rfl⟩ rfl rfl (by first | rfl | assumption)) ?_ | refine RL.stepG (d := some 46) rfl rfl rfl (xj_loadR ⟨_, Try.underlying26, rfl⟩ rfl (by first | rfl | assumption)) ?_
          first | refine RL.stepG (d := some 47) rfl rfl rfl (xj_len Try.underlying26 rfl) ?_ | refine RL.stepG (d := some 47) rfl rfl rfl (xj_lenO Try.underlying26 rfl rfl) ?_ | refine RL.stepG (d := some 47) rfl rfl rfl (xj_lenG Try.underlying26 rfl) ?_
          refine RL.stepG (d := some 48) rfl rfl rfl (xj_moveE rfl) ?_
          refine RL.stepG (d := some 49) rfl rfl rfl (xj_bin rfl rfl rfl) ?_
          refine RL.step (d := some 50) rfl rfl (xj_pick rfl) ?_
          refine AW.condP rfl (fun hc => ?_) (fun hc => ?_)
          · refine AW.skip ?_
            repeat refine AW.seq ?_
            refine AW.block ?_
            repeat refine AW.seq ?_
            refine AW.region ?_
            refine RL.step (d := some 53) rfl rfl (xj_moveE rfl) ?_
            first | refine RL.step (d := some 54) rfl rfl (xj_fieldAddr fo30_0 rfl rfl) ?_ | refine RL.step (d := some 54) rfl rfl (xj_fieldAddrR fo30_0 rfl) ?_
            first | refine RL.step (d := some 55) rfl rfl (xj_load1 ⟨_, Try.underlying26, rfl⟩ rfl rfl rfl) ?_ | refine RL.step (d := some 55) rfl rfl (xj_load1P ⟨_, Try.underlying26, rfl⟩ rfl rfl (by first | rfl | assumption)) ?_ | refine RL.step (d := some 55) rfl rfl (xj_loadR ⟨_, Try.underlying26, rfl⟩ rfl (by first | rfl | assumption)) ?_
            first | refine RL.step (d := some 56) rfl rfl (xj_len Try.underlying26 rfl) ?_ | refine RL.step (d := some 56) rfl rfl (xj_lenO Try.underlying26 rfl rfl) ?_ | refine RL.step (d := some 56) rfl rfl (xj_lenG Try.underlying26 rfl) ?_
            refine RL.step (d := some 57) rfl rfl (xj_buildSlice 6 el22 rfl (by decide) (by decide) rfl rfl rfl) ?_
            first | refine RL.step (d := some 58) rfl rfl (xj_append1 7 el22 rfl rfl (by first | assumption | simp) rfl rfl rfl rfl (by omega) rfl) ?_ | refine RL.step (d := some 58) rfl rfl (xj_append01 7 el22 rfl rfl rfl rfl rfl rfl) ?_ | refine RL.step (d := some 58) rfl rfl (xj_appendG1 7 el22 rfl rfl (by first | assumption | simp) rfl rfl rfl rfl (by omega) rfl) ?_
            refine RL.step (d := some 8) rfl rfl (xj_assignE rfl) ?_
            repeat refine AW.seq ?_
            refine AW.draw follows [[], [0], [], [2], [3, 2], [4, 3, 2], [], [], [5, 7, 6, 4, 3, 2], [8, 5, 4, 3, 2, 7, 6], [9, 8, 5, 4, 3, 2, 7, 6], [10, 1, 0, 9, 8, 5, 4, 3, 2, 7, 6], [11, 10, 9, 8, 7, 6, 5, 4, 3, 2, 1, 0], [12, 11, 10, 9, 8, 7, 6, 5, 4, 3, 2, 1, 0]] [0, 1, 2, 3, 4, 5, 6, 7, 8, 9, 10, 11, 12, 13] (by kernel_rfl) (by kernel_rfl) ?_
            first | refine DL.step (d := some 59) [_] rfl rfl rfl (fun τ h => xj_fieldAddr fo30_0 ((h.e 0 _ rfl).trans rfl) ((h.o 0 _ rfl).trans rfl)) rfl (by kernel_rfl) ?_ | refine DL.step (d := some 59) [] rfl rfl rfl (fun τ h => xj_fieldAddrR fo30_0 ((h.e 0 _ rfl).trans rfl)) rfl (by kernel_rfl) ?_
            first | refine DL.step (d := some 60) [_] rfl rfl rfl (fun τ h => xj_load1 ⟨_, Try.underlying26, rfl⟩ ((h.e 0 _ rfl).trans rfl) ((h.o 0 _ rfl).trans rfl) rfl) rfl (by kernel_rfl) ?_ | refine DL.step (d := some 60) [_] rfl rfl rfl (fun τ h => xj_load1P ⟨_, Try.underlying26, rfl⟩ ((h.e 0 _ rfl).trans rfl) ((h.o 0 _ rfl).trans rfl) (by first | rfl | assumption)) rfl (by kernel_rfl) ?_ | refine DL.step (d := some 60) [] rfl rfl rfl (fun τ h => xj_loadR ⟨_, Try.underlying26, rfl⟩ ((h.e 0 _ rfl).trans rfl) (by first | rfl | assumption)) rfl (by kernel_rfl) ?_
            first | refine DL.step (d := some 61) [_] rfl rfl rfl (fun τ h => xj_fieldAddr fo30_0 ((h.e 0 _ rfl).trans rfl) ((h.o 0 _ rfl).trans rfl)) rfl (by kernel_rfl) ?_ | refine DL.step (d := some 61) [] rfl rfl rfl (fun τ h => xj_fieldAddrR fo30_0 ((h.e 0 _ rfl).trans rfl)) rfl (by kernel_rfl) ?_
            first | refine DL.step (d := some 62) [_] rfl rfl rfl (fun τ h => xj_load1 ⟨_, Try.underlying26, rfl⟩ ((h.e 0 _ rfl).trans rfl) ((h.o 0 _ rfl).trans rfl) rfl) rfl (by kernel_rfl) ?_ | refine DL.step (d := some 62) [_] rfl rfl rfl (fun τ h => xj_load1P ⟨_, Try.underlying26, rfl⟩ ((h.e 0 _ rfl).trans rfl) ((h.o 0 _ rfl).trans rfl) (by first | rfl | assumption)) rfl (by kernel_rfl) ?_ | refine DL.step (d := some 62) [] rfl rfl rfl (fun τ h => xj_loadR ⟨_, Try.underlying26, rfl⟩ ((h.e 0 _ rfl).trans rfl) (by first | rfl | assumption)) rfl (by kernel_rfl) ?_
            first | refine DL.step (d := some 63) [] rfl rfl rfl (fun τ h => xj_len Try.underlying26 ((h.e 0 _ rfl).trans rfl)) rfl (by kernel_rfl) ?_ | refine DL.step (d := some 63) [_] rfl rfl rfl (fun τ h => xj_lenO Try.underlying26 ((h.e 0 _ rfl).trans rfl) ((h.o 0 _ rfl).trans rfl)) rfl (by kernel_rfl) ?_ | refine DL.step (d := some 63) [] rfl rfl rfl (fun τ h => xj_lenG Try.underlying26 ((h.e 0 _ rfl).trans rfl)) rfl (by kernel_rfl) ?_
            refine DL.step (d := some 64) [] rfl rfl rfl (fun τ h => xj_call Try.call26 (letter_spec ⟨#[97]⟩ at2.length (by decide) (by omega)) (h.argsP rfl)) rfl (by kernel_rfl) ?_
            refine DL.step (d := some 65) [] rfl rfl rfl (fun τ h => xj_moveE ((h.e 0 _ rfl).trans rfl)) rfl (by kernel_rfl) ?_
            refine DL.step (d := some 66) [] rfl rfl rfl (fun τ h => xj_buildSliceP none (by simp) el22 rfl (by decide) (by decide) (h.fillS rfl rfl) rfl) rfl (by kernel_rfl) ?_
            refine DL.step (d := some 67) [_] rfl rfl rfl (fun τ h => xj_callM Try.call27 hpick (h.args.trans rfl) ((h.o 0 _ rfl).trans rfl)) rfl (by kernel_rfl) ?_
            refine DL.step (d := some 68) [] rfl rfl rfl (fun τ h => xj_build bi61 (h.fill rfl rfl)) rfl (by kernel_rfl) ?_
            refine DL.step (d := some 69) [] rfl rfl rfl (fun τ h => xj_buildSlice 8 el26 rfl (by decide) (by decide) (h.n 0 _ rfl) (h.fillS rfl rfl) rfl) rfl (by kernel_rfl) ?_
            first | refine DL.step (d := some 70) [_, _] rfl rfl rfl (fun τ h => xj_append1 9 el26 ((h.e 0 _ rfl).trans rfl) ((h.o 0 _ rfl).trans rfl) (by first | assumption | simp) ((h.e 1 _ rfl).trans rfl) ((h.o 1 _ rfl).trans rfl) rfl rfl (by omega) (h.n 0 _ rfl)) rfl (by kernel_rfl) ?_ | refine DL.step (d := some 70) [_] rfl rfl rfl (fun τ h => xj_append01 9 el26 ((h.e 0 _ rfl).trans rfl) ((h.e 1 _ rfl).trans rfl) ((h.o 0 _ rfl).trans rfl) rfl rfl (h.n 0 _ rfl)) rfl (by kernel_rfl) ?_ | refine DL.step (d := some 70) [_, _] rfl rfl rfl (fun τ h => xj_appendG1 9 el26 ((h.e 0 _ rfl).trans rfl) ((h.o 0 _ rfl).trans rfl) (by first | assumption | simp) ((h.e 1 _ rfl).trans rfl) ((h.o 1 _ rfl).trans rfl) rfl rfl (by omega) (h.n 0 _ rfl)) rfl (by kernel_rfl) ?_
            first | refine DL.step (d := some 71) [_] rfl rfl rfl (fun τ h => xj_fieldAddr fo30_0 ((h.e 0 _ rfl).trans rfl) ((h.o 0 _ rfl).trans rfl)) rfl (by kernel_rfl) ?_ | refine DL.step (d := some 71) [] rfl rfl rfl (fun τ h => xj_fieldAddrR fo30_0 ((h.e 0 _ rfl).trans rfl)) rfl (by kernel_rfl) ?_
            first | refine DL.step (d := none) [_] rfl rfl rfl (fun τ h => xj_store sz26 ((h.e 0 _ rfl).trans rfl) ((h.o 0 _ rfl).trans rfl) ((h.e 1 _ rfl).trans rfl) rfl (by first | (simp; done) | exact Nat.le_of_ble_eq_true rfl) rfl rfl) rfl (by kernel_rfl) ?_ | refine DL.step (d := none) [_] rfl rfl rfl (fun τ h => xj_storeP sz26 ((h.e 0 _ rfl).trans rfl) ((h.o 0 _ rfl).trans rfl) ((h.e 1 _ rfl).trans rfl) rfl (by simp; omega)) rfl (by kernel_rfl) ?_
            refine ⟨by kernel_rfl, ?_⟩
            repeat refine AW.seq ?_
            refine AW.region ?_
            refine RL.step (d := some 51) rfl rfl (xj_moveE rfl) ?_
            refine RL.step (d := some 52) rfl rfl (xj_sub rfl rfl (by omega)) ?_
            refine RL.step (d := some 10) rfl rfl (xj_assignE rfl) ?_
            refine ⟨(at2 ++ [(nm 97 at2.length, px)], l ++ [(at2.length : Int)], c - 1, sNk L k3), St.le_mkR [0, 1, 9, 3, 4, 7] ⟨rfl, rfl, rfl, rfl, rfl, rfl, by simp; rfl, rfl, trivial⟩ ⟨rfl, rfl, by simp; rfl, by rw [attrsC_snoc]; rfl, rfl, rfl, by rw [ints_snoc]; rfl, trivial⟩ rfl rfl (by simp) rfl, ⟨mid_snoc hmid (by omega) hpx, by simp only [List.length_append, List.length_singleton]; omega, by simp only; omega, sNk_le hk3⟩, ?_⟩
            simp only [List.length_append, List.length_singleton]
            omega
          · refine AW.exit ?_
            refine AW.cut (st := fun l : List Int => mkS [(0, .ptr big 0), (1, .pv (.int .i64 most)), (4, .ptr 0 0), (5, .ptr 1 0), (6, .pv (.int .i64 nn)), (7, .pv (.int .i64 k)), (8, .pv (pints l))] [(big, srcO L k3), (0, zSch), (1, schO at2.length rs.length 0 (-1)), (2, .gro 61 (attrsC at2)), (3, .gro 40 (relsC rs)), (4, .gro 63 [])] 5) (I := fun l => EndOk at' at2 l most) ?_ ?_
            · repeat refine AW.seq ?_
              refine AW.region ?_
              refine RL.step (d := some 72) rfl rfl (xj_moveE rfl) ?_
              first | refine RL.step (d := some 73) rfl rfl (xj_len Try.underlying22 rfl) ?_ | refine RL.step (d := some 73) rfl rfl (xj_lenO Try.underlying22 rfl rfl) ?_ | refine RL.step (d := some 73) rfl rfl (xj_lenG Try.underlying22 rfl) ?_
              refine RL.step (d := some 74) rfl rfl (xj_bin rfl rfl rfl) ?_
              have hfin : l.length = 0 → most ≤ at2.length := by omega
              refine AW.cond rfl (fun hc => ?_) (fun hc => ?_)
              · have hl0' : l = [] := List.eq_nil_of_length_eq_zero (by simpa using hc)
                subst hl0'
                have hf := hfin rfl
                repeat refine AW.seq ?_
                refine AW.region ?_
                refine RL.step (d := some 75) rfl rfl (xj_buildSliceP none (by simp) el22 rfl (by decide) (by decide) rfl rfl) ?_
                refine RL.step (d := some 8) rfl rfl (xj_assignE rfl) ?_
                exact ⟨[0], St.le_mk ⟨rfl, rfl, rfl, rfl, rfl, rfl, rfl, trivial⟩ ⟨rfl, rfl, rfl, rfl, rfl, rfl, trivial⟩ rfl rfl, ⟨hmid.1, hmid.2.1, hmid.2.2.1, ⟨by simp, by simp; omega⟩, fun a h1 h2 => absurd (hmid.2.2.2.2 a h1 h2) (by simp)⟩, by simp, by omega⟩
              · have hne : l ≠ [] := fun e => by subst e; simp at hc
                have hpos : 0 < l.length := List.length_pos_iff.2 hne
                refine AW.skip ?_
                exact ⟨l, St.le.trans (St.le_pubA 5 rfl rfl) (St.le_mk ⟨rfl, rfl, rfl, rfl, rfl, rfl, by simp [pints]; rfl, trivial⟩ ⟨rfl, rfl, rfl, rfl, rfl, rfl, trivial⟩ rfl rfl), hmid, hne, by omega⟩
            · intro l2 hend
              repeat refine AW.seq ?_
              refine AW.draw follows [[], [0], [], [2], [], [4, 3, 2], [5, 4, 3, 2], [6, 1, 0, 5, 4, 3, 2], [7, 6, 5, 4, 3, 2, 1, 0], [8, 7, 6, 5, 4, 3, 2, 1, 0]] [0, 1, 2, 3, 4, 5, 6, 7, 8, 9] (by kernel_rfl) (by kernel_rfl) ?_
              first | refine DL.step (d := some 76) [_] rfl rfl rfl (fun τ h => xj_fieldAddr fo30_1 ((h.e 0 _ rfl).trans rfl) ((h.o 0 _ rfl).trans rfl)) rfl (by kernel_rfl) ?_ | refine DL.step (d := some 76) [] rfl rfl rfl (fun τ h => xj_fieldAddrR fo30_1 ((h.e 0 _ rfl).trans rfl)) rfl (by kernel_rfl) ?_
              first | refine DL.step (d := some 77) [_] rfl rfl rfl (fun τ h => xj_load1 ⟨_, Try.underlying27, rfl⟩ ((h.e 0 _ rfl).trans rfl) ((h.o 0 _ rfl).trans rfl) rfl) rfl (by kernel_rfl) ?_ | refine DL.step (d := some 77) [_] rfl rfl rfl (fun τ h => xj_load1P ⟨_, Try.underlying27, rfl⟩ ((h.e 0 _ rfl).trans rfl) ((h.o 0 _ rfl).trans rfl) (by first | rfl | assumption)) rfl (by kernel_rfl) ?_ | refine DL.step (d := some 77) [] rfl rfl rfl (fun τ h => xj_loadR ⟨_, Try.underlying27, rfl⟩ ((h.e 0 _ rfl).trans rfl) (by first | rfl | assumption)) rfl (by kernel_rfl) ?_
              refine DL.step (d := some 78) [] rfl rfl rfl (fun τ h => xj_moveE ((h.e 0 _ rfl).trans rfl)) rfl (by kernel_rfl) ?_
              refine DL.step (d := some 79) [] rfl rfl rfl (fun τ h => xj_call Try.call26 (letter_spec ⟨#[114]⟩ k (by decide) (by omega)) (h.argsP rfl)) rfl (by kernel_rfl) ?_
              refine DL.step (d := some 80) [] rfl rfl rfl (fun τ h => xj_moveE ((h.e 0 _ rfl).trans rfl)) rfl (by kernel_rfl) ?_
              refine DL.step (d := some 81) [] rfl rfl rfl (fun τ h => xj_build bi40 (h.fill rfl rfl)) rfl (by kernel_rfl) ?_
              refine DL.step (d := some 82) [] rfl rfl rfl (fun τ h => xj_buildSlice 5 el27 rfl (by decide) (by decide) (h.n 0 _ rfl) (h.fillS rfl rfl) rfl) rfl (by kernel_rfl) ?_
              first | refine DL.step (d := some 83) [_, _] rfl rfl rfl (fun τ h => xj_append1 6 el27 ((h.e 0 _ rfl).trans rfl) ((h.o 0 _ rfl).trans rfl) (by first | assumption | simp) ((h.e 1 _ rfl).trans rfl) ((h.o 1 _ rfl).trans rfl) rfl rfl (by omega) (h.n 0 _ rfl)) rfl (by kernel_rfl) ?_ | refine DL.step (d := some 83) [_] rfl rfl rfl (fun τ h => xj_append01 6 el27 ((h.e 0 _ rfl).trans rfl) ((h.e 1 _ rfl).trans rfl) ((h.o 0 _ rfl).trans rfl) rfl rfl (h.n 0 _ rfl)) rfl (by kernel_rfl) ?_ | refine DL.step (d := some 83) [_, _] rfl rfl rfl (fun τ h => xj_appendG1 6 el27 ((h.e 0 _ rfl).trans rfl) ((h.o 0 _ rfl).trans rfl) (by first | assumption | simp) ((h.e 1 _ rfl).trans rfl) ((h.o 1 _ rfl).trans rfl) rfl rfl (by omega) (h.n 0 _ rfl)) rfl (by kernel_rfl) ?_
              first | refine DL.step (d := some 84) [_] rfl rfl rfl (fun τ h => xj_fieldAddr fo30_1 ((h.e 0 _ rfl).trans rfl) ((h.o 0 _ rfl).trans rfl)) rfl (by kernel_rfl) ?_ | refine DL.step (d := some 84) [] rfl rfl rfl (fun τ h => xj_fieldAddrR fo30_1 ((h.e 0 _ rfl).trans rfl)) rfl (by kernel_rfl) ?_
              first | refine DL.step (d := none) [_] rfl rfl rfl (fun τ h => xj_store sz27 ((h.e 0 _ rfl).trans rfl) ((h.o 0 _ rfl).trans rfl) ((h.e 1 _ rfl).trans rfl) rfl (by first | (simp; done) | exact Nat.le_of_ble_eq_true rfl) rfl rfl) rfl (by kernel_rfl) ?_ | refine DL.step (d := none) [_] rfl rfl rfl (fun τ h => xj_storeP sz27 ((h.e 0 _ rfl).trans rfl) ((h.o 0 _ rfl).trans rfl) ((h.e 1 _ rfl).trans rfl) rfl (by simp; omega)) rfl (by kernel_rfl) ?_
              refine ⟨by kernel_rfl, ?_⟩
              repeat refine AW.seq ?_
              refine AW.region ?_
              refine RL.step (d := some 19) rfl rfl (xj_moveE rfl) ?_
              refine RL.step (d := some 20) rfl rfl (xj_add rfl rfl (by omega)) ?_
              refine RL.step (d := some 7) rfl rfl (xj_assignE rfl) ?_
              refine ⟨(k + 1, at2, rs ++ [(nm 114 k, l2)], k3), St.le_mkR [0, 1, 2, 6, 4] ⟨rfl, rfl, rfl, rfl, rfl, rfl, trivial⟩ ⟨rfl, rfl, by simp; rfl, rfl, by rw [relsC_snoc]; rfl, rfl, trivial⟩ rfl rfl (by simp) rfl, ⟨by simp only; omega, head_next hhead hend, hk3⟩, by simp only; omega⟩
        · have hlb : ((l.length : Int) == 0) = false := by rw [beq_eq_false_iff_ne]; omega
          repeat refine AW.seq ?_
          refine AW.region ?_
          refine RL.step (d := some 37) rfl rfl (xj_moveE rfl) ?_
          refine RL.step (d := some 38) rfl rfl (XJ.cast (v' := .pv (.bool false)) (xj_bin rfl rfl rfl) (by simp; omega)) ?_
          refine RL.step (d := some 39) rfl rfl (xj_moveE rfl) ?_
          refine RL.stepG (d := some 40) rfl rfl rfl (xj_moveE rfl) ?_
          first | refine RL.stepG (d := some 41) rfl rfl rfl (xj_len Try.underlying22 rfl) ?_ | refine RL.stepG (d := some 41) rfl rfl rfl (xj_lenO Try.underlying22 rfl rfl) ?_ | refine RL.stepG (d := some 41) rfl rfl rfl (xj_lenG Try.underlying22 rfl) ?_
          refine RL.stepG (d := some 42) rfl rfl rfl (XJ.cast (v' := .pv (.bool false)) (xj_bin rfl rfl rfl) (by rw [hlb])) ?_
          refine RL.step (d := some 43) rfl rfl (xj_pick rfl) ?_
          refine RL.step (d := some 44) rfl rfl (xj_moveE rfl) ?_
          refine RL.skipG rfl rfl rfl ?_
          refine RL.skipG rfl rfl rfl ?_
          refine RL.skipG rfl rfl rfl ?_
          refine RL.skipG rfl rfl rfl ?_
          refine RL.skipG rfl rfl rfl ?_
          refine RL.step (d := some 50) rfl rfl (xj_pick rfl) ?_
          refine AW.cond rfl (fun hc => absurd hc (by simp)) (fun hc => ?_)
          refine AW.exit ?_
          refine AW.cut (st := fun l : List Int => mkS [(0, .ptr big 0), (1, .pv (.int .i64 most)), (4, .ptr 0 0), (5, .ptr 1 0), (6, .pv (.int .i64 nn)), (7, .pv (.int .i64 k)), (8, .pv (pints l))] [(big, srcO L k3), (0, zSch), (1, schO at2.length rs.length 0 (-1)), (2, .gro 61 (attrsC at2)), (3, .gro 40 (relsC rs)), (4, .gro 63 [])] 5) (I := fun l => EndOk at' at2 l most) ?_ ?_
          · repeat refine AW.seq ?_
            refine AW.region ?_
            refine RL.step (d := some 72) rfl rfl (xj_moveE rfl) ?_
            first | refine RL.step (d := some 73) rfl rfl (xj_len Try.underlying22 rfl) ?_ | refine RL.step (d := some 73) rfl rfl (xj_lenO Try.underlying22 rfl rfl) ?_ | refine RL.step (d := some 73) rfl rfl (xj_lenG Try.underlying22 rfl) ?_
            refine RL.step (d := some 74) rfl rfl (xj_bin rfl rfl rfl) ?_
            have hfin : l.length = 0 → most ≤ at2.length := by omega
            refine AW.cond rfl (fun hc => ?_) (fun hc => ?_)
            · have hl0' : l = [] := List.eq_nil_of_length_eq_zero (by simpa using hc)
              subst hl0'
              have hf := hfin rfl
              repeat refine AW.seq ?_
              refine AW.region ?_
              refine RL.step (d := some 75) rfl rfl (xj_buildSliceP none (by simp) el22 rfl (by decide) (by decide) rfl rfl) ?_
              refine RL.step (d := some 8) rfl rfl (xj_assignE rfl) ?_
              exact ⟨[0], St.le_mk ⟨rfl, rfl, rfl, rfl, rfl, rfl, rfl, trivial⟩ ⟨rfl, rfl, rfl, rfl, rfl, rfl, trivial⟩ rfl rfl, ⟨hmid.1, hmid.2.1, hmid.2.2.1, ⟨by simp, by simp; omega⟩, fun a h1 h2 => absurd (hmid.2.2.2.2 a h1 h2) (by simp)⟩, by simp, by omega⟩
            · have hne : l ≠ [] := fun e => by subst e; simp at hc
              have hpos : 0 < l.length := List.length_pos_iff.2 hne
              refine AW.skip ?_
              exact ⟨l, St.le.trans (St.le_pubA 5 rfl rfl) (St.le_mk ⟨rfl, rfl, rfl, rfl, rfl, rfl, by simp [pints]; rfl, trivial⟩ ⟨rfl, rfl, rfl, rfl, rfl, rfl, trivial⟩ rfl rfl), hmid, hne, by omega⟩
          · intro l2 hend
            repeat refine AW.seq ?_
            refine AW.draw follows [[], [0], [], [2], [], [4, 3, 2], [5, 4, 3, 2], [6, 1, 0, 5, 4, 3, 2], [7, 6, 5, 4, 3, 2, 1, 0], [8, 7, 6, 5, 4, 3, 2, 1, 0]] [0, 1, 2, 3, 4, 5, 6, 7, 8, 9] (by kernel_rfl) (by kernel_rfl) ?_
            first | refine DL.step (d := some 76) [_] rfl rfl rfl (fun τ h => xj_fieldAddr fo30_1 ((h.e 0 _ rfl).trans rfl) ((h.o 0 _ rfl).trans rfl)) rfl (by kernel_rfl) ?_ | refine DL.step (d := some 76) [] rfl rfl rfl (fun τ h => xj_fieldAddrR fo30_1 ((h.e 0 _ rfl).trans rfl)) rfl (by kernel_rfl) ?_
            first | refine DL.step (d := some 77) [_] rfl rfl rfl (fun τ h => xj_load1 ⟨_, Try.underlying27, rfl⟩ ((h.e 0 _ rfl).trans rfl) ((h.o 0 _ rfl).trans rfl) rfl) rfl (by kernel_rfl) ?_ | refine DL.step (d := some 77) [_] rfl rfl rfl (fun τ h => xj_load1P ⟨_, Try.underlying27, rfl⟩ ((h.e 0 _ rfl).trans rfl) ((h.o 0 _ rfl).trans rfl) (by first | rfl | assumption)) rfl (by kernel_rfl) ?_ | refine DL.step (d := some 77) [] rfl rfl rfl (fun τ h => xj_loadR ⟨_, Try.underlying27, rfl⟩ ((h.e 0 _ rfl).trans rfl) (by first | rfl | assumption)) rfl (by kernel_rfl) ?_
            refine DL.step (d := some 78) [] rfl rfl rfl (fun τ h => xj_moveE ((h.e 0 _ rfl).trans rfl)) rfl (by kernel_rfl) ?_
            refine DL.step (d := some 79) [] rfl rfl rfl (fun τ h => xj_call Try.call26 (letter_spec ⟨#[114]⟩ k (by decide) (by omega)) (h.argsP rfl)) rfl (by kernel_rfl) ?_
            refine DL.step (d := some 80) [] rfl rfl rfl (fun τ h => xj_moveE ((h.e 0 _ rfl).trans rfl)) rfl (by kernel_rfl) ?_
            refine DL.step (d := some 81) [] rfl rfl rfl (fun τ h => xj_build bi40 (h.fill rfl rfl)) rfl (by kernel_rfl) ?_
            refine DL.step (d := some 82) [] rfl rfl rfl (fun τ h => xj_buildSlice 5 el27 rfl (by decide) (by decide) (h.n 0 _ rfl) (h.fillS rfl rfl) rfl) rfl (by kernel_rfl) ?_
            first | refine DL.step (d := some 83) [_, _] rfl rfl rfl (fun τ h => xj_append1 6 el27 ((h.e 0 _ rfl).trans rfl) ((h.o 0 _ rfl).trans rfl) (by first | assumption | simp) ((h.e 1 _ rfl).trans rfl) ((h.o 1 _ rfl).trans rfl) rfl rfl (by omega) (h.n 0 _ rfl)) rfl (by kernel_rfl) ?_ | refine DL.step (d := some 83) [_] rfl rfl rfl (fun τ h => xj_append01 6 el27 ((h.e 0 _ rfl).trans rfl) ((h.e 1 _ rfl).trans rfl) ((h.o 0 _ rfl).trans rfl) rfl rfl (h.n 0 _ rfl)) rfl (by kernel_rfl) ?_ | refine DL.step (d := some 83) [_, _] rfl rfl rfl (fun τ h => xj_appendG1 6 el27 ((h.e 0 _ rfl).trans rfl) ((h.o 0 _ rfl).trans rfl) (by first | assumption | simp) ((h.e 1 _ rfl).trans rfl) ((h.o 1 _ rfl).trans rfl) rfl rfl (by omega) (h.n 0 _ rfl)) rfl (by kernel_rfl) ?_
            first | refine DL.step (d := some 84) [_] rfl rfl rfl (fun τ h => xj_fieldAddr fo30_1 ((h.e 0 _ rfl).trans rfl) ((h.o 0 _ rfl).trans rfl)) rfl (by kernel_rfl) ?_ | refine DL.step (d := some 84) [] rfl rfl rfl (fun τ h => xj_fieldAddrR fo30_1 ((h.e 0 _ rfl).trans rfl)) rfl (by kernel_rfl) ?_
            first | refine DL.step (d := none) [_] rfl rfl rfl (fun τ h => xj_store sz27 ((h.e 0 _ rfl).trans rfl) ((h.o 0 _ rfl).trans rfl) ((h.e 1 _ rfl).trans rfl) rfl (by first | (simp; done) | exact Nat.le_of_ble_eq_true rfl) rfl rfl) rfl (by kernel_rfl) ?_ | refine DL.step (d := none) [_] rfl rfl rfl (fun τ h => xj_storeP sz27 ((h.e 0 _ rfl).trans rfl) ((h.o 0 _ rfl).trans rfl) ((h.e 1 _ rfl).trans rfl) rfl (by simp; omega)) rfl (by kernel_rfl) ?_
            refine ⟨by kernel_rfl, ?_⟩
            repeat refine AW.seq ?_
            refine AW.region ?_
            refine RL.step (d := some 19) rfl rfl (xj_moveE rfl) ?_
            refine RL.step (d := some 20) rfl rfl (xj_add rfl rfl (by omega)) ?_
            refine RL.step (d := some 7) rfl rfl (xj_assignE rfl) ?_
            refine ⟨(k + 1, at2, rs ++ [(nm 114 k, l2)], k3), St.le_mkR [0, 1, 2, 6, 4] ⟨rfl, rfl, rfl, rfl, rfl, rfl, trivial⟩ ⟨rfl, rfl, by simp; rfl, rfl, by rw [relsC_snoc]; rfl, rfl, trivial⟩ rfl rfl (by simp) rfl, ⟨by simp only; omega, head_next hhead hend, hk3⟩, by simp only; omega⟩
  · obtain rfl : k = nn := by omega
    have ha1 : 1 ≤ at'.length := hhead.2.2.2.2.2 (by omega)
    refine AW.exit ?_
    refine AW.weaken (St.le_pubA 2 rfl rfl) ?_
    refine AW.weaken (St.le_pubA 3 rfl rfl) ?_
    repeat refine AW.seq ?_
    refine AW.region ?_
    first | refine RL.step (d := some 85) rfl rfl (xj_fieldAddr fo30_0 rfl rfl) ?_ | refine RL.step (d := some 85) rfl rfl (xj_fieldAddrR fo30_0 rfl) ?_
    first | refine RL.step (d := some 86) rfl rfl (xj_load1 ⟨_, Try.underlying26, rfl⟩ rfl rfl rfl) ?_ | refine RL.step (d := some 86) rfl rfl (xj_load1P ⟨_, Try.underlying26, rfl⟩ rfl rfl (by first | rfl | assumption)) ?_ | refine RL.step (d := some 86) rfl rfl (xj_loadR ⟨_, Try.underlying26, rfl⟩ rfl (by first | rfl | assumption)) ?_
    first | refine RL.step (d := some 87) rfl rfl (xj_len Try.underlying26 rfl) ?_ | refine RL.step (d := some 87) rfl rfl (xj_lenO Try.underlying26 rfl rfl) ?_ | refine RL.step (d := some 87) rfl rfl (xj_lenG Try.underlying26 rfl) ?_
    refine RL.step (d := some 88) rfl rfl (xj_moveE rfl) ?_
    refine AW.block ?_
    refine AW.loop (st := fun x : Nat × List (Int × Int × Int) × Int × Nat => mkS [(0, .ptr big 0), (4, .ptr 0 0), (5, .ptr 1 0), (86, .pv (.sl none at'.length (attrsC at'))), (87, .pv (.int .i64 at'.length)), (88, .pv (.int .i64 x.1))] [(big, srcO L x.2.2.2), (0, zSch), (1, .mix 30 [.pv (.sl none at'.length (attrsC at')), .pv (.sl none rs.length (relsC rs)), .gsl 2 3 x.2.1.length, .pv (.int .i64 x.2.2.1)]), (2, .gro 63 (featsC x.2.1))] 3)
      (I := fun x => x.1 ≤ at'.length ∧ FeatsOk at' x.2.1 x.2.2.1 x.1 ∧ x.2.2.2 ≤ L.length) (μ := fun x => at'.length - x.1) (x0 := (0, [], -1, k2)) (St.le_mkR [0, 1, 4] ⟨rfl, rfl, rfl, rfl, rfl, rfl, trivial⟩ ⟨rfl, rfl, rfl, rfl, trivial⟩ rfl rfl (by simp) rfl) ⟨Nat.zero_le _, ⟨by simp, by simp, .inl rfl⟩, hk2⟩ ?_
    rintro ⟨j, fs, lb, k3⟩ ⟨hj, hfs, hk3⟩
    simp only at hj hfs hk3 ⊢
    have hFl := featsC_len fs
    have hfl := featsOk_len hfs
    have hlb := featsOk_lb hfs
    repeat refine AW.seq ?_
    refine AW.region ?_
    refine RL.step (d := some 89) rfl rfl (xj_bin rfl rfl rfl) ?_
    repeat refine AW.seq ?_
    refine AW.condP rfl (fun hc => ?_) (fun hc => ?_)
    · have hjl : j < at'.length := by omega
      have hne : attrsC at' ≠ [] := fun e => by rw [e] at hAl; simp at hAl; omega
      have hrow : ((attrsC at').drop (j * 2)).take 2 = [.str at'[j].1, .int .i64 at'[j].2] := flat_row _ 2 (fun _ => rfl) at' j hjl
      have hgd : (at'.getD j default).2 = at'[j].2 := by simp [List.getD, hjl]
      refine AW.skip ?_
      repeat refine AW.seq ?_
      refine AW.block ?_
      repeat refine AW.seq ?_
      refine AW.region ?_
      refine RL.step (d := some 90) rfl rfl (xj_moveE rfl) ?_
      first | refine RL.step (d := some 91) rfl rfl (xj_indexAddr _ Try.underlying26 sz61 rfl rfl rfl (by omega) (by assumption)) ?_ | refine RL.step (d := some 91) rfl rfl (xj_indexAddrO _ Try.underlying26 sz61 rfl rfl rfl rfl (by omega)) ?_
      refine RL.step (d := some 92) rfl rfl (xj_loadAR ⟨_, Try.underlying61, rfl⟩ sz61 rfl hrow rfl) ?_
      refine RL.step (d := some 12) rfl rfl (xj_alloc 3 zero61 rfl rfl) ?_
      refine RL.step (d := some 11) rfl rfl (xj_assignE rfl) ?_
      first | refine RL.step (d := none) rfl rfl (xj_store sz61 rfl rfl rfl rfl (by first | (simp; done) | exact Nat.le_of_ble_eq_true rfl) rfl rfl) ?_ | refine RL.step (d := none) rfl rfl (xj_storeP sz61 rfl rfl rfl rfl (by simp; omega)) ?_
      refine AW.block ?_
      generalize at'[j].2 = K at hgd ⊢
      generalize at'[j].1 = nme
      by_cases hK : K = 2
      · subst hK
        by_cases hl0 : lb < 0
        · repeat refine AW.seq ?_
          refine AW.region ?_
          first | refine RL.step (d := some 94) rfl rfl (xj_fieldAddr fo61_1 rfl rfl) ?_ | refine RL.step (d := some 94) rfl rfl (xj_fieldAddrR fo61_1 rfl) ?_
          first | refine RL.step (d := some 95) rfl rfl (xj_load1 ⟨_, Try.underlying3, rfl⟩ rfl rfl rfl) ?_ | refine RL.step (d := some 95) rfl rfl (xj_load1P ⟨_, Try.underlying3, rfl⟩ rfl rfl (by first | rfl | assumption)) ?_ | refine RL.step (d := some 95) rfl rfl (xj_loadR ⟨_, Try.underlying3, rfl⟩ rfl (by first | rfl | assumption)) ?_
          refine RL.step (d := some 96) rfl rfl (XJ.cast (v' := .pv (.bool true)) (xj_bin rfl rfl rfl) (by simp)) ?_
          refine RL.step (d := some 97) rfl rfl (xj_moveE rfl) ?_
          first | refine RL.stepG (d := some 98) rfl rfl rfl (xj_fieldAddr fo30_3 rfl rfl) ?_ | refine RL.stepG (d := some 98) rfl rfl rfl (xj_fieldAddrR fo30_3 rfl) ?_
          first | refine RL.stepG (d := some 99) rfl rfl rfl (xj_load1 ⟨_, Try.underlying3, rfl⟩ rfl rfl rfl) ?_ | refine RL.stepG (d := some 99) rfl rfl rfl (xj_load1P ⟨_, Try.underlying3, rfl⟩ rfl rfl (by first | rfl | assumption)) ?_ | refine RL.stepG (d := some 99) rfl rfl rfl (xj_loadR ⟨_, Try.underlying3, rfl⟩ rfl (by first | rfl | assumption)) ?_
          refine RL.stepG (d := some 100) rfl rfl rfl (XJ.cast (v' := .pv (.bool true)) (xj_bin rfl rfl rfl) (by simp; omega)) ?_
          refine RL.step (d := some 101) rfl rfl (xj_pick rfl) ?_
          refine RL.step (d := some 102) rfl rfl (xj_moveE rfl) ?_
          refine RL.stepG (d := some 103) rfl rfl rfl (xj_moveE rfl) ?_
          refine RL.stepG (d := some 104) rfl rfl rfl (xj_callM Try.call25 (n_spec L k3 2 hL hk3 (by omega) (by omega)) rfl rfl) ?_
          refine RL.stepG (d := some 105) rfl rfl rfl (xj_bin rfl rfl rfl) ?_
          refine RL.step (d := some 106) rfl rfl (xj_pick rfl) ?_
          refine RL.step (d := some 93) rfl rfl (xj_assignE rfl) ?_
          have hk4 := sNk_le hk3
          generalize sNk L k3 = k4 at hk4 ⊢
          refine AW.cond rfl (fun hc => ?_) (fun hc => ?_)
          · repeat refine AW.seq ?_
            refine AW.region ?_
            refine RL.step (d := some 107) rfl rfl (xj_moveE rfl) ?_
            first | refine RL.step (d := some 108) rfl rfl (xj_fieldAddr fo30_3 rfl rfl) ?_ | refine RL.step (d := some 108) rfl rfl (xj_fieldAddrR fo30_3 rfl) ?_
            first | refine RL.step (d := none) rfl rfl (xj_store sz3 rfl rfl rfl rfl (by first | (simp; done) | exact Nat.le_of_ble_eq_true rfl) rfl rfl) ?_ | refine RL.step (d := none) rfl rfl (xj_storeP sz3 rfl rfl rfl rfl (by simp; omega)) ?_
            repeat refine AW.seq ?_
            refine AW.region ?_
            refine RL.step (d := some 143) rfl rfl (xj_add rfl rfl (by omega)) ?_
            refine RL.step (d := some 88) rfl rfl (xj_moveE rfl) ?_
            exact ⟨(j + 1, fs, (j : Int), k4), St.le_mk ⟨rfl, rfl, rfl, rfl, rfl, rfl, trivial⟩ ⟨rfl, rfl, rfl, rfl, trivial⟩ rfl rfl, ⟨by simp only; omega, featsOk_label hfs hgd, hk4⟩, by simp only; omega⟩
          · repeat refine AW.seq ?_
            refine AW.region ?_
            first | refine RL.step (d := some 110) rfl rfl (xj_fieldAddr fo61_1 rfl rfl) ?_ | refine RL.step (d := some 110) rfl rfl (xj_fieldAddrR fo61_1 rfl) ?_
            first | refine RL.step (d := some 111) rfl rfl (xj_load1 ⟨_, Try.underlying3, rfl⟩ rfl rfl rfl) ?_ | refine RL.step (d := some 111) rfl rfl (xj_load1P ⟨_, Try.underlying3, rfl⟩ rfl rfl (by first | rfl | assumption)) ?_ | refine RL.step (d := some 111) rfl rfl (xj_loadR ⟨_, Try.underlying3, rfl⟩ rfl (by first | rfl | assumption)) ?_
            refine RL.step (d := some 112) rfl rfl (XJ.cast (v' := .pv (.bool true)) (xj_bin rfl rfl rfl) (by simp)) ?_
            refine RL.step (d := some 113) rfl rfl (xj_moveE rfl) ?_
            refine RL.stepG (d := some 114) rfl rfl rfl (xj_moveE rfl) ?_
            refine RL.stepG (d := some 115) rfl rfl rfl (xj_callM Try.call25 (n_spec L k4 4 hL hk4 (by omega) (by omega)) rfl rfl) ?_
            refine RL.stepG (d := some 116) rfl rfl rfl (xj_bin rfl rfl rfl) ?_
            refine RL.step (d := some 117) rfl rfl (xj_pick rfl) ?_
            refine RL.step (d := some 109) rfl rfl (xj_assignE rfl) ?_
            have hk5 := sNk_le hk4
            generalize sNk L k4 = k5 at hk5 ⊢
            refine AW.condP rfl (fun hc => ?_) (fun hc => ?_)
            · have hnb := sNv_bd L k5 2 (by omega)
              repeat refine AW.seq ?_
              refine AW.draw follows [[], [0], [], [], [3], [4, 2, 3], [5, 4, 2, 3], [6, 1, 0, 5, 4, 2, 3], [7, 6, 5, 4, 3, 2, 1, 0], [8, 7, 6, 5, 4, 3, 2, 1, 0]] [0, 1, 2, 3, 4, 5, 6, 7, 8, 9] (by kernel_rfl) (by kernel_rfl) ?_
              first | refine DL.step (d := some 118) [_] rfl rfl rfl (fun τ h => xj_fieldAddr fo30_2 ((h.e 0 _ rfl).trans rfl) ((h.o 0 _ rfl).trans rfl)) rfl (by kernel_rfl) ?_ | refine DL.step (d := some 118) [] rfl rfl rfl (fun τ h => xj_fieldAddrR fo30_2 ((h.e 0 _ rfl).trans rfl)) rfl (by kernel_rfl) ?_
              first | refine DL.step (d := some 119) [_] rfl rfl rfl (fun τ h => xj_load1 ⟨_, Try.underlying28, rfl⟩ ((h.e 0 _ rfl).trans rfl) ((h.o 0 _ rfl).trans rfl) rfl) rfl (by kernel_rfl) ?_ | refine DL.step (d := some 119) [_] rfl rfl rfl (fun τ h => xj_load1P ⟨_, Try.underlying28, rfl⟩ ((h.e 0 _ rfl).trans rfl) ((h.o 0 _ rfl).trans rfl) (by first | rfl | assumption)) rfl (by kernel_rfl) ?_ | refine DL.step (d := some 119) [] rfl rfl rfl (fun τ h => xj_loadR ⟨_, Try.underlying28, rfl⟩ ((h.e 0 _ rfl).trans rfl) (by first | rfl | assumption)) rfl (by kernel_rfl) ?_
              refine DL.step (d := some 120) [] rfl rfl rfl (fun τ h => xj_moveE ((h.e 0 _ rfl).trans rfl)) rfl (by kernel_rfl) ?_
              refine DL.step (d := some 121) [] rfl rfl rfl (fun τ h => xj_moveE ((h.e 0 _ rfl).trans rfl)) rfl (by kernel_rfl) ?_
              refine DL.step (d := some 122) [_] rfl rfl rfl (fun τ h => xj_callM Try.call25 (n_spec L k5 2 hL hk5 (by omega) (by omega)) (h.args.trans rfl) ((h.o 0 _ rfl).trans rfl)) rfl (by kernel_rfl) ?_
              refine DL.step (d := some 123) [] rfl rfl rfl (fun τ h => xj_build bi63 (h.fill rfl rfl)) rfl (by kernel_rfl) ?_
              refine DL.step (d := some 124) [] rfl rfl rfl (fun τ h => xj_buildSlice 4 el28 rfl (by decide) (by decide) (h.n 0 _ rfl) (h.fillS rfl rfl) rfl) rfl (by kernel_rfl) ?_
              first | refine DL.step (d := some 125) [_, _] rfl rfl rfl (fun τ h => xj_append1 5 el28 ((h.e 0 _ rfl).trans rfl) ((h.o 0 _ rfl).trans rfl) (by first | assumption | simp) ((h.e 1 _ rfl).trans rfl) ((h.o 1 _ rfl).trans rfl) rfl rfl (by omega) (h.n 0 _ rfl)) rfl (by kernel_rfl) ?_ | refine DL.step (d := some 125) [_] rfl rfl rfl (fun τ h => xj_append01 5 el28 ((h.e 0 _ rfl).trans rfl) ((h.e 1 _ rfl).trans rfl) ((h.o 0 _ rfl).trans rfl) rfl rfl (h.n 0 _ rfl)) rfl (by kernel_rfl) ?_ | refine DL.step (d := some 125) [_, _] rfl rfl rfl (fun τ h => xj_appendG1 5 el28 ((h.e 0 _ rfl).trans rfl) ((h.o 0 _ rfl).trans rfl) (by first | assumption | simp) ((h.e 1 _ rfl).trans rfl) ((h.o 1 _ rfl).trans rfl) rfl rfl (by omega) (h.n 0 _ rfl)) rfl (by kernel_rfl) ?_
              first | refine DL.step (d := some 126) [_] rfl rfl rfl (fun τ h => xj_fieldAddr fo30_2 ((h.e 0 _ rfl).trans rfl) ((h.o 0 _ rfl).trans rfl)) rfl (by kernel_rfl) ?_ | refine DL.step (d := some 126) [] rfl rfl rfl (fun τ h => xj_fieldAddrR fo30_2 ((h.e 0 _ rfl).trans rfl)) rfl (by kernel_rfl) ?_
              first | refine DL.step (d := none) [_] rfl rfl rfl (fun τ h => xj_store sz28 ((h.e 0 _ rfl).trans rfl) ((h.o 0 _ rfl).trans rfl) ((h.e 1 _ rfl).trans rfl) rfl (by first | (simp; done) | exact Nat.le_of_ble_eq_true rfl) rfl rfl) rfl (by kernel_rfl) ?_ | refine DL.step (d := none) [_] rfl rfl rfl (fun τ h => xj_storeP sz28 ((h.e 0 _ rfl).trans rfl) ((h.o 0 _ rfl).trans rfl) ((h.e 1 _ rfl).trans rfl) rfl (by simp; omega)) rfl (by kernel_rfl) ?_
              refine ⟨by kernel_rfl, ?_⟩
              repeat refine AW.seq ?_
              refine AW.region ?_
              refine RL.step (d := some 143) rfl rfl (xj_add rfl rfl (by omega)) ?_
              refine RL.step (d := some 88) rfl rfl (xj_moveE rfl) ?_
              exact ⟨(j + 1, fs ++ [((j : Int), 1, sNv L k5 2)], lb, sNk L k5), St.le_mkR [0, 1, 5] ⟨rfl, rfl, rfl, rfl, rfl, rfl, trivial⟩ ⟨rfl, rfl, by simp only [List.length_append, List.length_singleton]; rfl, congrArg (fun c => some (Ob.gro 63 c)) (featsC_snoc fs ((j : Int), 1, sNv L k5 2)).symm, trivial⟩ rfl rfl (by simp) rfl, ⟨by simp only; omega, featsOk_snoc hfs (by omega) (.inl ⟨rfl, hgd, by omega⟩), sNk_le hk5⟩, by simp only; omega⟩
            · repeat refine AW.seq ?_
              refine AW.region ?_
              first | refine RL.step (d := some 128) rfl rfl (xj_fieldAddr fo61_1 rfl rfl) ?_ | refine RL.step (d := some 128) rfl rfl (xj_fieldAddrR fo61_1 rfl) ?_
              first | refine RL.step (d := some 129) rfl rfl (xj_load1 ⟨_, Try.underlying3, rfl⟩ rfl rfl rfl) ?_ | refine RL.step (d := some 129) rfl rfl (xj_load1P ⟨_, Try.underlying3, rfl⟩ rfl rfl (by first | rfl | assumption)) ?_ | refine RL.step (d := some 129) rfl rfl (xj_loadR ⟨_, Try.underlying3, rfl⟩ rfl (by first | rfl | assumption)) ?_
              refine RL.step (d := some 130) rfl rfl (XJ.cast (v' := .pv (.bool false)) (xj_bin rfl rfl rfl) (by simp)) ?_
              refine RL.step (d := some 131) rfl rfl (xj_moveE rfl) ?_
              refine RL.skipG rfl rfl rfl ?_
              refine RL.skipG rfl rfl rfl ?_
              refine RL.skipG rfl rfl rfl ?_
              refine RL.step (d := some 135) rfl rfl (xj_pick rfl) ?_
              refine RL.step (d := some 127) rfl rfl (xj_assignE rfl) ?_
              refine AW.cond rfl (fun hc => absurd hc (by simp)) (fun hc => ?_)
              refine AW.skip ?_
              repeat refine AW.seq ?_
              refine AW.region ?_
              refine RL.step (d := some 143) rfl rfl (xj_add rfl rfl (by omega)) ?_
              refine RL.step (d := some 88) rfl rfl (xj_moveE rfl) ?_
              exact ⟨(j + 1, fs, lb, k5), St.le_mk ⟨rfl, rfl, rfl, rfl, rfl, rfl, trivial⟩ ⟨rfl, rfl, rfl, rfl, trivial⟩ rfl rfl, ⟨by simp only; omega, featsOk_next hfs, hk5⟩, by simp only; omega⟩
        · repeat refine AW.seq ?_
          refine AW.region ?_
          first | refine RL.step (d := some 94) rfl rfl (xj_fieldAddr fo61_1 rfl rfl) ?_ | refine RL.step (d := some 94) rfl rfl (xj_fieldAddrR fo61_1 rfl) ?_
          first | refine RL.step (d := some 95) rfl rfl (xj_load1 ⟨_, Try.underlying3, rfl⟩ rfl rfl rfl) ?_ | refine RL.step (d := some 95) rfl rfl (xj_load1P ⟨_, Try.underlying3, rfl⟩ rfl rfl (by first | rfl | assumption)) ?_ | refine RL.step (d := some 95) rfl rfl (xj_loadR ⟨_, Try.underlying3, rfl⟩ rfl (by first | rfl | assumption)) ?_
          refine RL.step (d := some 96) rfl rfl (XJ.cast (v' := .pv (.bool true)) (xj_bin rfl rfl rfl) (by simp)) ?_
          refine RL.step (d := some 97) rfl rfl (xj_moveE rfl) ?_
          first | refine RL.stepG (d := some 98) rfl rfl rfl (xj_fieldAddr fo30_3 rfl rfl) ?_ | refine RL.stepG (d := some 98) rfl rfl rfl (xj_fieldAddrR fo30_3 rfl) ?_
          first | refine RL.stepG (d := some 99) rfl rfl rfl (xj_load1 ⟨_, Try.underlying3, rfl⟩ rfl rfl rfl) ?_ | refine RL.stepG (d := some 99) rfl rfl rfl (xj_load1P ⟨_, Try.underlying3, rfl⟩ rfl rfl (by first | rfl | assumption)) ?_ | refine RL.stepG (d := some 99) rfl rfl rfl (xj_loadR ⟨_, Try.underlying3, rfl⟩ rfl (by first | rfl | assumption)) ?_
          refine RL.stepG (d := some 100) rfl rfl rfl (XJ.cast (v' := .pv (.bool false)) (xj_bin rfl rfl rfl) (by simp; omega)) ?_
          refine RL.step (d := some 101) rfl rfl (xj_pick rfl) ?_
          refine RL.step (d := some 102) rfl rfl (xj_moveE rfl) ?_
          refine RL.skipG rfl rfl rfl ?_
          refine RL.skipG rfl rfl rfl ?_
          refine RL.skipG rfl rfl rfl ?_
          refine RL.step (d := some 106) rfl rfl (xj_pick rfl) ?_
          refine RL.step (d := some 93) rfl rfl (xj_assignE rfl) ?_
          refine AW.cond rfl (fun hc => absurd hc (by simp)) (fun hc => ?_)
          repeat refine AW.seq ?_
          refine AW.region ?_
          first | refine RL.step (d := some 110) rfl rfl (xj_fieldAddr fo61_1 rfl rfl) ?_ | refine RL.step (d := some 110) rfl rfl (xj_fieldAddrR fo61_1 rfl) ?_
          first | refine RL.step (d := some 111) rfl rfl (xj_load1 ⟨_, Try.underlying3, rfl⟩ rfl rfl rfl) ?_ | refine RL.step (d := some 111) rfl rfl (xj_load1P ⟨_, Try.underlying3, rfl⟩ rfl rfl (by first | rfl | assumption)) ?_ | refine RL.step (d := some 111) rfl rfl (xj_loadR ⟨_, Try.underlying3, rfl⟩ rfl (by first | rfl | assumption)) ?_
          refine RL.step (d := some 112) rfl rfl (XJ.cast (v' := .pv (.bool true)) (xj_bin rfl rfl rfl) (by simp)) ?_
          refine RL.step (d := some 113) rfl rfl (xj_moveE rfl) ?_
          refine RL.stepG (d := some 114) rfl rfl rfl (xj_moveE rfl) ?_
          refine RL.stepG (d := some 115) rfl rfl rfl (xj_callM Try.call25 (n_spec L k3 4 hL hk3 (by omega) (by omega)) rfl rfl) ?_
          refine RL.stepG (d := some 116) rfl rfl rfl (xj_bin rfl rfl rfl) ?_
          refine RL.step (d := some 117) rfl rfl (xj_pick rfl) ?_
          refine RL.step (d := some 109) rfl rfl (xj_assignE rfl) ?_
          have hk5 := sNk_le hk3
          generalize sNk L k3 = k5 at hk5 ⊢
          refine AW.condP rfl (fun hc => ?_) (fun hc => ?_)
          · have hnb := sNv_bd L k5 2 (by omega)
            repeat refine AW.seq ?_
            refine AW.draw follows [[], [0], [], [], [3], [4, 2, 3], [5, 4, 2, 3], [6, 1, 0, 5, 4, 2, 3], [7, 6, 5, 4, 3, 2, 1, 0], [8, 7, 6, 5, 4, 3, 2, 1, 0]] [0, 1, 2, 3, 4, 5, 6, 7, 8, 9] (by kernel_rfl) (by kernel_rfl) ?_
            first | refine DL.step (d := some 118) [_] rfl rfl rfl (fun τ h => xj_fieldAddr fo30_2 ((h.e 0 _ rfl).trans rfl) ((h.o 0 _ rfl).trans rfl)) rfl (by kernel_rfl) ?_ | refine DL.step (d := some 118) [] rfl rfl rfl (fun τ h => xj_fieldAddrR fo30_2 ((h.e 0 _ rfl).trans rfl)) rfl (by kernel_rfl) ?_
            first | refine DL.step (d := some 119) [_] rfl rfl rfl (fun τ h => xj_load1 ⟨_, Try.underlying28, rfl⟩ ((h.e 0 _ rfl).trans rfl) ((h.o 0 _ rfl).trans rfl) rfl) rfl (by kernel_rfl) ?_ | refine DL.step (d := some 119) [_] rfl rfl rfl (fun τ h => xj_load1P ⟨_, Try.underlying28, rfl⟩ ((h.e 0 _ rfl).trans rfl) ((h.o 0 _ rfl).trans rfl) (by first | rfl | assumption)) rfl (by kernel_rfl) ?_ | refine DL.step (d := some 119) [] rfl rfl rfl (fun τ h => xj_loadR ⟨_, Try.underlying28, rfl⟩ ((h.e 0 _ rfl).trans rfl) (by first | rfl | assumption)) rfl (by kernel_rfl) ?_
            refine DL.step (d := some 120) [] rfl rfl rfl (fun τ h => xj_moveE ((h.e 0 _ rfl).trans rfl)) rfl (by kernel_rfl) ?_
            refine DL.step (d := some 121) [] rfl rfl rfl (fun τ h => xj_moveE ((h.e 0 _ rfl).trans rfl)) rfl (by kernel_rfl) ?_
            refine DL.step (d := some 122) [_] rfl rfl rfl (fun τ h => xj_callM Try.call25 (n_spec L k5 2 hL hk5 (by omega) (by omega)) (h.args.trans rfl) ((h.o 0 _ rfl).trans rfl)) rfl (by kernel_rfl) ?_
            refine DL.step (d := some 123) [] rfl rfl rfl (fun τ h => xj_build bi63 (h.fill rfl rfl)) rfl (by kernel_rfl) ?_
            refine DL.step (d := some 124) [] rfl rfl rfl (fun τ h => xj_buildSlice 4 el28 rfl (by decide) (by decide) (h.n 0 _ rfl) (h.fillS rfl rfl) rfl) rfl (by kernel_rfl) ?_
            first | refine DL.step (d := some 125) [_, _] rfl rfl rfl (fun τ h => xj_append1 5 el28 ((h.e 0 _ rfl).trans rfl) ((h.o 0 _ rfl).trans rfl) (by first | assumption | simp) ((h.e 1 _ rfl).trans rfl) ((h.o 1 _ rfl).trans rfl) rfl rfl (by omega) (h.n 0 _ rfl)) rfl (by kernel_rfl) ?_ | refine DL.step (d := some 125) [_] rfl rfl rfl (fun τ h => xj_append01 5 el28 ((h.e 0 _ rfl).trans rfl) ((h.e 1 _ rfl).trans rfl) ((h.o 0 _ rfl).trans rfl) rfl rfl (h.n 0 _ rfl)) rfl (by kernel_rfl) ?_ | refine DL.step (d := some 125) [_, _] rfl rfl rfl (fun τ h => xj_appendG1 5 el28 ((h.e 0 _ rfl).trans rfl) ((h.o 0 _ rfl).trans rfl) (by first | assumption | simp) ((h.e 1 _ rfl).trans rfl) ((h.o 1 _ rfl).trans rfl) rfl rfl (by omega) (h.n 0 _ rfl)) rfl (by kernel_rfl) ?_
            first | refine DL.step (d := some 126) [_] rfl rfl rfl (fun τ h => xj_fieldAddr fo30_2 ((h.e 0 _ rfl).trans rfl) ((h.o 0 _ rfl).trans rfl)) rfl (by kernel_rfl) ?_ | refine DL.step (d := some 126) [] rfl rfl rfl (fun τ h => xj_fieldAddrR fo30_2 ((h.e 0 _ rfl).trans rfl)) rfl (by kernel_rfl) ?_
            first | refine DL.step (d := none) [_] rfl rfl rfl (fun τ h => xj_store sz28 ((h.e 0 _ rfl).trans rfl) ((h.o 0 _ rfl).trans rfl) ((h.e 1 _ rfl).trans rfl) rfl (by first | (simp; done) | exact Nat.le_of_ble_eq_true rfl) rfl rfl) rfl (by kernel_rfl) ?_ | refine DL.step (d := none) [_] rfl rfl rfl (fun τ h => xj_storeP sz28 ((h.e 0 _ rfl).trans rfl) ((h.o 0 _ rfl).trans rfl) ((h.e 1 _ rfl).trans rfl) rfl (by simp; omega)) rfl (by kernel_rfl) ?_
            refine ⟨by kernel_rfl, ?_⟩
            repeat refine AW.seq ?_
            refine AW.region ?_
            refine RL.step (d := some 143) rfl rfl (xj_add rfl rfl (by omega)) ?_
            refine RL.step (d := some 88) rfl rfl (xj_moveE rfl) ?_
            exact ⟨(j + 1, fs ++ [((j : Int), 1, sNv L k5 2)], lb, sNk L k5), St.le_mkR [0, 1, 5] ⟨rfl, rfl, rfl, rfl, rfl, rfl, trivial⟩ ⟨rfl, rfl, by simp only [List.length_append, List.length_singleton]; rfl, congrArg (fun c => some (Ob.gro 63 c)) (featsC_snoc fs ((j : Int), 1, sNv L k5 2)).symm, trivial⟩ rfl rfl (by simp) rfl, ⟨by simp only; omega, featsOk_snoc hfs (by omega) (.inl ⟨rfl, hgd, by omega⟩), sNk_le hk5⟩, by simp only; omega⟩
          · repeat refine AW.seq ?_
            refine AW.region ?_
            first | refine RL.step (d := some 128) rfl rfl (xj_fieldAddr fo61_1 rfl rfl) ?_ | refine RL.step (d := some 128) rfl rfl (xj_fieldAddrR fo61_1 rfl) ?_
            first | refine RL.step (d := some 129) rfl rfl (xj_load1 ⟨_, Try.underlying3, rfl⟩ rfl rfl rfl) ?_ | refine RL.step (d := some 129) rfl rfl (xj_load1P ⟨_, Try.underlying3, rfl⟩ rfl rfl (by first | rfl | assumption)) ?_ | refine RL.step (d := some 129) rfl rfl (xj_loadR ⟨_, Try.underlying3, rfl⟩ rfl (by first | rfl | assumption)) ?_
            refine RL.step (d := some 130) rfl rfl (XJ.cast (v' := .pv (.bool false)) (xj_bin rfl rfl rfl) (by simp)) ?_
            refine RL.step (d := some 131) rfl rfl (xj_moveE rfl) ?_
            refine RL.skipG rfl rfl rfl ?_
            refine RL.skipG rfl rfl rfl ?_
            refine RL.skipG rfl rfl rfl ?_
            refine RL.step (d := some 135) rfl rfl (xj_pick rfl) ?_
            refine RL.step (d := some 127) rfl rfl (xj_assignE rfl) ?_
            refine AW.cond rfl (fun hc => absurd hc (by simp)) (fun hc => ?_)
            refine AW.skip ?_
            repeat refine AW.seq ?_
            refine AW.region ?_
            refine RL.step (d := some 143) rfl rfl (xj_add rfl rfl (by omega)) ?_
            refine RL.step (d := some 88) rfl rfl (xj_moveE rfl) ?_
            exact ⟨(j + 1, fs, lb, k5), St.le_mk ⟨rfl, rfl, rfl, rfl, rfl, rfl, trivial⟩ ⟨rfl, rfl, rfl, rfl, trivial⟩ rfl rfl, ⟨by simp only; omega, featsOk_next hfs, hk5⟩, by simp only; omega⟩
      · have hKb : (K == 2) = false := by simpa using hK
        repeat refine AW.seq ?_
        refine AW.region ?_
        first | refine RL.step (d := some 94) rfl rfl (xj_fieldAddr fo61_1 rfl rfl) ?_ | refine RL.step (d := some 94) rfl rfl (xj_fieldAddrR fo61_1 rfl) ?_
        first | refine RL.step (d := some 95) rfl rfl (xj_load1 ⟨_, Try.underlying3, rfl⟩ rfl rfl rfl) ?_ | refine RL.step (d := some 95) rfl rfl (xj_load1P ⟨_, Try.underlying3, rfl⟩ rfl rfl (by first | rfl | assumption)) ?_ | refine RL.step (d := some 95) rfl rfl (xj_loadR ⟨_, Try.underlying3, rfl⟩ rfl (by first | rfl | assumption)) ?_
        refine RL.step (d := some 96) rfl rfl (XJ.cast (v' := .pv (.bool false)) (xj_bin rfl rfl rfl) (by rw [hKb])) ?_
        refine RL.step (d := some 97) rfl rfl (xj_moveE rfl) ?_
        refine RL.skipG rfl rfl rfl ?_
        refine RL.skipG rfl rfl rfl ?_
        refine RL.skipG rfl rfl rfl ?_
        refine RL.step (d := some 101) rfl rfl (xj_pick rfl) ?_
        refine RL.step (d := some 102) rfl rfl (xj_moveE rfl) ?_
        refine RL.skipG rfl rfl rfl ?_
        refine RL.skipG rfl rfl rfl ?_
        refine RL.skipG rfl rfl rfl ?_
        refine RL.step (d := some 106) rfl rfl (xj_pick rfl) ?_
        refine RL.step (d := some 93) rfl rfl (xj_assignE rfl) ?_
        refine AW.cond rfl (fun hc => absurd hc (by simp)) (fun hc => ?_)
        repeat refine AW.seq ?_
        refine AW.region ?_
        first | refine RL.step (d := some 110) rfl rfl (xj_fieldAddr fo61_1 rfl rfl) ?_ | refine RL.step (d := some 110) rfl rfl (xj_fieldAddrR fo61_1 rfl) ?_
        first | refine RL.step (d := some 111) rfl rfl (xj_load1 ⟨_, Try.underlying3, rfl⟩ rfl rfl rfl) ?_ | refine RL.step (d := some 111) rfl rfl (xj_load1P ⟨_, Try.underlying3, rfl⟩ rfl rfl (by first | rfl | assumption)) ?_ | refine RL.step (d := some 111) rfl rfl (xj_loadR ⟨_, Try.underlying3, rfl⟩ rfl (by first | rfl | assumption)) ?_
        refine RL.step (d := some 112) rfl rfl (XJ.cast (v' := .pv (.bool false)) (xj_bin rfl rfl rfl) (by rw [hKb])) ?_
        refine RL.step (d := some 113) rfl rfl (xj_moveE rfl) ?_
        refine RL.skipG rfl rfl rfl ?_
        refine RL.skipG rfl rfl rfl ?_
        refine RL.skipG rfl rfl rfl ?_
        refine RL.step (d := some 117) rfl rfl (xj_pick rfl) ?_
        refine RL.step (d := some 109) rfl rfl (xj_assignE rfl) ?_
        refine AW.cond rfl (fun hc => absurd hc (by simp)) (fun hc => ?_)
        by_cases hK3 : K = 3
        · subst hK3
          repeat refine AW.seq ?_
          refine AW.region ?_
          first | refine RL.step (d := some 128) rfl rfl (xj_fieldAddr fo61_1 rfl rfl) ?_ | refine RL.step (d := some 128) rfl rfl (xj_fieldAddrR fo61_1 rfl) ?_
          first | refine RL.step (d := some 129) rfl rfl (xj_load1 ⟨_, Try.underlying3, rfl⟩ rfl rfl rfl) ?_ | refine RL.step (d := some 129) rfl rfl (xj_load1P ⟨_, Try.underlying3, rfl⟩ rfl rfl (by first | rfl | assumption)) ?_ | refine RL.step (d := some 129) rfl rfl (xj_loadR ⟨_, Try.underlying3, rfl⟩ rfl (by first | rfl | assumption)) ?_
          refine RL.step (d := some 130) rfl rfl (XJ.cast (v' := .pv (.bool true)) (xj_bin rfl rfl rfl) (by simp)) ?_
          refine RL.step (d := some 131) rfl rfl (xj_moveE rfl) ?_
          refine RL.stepG (d := some 132) rfl rfl rfl (xj_moveE rfl) ?_
          refine RL.stepG (d := some 133) rfl rfl rfl (xj_callM Try.call25 (n_spec L k3 4 hL hk3 (by omega) (by omega)) rfl rfl) ?_
          refine RL.stepG (d := some 134) rfl rfl rfl (xj_bin rfl rfl rfl) ?_
          refine RL.step (d := some 135) rfl rfl (xj_pick rfl) ?_
          refine RL.step (d := some 127) rfl rfl (xj_assignE rfl) ?_
          refine AW.condP rfl (fun hc => ?_) (fun hc => ?_)
          · repeat refine AW.seq ?_
            refine AW.region ?_
            first | refine RL.step (d := some 136) rfl rfl (xj_fieldAddr fo30_2 rfl rfl) ?_ | refine RL.step (d := some 136) rfl rfl (xj_fieldAddrR fo30_2 rfl) ?_
            first | refine RL.step (d := some 137) rfl rfl (xj_load1 ⟨_, Try.underlying28, rfl⟩ rfl rfl rfl) ?_ | refine RL.step (d := some 137) rfl rfl (xj_load1P ⟨_, Try.underlying28, rfl⟩ rfl rfl (by first | rfl | assumption)) ?_ | refine RL.step (d := some 137) rfl rfl (xj_loadR ⟨_, Try.underlying28, rfl⟩ rfl (by first | rfl | assumption)) ?_
            refine RL.step (d := some 138) rfl rfl (xj_moveE rfl) ?_
            refine RL.step (d := some 139) rfl rfl (xj_build bi63 rfl) ?_
            refine RL.step (d := some 140) rfl rfl (xj_buildSlice 4 el28 rfl (by decide) (by decide) rfl rfl rfl) ?_
            first | refine RL.step (d := some 141) rfl rfl (xj_append1 5 el28 rfl rfl (by first | assumption | simp) rfl rfl rfl rfl (by omega) rfl) ?_ | refine RL.step (d := some 141) rfl rfl (xj_append01 5 el28 rfl rfl rfl rfl rfl rfl) ?_ | refine RL.step (d := some 141) rfl rfl (xj_appendG1 5 el28 rfl rfl (by first | assumption | simp) rfl rfl rfl rfl (by omega) rfl) ?_
            first | refine RL.step (d := some 142) rfl rfl (xj_fieldAddr fo30_2 rfl rfl) ?_ | refine RL.step (d := some 142) rfl rfl (xj_fieldAddrR fo30_2 rfl) ?_
            first | refine RL.step (d := none) rfl rfl (xj_store sz28 rfl rfl rfl rfl (by first | (simp; done) | exact Nat.le_of_ble_eq_true rfl) rfl rfl) ?_ | refine RL.step (d := none) rfl rfl (xj_storeP sz28 rfl rfl rfl rfl (by simp; omega)) ?_
            repeat refine AW.seq ?_
            refine AW.region ?_
            refine RL.step (d := some 143) rfl rfl (xj_add rfl rfl (by omega)) ?_
            refine RL.step (d := some 88) rfl rfl (xj_moveE rfl) ?_
            exact ⟨(j + 1, fs ++ [((j : Int), 2, 0)], lb, sNk L k3), St.le_mkR [0, 1, 5] ⟨rfl, rfl, rfl, rfl, rfl, rfl, trivial⟩ ⟨rfl, rfl, by simp only [List.length_append, List.length_singleton]; rfl, congrArg (fun c => some (Ob.gro 63 c)) (featsC_snoc fs ((j : Int), 2, 0)).symm, trivial⟩ rfl rfl (by simp) rfl, ⟨by simp only; omega, featsOk_snoc hfs (by omega) (.inr ⟨rfl, hgd, rfl⟩), sNk_le hk3⟩, by simp only; omega⟩
          · refine AW.skip ?_
            repeat refine AW.seq ?_
            refine AW.region ?_
            refine RL.step (d := some 143) rfl rfl (xj_add rfl rfl (by omega)) ?_
            refine RL.step (d := some 88) rfl rfl (xj_moveE rfl) ?_
            exact ⟨(j + 1, fs, lb, sNk L k3), St.le_mk ⟨rfl, rfl, rfl, rfl, rfl, rfl, trivial⟩ ⟨rfl, rfl, rfl, rfl, trivial⟩ rfl rfl, ⟨by simp only; omega, featsOk_next hfs, sNk_le hk3⟩, by simp only; omega⟩
        · have hKb3 : (K == 3) = false := by simpa using hK3
          repeat refine AW.seq ?_
          refine AW.region ?_
          first | refine RL.step (d := some 128) rfl rfl (xj_fieldAddr fo61_1 rfl rfl) ?_ | refine RL.step (d := some 128) rfl rfl (xj_fieldAddrR fo61_1 rfl) ?_
          first | refine RL.step (d := some 129) rfl rfl (xj_load1 ⟨_, Try.underlying3, rfl⟩ rfl rfl rfl) ?_ | refine RL.step (d := some 129) rfl rfl (xj_load1P ⟨_, Try.underlying3, rfl⟩ rfl rfl (by first | rfl | assumption)) ?_ | refine RL.step (d := some 129) rfl rfl (xj_loadR ⟨_, Try.underlying3, rfl⟩ rfl (by first | rfl | assumption)) ?_
          refine RL.step (d := some 130) rfl rfl (XJ.cast (v' := .pv (.bool false)) (xj_bin rfl rfl rfl) (by rw [hKb3])) ?_
          refine RL.step (d := some 131) rfl rfl (xj_moveE rfl) ?_
          refine RL.skipG rfl rfl rfl ?_
          refine RL.skipG rfl rfl rfl ?_
          refine RL.skipG rfl rfl rfl ?_
          refine RL.step (d := some 135) rfl rfl (xj_pick rfl) ?_
          refine RL.step (d := some 127) rfl rfl (xj_assignE rfl) ?_
          refine AW.cond rfl (fun hc => absurd hc (by simp)) (fun hc => ?_)
          refine AW.skip ?_
          repeat refine AW.seq ?_
          refine AW.region ?_
          refine RL.step (d := some 143) rfl rfl (xj_add rfl rfl (by omega)) ?_
          refine RL.step (d := some 88) rfl rfl (xj_moveE rfl) ?_
          exact ⟨(j + 1, fs, lb, k3), St.le_mk ⟨rfl, rfl, rfl, rfl, rfl, rfl, trivial⟩ ⟨rfl, rfl, rfl, rfl, trivial⟩ rfl rfl, ⟨by simp only; omega, featsOk_next hfs, hk3⟩, by simp only; omega⟩
    · obtain rfl : j = at'.length := by omega
      refine AW.exit ?_
      repeat refine AW.seq ?_
      refine AW.region ?_
      first | refine RL.step (d := some 144) rfl rfl (xj_fieldAddr fo30_2 rfl rfl) ?_ | refine RL.step (d := some 144) rfl rfl (xj_fieldAddrR fo30_2 rfl) ?_
      first | refine RL.step (d := some 145) rfl rfl (xj_load1 ⟨_, Try.underlying28, rfl⟩ rfl rfl rfl) ?_ | refine RL.step (d := some 145) rfl rfl (xj_load1P ⟨_, Try.underlying28, rfl⟩ rfl rfl (by first | rfl | assumption)) ?_ | refine RL.step (d := some 145) rfl rfl (xj_loadR ⟨_, Try.underlying28, rfl⟩ rfl (by first | rfl | assumption)) ?_
      first | refine RL.step (d := some 146) rfl rfl (xj_len Try.underlying28 rfl) ?_ | refine RL.step (d := some 146) rfl rfl (xj_lenO Try.underlying28 rfl rfl) ?_ | refine RL.step (d := some 146) rfl rfl (xj_lenG Try.underlying28 rfl) ?_
      refine RL.step (d := some 147) rfl rfl (xj_bin rfl rfl rfl) ?_
      refine AW.condP rfl (fun hc => absurd hc (by omega)) (fun hc => ?_)
      refine AW.skip ?_
      refine AW.weaken (St.le_pubA 2 rfl rfl) ?_
      repeat refine AW.seq ?_
      refine AW.region ?_
      first | refine RL.step (d := some 152) rfl rfl (xj_loadA ⟨_, Try.underlying30, rfl⟩ sz30 rfl rfl rfl rfl) ?_ | refine RL.step (d := some 152) rfl rfl (xj_loadAP ⟨_, Try.underlying30, rfl⟩ sz30 rfl rfl rfl rfl) ?_ | refine RL.step (d := some 152) rfl rfl (xj_loadAR ⟨_, Try.underlying30, rfl⟩ sz30 rfl rfl rfl) ?_
      first | refine RL.step (d := none) rfl rfl (xj_store sz30 rfl rfl rfl rfl (by first | (simp; done) | exact Nat.le_of_ble_eq_true rfl) rfl rfl) ?_ | refine RL.step (d := none) rfl rfl (xj_storeP sz30 rfl rfl rfl rfl (by simp; omega)) ?_
      refine AW.ret ?_
      exact ⟨0, _, schC ⟨at', rs, fs, lb⟩, srcC L k3, rfl, rfl, rfl, rfl, rfl, ⟨⟨at', rs, fs, lb⟩, ⟨ha1, hal, by simp only; omega, by simp only; omega, hhead.1, hhead.2.1, hhead.2.2.1, hfs⟩, rfl⟩, k3, hk3, rfl⟩

end Go.Proofs.Ytkalgjnhaicabaa
