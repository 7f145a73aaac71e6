/-
  The features of a schema (schema.features), in our step logic. No statement of the program is proved here.
-/
import Derived.Test.YtkalgjnhaicabaaS3
namespace Go.Proofs.Ytkalgjnhaicabaa
open Go.RowKit Mk
set_option maxRecDepth 100000
set_option maxHeartbeats 1000000

abbrev featR (f : Int × Int × Int) : List PV := [.int .i64 f.1, .int .i64 f.2.1, .int .i64 f.2.2]
theorem feat_row {l : List (Int × Int × Int)} {k : Nat} (h : k < l.length) : ((featsC l).drop (k * 3)).take 3 = featR l[k] := flat_row _ 3 (fun _ => rfl) l k h
theorem feat_ne {l : List (Int × Int × Int)} {k : Nat} (h : k < l.length) : featsC l ≠ [] := fun e => by have := featsC_len l; rw [e] at this; simp at this; omega
theorem any_take {α : Type} {l : List α} {p : α → Bool} {k : Nat} (hk : k < l.length) (h : (l.take k).any p = false) (hn : p l[k] = false) : (l.take (k + 1)).any p = false := by
  rw [take_snoc hk]; simp only [List.any_append, h, List.any_cons, hn, List.any_nil, Bool.or_false]
theorem any_at {α : Type} {l : List α} {p : α → Bool} {k : Nat} (hk : k < l.length) (h : p l[k] = true) : l.any p = true := List.any_eq_true.2 ⟨_, List.getElem_mem hk, h⟩

theorem idxF_spec (l : List (Int × Int × Int)) (g : FuncId) (caps : List PV) (p : Int × Int × Int → Bool) (hl : l.length ≤ 1000000) (hc : CallOk Try.prog g) (hg : ∀ f ∈ l, FnP Try.prog g ([] ++ [.agg (featR f)] ++ caps) (· = .bool (p f))) :
    FnP Try.prog 78 [.sl none l.length (featsC l), .fn (.func g) [] caps] (fun v => ∃ i : Int, v = .int .i64 i ∧ decide (0 ≤ i) = l.any p) := by
  refine FnP.of Try.func78 rfl Try.ntmps78 (by simp) fun m0 w0 F R0 => ?_
  repeat refine AW.seq ?_
  refine AW.region ?_
  refine RL.step (d := some 4) rfl rfl (xj_assignE rfl) ?_
  repeat refine AW.seq ?_
  refine AW.region ?_
  refine RL.step (d := some 6) rfl rfl (xj_moveE rfl) ?_
  first | refine RL.step (d := some 7) rfl rfl (xj_len Try.underlying28 rfl) ?_ | refine RL.step (d := some 7) rfl rfl (xj_lenO Try.underlying28 rfl rfl) ?_ | refine RL.step (d := some 7) rfl rfl (xj_lenG Try.underlying28 rfl) ?_
  refine RL.step (d := some 8) rfl rfl (xj_moveE rfl) ?_
  repeat refine AW.seq ?_
  refine AW.block ?_
  repeat refine AW.seq ?_
  refine AW.loop (st := fun x_0 : Nat => mkS [(0, .pv (.sl none l.length (featsC l))), (1, .pv (.fn (.func g) [] caps)), (7, .pv (.int .i64 l.length)), (8, .pv (.int .i64 x_0))] [] 0)
    (I := fun x_0 => x_0 ≤ l.length ∧ (l.take x_0).any p = false) (μ := fun x_0 => l.length - x_0) (x0 := (0)) (St.le_mk ⟨rfl, rfl, rfl, rfl, trivial⟩ trivial rfl rfl) (⟨Nat.zero_le _, rfl⟩) ?_
  rintro k ⟨hk, hno⟩
  repeat refine AW.seq ?_
  refine AW.region ?_
  refine RL.step (d := some 9) rfl rfl (xj_bin rfl rfl rfl) ?_
  repeat refine AW.seq ?_
  refine AW.condP rfl (fun hc9 => ?_) (fun hc9 => ?_)
  · have hlt : k < l.length := by omega
    have hrow := feat_row hlt
    have hne := feat_ne hlt
    have hgk := hg _ (List.getElem_mem hlt)
    refine AW.skip ?_
    repeat refine AW.seq ?_
    refine AW.block ?_
    repeat refine AW.seq ?_
    refine AW.region ?_
    refine RL.step (d := some 10) rfl rfl (xj_moveE rfl) ?_
    refine RL.step (d := some 5) rfl rfl (xj_assignE rfl) ?_
    repeat refine AW.seq ?_
    refine AW.region ?_
    refine RL.step (d := some 11) rfl rfl (xj_moveE rfl) ?_
    refine RL.step (d := some 12) rfl rfl (xj_moveE rfl) ?_
    refine RL.step (d := some 13) rfl rfl (xj_moveE rfl) ?_
    first | refine RL.step (d := some 14) rfl rfl (xj_indexAddr _ Try.underlying28 sz63 rfl rfl rfl (by omega) (by assumption)) ?_ | refine RL.step (d := some 14) rfl rfl (xj_indexAddrO _ Try.underlying28 sz63 rfl rfl rfl rfl (by omega)) ?_
    refine RL.step (d := some 15) rfl rfl (xj_loadAR ⟨_, Try.underlying63, rfl⟩ sz63 rfl hrow rfl) ?_
    refine RL.step (d := some 16) rfl rfl (xj_callV hc rfl hgk rfl) ?_
    repeat refine AW.seq ?_
    refine AW.cond rfl (fun hc16 => ?_) (fun hc16 => ?_)
    · repeat refine AW.seq ?_
      refine AW.region ?_
      refine RL.step (d := some 17) rfl rfl (xj_moveE rfl) ?_
      refine RL.step (d := some 4) rfl rfl (xj_assignE rfl) ?_
      repeat refine AW.seq ?_
      refine AW.ret ?_
      exact ⟨_, _, rfl, rfl, _, rfl, by rw [any_at hlt hc16]; exact decide_eq_true (by omega)⟩
    · refine AW.skip ?_
      repeat refine AW.seq ?_
      refine AW.region ?_
      refine RL.step (d := some 18) rfl rfl (xj_add rfl rfl (by omega)) ?_
      refine RL.step (d := some 8) rfl rfl (xj_moveE rfl) ?_
      exact ⟨(k + 1), St.le_mk ⟨rfl, rfl, rfl, rfl, trivial⟩ trivial rfl rfl, ⟨by omega, any_take hlt hno hc16⟩, by omega⟩
  · repeat refine AW.seq ?_
    refine AW.exit ?_
    repeat refine AW.seq ?_
    refine AW.region ?_
    refine RL.step (d := some 4) rfl rfl (xj_assignE rfl) ?_
    repeat refine AW.seq ?_
    refine AW.ret ?_
    exact ⟨_, _, rfl, rfl, _, rfl, by rw [List.take_of_length_le (by omega)] at hno; rw [hno]; rfl⟩
theorem containsF_spec (l : List (Int × Int × Int)) (g : FuncId) (caps : List PV) (p : Int × Int × Int → Bool) (hl : l.length ≤ 1000000) (hc : CallOk Try.prog g) (hg : ∀ f ∈ l, FnP Try.prog g ([] ++ [.agg (featR f)] ++ caps) (· = .bool (p f))) :
    FnP Try.prog 65 [.sl none l.length (featsC l), .fn (.func g) [] caps] (· = .bool (l.any p)) := by
  refine FnP.of Try.func65 rfl Try.ntmps65 (by simp) fun m0 w0 F R0 => ?_
  repeat refine AW.seq ?_
  refine AW.region ?_
  refine RL.step (d := some 4) rfl rfl (xj_assignE rfl) ?_
  repeat refine AW.seq ?_
  refine AW.region ?_
  refine RL.step (d := some 5) rfl rfl (xj_moveE rfl) ?_
  refine RL.step (d := some 6) rfl rfl (xj_moveE rfl) ?_
  refine RL.call rfl (oj_call Try.call78 (idxF_spec l g caps p hl hc hg) rfl ?_)
  rintro _ ⟨i, rfl, hi⟩
  refine RL.step (d := some 8) rfl rfl (xj_bin rfl rfl rfl) ?_
  refine RL.step (d := some 4) rfl rfl (xj_assignE rfl) ?_
  repeat refine AW.seq ?_
  refine AW.ret ?_
  exact ⟨_, _, rfl, rfl, congrArg PV.bool hi⟩
theorem feat1_spec (f : Int × Int × Int) (c : List PV) (a : Int) (hc : c[0]? = some (.int .i64 a)) : FnP Try.prog 66 [.agg (featR f), .rp c 0] (· = .bool (f.1 == a)) := by
  refine FnP.of Try.func66 rfl Try.ntmps66 (by simp) fun m0 w0 F R0 => ?_
  repeat refine AW.seq ?_
  refine AW.region ?_
  refine RL.step (d := some 2) rfl rfl (xj_box 0 rfl rfl rfl (by rintro _ _ ⟨⟩) (by rintro _ _ _ ⟨⟩) (by rintro _ ⟨⟩)) ?_
  refine RL.step (d := some 3) rfl rfl (xj_assignE rfl) ?_
  repeat refine AW.seq ?_
  refine AW.region ?_
  first | refine RL.step (d := some 4) rfl rfl (xj_fieldAddr fo63_0 rfl rfl) ?_ | refine RL.step (d := some 4) rfl rfl (xj_fieldAddrR fo63_0 rfl) ?_
  first | refine RL.step (d := some 5) rfl rfl (xj_load1 ⟨_, Try.underlying3, rfl⟩ rfl rfl rfl) ?_ | refine RL.step (d := some 5) rfl rfl (xj_load1P ⟨_, Try.underlying3, rfl⟩ rfl rfl (by first | rfl | assumption)) ?_ | refine RL.step (d := some 5) rfl rfl (xj_loadR ⟨_, Try.underlying3, rfl⟩ rfl (by first | rfl | assumption)) ?_
  first | refine RL.step (d := some 6) rfl rfl (xj_fieldAddr fo63_0 rfl rfl) ?_ | refine RL.step (d := some 6) rfl rfl (xj_fieldAddrR fo63_0 rfl) ?_
  first | refine RL.step (d := some 7) rfl rfl (xj_load1 ⟨_, Try.underlying3, rfl⟩ rfl rfl rfl) ?_ | refine RL.step (d := some 7) rfl rfl (xj_load1P ⟨_, Try.underlying3, rfl⟩ rfl rfl (by first | rfl | assumption)) ?_ | refine RL.step (d := some 7) rfl rfl (xj_loadR ⟨_, Try.underlying3, rfl⟩ rfl (by first | rfl | assumption)) ?_
  refine RL.step (d := some 8) rfl rfl (xj_bin rfl rfl rfl) ?_
  refine RL.step (d := some 3) rfl rfl (xj_assignE rfl) ?_
  repeat refine AW.seq ?_
  refine AW.ret ?_
  exact ⟨_, _, rfl, rfl, rfl⟩

theorem feats_take (l : List (Int × Int × Int)) (k : Nat) (hk : k ≤ l.length) : PV.sl none k ((featsC l).take (k * 3)) = .sl none (l.take k).length (featsC (l.take k)) := by
  have e : (featsC l).take (k * 3) = featsC (l.take k) := by
    conv => lhs; rw [← List.take_append_drop k l]
    have : featsC (l.take k ++ l.drop k) = featsC (l.take k) ++ featsC (l.drop k) := by unfold featsC; rw [List.flatMap_append]
    rw [this, List.take_append_of_le_length (by rw [featsC_len]; simp; omega), List.take_of_length_le (by rw [featsC_len]; simp; omega)]
  rw [e]; simp; omega

theorem features_spec (S : Sch) (hS : SB S) : FnP Try.prog 46 [schP S] (· = .int .i64 (scanE (featE S) S.feats.length)) := by
  refine FnP.of Try.func46 rfl Try.ntmps46 (by simp) fun m0 w0 F R0 => ?_
  have hb := hS.a
  have hb2 := hS.f
  have hFl := featsC_len S.feats
  repeat refine AW.seq ?_
  refine AW.region ?_
  refine RL.step (d := some 1) rfl rfl (xj_box 0 rfl rfl rfl (by rintro _ _ ⟨⟩) (by rintro _ _ _ ⟨⟩) (by rintro _ ⟨⟩)) ?_
  refine RL.step (d := some 2) rfl rfl (xj_assignE rfl) ?_
  repeat refine AW.seq ?_
  refine AW.region ?_
  first | refine RL.step (d := some 8) rfl rfl (xj_fieldAddr fo30_2 rfl rfl) ?_ | refine RL.step (d := some 8) rfl rfl (xj_fieldAddrR fo30_2 rfl) ?_
  first | refine RL.step (d := some 9) rfl rfl (xj_load1 ⟨_, Try.underlying28, rfl⟩ rfl rfl rfl) ?_ | refine RL.step (d := some 9) rfl rfl (xj_load1P ⟨_, Try.underlying28, rfl⟩ rfl rfl (by first | rfl | assumption)) ?_ | refine RL.step (d := some 9) rfl rfl (xj_loadR ⟨_, Try.underlying28, rfl⟩ rfl (by first | rfl | assumption)) ?_
  first | refine RL.step (d := some 10) rfl rfl (xj_len Try.underlying28 rfl) ?_ | refine RL.step (d := some 10) rfl rfl (xj_lenO Try.underlying28 rfl rfl) ?_ | refine RL.step (d := some 10) rfl rfl (xj_lenG Try.underlying28 rfl) ?_
  refine RL.step (d := some 11) rfl rfl (xj_moveE rfl) ?_
  repeat refine AW.seq ?_
  refine AW.block ?_
  repeat refine AW.seq ?_
  refine AW.loop (st := fun x_0 : Nat => mkS [(1, .ptr 0 0), (9, .pv (.sl none S.feats.length (featsC S.feats))), (10, .pv (.int .i64 S.feats.length)), (11, .pv (.int .i64 x_0))] [(0, .mix 30 [.pv (.sl none S.attrs.length (attrsC S.attrs)), .pv (.sl none S.rels.length (relsC S.rels)), .pv (.sl none S.feats.length (featsC S.feats)), .pv (.int .i64 S.label)])] 1)
    (I := fun x_0 => x_0 ≤ S.feats.length ∧ scanE (featE S) x_0 = 0) (μ := fun x_0 => S.feats.length - x_0) (x0 := (0)) (St.le_mk ⟨rfl, rfl, rfl, rfl, trivial⟩ ⟨rfl, trivial⟩ rfl rfl) (⟨Nat.zero_le _, rfl⟩) ?_
  rintro k ⟨hk, hs⟩
  repeat refine AW.seq ?_
  refine AW.region ?_
  refine RL.step (d := some 12) rfl rfl (xj_bin rfl rfl rfl) ?_
  repeat refine AW.seq ?_
  refine AW.condP rfl (fun hc12 => ?_) (fun hc12 => ?_)
  · have hlt : k < S.feats.length := by omega
    have hrow := feat_row hlt
    have hne := feat_ne hlt
    have hfe := featE_eq2 S k hlt
    have hfin : ∀ e : Int, e ≠ 0 → featE S k = e → PV.int .i64 e = .int .i64 (scanE (featE S) S.feats.length) := fun e h0 h1 => congrArg (PV.int .i64) (by rw [scanE_at hs (by rw [h1]; exact h0) hlt, h1])
    refine AW.skip ?_
    repeat refine AW.seq ?_
    refine AW.block ?_
    repeat refine AW.seq ?_
    refine AW.region ?_
    refine RL.step (d := some 13) rfl rfl (xj_moveE rfl) ?_
    first | refine RL.step (d := some 14) rfl rfl (xj_indexAddr _ Try.underlying28 sz63 rfl rfl rfl (by omega) (by assumption)) ?_ | refine RL.step (d := some 14) rfl rfl (xj_indexAddrO _ Try.underlying28 sz63 rfl rfl rfl rfl (by omega)) ?_
    refine RL.step (d := some 15) rfl rfl (xj_loadAR ⟨_, Try.underlying63, rfl⟩ sz63 rfl hrow rfl) ?_
    refine RL.step (d := some 4) rfl rfl (xj_alloc 1 zero63 rfl rfl) ?_
    refine RL.step (d := some 3) rfl rfl (xj_assignE rfl) ?_
    first | refine RL.step (d := none) rfl rfl (xj_store sz63 rfl rfl rfl rfl (by first | (simp; done) | exact Nat.le_of_ble_eq_true rfl) rfl rfl) ?_ | refine RL.step (d := none) rfl rfl (xj_storeP sz63 rfl rfl rfl rfl (by simp; omega)) ?_
    repeat refine AW.seq ?_
    refine AW.region ?_
    first | refine RL.step (d := some 16) rfl rfl (xj_fieldAddr fo63_0 rfl rfl) ?_ | refine RL.step (d := some 16) rfl rfl (xj_fieldAddrR fo63_0 rfl) ?_
    first | refine RL.step (d := some 17) rfl rfl (xj_load1 ⟨_, Try.underlying3, rfl⟩ rfl rfl rfl) ?_ | refine RL.step (d := some 17) rfl rfl (xj_load1P ⟨_, Try.underlying3, rfl⟩ rfl rfl (by first | rfl | assumption)) ?_ | refine RL.step (d := some 17) rfl rfl (xj_loadR ⟨_, Try.underlying3, rfl⟩ rfl (by first | rfl | assumption)) ?_
    refine RL.step (d := some 18) rfl rfl (xj_bin rfl rfl rfl) ?_
    refine RL.step (d := some 19) rfl rfl (xj_moveE rfl) ?_
    apply RL.orB 7 19 26 [20, 21, 22, 23, 24, 25] rfl (by first | exact MonoK.le | exact MonoK.aw | exact MonoK.back)
    · intro hb3
      refine RL.skipG rfl rfl rfl ?_
      refine RL.skipG rfl rfl rfl ?_
      refine RL.skipG rfl rfl rfl ?_
      refine RL.skipG rfl rfl rfl ?_
      refine RL.skipG rfl rfl rfl ?_
      refine RL.skipG rfl rfl rfl ?_
      refine RL.step (d := some 26) rfl rfl (xj_pick rfl) ?_
      exact St.le_fg (fEq.upd (fEq.upd (fEq.upd (fEq.upd (fEq.upd (fEq.upd (fEq.upd (fEq.upd (fEq.refl) rfl) rfl) rfl) rfl) rfl) rfl) rfl) rfl) rfl rfl rfl
    · intro hb3
      first | refine RL.stepG (d := some 20) rfl rfl rfl (xj_fieldAddr fo63_0 rfl rfl) ?_ | refine RL.stepG (d := some 20) rfl rfl rfl (xj_fieldAddrR fo63_0 rfl) ?_
      first | refine RL.stepG (d := some 21) rfl rfl rfl (xj_load1 ⟨_, Try.underlying3, rfl⟩ rfl rfl rfl) ?_ | refine RL.stepG (d := some 21) rfl rfl rfl (xj_load1P ⟨_, Try.underlying3, rfl⟩ rfl rfl (by first | rfl | assumption)) ?_ | refine RL.stepG (d := some 21) rfl rfl rfl (xj_loadR ⟨_, Try.underlying3, rfl⟩ rfl (by first | rfl | assumption)) ?_
      first | refine RL.stepG (d := some 22) rfl rfl rfl (xj_fieldAddr fo30_0 rfl rfl) ?_ | refine RL.stepG (d := some 22) rfl rfl rfl (xj_fieldAddrR fo30_0 rfl) ?_
      first | refine RL.stepG (d := some 23) rfl rfl rfl (xj_load1 ⟨_, Try.underlying26, rfl⟩ rfl rfl rfl) ?_ | refine RL.stepG (d := some 23) rfl rfl rfl (xj_load1P ⟨_, Try.underlying26, rfl⟩ rfl rfl (by first | rfl | assumption)) ?_ | refine RL.stepG (d := some 23) rfl rfl rfl (xj_loadR ⟨_, Try.underlying26, rfl⟩ rfl (by first | rfl | assumption)) ?_
      first | refine RL.stepG (d := some 24) rfl rfl rfl (xj_len Try.underlying26 rfl) ?_ | refine RL.stepG (d := some 24) rfl rfl rfl (xj_lenO Try.underlying26 rfl rfl) ?_ | refine RL.stepG (d := some 24) rfl rfl rfl (xj_lenG Try.underlying26 rfl) ?_
      refine RL.stepG (d := some 25) rfl rfl rfl (xj_bin rfl rfl rfl) ?_
      refine RL.step (d := some 26) rfl rfl (xj_pick rfl) ?_
      exact St.le_fg (fEq.upd (fEq.upd (fEq.upd (fEq.upd (fEq.upd (fEq.upd (fEq.upd (fEq.upd (fEq.refl) rfl) rfl) rfl) rfl) rfl) rfl) rfl) rfl) rfl rfl rfl
    repeat refine AW.seq ?_
    refine AW.cond rfl (fun hc26 => ?_) (fun hc26 => ?_)
    · repeat refine AW.seq ?_
      refine AW.region ?_
      refine RL.step (d := some 2) rfl rfl (xj_assignE rfl) ?_
      repeat refine AW.seq ?_
      refine AW.ret ?_
      exact ⟨_, _, rfl, rfl, hfin 2 (by decide) (by rw [hfe, if_pos (by simpa using hc26)])⟩
    · have hx : 0 ≤ S.feats[k].1 ∧ S.feats[k].1 < S.attrs.length := by simp only [Bool.or_eq_false_iff, decide_eq_false_iff_not] at hc26; omega
      obtain ⟨a, ha⟩ := Int.eq_ofNat_of_zero_le hx.1
      have hal : a < S.attrs.length := by omega
      have hk2 : (attrsC S.attrs)[a * 2 + 1]? = some (.int .i64 S.attrs[a].2) := flat_at _ 2 (fun _ => rfl) S.attrs a 1 hal (by decide)
      have hane := attr_ne hal
      have hkd : (S.attrs.getD S.feats[k].1.toNat default).2 = S.attrs[a].2 := by rw [ha]; simp [List.getD, hal]
      refine AW.skip ?_
      repeat refine AW.seq ?_
      refine AW.region ?_
      first | refine RL.step (d := some 27) rfl rfl (xj_fieldAddr fo30_0 rfl rfl) ?_ | refine RL.step (d := some 27) rfl rfl (xj_fieldAddrR fo30_0 rfl) ?_
      first | refine RL.step (d := some 28) rfl rfl (xj_load1 ⟨_, Try.underlying26, rfl⟩ rfl rfl rfl) ?_ | refine RL.step (d := some 28) rfl rfl (xj_load1P ⟨_, Try.underlying26, rfl⟩ rfl rfl (by first | rfl | assumption)) ?_ | refine RL.step (d := some 28) rfl rfl (xj_loadR ⟨_, Try.underlying26, rfl⟩ rfl (by first | rfl | assumption)) ?_
      first | refine RL.step (d := some 29) rfl rfl (xj_fieldAddr fo63_0 rfl rfl) ?_ | refine RL.step (d := some 29) rfl rfl (xj_fieldAddrR fo63_0 rfl) ?_
      first | refine RL.step (d := some 30) rfl rfl (xj_load1 ⟨_, Try.underlying3, rfl⟩ rfl rfl rfl) ?_ | refine RL.step (d := some 30) rfl rfl (xj_load1P ⟨_, Try.underlying3, rfl⟩ rfl rfl (by first | rfl | assumption)) ?_ | refine RL.step (d := some 30) rfl rfl (xj_loadR ⟨_, Try.underlying3, rfl⟩ rfl (by first | rfl | assumption)) ?_
      refine RL.step (d := some 31) rfl rfl (xj_indexAddr a Try.underlying26 sz61 rfl rfl ha hal hane) ?_
      first | refine RL.step (d := some 32) rfl rfl (xj_fieldAddr fo61_1 rfl rfl) ?_ | refine RL.step (d := some 32) rfl rfl (xj_fieldAddrR fo61_1 rfl) ?_
      first | refine RL.step (d := some 33) rfl rfl (xj_load1 ⟨_, Try.underlying3, rfl⟩ rfl rfl rfl) ?_ | refine RL.step (d := some 33) rfl rfl (xj_load1P ⟨_, Try.underlying3, rfl⟩ rfl rfl (by first | rfl | assumption)) ?_ | refine RL.step (d := some 33) rfl rfl (xj_loadR ⟨_, Try.underlying3, rfl⟩ rfl (by first | rfl | assumption)) ?_
      refine RL.step (d := some 5) rfl rfl (xj_assignE rfl) ?_
      repeat refine AW.seq ?_
      refine AW.region ?_
      first | refine RL.step (d := some 34) rfl rfl (xj_fieldAddr fo63_1 rfl rfl) ?_ | refine RL.step (d := some 34) rfl rfl (xj_fieldAddrR fo63_1 rfl) ?_
      first | refine RL.step (d := some 35) rfl rfl (xj_load1 ⟨_, Try.underlying3, rfl⟩ rfl rfl rfl) ?_ | refine RL.step (d := some 35) rfl rfl (xj_load1P ⟨_, Try.underlying3, rfl⟩ rfl rfl (by first | rfl | assumption)) ?_ | refine RL.step (d := some 35) rfl rfl (xj_loadR ⟨_, Try.underlying3, rfl⟩ rfl (by first | rfl | assumption)) ?_
      refine RL.step (d := some 36) rfl rfl (xj_bin rfl rfl rfl) ?_
      refine RL.step (d := some 37) rfl rfl (xj_moveE rfl) ?_
      apply RL.andB 3 37 40 [38, 39] rfl (by first | exact MonoK.le | exact MonoK.aw | exact MonoK.back)
      · intro hb3
        refine RL.stepG (d := some 38) rfl rfl rfl (xj_moveE rfl) ?_
        refine RL.stepG (d := some 39) rfl rfl rfl (xj_bin rfl rfl rfl) ?_
        refine RL.step (d := some 40) rfl rfl (xj_pick rfl) ?_
        exact St.le_fg (fEq.upd (fEq.upd (fEq.upd (fEq.upd (fEq.refl) rfl) rfl) rfl) rfl) rfl rfl rfl
      · intro hb3
        refine RL.skipG rfl rfl rfl ?_
        refine RL.skipG rfl rfl rfl ?_
        refine RL.step (d := some 40) rfl rfl (xj_pick rfl) ?_
        exact St.le_fg (fEq.upd (fEq.upd (fEq.upd (fEq.upd (fEq.refl) rfl) rfl) rfl) rfl) rfl rfl rfl
      refine RL.step (d := some 41) rfl rfl (xj_moveE rfl) ?_
      apply RL.andB 9 41 50 [42, 43, 44, 45, 46, 47, 48, 49] rfl (by first | exact MonoK.le | exact MonoK.aw | exact MonoK.back)
      · intro hb7
        first | refine RL.stepG (d := some 42) rfl rfl rfl (xj_fieldAddr fo63_2 rfl rfl) ?_ | refine RL.stepG (d := some 42) rfl rfl rfl (xj_fieldAddrR fo63_2 rfl) ?_
        first | refine RL.stepG (d := some 43) rfl rfl rfl (xj_load1 ⟨_, Try.underlying3, rfl⟩ rfl rfl rfl) ?_ | refine RL.stepG (d := some 43) rfl rfl rfl (xj_load1P ⟨_, Try.underlying3, rfl⟩ rfl rfl (by first | rfl | assumption)) ?_ | refine RL.stepG (d := some 43) rfl rfl rfl (xj_loadR ⟨_, Try.underlying3, rfl⟩ rfl (by first | rfl | assumption)) ?_
        refine RL.stepG (d := some 44) rfl rfl rfl (xj_bin rfl rfl rfl) ?_
        refine RL.stepG (d := some 45) rfl rfl rfl (xj_moveE rfl) ?_
        apply RL.orB 4 45 49 [46, 47, 48] rfl (by first | exact MonoK.le | exact MonoK.aw | exact MonoK.back)
        · intro hb11
          refine RL.skipG rfl rfl rfl ?_
          refine RL.skipG rfl rfl rfl ?_
          refine RL.skipG rfl rfl rfl ?_
          refine RL.stepG (d := some 49) rfl rfl rfl (xj_pick rfl) ?_
          exact St.le_fg (fEq.upd (fEq.upd (fEq.upd (fEq.upd (fEq.upd (fEq.refl) rfl) rfl) rfl) rfl) rfl) rfl rfl rfl
        · intro hb11
          first | refine RL.stepG (d := some 46) rfl rfl rfl (xj_fieldAddr fo63_2 rfl rfl) ?_ | refine RL.stepG (d := some 46) rfl rfl rfl (xj_fieldAddrR fo63_2 rfl) ?_
          first | refine RL.stepG (d := some 47) rfl rfl rfl (xj_load1 ⟨_, Try.underlying3, rfl⟩ rfl rfl rfl) ?_ | refine RL.stepG (d := some 47) rfl rfl rfl (xj_load1P ⟨_, Try.underlying3, rfl⟩ rfl rfl (by first | rfl | assumption)) ?_ | refine RL.stepG (d := some 47) rfl rfl rfl (xj_loadR ⟨_, Try.underlying3, rfl⟩ rfl (by first | rfl | assumption)) ?_
          refine RL.stepG (d := some 48) rfl rfl rfl (xj_bin rfl rfl rfl) ?_
          refine RL.stepG (d := some 49) rfl rfl rfl (xj_pick rfl) ?_
          exact St.le_fg (fEq.upd (fEq.upd (fEq.upd (fEq.upd (fEq.upd (fEq.refl) rfl) rfl) rfl) rfl) rfl) rfl rfl rfl
        refine RL.step (d := some 50) rfl rfl (xj_pick rfl) ?_
        exact St.le_fg (fEq.upd (fEq.upd (fEq.upd (fEq.upd (fEq.upd (fEq.upd (fEq.upd (fEq.upd (fEq.upd (fEq.upd (fEq.upd (fEq.refl) rfl) rfl) rfl) rfl) rfl) rfl) rfl) rfl) rfl) rfl) rfl) rfl rfl rfl
      · intro hb7
        refine RL.skipG rfl rfl rfl ?_
        refine RL.skipG rfl rfl rfl ?_
        refine RL.skipG rfl rfl rfl ?_
        refine RL.skipG rfl rfl rfl ?_
        refine RL.skipU rfl rfl rfl ?_
        refine RL.skipU rfl rfl rfl ?_
        refine RL.skipU rfl rfl rfl ?_
        refine RL.skipG rfl rfl rfl ?_
        refine RL.step (d := some 50) rfl rfl (xj_pick rfl) ?_
        exact St.le_fg (fEq.upd (fEq.upd (fEq.upd (fEq.upd (fEq.upd (fEq.upd (fEq.upd (fEq.upd (fEq.upd (fEq.upd (fEq.refl) rfl) rfl) rfl) rfl) rfl) rfl) rfl) rfl) rfl) rfl) rfl rfl rfl
      refine RL.step (d := some 6) rfl rfl (xj_assignE rfl) ?_
      repeat refine AW.seq ?_
      refine AW.region ?_
      first | refine RL.step (d := some 51) rfl rfl (xj_fieldAddr fo63_1 rfl rfl) ?_ | refine RL.step (d := some 51) rfl rfl (xj_fieldAddrR fo63_1 rfl) ?_
      first | refine RL.step (d := some 52) rfl rfl (xj_load1 ⟨_, Try.underlying3, rfl⟩ rfl rfl rfl) ?_ | refine RL.step (d := some 52) rfl rfl (xj_load1P ⟨_, Try.underlying3, rfl⟩ rfl rfl (by first | rfl | assumption)) ?_ | refine RL.step (d := some 52) rfl rfl (xj_loadR ⟨_, Try.underlying3, rfl⟩ rfl (by first | rfl | assumption)) ?_
      refine RL.step (d := some 53) rfl rfl (xj_bin rfl rfl rfl) ?_
      refine RL.step (d := some 54) rfl rfl (xj_moveE rfl) ?_
      apply RL.andB 3 54 57 [55, 56] rfl (by first | exact MonoK.le | exact MonoK.aw | exact MonoK.back)
      · intro hb3
        refine RL.stepG (d := some 55) rfl rfl rfl (xj_moveE rfl) ?_
        refine RL.stepG (d := some 56) rfl rfl rfl (xj_bin rfl rfl rfl) ?_
        refine RL.step (d := some 57) rfl rfl (xj_pick rfl) ?_
        exact St.le_fg (fEq.upd (fEq.upd (fEq.upd (fEq.upd (fEq.refl) rfl) rfl) rfl) rfl) rfl rfl rfl
      · intro hb3
        refine RL.skipG rfl rfl rfl ?_
        refine RL.skipG rfl rfl rfl ?_
        refine RL.step (d := some 57) rfl rfl (xj_pick rfl) ?_
        exact St.le_fg (fEq.upd (fEq.upd (fEq.upd (fEq.upd (fEq.refl) rfl) rfl) rfl) rfl) rfl rfl rfl
      refine RL.step (d := some 58) rfl rfl (xj_moveE rfl) ?_
      apply RL.andB 4 58 62 [59, 60, 61] rfl (by first | exact MonoK.le | exact MonoK.aw | exact MonoK.back)
      · intro hb7
        first | refine RL.stepG (d := some 59) rfl rfl rfl (xj_fieldAddr fo63_2 rfl rfl) ?_ | refine RL.stepG (d := some 59) rfl rfl rfl (xj_fieldAddrR fo63_2 rfl) ?_
        first | refine RL.stepG (d := some 60) rfl rfl rfl (xj_load1 ⟨_, Try.underlying3, rfl⟩ rfl rfl rfl) ?_ | refine RL.stepG (d := some 60) rfl rfl rfl (xj_load1P ⟨_, Try.underlying3, rfl⟩ rfl rfl (by first | rfl | assumption)) ?_ | refine RL.stepG (d := some 60) rfl rfl rfl (xj_loadR ⟨_, Try.underlying3, rfl⟩ rfl (by first | rfl | assumption)) ?_
        refine RL.stepG (d := some 61) rfl rfl rfl (xj_bin rfl rfl rfl) ?_
        refine RL.step (d := some 62) rfl rfl (xj_pick rfl) ?_
        exact St.le_fg (fEq.upd (fEq.upd (fEq.upd (fEq.upd (fEq.upd (fEq.refl) rfl) rfl) rfl) rfl) rfl) rfl rfl rfl
      · intro hb7
        refine RL.skipG rfl rfl rfl ?_
        refine RL.skipG rfl rfl rfl ?_
        refine RL.skipG rfl rfl rfl ?_
        refine RL.step (d := some 62) rfl rfl (xj_pick rfl) ?_
        exact St.le_fg (fEq.upd (fEq.upd (fEq.upd (fEq.upd (fEq.upd (fEq.refl) rfl) rfl) rfl) rfl) rfl) rfl rfl rfl
      refine RL.step (d := some 7) rfl rfl (xj_assignE rfl) ?_
      repeat refine AW.seq ?_
      refine AW.region ?_
      refine RL.step (d := some 63) rfl rfl (xj_moveE rfl) ?_
      refine RL.step (d := some 64) rfl rfl (xj_not rfl) ?_
      refine RL.step (d := some 65) rfl rfl (xj_moveE rfl) ?_
      apply RL.andB 3 65 68 [66, 67] rfl (by first | exact MonoK.le | exact MonoK.aw | exact MonoK.back)
      · intro hb2
        refine RL.stepG (d := some 66) rfl rfl rfl (xj_moveE rfl) ?_
        refine RL.stepG (d := some 67) rfl rfl rfl (xj_not rfl) ?_
        refine RL.step (d := some 68) rfl rfl (xj_pick rfl) ?_
        exact St.le_fg (fEq.upd (fEq.upd (fEq.upd (fEq.upd (fEq.refl) rfl) rfl) rfl) rfl) rfl rfl rfl
      · intro hb2
        refine RL.skipG rfl rfl rfl ?_
        refine RL.skipG rfl rfl rfl ?_
        refine RL.step (d := some 68) rfl rfl (xj_pick rfl) ?_
        exact St.le_fg (fEq.upd (fEq.upd (fEq.upd (fEq.upd (fEq.refl) rfl) rfl) rfl) rfl) rfl rfl rfl
      repeat refine AW.seq ?_
      refine AW.cond rfl (fun hc68 => ?_) (fun hc68 => ?_)
      · repeat refine AW.seq ?_
        refine AW.region ?_
        refine RL.step (d := some 2) rfl rfl (xj_assignE rfl) ?_
        repeat refine AW.seq ?_
        refine AW.ret ?_
        exact ⟨_, _, rfl, rfl, hfin 7 (by decide) (by rw [hfe, if_neg (by omega), hkd, if_pos (by rw [Bool.or_eq_false_iff]; rw [Bool.and_eq_true, Bool.not_eq_true', Bool.not_eq_true'] at hc68; exact hc68)])⟩
      · refine AW.skip ?_
        refine AW.weaken (St.le_ppA 1 rfl rfl) ?_
        repeat refine AW.seq ?_
        refine AW.region ?_
        first | refine RL.step (d := some 69) rfl rfl (xj_fieldAddr fo63_0 rfl rfl) ?_ | refine RL.step (d := some 69) rfl rfl (xj_fieldAddrR fo63_0 rfl) ?_
        first | refine RL.step (d := some 70) rfl rfl (xj_load1 ⟨_, Try.underlying3, rfl⟩ rfl rfl rfl) ?_ | refine RL.step (d := some 70) rfl rfl (xj_load1P ⟨_, Try.underlying3, rfl⟩ rfl rfl (by first | rfl | assumption)) ?_ | refine RL.step (d := some 70) rfl rfl (xj_loadR ⟨_, Try.underlying3, rfl⟩ rfl (by first | rfl | assumption)) ?_
        first | refine RL.step (d := some 71) rfl rfl (xj_fieldAddr fo30_3 rfl rfl) ?_ | refine RL.step (d := some 71) rfl rfl (xj_fieldAddrR fo30_3 rfl) ?_
        first | refine RL.step (d := some 72) rfl rfl (xj_load1 ⟨_, Try.underlying3, rfl⟩ rfl rfl rfl) ?_ | refine RL.step (d := some 72) rfl rfl (xj_load1P ⟨_, Try.underlying3, rfl⟩ rfl rfl (by first | rfl | assumption)) ?_ | refine RL.step (d := some 72) rfl rfl (xj_loadR ⟨_, Try.underlying3, rfl⟩ rfl (by first | rfl | assumption)) ?_
        refine RL.step (d := some 73) rfl rfl (xj_bin rfl rfl rfl) ?_
        refine RL.step (d := some 74) rfl rfl (xj_moveE rfl) ?_
        apply RL.orB 7 74 81 [75, 76, 77, 78, 79, 80] rfl (by first | exact MonoK.le | exact MonoK.aw | exact MonoK.back)
        · intro hb5
          refine RL.skipG rfl rfl rfl ?_
          refine RL.skipG rfl rfl rfl ?_
          refine RL.skipG rfl rfl rfl ?_
          refine RL.skipG rfl rfl rfl ?_
          refine RL.skipG rfl rfl rfl ?_
          refine RL.skipG rfl rfl rfl ?_
          refine RL.step (d := some 81) rfl rfl (xj_pick rfl) ?_
          exact St.le_fg (fEq.upd (fEq.upd (fEq.upd (fEq.upd (fEq.upd (fEq.upd (fEq.upd (fEq.upd (fEq.refl) rfl) rfl) rfl) rfl) rfl) rfl) rfl) rfl) rfl rfl rfl
        · intro hb5
          first | refine RL.stepG (d := some 75) rfl rfl rfl (xj_fieldAddr fo30_2 rfl rfl) ?_ | refine RL.stepG (d := some 75) rfl rfl rfl (xj_fieldAddrR fo30_2 rfl) ?_
          first | refine RL.stepG (d := some 76) rfl rfl rfl (xj_load1 ⟨_, Try.underlying28, rfl⟩ rfl rfl rfl) ?_ | refine RL.stepG (d := some 76) rfl rfl rfl (xj_load1P ⟨_, Try.underlying28, rfl⟩ rfl rfl (by first | rfl | assumption)) ?_ | refine RL.stepG (d := some 76) rfl rfl rfl (xj_loadR ⟨_, Try.underlying28, rfl⟩ rfl (by first | rfl | assumption)) ?_
          refine RL.stepG (d := some 77) rfl rfl rfl (xj_moveE rfl) ?_
          refine RL.stepG (d := some 78) rfl rfl rfl (XJ.cast (v' := .pv (.sl none (S.feats.take k).length (featsC (S.feats.take k)))) (xj_sliceTo k Try.underlying28 sz63 rfl rfl rfl (by omega) hFl) (by rw [feats_take _ _ hk])) ?_
          refine RL.stepG (d := some 79) rfl rfl rfl (xj_makeFunc) ?_
          refine RL.stepG (d := some 80) rfl rfl rfl (xj_call Try.call65 (containsF_spec (S.feats.take k) 66 [.rp (featR S.feats[k]) 0] (fun g => g.1 == S.feats[k].1) (by simp; omega) Try.call66 (fun f _ => feat1_spec f _ _ rfl)) rfl) ?_
          refine RL.step (d := some 81) rfl rfl (xj_pick rfl) ?_
          exact St.le_fg (fEq.upd (fEq.upd (fEq.upd (fEq.upd (fEq.upd (fEq.upd (fEq.upd (fEq.upd (fEq.refl) rfl) rfl) rfl) rfl) rfl) rfl) rfl) rfl) rfl rfl rfl
        repeat refine AW.seq ?_
        refine AW.cond rfl (fun hc81 => ?_) (fun hc81 => ?_)
        · repeat refine AW.seq ?_
          refine AW.region ?_
          refine RL.step (d := some 2) rfl rfl (xj_assignE rfl) ?_
          repeat refine AW.seq ?_
          refine AW.ret ?_
          exact ⟨_, _, rfl, rfl, hfin 9 (by decide) (by rw [hfe, if_neg (by omega), hkd, if_neg (by intro h; rw [Bool.or_eq_false_iff] at h; rw [h.1, h.2] at hc68; cases hc68), if_pos hc81])⟩
        · refine AW.skip ?_
          repeat refine AW.seq ?_
          refine AW.region ?_
          refine RL.step (d := some 82) rfl rfl (xj_add rfl rfl (by omega)) ?_
          refine RL.step (d := some 11) rfl rfl (xj_moveE rfl) ?_
          exact ⟨(k + 1), St.le_mk ⟨rfl, rfl, rfl, rfl, trivial⟩ ⟨rfl, trivial⟩ rfl rfl, ⟨by omega, by rw [scanE_succ hs, hfe, if_neg (by omega), hkd, if_neg (by intro h; rw [Bool.or_eq_false_iff] at h; rw [h.1, h.2] at hc68; cases hc68), if_neg (by rw [hc81]; decide)]⟩, by omega⟩
  · repeat refine AW.seq ?_
    refine AW.exit ?_
    repeat refine AW.seq ?_
    refine AW.region ?_
    refine RL.step (d := some 2) rfl rfl (xj_assignE rfl) ?_
    repeat refine AW.seq ?_
    refine AW.ret ?_
    exact ⟨_, _, rfl, rfl, congrArg (PV.int .i64) (by rw [show S.feats.length = k by omega, hs])⟩

end Go.Proofs.Ytkalgjnhaicabaa
