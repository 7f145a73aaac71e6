/-
  Names and attributes of a schema (schema.named, attributes), in our step logic. No statement of the program is proved here.
-/
import Derived.Test.YtkalgjnhaicabaaS1
namespace Go.Proofs.Ytkalgjnhaicabaa
open Go.RowKit Mk
set_option maxRecDepth 100000
set_option maxHeartbeats 1000000

theorem named_spec (l : List ByteArray) (k : Nat) (hk : k < l.length) (hl : l.length ≤ 1000000) (hw : l[k].size ≤ 1000000000) : FnP Try.prog 63 [pstrs l, .int .i64 k] (· = .int .i64 (namedE l k)) := by
  refine FnP.of Try.func63 rfl Try.ntmps63 (by simp) fun m0 w0 F R0 => ?_
  have hv := pstrs_at hk
  have hne := pstrs_ne hk
  have hgd : l.getD k default = l[k] := by simp [List.getD, hk]
  have htk : (strsP l).take (k * 1) = strsP (l.take k) := by simp
  have hsl : PV.sl none k (strsP (l.take k)) = pstrs (l.take k) := by simp [pstrs]; omega
  repeat refine AW.seq ?_
  refine AW.region ?_
  refine RL.step (d := some 4) rfl rfl (xj_assignE rfl) ?_
  repeat refine AW.seq ?_
  refine AW.block ?_
  repeat refine AW.seq ?_
  refine AW.region ?_
  refine RL.step (d := some 6) rfl rfl (xj_moveE rfl) ?_
  refine RL.step (d := some 7) rfl rfl (xj_moveE rfl) ?_
  first | refine RL.step (d := some 8) rfl rfl (xj_indexAddr _ Try.underlying98 sz9 rfl rfl rfl (by omega) (by assumption)) ?_ | refine RL.step (d := some 8) rfl rfl (xj_indexAddrO _ Try.underlying98 sz9 rfl rfl rfl rfl (by omega)) ?_
  first | refine RL.step (d := some 9) rfl rfl (xj_load1 ⟨_, Try.underlying9, rfl⟩ rfl rfl rfl) ?_ | refine RL.step (d := some 9) rfl rfl (xj_load1P ⟨_, Try.underlying9, rfl⟩ rfl rfl (by first | rfl | assumption)) ?_ | refine RL.step (d := some 9) rfl rfl (xj_loadR ⟨_, Try.underlying9, rfl⟩ rfl (by first | rfl | assumption)) ?_
  refine RL.step (d := some 10) rfl rfl (xj_call Try.call75 (word_spec l[k] hw) rfl) ?_
  refine RL.step (d := some 11) rfl rfl (xj_not rfl) ?_
  refine RL.step (d := some 5) rfl rfl (xj_assignE rfl) ?_
  repeat refine AW.seq ?_
  refine AW.cond rfl (fun hc5 => ?_) (fun hc5 => ?_)
  · repeat refine AW.seq ?_
    refine AW.region ?_
    refine RL.step (d := some 4) rfl rfl (xj_assignE rfl) ?_
    repeat refine AW.seq ?_
    refine AW.ret ?_
    exact ⟨_, _, rfl, rfl, congrArg (PV.int .i64) (by unfold namedE; rw [hgd, if_pos (by simpa using hc5)])⟩
  · repeat refine AW.seq ?_
    refine AW.draw follows [[], [], [1, 0], [], [], [4, 3], [5, 4, 3], [6, 2, 1, 0, 5, 4, 3], [7, 6, 2, 1, 0, 5, 4, 3]] [0, 1, 2, 3, 4, 5, 6, 7, 8] (by kernel_rfl) (by kernel_rfl) ?_
    refine DL.step (d := some 13) [] rfl rfl rfl (fun τ h => xj_moveE ((h.e 0 _ rfl).trans rfl)) rfl (by kernel_rfl) ?_
    refine DL.step (d := some 14) [] rfl rfl rfl (fun τ h => xj_moveE ((h.e 0 _ rfl).trans rfl)) rfl (by kernel_rfl) ?_
    refine DL.step (d := some 15) [] rfl rfl rfl (fun τ h => XJ.cast (v' := .pv (pstrs (l.take k))) (xj_sliceTo k Try.underlying98 sz9 ((h.e 0 _ rfl).trans rfl) ((h.e 1 _ rfl).trans rfl) rfl (by omega) (by simp)) (by rw [htk, hsl])) rfl (by kernel_rfl) ?_
    refine DL.step (d := some 16) [] rfl rfl rfl (fun τ h => xj_moveE ((h.e 0 _ rfl).trans rfl)) rfl (by kernel_rfl) ?_
    refine DL.step (d := some 17) [] rfl rfl rfl (fun τ h => xj_moveE ((h.e 0 _ rfl).trans rfl)) rfl (by kernel_rfl) ?_
    first | refine DL.step (d := some 18) [] rfl rfl rfl (fun τ h => xj_indexAddr _ Try.underlying98 sz9 ((h.e 0 _ rfl).trans rfl) ((h.e 1 _ rfl).trans rfl) rfl (by omega) (by assumption)) rfl (by kernel_rfl) ?_ | refine DL.step (d := some 18) [_] rfl rfl rfl (fun τ h => xj_indexAddrO _ Try.underlying98 sz9 ((h.e 0 _ rfl).trans rfl) ((h.o 0 _ rfl).trans rfl) ((h.e 1 _ rfl).trans rfl) rfl (by omega)) rfl (by kernel_rfl) ?_
    first | refine DL.step (d := some 19) [_] rfl rfl rfl (fun τ h => xj_load1 ⟨_, Try.underlying9, rfl⟩ ((h.e 0 _ rfl).trans rfl) ((h.o 0 _ rfl).trans rfl) rfl) rfl (by kernel_rfl) ?_ | refine DL.step (d := some 19) [_] rfl rfl rfl (fun τ h => xj_load1P ⟨_, Try.underlying9, rfl⟩ ((h.e 0 _ rfl).trans rfl) ((h.o 0 _ rfl).trans rfl) (by first | rfl | assumption)) rfl (by kernel_rfl) ?_ | refine DL.step (d := some 19) [] rfl rfl rfl (fun τ h => xj_loadR ⟨_, Try.underlying9, rfl⟩ ((h.e 0 _ rfl).trans rfl) (by first | rfl | assumption)) rfl (by kernel_rfl) ?_
    refine DL.step (d := some 20) [] rfl rfl rfl (fun τ h => xj_call Try.call76 (containsS_spec (l.take k) l[k] (by simp; omega)) (h.argsP rfl)) rfl (by kernel_rfl) ?_
    refine DL.step (d := some 12) [] rfl rfl rfl (fun τ h => xj_assignE ((h.e 0 _ rfl).trans rfl)) rfl (by kernel_rfl) ?_
    refine ⟨by kernel_rfl, ?_⟩
    repeat refine AW.seq ?_
    refine AW.cond rfl (fun hc12 => ?_) (fun hc12 => ?_)
    · repeat refine AW.seq ?_
      refine AW.region ?_
      refine RL.step (d := some 4) rfl rfl (xj_assignE rfl) ?_
      repeat refine AW.seq ?_
      refine AW.ret ?_
      exact ⟨_, _, rfl, rfl, congrArg (PV.int .i64) (by unfold namedE; rw [hgd, if_neg (by simpa using hc5), if_pos hc12])⟩
    · refine AW.skip ?_
      repeat refine AW.seq ?_
      refine AW.region ?_
      refine RL.step (d := some 4) rfl rfl (xj_assignE rfl) ?_
      repeat refine AW.seq ?_
      refine AW.ret ?_
      exact ⟨_, _, rfl, rfl, congrArg (PV.int .i64) (by unfold namedE; rw [hgd, if_neg (by simpa using hc5), if_neg (by simp [hc12])])⟩

/-- Bounds on the lengths in a schema. -/
structure SB (S : Sch) : Prop where
  a : S.attrs.length ≤ 1000000
  r : S.rels.length ≤ 1000000
  f : S.feats.length ≤ 1000000
  an : ∀ x ∈ S.attrs, x.1.size ≤ 1000000000
  rn : ∀ x ∈ S.rels, x.1.size ≤ 1000000000
  rl : ∀ x ∈ S.rels, x.2.length ≤ 1000000

theorem attr_row {l : List (ByteArray × Int)} {k : Nat} (h : k < l.length) : ((attrsC l).drop (k * 2)).take 2 = [.str l[k].1, .int .i64 l[k].2] := flat_row _ 2 (fun _ => rfl) l k h
theorem attr_ne {l : List (ByteArray × Int)} {k : Nat} (h : k < l.length) : attrsC l ≠ [] := fun e => by have := attrsC_len l; rw [e] at this; simp at this; omega
theorem strs_snoc (L : List ByteArray) (x : ByteArray) : strsP (L ++ [x]) = strsP L ++ [.str x] := by simp
theorem pstrs_snoc (L : List ByteArray) (x : ByteArray) : pstrs (L ++ [x]) = .sl none (L.length + 1) (strsP L ++ [.str x]) := by simp
theorem named_take {l : List ByteArray} {k n : Nat} (h : k < n) : namedE (l.take n) k = namedE l k := by
  unfold namedE
  have e1 : (l.take n).getD k default = l.getD k default := by simp [List.getD, List.getElem?_take, h]
  have e2 : (l.take n).take k = l.take k := by rw [List.take_take, Nat.min_eq_left (by omega)]
  rw [e1, e2]
theorem take_snoc {α : Type} {l : List α} {k : Nat} (h : k < l.length) : l.take (k + 1) = l.take k ++ [l[k]] := List.take_succ_eq_append_getElem h

theorem attributes_spec (S : Sch) (hS : SB S) : FnP Try.prog 44 [schP S] (· = .int .i64 (scanE (attrE S) S.attrs.length)) := by
  refine FnP.of Try.func44 rfl Try.ntmps44 (by simp) fun m0 w0 F R0 => ?_
  have hb := hS.a
  have hAl := attrsC_len S.attrs
  repeat refine AW.seq ?_
  refine AW.region ?_
  refine RL.step (d := some 1) rfl rfl (xj_box 0 rfl rfl rfl (by rintro _ _ ⟨⟩) (by rintro _ _ _ ⟨⟩) (by rintro _ ⟨⟩)) ?_
  refine RL.step (d := some 2) rfl rfl (xj_assignE rfl) ?_
  repeat refine AW.seq ?_
  refine AW.region ?_
  refine RL.step (d := some 3) rfl rfl (xj_assignE rfl) ?_
  refine AW.weaken (St.le_gro 3 1 1 9 rfl rfl) ?_
  repeat refine AW.seq ?_
  refine AW.region ?_
  first | refine RL.step (d := some 7) rfl rfl (xj_fieldAddr fo30_0 rfl rfl) ?_ | refine RL.step (d := some 7) rfl rfl (xj_fieldAddrR fo30_0 rfl) ?_
  first | refine RL.step (d := some 8) rfl rfl (xj_load1 ⟨_, Try.underlying26, rfl⟩ rfl rfl rfl) ?_ | refine RL.step (d := some 8) rfl rfl (xj_load1P ⟨_, Try.underlying26, rfl⟩ rfl rfl (by first | rfl | assumption)) ?_ | refine RL.step (d := some 8) rfl rfl (xj_loadR ⟨_, Try.underlying26, rfl⟩ rfl (by first | rfl | assumption)) ?_
  first | refine RL.step (d := some 9) rfl rfl (xj_len Try.underlying26 rfl) ?_ | refine RL.step (d := some 9) rfl rfl (xj_lenO Try.underlying26 rfl rfl) ?_ | refine RL.step (d := some 9) rfl rfl (xj_lenG Try.underlying26 rfl) ?_
  refine RL.step (d := some 10) rfl rfl (xj_moveE rfl) ?_
  repeat refine AW.seq ?_
  refine AW.block ?_
  repeat refine AW.seq ?_
  refine AW.loop (st := fun x_0 : Nat × List ByteArray => mkS [(3, .gsl 1 1 x_0.2.length), (8, .pv (.sl none S.attrs.length (attrsC S.attrs))), (9, .pv (.int .i64 S.attrs.length)), (10, .pv (.int .i64 x_0.1))] [(1, .gro 9 (strsP x_0.2))] 2)
    (I := fun x_0 => x_0.1 ≤ S.attrs.length ∧ x_0.2 = (S.attrs.map (·.1)).take x_0.1 ∧ scanE (attrE S) x_0.1 = 0) (μ := fun x_0 => S.attrs.length - x_0.1) (x0 := (0, [])) (St.le_mk ⟨rfl, rfl, rfl, rfl, trivial⟩ ⟨rfl, trivial⟩ rfl rfl) (⟨Nat.zero_le _, rfl, rfl⟩) ?_
  rintro ⟨k, L⟩ ⟨hk, hL, hs⟩
  try simp only at hk hL hs ⊢
  repeat refine AW.seq ?_
  refine AW.region ?_
  refine RL.step (d := some 11) rfl rfl (xj_bin rfl rfl rfl) ?_
  repeat refine AW.seq ?_
  refine AW.condP rfl (fun hc11 => ?_) (fun hc11 => ?_)
  · have hlt : k < S.attrs.length := by omega
    have hrow := attr_row hlt
    have hne := attr_ne hlt
    have hnl : L.length = k := by rw [hL]; simp; omega
    have htk : L ++ [S.attrs[k].1] = (S.attrs.map (·.1)).take (k + 1) := by rw [take_snoc (by simpa using hlt), hL]; simp
    have hns := named_spec (L ++ [S.attrs[k].1]) k (by simp; omega) (by simp; omega) (by simp only [← hnl]; simp; exact hS.an _ (List.getElem_mem _))
    rw [pstrs_snoc, htk, named_take (by omega)] at hns
    have hgd : S.attrs.getD k default = S.attrs[k] := by simp [List.getD, hlt]
    have hsl : (strsP L).length = L.length * 1 := by simp
    refine AW.skip ?_
    repeat refine AW.seq ?_
    refine AW.block ?_
    repeat refine AW.seq ?_
    refine AW.region ?_
    refine RL.step (d := some 12) rfl rfl (xj_moveE rfl) ?_
    first | refine RL.step (d := some 13) rfl rfl (xj_indexAddr _ Try.underlying26 sz61 rfl rfl rfl (by omega) (by assumption)) ?_ | refine RL.step (d := some 13) rfl rfl (xj_indexAddrO _ Try.underlying26 sz61 rfl rfl rfl rfl (by omega)) ?_
    refine RL.step (d := some 14) rfl rfl (xj_loadAR ⟨_, Try.underlying61, rfl⟩ sz61 rfl hrow rfl) ?_
    refine RL.step (d := some 5) rfl rfl (xj_alloc 2 zero61 rfl rfl) ?_
    refine RL.step (d := some 4) rfl rfl (xj_assignE rfl) ?_
    first | refine RL.step (d := none) rfl rfl (xj_store sz61 rfl rfl rfl rfl (by first | (simp; done) | exact Nat.le_of_ble_eq_true rfl) rfl rfl) ?_ | refine RL.step (d := none) rfl rfl (xj_storeP sz61 rfl rfl rfl rfl (by simp; omega)) ?_
    repeat refine AW.seq ?_
    refine AW.region ?_
    refine RL.step (d := some 15) rfl rfl (xj_moveE rfl) ?_
    first | refine RL.step (d := some 16) rfl rfl (xj_fieldAddr fo61_0 rfl rfl) ?_ | refine RL.step (d := some 16) rfl rfl (xj_fieldAddrR fo61_0 rfl) ?_
    first | refine RL.step (d := some 17) rfl rfl (xj_load1 ⟨_, Try.underlying9, rfl⟩ rfl rfl rfl) ?_ | refine RL.step (d := some 17) rfl rfl (xj_load1P ⟨_, Try.underlying9, rfl⟩ rfl rfl (by first | rfl | assumption)) ?_ | refine RL.step (d := some 17) rfl rfl (xj_loadR ⟨_, Try.underlying9, rfl⟩ rfl (by first | rfl | assumption)) ?_
    refine RL.step (d := some 18) rfl rfl (xj_buildSlice 3 el98 rfl (by decide) (by decide) rfl rfl rfl) ?_
    first | refine RL.step (d := some 19) rfl rfl (xj_append1 4 el98 rfl rfl (by first | assumption | simp) rfl rfl rfl rfl (by omega) rfl) ?_ | refine RL.step (d := some 19) rfl rfl (xj_append01 4 el98 rfl rfl rfl rfl rfl rfl) ?_ | refine RL.step (d := some 19) rfl rfl (xj_appendG1 4 el98 rfl rfl (by first | assumption | simp) rfl rfl rfl rfl (by omega) rfl) ?_
    refine RL.step (d := some 3) rfl rfl (xj_assignE rfl) ?_
    repeat refine AW.seq ?_
    refine AW.region ?_
    refine RL.step (d := some 20) rfl rfl (xj_moveE rfl) ?_
    refine RL.step (d := some 21) rfl rfl (xj_moveE rfl) ?_
    refine RL.step (d := some 22) rfl rfl (xj_callF Try.call63 hns rfl rfl) ?_
    refine RL.step (d := some 6) rfl rfl (xj_assignE rfl) ?_
    repeat refine AW.seq ?_
    refine AW.region ?_
    refine RL.step (d := some 23) rfl rfl (xj_moveE rfl) ?_
    refine RL.step (d := some 24) rfl rfl (xj_bin rfl rfl rfl) ?_
    repeat refine AW.seq ?_
    refine AW.cond rfl (fun hc24 => ?_) (fun hc24 => ?_)
    · repeat refine AW.seq ?_
      refine AW.region ?_
      refine RL.step (d := some 25) rfl rfl (xj_moveE rfl) ?_
      refine RL.step (d := some 2) rfl rfl (xj_assignE rfl) ?_
      repeat refine AW.seq ?_
      refine AW.ret ?_
      exact ⟨_, _, rfl, rfl, congrArg (PV.int .i64) (by rw [scanE_at hs (by unfold attrE; rw [if_pos (inT hc24)]; exact inT hc24) hlt]; unfold attrE; rw [if_pos (inT hc24)])⟩
    · refine AW.skip ?_
      repeat refine AW.seq ?_
      refine AW.region ?_
      first | refine RL.step (d := some 26) rfl rfl (xj_fieldAddr fo61_1 rfl rfl) ?_ | refine RL.step (d := some 26) rfl rfl (xj_fieldAddrR fo61_1 rfl) ?_
      first | refine RL.step (d := some 27) rfl rfl (xj_load1 ⟨_, Try.underlying3, rfl⟩ rfl rfl rfl) ?_ | refine RL.step (d := some 27) rfl rfl (xj_load1P ⟨_, Try.underlying3, rfl⟩ rfl rfl (by first | rfl | assumption)) ?_ | refine RL.step (d := some 27) rfl rfl (xj_loadR ⟨_, Try.underlying3, rfl⟩ rfl (by first | rfl | assumption)) ?_
      refine RL.step (d := some 28) rfl rfl (xj_bin rfl rfl rfl) ?_
      refine RL.step (d := some 29) rfl rfl (xj_moveE rfl) ?_
      apply RL.orB 4 29 33 [30, 31, 32] rfl (by first | exact MonoK.le | exact MonoK.aw | exact MonoK.back)
      · intro hb3
        refine RL.skipG rfl rfl rfl ?_
        refine RL.skipG rfl rfl rfl ?_
        refine RL.skipG rfl rfl rfl ?_
        refine RL.step (d := some 33) rfl rfl (xj_pick rfl) ?_
        exact St.le_fg (fEq.upd (fEq.upd (fEq.upd (fEq.upd (fEq.upd (fEq.refl) rfl) rfl) rfl) rfl) rfl) rfl rfl rfl
      · intro hb3
        first | refine RL.stepG (d := some 30) rfl rfl rfl (xj_fieldAddr fo61_1 rfl rfl) ?_ | refine RL.stepG (d := some 30) rfl rfl rfl (xj_fieldAddrR fo61_1 rfl) ?_
        first | refine RL.stepG (d := some 31) rfl rfl rfl (xj_load1 ⟨_, Try.underlying3, rfl⟩ rfl rfl rfl) ?_ | refine RL.stepG (d := some 31) rfl rfl rfl (xj_load1P ⟨_, Try.underlying3, rfl⟩ rfl rfl (by first | rfl | assumption)) ?_ | refine RL.stepG (d := some 31) rfl rfl rfl (xj_loadR ⟨_, Try.underlying3, rfl⟩ rfl (by first | rfl | assumption)) ?_
        refine RL.stepG (d := some 32) rfl rfl rfl (xj_bin rfl rfl rfl) ?_
        refine RL.step (d := some 33) rfl rfl (xj_pick rfl) ?_
        exact St.le_fg (fEq.upd (fEq.upd (fEq.upd (fEq.upd (fEq.upd (fEq.refl) rfl) rfl) rfl) rfl) rfl) rfl rfl rfl
      repeat refine AW.seq ?_
      refine AW.cond rfl (fun hc33 => ?_) (fun hc33 => ?_)
      · repeat refine AW.seq ?_
        refine AW.region ?_
        refine RL.step (d := some 2) rfl rfl (xj_assignE rfl) ?_
        repeat refine AW.seq ?_
        refine AW.ret ?_
        exact ⟨_, _, rfl, rfl, congrArg (PV.int .i64) (by have e : attrE S k = 7 := (by unfold attrE; rw [if_neg (by simp [inF hc24]), hgd, if_pos (by simpa using hc33)]); rw [scanE_at hs (by rw [e]; decide) hlt, e])⟩
      · refine AW.skip ?_
        repeat refine AW.seq ?_
        refine AW.region ?_
        refine RL.step (d := some 34) rfl rfl (xj_add rfl rfl (by omega)) ?_
        refine RL.step (d := some 10) rfl rfl (xj_moveE rfl) ?_
        exact ⟨(k + 1, L ++ [S.attrs[k].1]), St.le_mkR [0, 4] ⟨by simp; rfl, rfl, rfl, rfl, trivial⟩ ⟨congrArg (fun c => some (Ob.gro 9 c)) (strs_snoc L S.attrs[k].1).symm, trivial⟩ rfl rfl (by decide) rfl, ⟨by simp only; omega, htk, by simp only; rw [scanE_succ hs]; unfold attrE; rw [if_neg (by simp [inF hc24]), hgd, if_neg (by simpa using hc33)]⟩, by simp only; omega⟩
  · repeat refine AW.seq ?_
    refine AW.exit ?_
    repeat refine AW.seq ?_
    refine AW.region ?_
    refine RL.step (d := some 2) rfl rfl (xj_assignE rfl) ?_
    repeat refine AW.seq ?_
    refine AW.ret ?_
    exact ⟨_, _, rfl, rfl, congrArg (PV.int .i64) (by rw [show S.attrs.length = k by omega, hs])⟩

end Go.Proofs.Ytkalgjnhaicabaa
