/-
  Texts of ours, joined: II, IJ, PA, PB, Re, PC, PD, PE, Rf, Rg, TA, E28, E29, TB, TD, TE, Fc, Gb, Gw, Ops, Op1. No statement of the program is proved here.
-/
import Derived.Laws.RangeString
import Derived.Handed
import Derived.LaidMore
import Derived.LaidLaws
import Derived.LaidHandle
import Derived.MakeChecks
import Derived.Lib.LaidTab
import Derived.Deep.Slices
import Derived.ChangeArms
import Derived.OpenShut
import Derived.Test.YtopjkdddicgajaaGreatDoorSm5
namespace Go.Proofs.YtopjkdddicgajaaGreatDoor
open Go.RowKit Mk
set_option maxRecDepth 100000
set_option maxHeartbeats 4000000
theorem val40_eq (p : Pgs) : ((((decide (p.job ≥ 0) && decide (p.job < 8)) && decide (p.done ≥ 0)) && decide (p.done ≤ 60)) && cvalid p.sum) = !badP p := by
  rw [badP]
  have e1 : decide (p.job ≥ 0) = !decide (p.job < 0) := by rw [Bool.eq_iff_iff]; simp
  have e2 : decide (p.job < 8) = !decide (p.job ≥ 8) := by rw [Bool.eq_iff_iff]; simp
  have e3 : decide (p.done ≥ 0) = !decide (p.done < 0) := by rw [Bool.eq_iff_iff]; simp
  have e4 : decide (p.done ≤ 60) = !decide (p.done > 60) := by rw [Bool.eq_iff_iff]; simp
  rw [e1, e2, e3, e4]
  cases decide (p.job < 0) <;> cases decide (p.job ≥ 8) <;> cases decide (p.done < 0) <;> cases decide (p.done > 60) <;> cases cvalid p.sum <;> rfl
theorem val40_spec (p : Pgs) (h : CSz p.sum) : FnP Tryz.prog 29 [.agg (pgsC p)] (· = .bool (!badP p)) := by
  refine FnP.of Tryz.func29 rfl Tryz.ntmps29 (by simp) fun m0 w0 F R0 => ?_
  have hv := val10_spec p.sum h
  have he := val40_eq p
  repeat refine AW.seq ?_
  refine AW.region ?_
  iterate 2 refine A1 rfl ?_
  repeat refine AW.seq ?_
  refine AW.region ?_
  iterate 4 refine A1 rfl ?_
  apply RL.andB 4 6 10 [7, 8, 9] rfl (by first | exact MonoK.le | exact MonoK.aw | exact MonoK.back)
  · intro hb3
    iterate 4 refine A1 rfl ?_
    exact St.le_fg (fEq.upd (fEq.upd (fEq.upd (fEq.upd (fEq.upd (fEq.refl) rfl) rfl) rfl) rfl) rfl) rfl rfl rfl
  · intro hb3
    iterate 4 refine A1 rfl ?_
    exact St.le_fg (fEq.upd (fEq.upd (fEq.upd (fEq.upd (fEq.upd (fEq.refl) rfl) rfl) rfl) rfl) rfl) rfl rfl rfl
  refine A1 rfl ?_
  apply RL.andB 4 11 15 [12, 13, 14] rfl (by first | exact MonoK.le | exact MonoK.aw | exact MonoK.back)
  · intro hb8
    iterate 4 refine A1 rfl ?_
    exact St.le_fg (fEq.upd (fEq.upd (fEq.upd (fEq.upd (fEq.upd (fEq.refl) rfl) rfl) rfl) rfl) rfl) rfl rfl rfl
  · intro hb8
    iterate 4 refine A1 rfl ?_
    exact St.le_fg (fEq.upd (fEq.upd (fEq.upd (fEq.upd (fEq.upd (fEq.refl) rfl) rfl) rfl) rfl) rfl) rfl rfl rfl
  refine A1 rfl ?_
  apply RL.andB 4 16 20 [17, 18, 19] rfl (by first | exact MonoK.le | exact MonoK.aw | exact MonoK.back)
  · intro hb13
    iterate 4 refine A1 rfl ?_
    exact St.le_fg (fEq.upd (fEq.upd (fEq.upd (fEq.upd (fEq.upd (fEq.refl) rfl) rfl) rfl) rfl) rfl) rfl rfl rfl
  · intro hb13
    iterate 4 refine A1 rfl ?_
    exact St.le_fg (fEq.upd (fEq.upd (fEq.upd (fEq.upd (fEq.upd (fEq.refl) rfl) rfl) rfl) rfl) rfl) rfl rfl rfl
  refine A1 rfl ?_
  apply RL.andB 4 21 25 [22, 23, 24] rfl (by first | exact MonoK.le | exact MonoK.aw | exact MonoK.back)
  · intro hb18
    iterate 2 refine A1 rfl ?_
    refine RL.stepG (d := some 24) rfl rfl rfl (xj_call Tryz.call61 hv rfl) ?_
    refine A1 rfl ?_
    exact St.le_fg (fEq.upd (fEq.upd (fEq.upd (fEq.upd (fEq.upd (fEq.refl) rfl) rfl) rfl) rfl) rfl) rfl rfl rfl
  · intro hb18
    iterate 4 refine A1 rfl ?_
    exact St.le_fg (fEq.upd (fEq.upd (fEq.upd (fEq.upd (fEq.upd (fEq.refl) rfl) rfl) rfl) rfl) rfl) rfl rfl rfl
  refine A1 rfl ?_
  repeat refine AW.seq ?_
  refine AW.ret ?_
  exact ⟨_, _, rfl, rfl, congrArg PV.bool he⟩
theorem line40_spec (p : Pgs) (h : PgS p) : FnP Tryz.prog 16 [.agg (pgsC p)] (· = .tup [.str (if badP p = true then emptyT else lineT p), .int .i64 (if badP p = true then 16 else 0)]) := by
  refine FnP.of Tryz.func16 rfl Tryz.ntmps16 (by simp) fun m0 w0 F R0 => ?_
  have hv := val40_spec p h.csz
  generalize hbp : badP p = bp at *
  have hbs := h.ok.b
  have hbd := body40_spec p h
  repeat refine AW.seq ?_
  refine AW.region ?_
  iterate 3 refine A1 rfl ?_
  repeat refine AW.seq ?_
  refine AW.region ?_
  refine A1 rfl ?_
  refine RL.step (d := some 6) rfl rfl (xj_call Tryz.call29 hv rfl) ?_
  refine A1 rfl ?_
  repeat refine AW.seq ?_
  refine AW.cond rfl (fun hc7 => ?_) (fun hc7 => ?_)
  · have hb : bp = true := by simpa using hc7
    repeat refine AW.seq ?_
    refine AW.region ?_
    iterate 2 refine A1 rfl ?_
    repeat refine AW.seq ?_
    refine AW.ret ?_
    exact ⟨_, _, rfl, rfl, by rw [hb]; rfl⟩
  · have hb : bp = false := by simpa using hc7
    have hbs := hbs (hbp.trans hb)
    have hfm := fmt_size (hashN (bodyT p).data.toList) (hash_lt _)
    have hfu := uns_spec (hashN (bodyT p).data.toList) (hash_lt _)
    have hlt := lineT.eq_1 p
    generalize lineT p = ln at *
    generalize bodyT p = bd at *
    have hha := hash26_spec bd.data.toList none (by have e : bd.data.toList.length = bd.size := Array.length_toList; omega)
    generalize hashN bd.data.toList = hsh at *
    generalize fmtT hsh = fm at *
    have hs1 : (⟨#[32]⟩ : ByteArray).size = 1 := rfl
    have hs2 : (⟨#[10]⟩ : ByteArray).size = 1 := rfl
    refine AW.skip ?_
    repeat refine AW.seq ?_
    refine AW.region ?_
    refine A1 rfl ?_
    refine RL.step (d := some 9) rfl rfl (xj_call Tryz.call30 hbd rfl) ?_
    refine A1 rfl ?_
    repeat refine AW.seq ?_
    refine AW.region ?_
    iterate 2 refine A1 rfl ?_
    refine RL.step (d := some 12) rfl rfl (xj_call Tryz.call32 hha rfl) ?_
    refine RL.step (d := some 13) rfl rfl (xj_call Tryz.call31 hfu rfl) ?_
    iterate 6 refine A1 rfl ?_
    repeat refine AW.seq ?_
    refine AW.ret ?_
    exact ⟨_, _, rfl, rfl, by subst hlt; rw [hb]; rfl⟩
/-- Whether two things are the same. -/
noncomputable def samB {α : Type} (a b : α) : Bool := @decide (a = b) (Classical.propDecidable _)
theorem samB_iff {α : Type} {a b : α} : samB a b = true ↔ a = b := by
  unfold samB
  exact @decide_eq_true_iff _ (Classical.propDecidable _)
theorem samB_no {α : Type} {a b : α} (h : a ≠ b) : samB a b = false := by
  cases e : samB a b with
  | false => rfl
  | true => exact absurd (samB_iff.1 e) h
theorem samB_yes {α : Type} {a b : α} (h : a = b) : samB a b = true := samB_iff.2 h
theorem ba_eq {a b : ByteArray} (h : (a.toList == b.toList) = true) : a = b := by
  rw [Lib.toList_data, Lib.toList_data, beq_iff_eq] at h
  exact ByteArray.ext (Array.ext' h)
theorem par_eq {p q : Par} (h : parEq p q = true) : p = q := by
  rw [parEq, Bool.and_eq_true, beq_iff_eq] at h
  obtain ⟨pf, pc⟩ := p
  obtain ⟨qf, qc⟩ := q
  obtain ⟨h1, h2⟩ := h
  obtain rfl : pf = qf := h1
  obtain rfl : pc = qc := ba_eq h2
  rfl
theorem par_refl (p : Par) : parEq p p = true := by rw [parEq]; simp
theorem trm_eq {p q : Trm} (h : trmEq p q = true) : p = q := by
  rw [trmEq, Bool.and_eq_true] at h
  obtain ⟨pp, pv⟩ := p
  obtain ⟨qp, qv⟩ := q
  obtain ⟨h1, h2⟩ := h
  obtain rfl : pp = qp := par_eq h1
  obtain rfl : pv = qv := ba_eq h2
  rfl
theorem trm_refl (p : Trm) : trmEq p p = true := by rw [trmEq, par_refl]; simp
theorem prr_eq {p q : Prr} (h : prrEq p q = true) : p = q := by
  rw [prrEq, Bool.and_eq_true, Bool.and_eq_true] at h
  obtain ⟨pa, pb, pv⟩ := p
  obtain ⟨qa, qb, qv⟩ := q
  obtain ⟨⟨h1, h2⟩, h3⟩ := h
  obtain rfl : pa = qa := par_eq h1
  obtain rfl : pb = qb := par_eq h2
  obtain rfl : pv = qv := ba_eq h3
  rfl
theorem prr_refl (p : Prr) : prrEq p p = true := by rw [prrEq, par_refl, par_refl]; simp
theorem list_eq {α : Type} {l m : List α} (hl : l.length = m.length) (h : ∀ (j : Nat) (h1 : j < l.length) (h2 : j < m.length), l[j] = m[j]) : l = m := List.ext_getElem hl h
theorem cof_ext {c d : Cof} (h1 : c.n = d.n) (h2 : c.s = d.s) (h3 : c.q = d.q) : c = d := by
  obtain ⟨cn, cs, cq⟩ := c
  obtain ⟨dn, ds, dq⟩ := d
  obtain rfl : cn = dn := h1
  obtain rfl : cs = ds := h2
  obtain rfl : cq = dq := h3
  rfl
theorem ne_of_len {α : Type} {l m : List α} (h : l.length ≠ m.length) : l ≠ m := fun e => h (by rw [e])
theorem same10_spec (c d : Cof) (h1 : c.s.length ≤ 100000) (h2 : c.q.length ≤ 100000) (h3 : d.s.length ≤ 100000) (h4 : d.q.length ≤ 100000) : FnP Tryz.prog 25 [.agg (cofC c), .agg (cofC d)] (· = .bool (samB c d)) := by
  refine FnP.of Tryz.func25 rfl Tryz.ntmps25 (by simp) fun m0 w0 F R0 => ?_
  have hno : (c.n ≠ d.n ∨ c.s.length ≠ d.s.length ∨ c.q.length ≠ d.q.length) → samB c d = false := fun h => samB_no fun e => by rw [e] at h; simp at h
  have hnoS : ∀ (j : Nat) (a : j < c.s.length) (b : j < d.s.length), c.s[j] ≠ d.s[j] → samB c d = false := fun j a b h => samB_no fun e => by subst e; exact h rfl
  have hnoQ : ∀ (j : Nat) (a : j < c.q.length) (b : j < d.q.length), c.q[j] ≠ d.q[j] → samB c d = false := fun j a b h => samB_no fun e => by subst e; exact h rfl
  have hyes : c.n = d.n → c.s = d.s → c.q = d.q → samB c d = true := fun a b e => samB_yes (cof_ext a b e)
  generalize samB c d = v at *
  repeat refine AW.seq ?_
  refine AW.region ?_
  iterate 3 refine A1 rfl ?_
  repeat refine AW.seq ?_
  refine AW.region ?_
  iterate 6 refine A1 rfl ?_
  apply RL.orB 8 12 20 [13, 14, 15, 16, 17, 18, 19] rfl (by first | exact MonoK.le | exact MonoK.aw | exact MonoK.back)
  · intro hb5
    iterate 8 refine A1 rfl ?_
    exact St.le_fg (fEq.upd (fEq.upd (fEq.upd (fEq.upd (fEq.upd (fEq.upd (fEq.upd (fEq.upd (fEq.upd (fEq.refl) rfl) rfl) rfl) rfl) rfl) rfl) rfl) rfl) rfl) rfl rfl rfl
  · intro hb5
    iterate 8 refine A1 rfl ?_
    exact St.le_fg (fEq.upd (fEq.upd (fEq.upd (fEq.upd (fEq.upd (fEq.upd (fEq.upd (fEq.upd (fEq.upd (fEq.refl) rfl) rfl) rfl) rfl) rfl) rfl) rfl) rfl) rfl) rfl rfl rfl
  refine A1 rfl ?_
  apply RL.orB 8 21 29 [22, 23, 24, 25, 26, 27, 28] rfl (by first | exact MonoK.le | exact MonoK.aw | exact MonoK.back)
  · intro hb14
    iterate 8 refine A1 rfl ?_
    exact St.le_fg (fEq.upd (fEq.upd (fEq.upd (fEq.upd (fEq.upd (fEq.upd (fEq.upd (fEq.upd (fEq.upd (fEq.refl) rfl) rfl) rfl) rfl) rfl) rfl) rfl) rfl) rfl) rfl rfl rfl
  · intro hb14
    iterate 8 refine A1 rfl ?_
    exact St.le_fg (fEq.upd (fEq.upd (fEq.upd (fEq.upd (fEq.upd (fEq.upd (fEq.upd (fEq.upd (fEq.upd (fEq.refl) rfl) rfl) rfl) rfl) rfl) rfl) rfl) rfl) rfl) rfl rfl rfl
  repeat refine AW.seq ?_
  refine AW.cond rfl (fun hc29 => ?_) (fun hc29 => ?_)
  · repeat refine AW.seq ?_
    refine AW.region ?_
    refine A1 rfl ?_
    repeat refine AW.seq ?_
    refine AW.ret ?_
    refine ⟨_, _, rfl, rfl, congrArg PV.bool (hno ?_).symm⟩
    simp only [Bool.or_eq_true] at hc29
    rcases hc29 with (h | h) | h
    · exact .inl fun e => by rw [e] at h; simp at h
    · have := of_bne h; exact .inr (.inl (by omega))
    · have := of_bne h; exact .inr (.inr (by omega))
  · have hsame : c.n = d.n ∧ c.s.length = d.s.length ∧ c.q.length = d.q.length := by
      simp only [Bool.or_eq_false_iff] at hc29
      obtain ⟨⟨g1, g2⟩, g3⟩ := hc29
      have := of_nbne g2
      have := of_nbne g3
      exact ⟨ba_eq (by simpa using g1), by omega, by omega⟩
    obtain ⟨en, es, eq⟩ := hsame
    refine AW.skip ?_
    repeat refine AW.seq ?_
    refine AW.region ?_
    iterate 4 refine A1 rfl ?_
    repeat refine AW.seq ?_
    refine AW.block ?_
    repeat refine AW.seq ?_
    refine AW.loop (st := fun x_0 : Nat => mkS [(2, .ptr 0 0), (3, .ptr 1 0), (32, .pv (.int .i64 c.s.length)), (33, .pv (.int .i64 x_0))] [(0, .mix 31 [.pv (.str c.n), .pv (.sl none c.s.length (trmsC c.s)), .pv (.sl none c.q.length (prrsC c.q))]), (1, .mix 31 [.pv (.str d.n), .pv (.sl none d.s.length (trmsC d.s)), .pv (.sl none d.q.length (prrsC d.q))])] 2)
      (I := fun x_0 => x_0 ≤ c.s.length ∧ ∀ (j : Nat) (a : j < c.s.length) (b : j < d.s.length), j < x_0 → c.s[j] = d.s[j]) (μ := fun x_0 => c.s.length - x_0) (x0 := (0)) (St.le_mk ⟨rfl, rfl, rfl, rfl, trivial⟩ ⟨rfl, rfl, trivial⟩ rfl rfl) (⟨Nat.zero_le _, fun _ _ _ h => absurd h (Nat.not_lt_zero _)⟩) ?_
    rintro i ⟨hi, hall⟩
    repeat refine AW.seq ?_
    refine AW.region ?_
    refine A1 rfl ?_
    repeat refine AW.seq ?_
    refine AW.condP rfl (fun hc34 => ?_) (fun hc34 => ?_)
    · have hic : i < c.s.length := by omega
      have hid : i < d.s.length := by omega
      have hr1 := trm_row hic
      have hr2 := trm_row hid
      have hn1 := trm_ne hic
      have hn2 := trm_ne hid
      have hno2 := hnoS i hic hid
      have hyes2 : c.s[i] = d.s[i] → ∀ (j : Nat) (a : j < c.s.length) (b : j < d.s.length), j < i + 1 → c.s[j] = d.s[j] := fun e j a b hj => by
        rcases Nat.lt_succ_iff_lt_or_eq.1 hj with h | h
        · exact hall j a b h
        · subst h; exact e
      have hte := @trm_eq c.s[i] d.s[i]
      have htn : trmEq c.s[i] d.s[i] = false → c.s[i] ≠ d.s[i] := fun h e => by rw [e, trm_refl] at h; cases h
      refine AW.skip ?_
      repeat refine AW.seq ?_
      refine AW.block ?_
      repeat refine AW.seq ?_
      refine AW.region ?_
      iterate 2 refine A1 rfl ?_
      generalize c.s[i] = t1 at *
      generalize d.s[i] = t2 at *
      repeat refine AW.seq ?_
      refine AW.draw follows [[], [0], [], [2, 1, 0], [3, 2, 1, 0], [], [5], [], [7, 6, 5], [8, 7, 6, 5], [9, 4, 3, 2, 1, 0, 8, 7, 6, 5]] [0, 1, 2, 3, 4, 5, 6, 7, 8, 9, 10] (by kernel_rfl) (by kernel_rfl) ?_
      iterate 4 refine D1 rfl rfl ?_
      first | refine D3 rfl rfl (by assumption) ?_ | refine D1 rfl rfl ?_
      iterate 4 refine D1 rfl rfl ?_
      first | refine D3 rfl rfl (by assumption) ?_ | refine D1 rfl rfl ?_
      refine DL.step (d := some 46) [] rfl rfl rfl (fun τ h => xj_neTrm (p := t1) (q := t2) rfl ((h.e 0 _ rfl).trans rfl) ((h.e 1 _ rfl).trans rfl)) rfl (by kernel_rfl) ?_
      refine ⟨by kernel_rfl, ?_⟩
      repeat refine AW.seq ?_
      refine AW.cond rfl (fun hc46 => ?_) (fun hc46 => ?_)
      · repeat refine AW.seq ?_
        refine AW.region ?_
        refine A1 rfl ?_
        repeat refine AW.seq ?_
        refine AW.ret ?_
        exact ⟨_, _, rfl, rfl, congrArg PV.bool (hno2 (htn (by simpa using hc46))).symm⟩
      · refine AW.skip ?_
        repeat refine AW.seq ?_
        refine AW.region ?_
        iterate 2 refine A1 rfl ?_
        exact ⟨(i + 1), St.le_mk ⟨rfl, rfl, rfl, rfl, trivial⟩ ⟨rfl, rfl, trivial⟩ rfl rfl, ⟨by omega, hyes2 (hte (by simpa using hc46))⟩, by omega⟩
    · have hss : c.s = d.s := list_eq es fun j a b => hall j a b (by omega)
      clear hall
      repeat refine AW.seq ?_
      refine AW.exit ?_
      repeat refine AW.seq ?_
      refine AW.region ?_
      iterate 4 refine A1 rfl ?_
      repeat refine AW.seq ?_
      refine AW.block ?_
      repeat refine AW.seq ?_
      refine AW.loop (st := fun x_1 : Nat => mkS [(2, .ptr 0 0), (3, .ptr 1 0), (50, .pv (.int .i64 c.q.length)), (51, .pv (.int .i64 x_1))] [(0, .mix 31 [.pv (.str c.n), .pv (.sl none c.s.length (trmsC c.s)), .pv (.sl none c.q.length (prrsC c.q))]), (1, .mix 31 [.pv (.str d.n), .pv (.sl none d.s.length (trmsC d.s)), .pv (.sl none d.q.length (prrsC d.q))])] 2)
        (I := fun x_1 => x_1 ≤ c.q.length ∧ ∀ (j : Nat) (a : j < c.q.length) (b : j < d.q.length), j < x_1 → c.q[j] = d.q[j]) (μ := fun x_1 => c.q.length - x_1) (x0 := (0)) (St.le_mk ⟨rfl, rfl, rfl, rfl, trivial⟩ ⟨rfl, rfl, trivial⟩ rfl rfl) (⟨Nat.zero_le _, fun _ _ _ h => absurd h (Nat.not_lt_zero _)⟩) ?_
      rintro i ⟨hi, hall⟩
      repeat refine AW.seq ?_
      refine AW.region ?_
      refine A1 rfl ?_
      repeat refine AW.seq ?_
      refine AW.condP rfl (fun hc52 => ?_) (fun hc52 => ?_)
      · have hic : i < c.q.length := by omega
        have hid : i < d.q.length := by omega
        have hr1 := prr_row hic
        have hr2 := prr_row hid
        have hn1 := prr_ne hic
        have hn2 := prr_ne hid
        have hno2 := hnoQ i hic hid
        have hyes2 : c.q[i] = d.q[i] → ∀ (j : Nat) (a : j < c.q.length) (b : j < d.q.length), j < i + 1 → c.q[j] = d.q[j] := fun e j a b hj => by
          rcases Nat.lt_succ_iff_lt_or_eq.1 hj with h | h
          · exact hall j a b h
          · subst h; exact e
        have hte := @prr_eq c.q[i] d.q[i]
        have htn : prrEq c.q[i] d.q[i] = false → c.q[i] ≠ d.q[i] := fun h e => by rw [e, prr_refl] at h; cases h
        refine AW.skip ?_
        repeat refine AW.seq ?_
        refine AW.block ?_
        repeat refine AW.seq ?_
        refine AW.region ?_
        iterate 2 refine A1 rfl ?_
        generalize c.q[i] = t1 at *
        generalize d.q[i] = t2 at *
        repeat refine AW.seq ?_
        refine AW.draw follows [[], [0], [], [2, 1, 0], [3, 2, 1, 0], [], [5], [], [7, 6, 5], [8, 7, 6, 5], [9, 4, 3, 2, 1, 0, 8, 7, 6, 5]] [0, 1, 2, 3, 4, 5, 6, 7, 8, 9, 10] (by kernel_rfl) (by kernel_rfl) ?_
        iterate 4 refine D1 rfl rfl ?_
        first | refine D3 rfl rfl (by assumption) ?_ | refine D1 rfl rfl ?_
        iterate 4 refine D1 rfl rfl ?_
        first | refine D3 rfl rfl (by assumption) ?_ | refine D1 rfl rfl ?_
        refine DL.step (d := some 64) [] rfl rfl rfl (fun τ h => xj_nePrr (p := t1) (q := t2) rfl ((h.e 0 _ rfl).trans rfl) ((h.e 1 _ rfl).trans rfl)) rfl (by kernel_rfl) ?_
        refine ⟨by kernel_rfl, ?_⟩
        repeat refine AW.seq ?_
        refine AW.cond rfl (fun hc64 => ?_) (fun hc64 => ?_)
        · repeat refine AW.seq ?_
          refine AW.region ?_
          refine A1 rfl ?_
          repeat refine AW.seq ?_
          refine AW.ret ?_
          exact ⟨_, _, rfl, rfl, congrArg PV.bool (hno2 (htn (by simpa using hc64))).symm⟩
        · refine AW.skip ?_
          repeat refine AW.seq ?_
          refine AW.region ?_
          iterate 2 refine A1 rfl ?_
          exact ⟨(i + 1), St.le_mk ⟨rfl, rfl, rfl, rfl, trivial⟩ ⟨rfl, rfl, trivial⟩ rfl rfl, ⟨by omega, hyes2 (hte (by simpa using hc64))⟩, by omega⟩
      · repeat refine AW.seq ?_
        refine AW.exit ?_
        repeat refine AW.seq ?_
        refine AW.region ?_
        refine A1 rfl ?_
        repeat refine AW.seq ?_
        refine AW.ret ?_
        exact ⟨_, _, rfl, rfl, congrArg PV.bool (hyes en hss (list_eq eq fun j a b => hall j a b (by omega))).symm⟩
end Go.Proofs.YtopjkdddicgajaaGreatDoor
namespace Go.Proofs.YtopjkdddicgajaaGreatDoor
open Go.RowKit Mk
set_option maxRecDepth 100000
set_option maxHeartbeats 4000000
theorem pgs_row {l : List Pgs} {k : Nat} (h : k < l.length) : ((pgssC l).drop (k * 5)).take 5 = pgsC l[k] := flat_row _ 5 (fun _ => rfl) l k h
theorem pgs_ne {l : List Pgs} {k : Nat} (h : k < l.length) : pgssC l ≠ [] := fun e => by have := pgssC_len l; rw [e] at this; simp at this; omega
theorem pgs_cell {l : List Pgs} {k : Nat} (h : k < l.length) (d : Nat) (hd : d < 5) : (pgssC l)[k * 5 + d]? = (pgsC l[k])[d]? := by
  have e := congrArg (·[d]?) (pgs_row h)
  simp only [List.getElem?_take, if_pos hd, List.getElem?_drop] at e
  exact e
theorem pgs_sum {l : List Pgs} {k : Nat} (h : k < l.length) : ((pgssC l).drop (k * 5 + 2)).take 3 = cofC l[k].sum := by
  have e := congrArg (List.drop 2) (pgs_row h)
  rw [List.drop_take, List.drop_drop] at e
  exact e
theorem pgs_ext {p q : Pgs} (h1 : p.job = q.job) (h2 : p.done = q.done) (h3 : p.sum = q.sum) : p = q := by
  obtain ⟨a, b, c⟩ := p
  obtain ⟨a', b', c'⟩ := q
  obtain rfl : a = a' := h1
  obtain rfl : b = b' := h2
  obtain rfl : c = c' := h3
  rfl
/-- Lists that Same reads. -/
def PLs (l : List Pgs) : Prop := l.length ≤ 100000000 ∧ ∀ p ∈ l, p.sum.s.length ≤ 100000 ∧ p.sum.q.length ≤ 100000
theorem same40_spec (l m : List Pgs) (hl : PLs l) (hm : PLs m) : FnP Tryz.prog 11 [.sl none l.length (pgssC l), .sl none m.length (pgssC m)] (· = .bool (samB l m)) := by
  refine FnP.of Tryz.func11 rfl Tryz.ntmps11 (by simp) fun m0 w0 F R0 => ?_
  have hno : l.length ≠ m.length → samB l m = false := fun h => samB_no (ne_of_len h)
  have hnoJ : ∀ (j : Nat) (a : j < l.length) (b : j < m.length), l[j] ≠ m[j] → samB l m = false := fun j a b h => samB_no fun e => by subst e; exact h rfl
  have hyes : l = m → samB l m = true := samB_yes
  have hl1 := hl.1
  have hm1 := hm.1
  generalize samB l m = v at *
  repeat refine AW.seq ?_
  refine AW.region ?_
  refine A1 rfl ?_
  repeat refine AW.seq ?_
  refine AW.region ?_
  iterate 5 refine A1 rfl ?_
  repeat refine AW.seq ?_
  refine AW.cond rfl (fun hc10 => ?_) (fun hc10 => ?_)
  · repeat refine AW.seq ?_
    refine AW.region ?_
    refine A1 rfl ?_
    repeat refine AW.seq ?_
    refine AW.ret ?_
    exact ⟨_, _, rfl, rfl, congrArg PV.bool (hno (by have := of_bne hc10; omega)).symm⟩
  · have hlen : l.length = m.length := by have := of_nbne hc10; omega
    refine AW.skip ?_
    repeat refine AW.seq ?_
    refine AW.region ?_
    iterate 3 refine A1 rfl ?_
    repeat refine AW.seq ?_
    refine AW.block ?_
    repeat refine AW.seq ?_
    refine AW.loop (st := fun x_0 : Nat => mkS [(0, .pv (.sl none l.length (pgssC l))), (1, .pv (.sl none m.length (pgssC m))), (12, .pv (.int .i64 l.length)), (13, .pv (.int .i64 x_0))] [] 0)
      (I := fun x_0 => x_0 ≤ l.length ∧ ∀ (j : Nat) (a : j < l.length) (b : j < m.length), j < x_0 → l[j] = m[j]) (μ := fun x_0 => l.length - x_0) (x0 := (0)) (St.le_mk ⟨rfl, rfl, rfl, rfl, trivial⟩ trivial rfl rfl) (⟨Nat.zero_le _, fun _ _ _ h => absurd h (Nat.not_lt_zero _)⟩) ?_
    rintro i ⟨hi, hall⟩
    repeat refine AW.seq ?_
    refine AW.region ?_
    refine A1 rfl ?_
    repeat refine AW.seq ?_
    refine AW.condP rfl (fun hc14 => ?_) (fun hc14 => ?_)
    · have hil : i < l.length := by omega
      have him : i < m.length := by omega
      have a0 := pgs_cell hil 0 (by decide)
      have a1 := pgs_cell hil 1 (by decide)
      have a2 := pgs_sum hil
      have b0 := pgs_cell him 0 (by decide)
      have b1 := pgs_cell him 1 (by decide)
      have b2 := pgs_sum him
      have hnl := pgs_ne hil
      have hnm := pgs_ne him
      have hno2 := hnoJ i hil him
      have hyes2 : l[i] = m[i] → ∀ (j : Nat) (a : j < l.length) (b : j < m.length), j < i + 1 → l[j] = m[j] := fun e j a b hj => by
        rcases Nat.lt_succ_iff_lt_or_eq.1 hj with h | h
        · exact hall j a b h
        · subst h; exact e
      have hp1 := hl.2 _ (List.getElem_mem hil)
      have hp2 := hm.2 _ (List.getElem_mem him)
      have hll := pgssC_len l
      have hml := pgssC_len m
      refine AW.skip ?_
      repeat refine AW.seq ?_
      refine AW.block ?_
      repeat refine AW.seq ?_
      refine AW.region ?_
      iterate 2 refine A1 rfl ?_
      generalize l[i] = p at *
      generalize m[i] = q at *
      have hsm := same10_spec p.sum q.sum hp1.1 hp1.2 hp2.1 hp2.2
      obtain ⟨sb, hsb⟩ : ∃ b, b = samB p.sum q.sum := ⟨_, rfl⟩
      rw [← hsb] at hsm
      by_cases hj : p.job = q.job
      · by_cases hd : p.done = q.done
        · repeat refine AW.seq ?_
          refine AW.draw follows [[], [], [1, 0], [2, 1, 0], [3, 2, 1, 0], [], [], [6, 5], [7, 6, 5], [8, 7, 6, 5], [9, 4, 3, 2, 1, 0, 8, 7, 6, 5], [10, 9, 4, 3, 2, 1, 0, 8, 7, 6, 5], [11, 10, 9, 4, 3, 2, 1, 0, 8, 7, 6, 5], [11, 10, 9, 4, 3, 2, 1, 0, 8, 7, 6, 5], [13, 12, 11, 10, 9, 4, 3, 2, 1, 0, 8, 7, 6, 5], [14, 13, 12, 11, 10, 9, 4, 3, 2, 1, 0, 8, 7, 6, 5], [15, 14, 13, 12, 11, 10, 9, 4, 3, 2, 1, 0, 8, 7, 6, 5], [11, 10, 9, 4, 3, 2, 1, 0, 8, 7, 6, 5], [11, 10, 9, 4, 3, 2, 1, 0, 8, 7, 6, 5], [18, 17, 11, 10, 9, 4, 3, 2, 1, 0, 8, 7, 6, 5], [19, 18, 17, 11, 10, 9, 4, 3, 2, 1, 0, 8, 7, 6, 5], [20, 19, 18, 17, 11, 10, 9, 4, 3, 2, 1, 0, 8, 7, 6, 5], [21, 16, 15, 14, 13, 12, 11, 10, 9, 4, 3, 2, 1, 0, 8, 7, 6, 5, 20, 19, 18, 17], [22, 11, 10, 9, 4, 3, 2, 1, 0, 8, 7, 6, 5, 21, 16, 15, 14, 13, 12, 20, 19, 18, 17], [23, 22, 11, 10, 9, 4, 3, 2, 1, 0, 8, 7, 6, 5, 21, 16, 15, 14, 13, 12, 20, 19, 18, 17], [24, 23, 22, 11, 10, 9, 4, 3, 2, 1, 0, 8, 7, 6, 5, 21, 16, 15, 14, 13, 12, 20, 19, 18, 17], [24, 23, 22, 11, 10, 9, 4, 3, 2, 1, 0, 8, 7, 6, 5, 21, 16, 15, 14, 13, 12, 20, 19, 18, 17], [26, 25, 24, 23, 22, 11, 10, 9, 4, 3, 2, 1, 0, 8, 7, 6, 5, 21, 16, 15, 14, 13, 12, 20, 19, 18, 17], [27, 26, 25, 24, 23, 22, 11, 10, 9, 4, 3, 2, 1, 0, 8, 7, 6, 5, 21, 16, 15, 14, 13, 12, 20, 19, 18, 17], [28, 27, 26, 25, 24, 23, 22, 11, 10, 9, 4, 3, 2, 1, 0, 8, 7, 6, 5, 21, 16, 15, 14, 13, 12, 20, 19, 18, 17], [24, 23, 22, 11, 10, 9, 4, 3, 2, 1, 0, 8, 7, 6, 5, 21, 16, 15, 14, 13, 12, 20, 19, 18, 17], [24, 23, 22, 11, 10, 9, 4, 3, 2, 1, 0, 8, 7, 6, 5, 21, 16, 15, 14, 13, 12, 20, 19, 18, 17], [31, 30, 24, 23, 22, 11, 10, 9, 4, 3, 2, 1, 0, 8, 7, 6, 5, 21, 16, 15, 14, 13, 12, 20, 19, 18, 17], [32, 31, 30, 24, 23, 22, 11, 10, 9, 4, 3, 2, 1, 0, 8, 7, 6, 5, 21, 16, 15, 14, 13, 12, 20, 19, 18, 17], [33, 32, 31, 30, 24, 23, 22, 11, 10, 9, 4, 3, 2, 1, 0, 8, 7, 6, 5, 21, 16, 15, 14, 13, 12, 20, 19, 18, 17], [34, 29, 28, 27, 26, 25, 24, 23, 22, 11, 10, 9, 4, 3, 2, 1, 0, 8, 7, 6, 5, 21, 16, 15, 14, 13, 12, 20, 19, 18, 17, 33, 32, 31, 30], [35, 34, 29, 28, 27, 26, 25, 24, 23, 22, 11, 10, 9, 4, 3, 2, 1, 0, 8, 7, 6, 5, 21, 16, 15, 14, 13, 12, 20, 19, 18, 17, 33, 32, 31, 30], [36, 24, 23, 22, 11, 10, 9, 4, 3, 2, 1, 0, 8, 7, 6, 5, 21, 16, 15, 14, 13, 12, 20, 19, 18, 17, 35, 34, 29, 28, 27, 26, 25, 33, 32, 31, 30]] [0, 1, 2, 3, 4, 5, 6, 7, 8, 9, 10, 11, 12, 13, 14, 15, 16, 17, 18, 19, 20, 21, 22, 23, 24, 25, 26, 27, 28, 29, 30, 31, 32, 33, 34, 35, 36, 37] (by kernel_rfl) (by kernel_rfl) ?_
          iterate 2 refine D1 rfl rfl ?_
          refine DL.step (d := some 18) [] rfl rfl rfl (fun τ h => xj_indexAddr i Tryz.underlying39 sz33 ((h.e 0 _ rfl).trans rfl) ((h.e 1 _ rfl).trans rfl) rfl hil hnl) rfl (by kernel_rfl) ?_
          refine D1 rfl rfl ?_
          refine DL.step (d := some 20) [] rfl rfl rfl (fun τ h => xj_loadR ⟨_, Tryz.underlying3, rfl⟩ ((h.e 0 _ rfl).trans rfl) a0) rfl (by kernel_rfl) ?_
          iterate 2 refine D1 rfl rfl ?_
          refine DL.step (d := some 23) [] rfl rfl rfl (fun τ h => xj_indexAddr i Tryz.underlying39 sz33 ((h.e 0 _ rfl).trans rfl) ((h.e 1 _ rfl).trans rfl) rfl him hnm) rfl (by kernel_rfl) ?_
          refine D1 rfl rfl ?_
          refine DL.step (d := some 25) [] rfl rfl rfl (fun τ h => xj_loadR ⟨_, Tryz.underlying3, rfl⟩ ((h.e 0 _ rfl).trans rfl) b0) rfl (by kernel_rfl) ?_
          refine DL.step (d := some 26) [] rfl rfl rfl (fun τ h => XJ.cast (v' := .pv (.bool false)) (xj_bin ((h.e 0 _ rfl).trans rfl) ((h.e 1 _ rfl).trans rfl) rfl) (congrArg (fun b => V.pv (.bool b)) (by simpa using hj))) rfl (by kernel_rfl) ?_
          iterate 3 refine D1 rfl rfl ?_
          refine DL.stepG (d := some 30) [] rfl rfl rfl rfl (fun τ h => xj_indexAddr i Tryz.underlying39 sz33 ((h.e 0 _ rfl).trans rfl) ((h.e 1 _ rfl).trans rfl) rfl hil hnl) rfl (by kernel_rfl) ?_
          refine D1 rfl rfl ?_
          refine DL.stepG (d := some 32) [] rfl rfl rfl rfl (fun τ h => xj_loadR ⟨_, Tryz.underlying3, rfl⟩ ((h.e 0 _ rfl).trans rfl) a1) rfl (by kernel_rfl) ?_
          iterate 2 refine D1 rfl rfl ?_
          refine DL.stepG (d := some 35) [] rfl rfl rfl rfl (fun τ h => xj_indexAddr i Tryz.underlying39 sz33 ((h.e 0 _ rfl).trans rfl) ((h.e 1 _ rfl).trans rfl) rfl him hnm) rfl (by kernel_rfl) ?_
          refine D1 rfl rfl ?_
          refine DL.stepG (d := some 37) [] rfl rfl rfl rfl (fun τ h => xj_loadR ⟨_, Tryz.underlying3, rfl⟩ ((h.e 0 _ rfl).trans rfl) b1) rfl (by kernel_rfl) ?_
          refine DL.stepG (d := some 38) [] rfl rfl rfl rfl (fun τ h => XJ.cast (v' := .pv (.bool false)) (xj_bin ((h.e 0 _ rfl).trans rfl) ((h.e 1 _ rfl).trans rfl) rfl) (congrArg (fun b => V.pv (.bool b)) (by simpa using hd))) rfl (by kernel_rfl) ?_
          iterate 4 refine D1 rfl rfl ?_
          refine DL.stepG (d := some 43) [] rfl rfl rfl rfl (fun τ h => xj_indexAddr i Tryz.underlying39 sz33 ((h.e 0 _ rfl).trans rfl) ((h.e 1 _ rfl).trans rfl) rfl hil hnl) rfl (by kernel_rfl) ?_
          refine D1 rfl rfl ?_
          refine DL.stepG (d := some 45) [] rfl rfl rfl rfl (fun τ h => xj_loadAR ⟨_, Tryz.underlying31, rfl⟩ sz31 ((h.e 0 _ rfl).trans rfl) a2 rfl) rfl (by kernel_rfl) ?_
          iterate 2 refine D1 rfl rfl ?_
          refine DL.stepG (d := some 48) [] rfl rfl rfl rfl (fun τ h => xj_indexAddr i Tryz.underlying39 sz33 ((h.e 0 _ rfl).trans rfl) ((h.e 1 _ rfl).trans rfl) rfl him hnm) rfl (by kernel_rfl) ?_
          refine D1 rfl rfl ?_
          refine DL.stepG (d := some 50) [] rfl rfl rfl rfl (fun τ h => xj_loadAR ⟨_, Tryz.underlying31, rfl⟩ sz31 ((h.e 0 _ rfl).trans rfl) b2 rfl) rfl (by kernel_rfl) ?_
          refine DL.stepG (d := some 51) [] rfl rfl rfl rfl (fun τ h => xj_call Tryz.call25 hsm (h.argsP rfl)) rfl (by kernel_rfl) ?_
          iterate 2 refine D1 rfl rfl ?_
          refine ⟨by kernel_rfl, ?_⟩
          repeat refine AW.seq ?_
          refine AW.cond rfl (fun hc53 => ?_) (fun hc53 => ?_)
          · repeat refine AW.seq ?_
            refine AW.region ?_
            refine A1 rfl ?_
            repeat refine AW.seq ?_
            refine AW.ret ?_
            have h2 : sb = false := by simpa using hc53
            exact ⟨_, _, rfl, rfl, congrArg PV.bool (hno2 fun e => by rw [h2, e, samB_yes rfl] at hsb; cases hsb).symm⟩
          · refine AW.skip ?_
            repeat refine AW.seq ?_
            refine AW.region ?_
            iterate 2 refine A1 rfl ?_
            exact ⟨(i + 1), St.le_mk ⟨rfl, rfl, rfl, rfl, trivial⟩ trivial rfl rfl, ⟨by omega, hyes2 (pgs_ext hj hd (samB_iff.1 (by rw [← hsb]; simpa using hc53)))⟩, by omega⟩
        · repeat refine AW.seq ?_
          refine AW.draw follows [[], [], [1, 0], [2, 1, 0], [3, 2, 1, 0], [], [], [6, 5], [7, 6, 5], [8, 7, 6, 5], [9, 4, 3, 2, 1, 0, 8, 7, 6, 5], [10, 9, 4, 3, 2, 1, 0, 8, 7, 6, 5], [11, 10, 9, 4, 3, 2, 1, 0, 8, 7, 6, 5], [11, 10, 9, 4, 3, 2, 1, 0, 8, 7, 6, 5], [13, 12, 11, 10, 9, 4, 3, 2, 1, 0, 8, 7, 6, 5], [14, 13, 12, 11, 10, 9, 4, 3, 2, 1, 0, 8, 7, 6, 5], [15, 14, 13, 12, 11, 10, 9, 4, 3, 2, 1, 0, 8, 7, 6, 5], [11, 10, 9, 4, 3, 2, 1, 0, 8, 7, 6, 5], [11, 10, 9, 4, 3, 2, 1, 0, 8, 7, 6, 5], [18, 17, 11, 10, 9, 4, 3, 2, 1, 0, 8, 7, 6, 5], [19, 18, 17, 11, 10, 9, 4, 3, 2, 1, 0, 8, 7, 6, 5], [20, 19, 18, 17, 11, 10, 9, 4, 3, 2, 1, 0, 8, 7, 6, 5], [21, 16, 15, 14, 13, 12, 11, 10, 9, 4, 3, 2, 1, 0, 8, 7, 6, 5, 20, 19, 18, 17], [22, 11, 10, 9, 4, 3, 2, 1, 0, 8, 7, 6, 5, 21, 16, 15, 14, 13, 12, 20, 19, 18, 17], [23, 22, 11, 10, 9, 4, 3, 2, 1, 0, 8, 7, 6, 5, 21, 16, 15, 14, 13, 12, 20, 19, 18, 17], [24, 23, 22, 11, 10, 9, 4, 3, 2, 1, 0, 8, 7, 6, 5, 21, 16, 15, 14, 13, 12, 20, 19, 18, 17], [24, 23, 22, 11, 10, 9, 4, 3, 2, 1, 0, 8, 7, 6, 5, 21, 16, 15, 14, 13, 12, 20, 19, 18, 17], [26, 25, 24, 23, 22, 11, 10, 9, 4, 3, 2, 1, 0, 8, 7, 6, 5, 21, 16, 15, 14, 13, 12, 20, 19, 18, 17], [27, 26, 25, 24, 23, 22, 11, 10, 9, 4, 3, 2, 1, 0, 8, 7, 6, 5, 21, 16, 15, 14, 13, 12, 20, 19, 18, 17], [28, 27, 26, 25, 24, 23, 22, 11, 10, 9, 4, 3, 2, 1, 0, 8, 7, 6, 5, 21, 16, 15, 14, 13, 12, 20, 19, 18, 17], [24, 23, 22, 11, 10, 9, 4, 3, 2, 1, 0, 8, 7, 6, 5, 21, 16, 15, 14, 13, 12, 20, 19, 18, 17], [24, 23, 22, 11, 10, 9, 4, 3, 2, 1, 0, 8, 7, 6, 5, 21, 16, 15, 14, 13, 12, 20, 19, 18, 17], [31, 30, 24, 23, 22, 11, 10, 9, 4, 3, 2, 1, 0, 8, 7, 6, 5, 21, 16, 15, 14, 13, 12, 20, 19, 18, 17], [32, 31, 30, 24, 23, 22, 11, 10, 9, 4, 3, 2, 1, 0, 8, 7, 6, 5, 21, 16, 15, 14, 13, 12, 20, 19, 18, 17], [33, 32, 31, 30, 24, 23, 22, 11, 10, 9, 4, 3, 2, 1, 0, 8, 7, 6, 5, 21, 16, 15, 14, 13, 12, 20, 19, 18, 17], [34, 29, 28, 27, 26, 25, 24, 23, 22, 11, 10, 9, 4, 3, 2, 1, 0, 8, 7, 6, 5, 21, 16, 15, 14, 13, 12, 20, 19, 18, 17, 33, 32, 31, 30], [35, 34, 29, 28, 27, 26, 25, 24, 23, 22, 11, 10, 9, 4, 3, 2, 1, 0, 8, 7, 6, 5, 21, 16, 15, 14, 13, 12, 20, 19, 18, 17, 33, 32, 31, 30], [36, 24, 23, 22, 11, 10, 9, 4, 3, 2, 1, 0, 8, 7, 6, 5, 21, 16, 15, 14, 13, 12, 20, 19, 18, 17, 35, 34, 29, 28, 27, 26, 25, 33, 32, 31, 30]] [0, 1, 2, 3, 4, 5, 6, 7, 8, 9, 10, 11, 12, 13, 14, 15, 16, 17, 18, 19, 20, 21, 22, 23, 24, 25, 26, 27, 28, 29, 30, 31, 32, 33, 34, 35, 36, 37] (by kernel_rfl) (by kernel_rfl) ?_
          iterate 2 refine D1 rfl rfl ?_
          refine DL.step (d := some 18) [] rfl rfl rfl (fun τ h => xj_indexAddr i Tryz.underlying39 sz33 ((h.e 0 _ rfl).trans rfl) ((h.e 1 _ rfl).trans rfl) rfl hil hnl) rfl (by kernel_rfl) ?_
          refine D1 rfl rfl ?_
          refine DL.step (d := some 20) [] rfl rfl rfl (fun τ h => xj_loadR ⟨_, Tryz.underlying3, rfl⟩ ((h.e 0 _ rfl).trans rfl) a0) rfl (by kernel_rfl) ?_
          iterate 2 refine D1 rfl rfl ?_
          refine DL.step (d := some 23) [] rfl rfl rfl (fun τ h => xj_indexAddr i Tryz.underlying39 sz33 ((h.e 0 _ rfl).trans rfl) ((h.e 1 _ rfl).trans rfl) rfl him hnm) rfl (by kernel_rfl) ?_
          refine D1 rfl rfl ?_
          refine DL.step (d := some 25) [] rfl rfl rfl (fun τ h => xj_loadR ⟨_, Tryz.underlying3, rfl⟩ ((h.e 0 _ rfl).trans rfl) b0) rfl (by kernel_rfl) ?_
          refine DL.step (d := some 26) [] rfl rfl rfl (fun τ h => XJ.cast (v' := .pv (.bool false)) (xj_bin ((h.e 0 _ rfl).trans rfl) ((h.e 1 _ rfl).trans rfl) rfl) (congrArg (fun b => V.pv (.bool b)) (by simpa using hj))) rfl (by kernel_rfl) ?_
          iterate 3 refine D1 rfl rfl ?_
          refine DL.stepG (d := some 30) [] rfl rfl rfl rfl (fun τ h => xj_indexAddr i Tryz.underlying39 sz33 ((h.e 0 _ rfl).trans rfl) ((h.e 1 _ rfl).trans rfl) rfl hil hnl) rfl (by kernel_rfl) ?_
          refine D1 rfl rfl ?_
          refine DL.stepG (d := some 32) [] rfl rfl rfl rfl (fun τ h => xj_loadR ⟨_, Tryz.underlying3, rfl⟩ ((h.e 0 _ rfl).trans rfl) a1) rfl (by kernel_rfl) ?_
          iterate 2 refine D1 rfl rfl ?_
          refine DL.stepG (d := some 35) [] rfl rfl rfl rfl (fun τ h => xj_indexAddr i Tryz.underlying39 sz33 ((h.e 0 _ rfl).trans rfl) ((h.e 1 _ rfl).trans rfl) rfl him hnm) rfl (by kernel_rfl) ?_
          refine D1 rfl rfl ?_
          refine DL.stepG (d := some 37) [] rfl rfl rfl rfl (fun τ h => xj_loadR ⟨_, Tryz.underlying3, rfl⟩ ((h.e 0 _ rfl).trans rfl) b1) rfl (by kernel_rfl) ?_
          refine DL.stepG (d := some 38) [] rfl rfl rfl rfl (fun τ h => XJ.cast (v' := .pv (.bool true)) (xj_bin ((h.e 0 _ rfl).trans rfl) ((h.e 1 _ rfl).trans rfl) rfl) (congrArg (fun b => V.pv (.bool b)) (by simpa using hd))) rfl (by kernel_rfl) ?_
          iterate 15 refine D1 rfl rfl ?_
          refine ⟨by kernel_rfl, ?_⟩
          repeat refine AW.seq ?_
          refine AW.cond rfl (fun hc53 => ?_) (fun hc53 => absurd hc53 (by simp))
          repeat refine AW.seq ?_
          refine AW.region ?_
          refine A1 rfl ?_
          repeat refine AW.seq ?_
          refine AW.ret ?_
          exact ⟨_, _, rfl, rfl, congrArg PV.bool (hno2 fun e => hd (by rw [e])).symm⟩
      · repeat refine AW.seq ?_
        refine AW.draw follows [[], [], [1, 0], [2, 1, 0], [3, 2, 1, 0], [], [], [6, 5], [7, 6, 5], [8, 7, 6, 5], [9, 4, 3, 2, 1, 0, 8, 7, 6, 5], [10, 9, 4, 3, 2, 1, 0, 8, 7, 6, 5], [11, 10, 9, 4, 3, 2, 1, 0, 8, 7, 6, 5], [11, 10, 9, 4, 3, 2, 1, 0, 8, 7, 6, 5], [13, 12, 11, 10, 9, 4, 3, 2, 1, 0, 8, 7, 6, 5], [14, 13, 12, 11, 10, 9, 4, 3, 2, 1, 0, 8, 7, 6, 5], [15, 14, 13, 12, 11, 10, 9, 4, 3, 2, 1, 0, 8, 7, 6, 5], [11, 10, 9, 4, 3, 2, 1, 0, 8, 7, 6, 5], [11, 10, 9, 4, 3, 2, 1, 0, 8, 7, 6, 5], [18, 17, 11, 10, 9, 4, 3, 2, 1, 0, 8, 7, 6, 5], [19, 18, 17, 11, 10, 9, 4, 3, 2, 1, 0, 8, 7, 6, 5], [20, 19, 18, 17, 11, 10, 9, 4, 3, 2, 1, 0, 8, 7, 6, 5], [21, 16, 15, 14, 13, 12, 11, 10, 9, 4, 3, 2, 1, 0, 8, 7, 6, 5, 20, 19, 18, 17], [22, 11, 10, 9, 4, 3, 2, 1, 0, 8, 7, 6, 5, 21, 16, 15, 14, 13, 12, 20, 19, 18, 17], [23, 22, 11, 10, 9, 4, 3, 2, 1, 0, 8, 7, 6, 5, 21, 16, 15, 14, 13, 12, 20, 19, 18, 17], [24, 23, 22, 11, 10, 9, 4, 3, 2, 1, 0, 8, 7, 6, 5, 21, 16, 15, 14, 13, 12, 20, 19, 18, 17], [24, 23, 22, 11, 10, 9, 4, 3, 2, 1, 0, 8, 7, 6, 5, 21, 16, 15, 14, 13, 12, 20, 19, 18, 17], [26, 25, 24, 23, 22, 11, 10, 9, 4, 3, 2, 1, 0, 8, 7, 6, 5, 21, 16, 15, 14, 13, 12, 20, 19, 18, 17], [27, 26, 25, 24, 23, 22, 11, 10, 9, 4, 3, 2, 1, 0, 8, 7, 6, 5, 21, 16, 15, 14, 13, 12, 20, 19, 18, 17], [28, 27, 26, 25, 24, 23, 22, 11, 10, 9, 4, 3, 2, 1, 0, 8, 7, 6, 5, 21, 16, 15, 14, 13, 12, 20, 19, 18, 17], [24, 23, 22, 11, 10, 9, 4, 3, 2, 1, 0, 8, 7, 6, 5, 21, 16, 15, 14, 13, 12, 20, 19, 18, 17], [24, 23, 22, 11, 10, 9, 4, 3, 2, 1, 0, 8, 7, 6, 5, 21, 16, 15, 14, 13, 12, 20, 19, 18, 17], [31, 30, 24, 23, 22, 11, 10, 9, 4, 3, 2, 1, 0, 8, 7, 6, 5, 21, 16, 15, 14, 13, 12, 20, 19, 18, 17], [32, 31, 30, 24, 23, 22, 11, 10, 9, 4, 3, 2, 1, 0, 8, 7, 6, 5, 21, 16, 15, 14, 13, 12, 20, 19, 18, 17], [33, 32, 31, 30, 24, 23, 22, 11, 10, 9, 4, 3, 2, 1, 0, 8, 7, 6, 5, 21, 16, 15, 14, 13, 12, 20, 19, 18, 17], [34, 29, 28, 27, 26, 25, 24, 23, 22, 11, 10, 9, 4, 3, 2, 1, 0, 8, 7, 6, 5, 21, 16, 15, 14, 13, 12, 20, 19, 18, 17, 33, 32, 31, 30], [35, 34, 29, 28, 27, 26, 25, 24, 23, 22, 11, 10, 9, 4, 3, 2, 1, 0, 8, 7, 6, 5, 21, 16, 15, 14, 13, 12, 20, 19, 18, 17, 33, 32, 31, 30], [36, 24, 23, 22, 11, 10, 9, 4, 3, 2, 1, 0, 8, 7, 6, 5, 21, 16, 15, 14, 13, 12, 20, 19, 18, 17, 35, 34, 29, 28, 27, 26, 25, 33, 32, 31, 30]] [0, 1, 2, 3, 4, 5, 6, 7, 8, 9, 10, 11, 12, 13, 14, 15, 16, 17, 18, 19, 20, 21, 22, 23, 24, 25, 26, 27, 28, 29, 30, 31, 32, 33, 34, 35, 36, 37] (by kernel_rfl) (by kernel_rfl) ?_
        iterate 2 refine D1 rfl rfl ?_
        refine DL.step (d := some 18) [] rfl rfl rfl (fun τ h => xj_indexAddr i Tryz.underlying39 sz33 ((h.e 0 _ rfl).trans rfl) ((h.e 1 _ rfl).trans rfl) rfl hil hnl) rfl (by kernel_rfl) ?_
        refine D1 rfl rfl ?_
        refine DL.step (d := some 20) [] rfl rfl rfl (fun τ h => xj_loadR ⟨_, Tryz.underlying3, rfl⟩ ((h.e 0 _ rfl).trans rfl) a0) rfl (by kernel_rfl) ?_
        iterate 2 refine D1 rfl rfl ?_
        refine DL.step (d := some 23) [] rfl rfl rfl (fun τ h => xj_indexAddr i Tryz.underlying39 sz33 ((h.e 0 _ rfl).trans rfl) ((h.e 1 _ rfl).trans rfl) rfl him hnm) rfl (by kernel_rfl) ?_
        refine D1 rfl rfl ?_
        refine DL.step (d := some 25) [] rfl rfl rfl (fun τ h => xj_loadR ⟨_, Tryz.underlying3, rfl⟩ ((h.e 0 _ rfl).trans rfl) b0) rfl (by kernel_rfl) ?_
        refine DL.step (d := some 26) [] rfl rfl rfl (fun τ h => XJ.cast (v' := .pv (.bool true)) (xj_bin ((h.e 0 _ rfl).trans rfl) ((h.e 1 _ rfl).trans rfl) rfl) (congrArg (fun b => V.pv (.bool b)) (by simpa using hj))) rfl (by kernel_rfl) ?_
        iterate 27 refine D1 rfl rfl ?_
        refine ⟨by kernel_rfl, ?_⟩
        repeat refine AW.seq ?_
        refine AW.cond rfl (fun hc53 => ?_) (fun hc53 => absurd hc53 (by simp))
        repeat refine AW.seq ?_
        refine AW.region ?_
        refine A1 rfl ?_
        repeat refine AW.seq ?_
        refine AW.ret ?_
        exact ⟨_, _, rfl, rfl, congrArg PV.bool (hno2 fun e => hj (by rw [e])).symm⟩
    · repeat refine AW.seq ?_
      refine AW.exit ?_
      repeat refine AW.seq ?_
      refine AW.region ?_
      refine A1 rfl ?_
      repeat refine AW.seq ?_
      refine AW.ret ?_
      exact ⟨_, _, rfl, rfl, congrArg PV.bool (hyes (list_eq hlen fun j a b => hall j a b (by omega))).symm⟩
end Go.Proofs.YtopjkdddicgajaaGreatDoor
namespace Go.Proofs.YtopjkdddicgajaaGreatDoor
open Go.RowKit
/-- Words between single spaces. -/
def spl : List UInt8 → List (List UInt8)
  | [] => [[]]
  | c :: l => if c = 32 then [] :: spl l else match spl l with
    | [] => [[c]]
    | w :: ws => (c :: w) :: ws
theorem spl_ne : ∀ l, spl l ≠ []
  | [] => by simp [spl]
  | c :: l => by
    rw [spl]
    split
    · simp
    · split <;> simp
theorem spl_app : ∀ (a r : List UInt8), (∀ c ∈ a, c ≠ 32) → spl (a ++ 32 :: r) = a :: spl r
  | [], r, _ => by rw [List.nil_append, spl, if_pos rfl]
  | c :: a, r, h => by
    rw [List.cons_append, spl, if_neg (h c (by simp)), spl_app a r (fun d hd => h d (by simp [hd]))]
theorem spl_one : ∀ (a : List UInt8), (∀ c ∈ a, c ≠ 32) → spl a = [a]
  | [], _ => rfl
  | c :: a, h => by rw [spl, if_neg (h c (by simp)), spl_one a (fun d hd => h d (by simp [hd]))]
theorem spl_join : ∀ (ws : List (List UInt8)), ws ≠ [] → (∀ w ∈ ws, ∀ c ∈ w, c ≠ 32) → spl (List.intercalate [32] ws) = ws
  | [], h, _ => absurd rfl h
  | [a], _, h => by
    rw [show List.intercalate [32] [a] = a by simp [List.intercalate]]
    exact spl_one a (h a (by simp))
  | a :: b :: l, _, h => by
    rw [List.intercalate_cons_cons, List.append_assoc, List.singleton_append, spl_app a _ (h a (by simp)), spl_join (b :: l) (by simp) (fun w hw => h w (by simp at hw ⊢; exact .inr hw))]
/-- What is cut off leaves heads of words. -/
theorem spl_head : ∀ (l : List UInt8) (k : Nat) (w : List UInt8) (ws : List (List UInt8)), spl (l.take k) = w :: ws → ∃ w' ws', spl l = w' :: ws' ∧ w <+: w' ∧ ∀ x ∈ ws, ∃ y ∈ ws', x <+: y := by
  intro l
  induction l with
  | nil => intro k w ws e; rw [List.take_nil] at e; exact ⟨w, ws, e, List.prefix_refl _, fun x hx => ⟨x, hx, List.prefix_refl _⟩⟩
  | cons d l ih2 =>
    intro k w ws e
    cases k with
    | zero =>
      rw [List.take_zero, spl] at e
      injection e with e1 e2
      subst e1 e2
      cases hs : spl (d :: l) with
      | nil => exact absurd hs (spl_ne _)
      | cons a bs => exact ⟨a, bs, rfl, List.nil_prefix, fun x hx => by simp at hx⟩
    | succ k =>
      rw [List.take_succ_cons, spl] at e
      rw [spl]
      by_cases hd : d = 32
      · rw [if_pos hd] at e ⊢
        injection e with e1 e2
        subst e1 e2
        refine ⟨[], spl l, rfl, List.prefix_refl _, fun x hx => ?_⟩
        cases hs : spl (l.take k) with
        | nil => exact absurd hs (spl_ne _)
        | cons a bs =>
          obtain ⟨w', ws', h1, h2, h3⟩ := ih2 k a bs hs
          rw [hs] at hx
          rw [h1]
          rcases List.mem_cons.1 hx with e | e
          · exact ⟨w', by simp, by rw [e]; exact h2⟩
          · obtain ⟨y, hy, hp⟩ := h3 x e
            exact ⟨y, by simp [hy], hp⟩
      · rw [if_neg hd] at e ⊢
        cases hs : spl (l.take k) with
        | nil => exact absurd hs (spl_ne _)
        | cons a bs =>
          obtain ⟨w', ws', h1, h2, h3⟩ := ih2 k a bs hs
          rw [hs] at e
          injection e with e1 e2
          subst e1 e2
          rw [h1]
          exact ⟨d :: w', ws', rfl, List.prefix_cons_inj d |>.2 h2, h3⟩
theorem spl_take (l : List UInt8) (k : Nat) : ∀ w ∈ spl (l.take k), ∃ w' ∈ spl l, w <+: w' := fun w hw => by
  cases hs : spl (l.take k) with
  | nil => exact absurd hs (spl_ne _)
  | cons a bs =>
    obtain ⟨w', ws', h1, h2, h3⟩ := spl_head l k a bs hs
    rw [hs] at hw
    rw [h1]
    rcases List.mem_cons.1 hw with e | e
    · exact ⟨w', by simp, by rw [e]; exact h2⟩
    · obtain ⟨y, hy, hp⟩ := h3 w e
      exact ⟨y, by simp [hy], hp⟩
theorem spl_take_len (l : List UInt8) (k : Nat) : (spl (l.take k)).length ≤ (spl l).length := by
  induction l generalizing k with
  | nil => simp
  | cons d l ih =>
    cases k with
    | zero =>
      rw [List.take_zero]
      have : 0 < (spl (d :: l)).length := List.length_pos_iff.2 (spl_ne _)
      simp only [spl, List.length_singleton] at this ⊢
      exact this
    | succ k =>
      have ih := ih k
      rw [List.take_succ_cons, spl, spl]
      by_cases hd : d = 32
      · rw [if_pos hd, if_pos hd]; simp; exact ih
      · rw [if_neg hd, if_neg hd]
        cases h1 : spl (l.take k) with
        | nil => exact absurd h1 (spl_ne _)
        | cons a bs =>
          cases h2 : spl l with
          | nil => exact absurd h2 (spl_ne _)
          | cons a' bs' => rw [h1, h2] at ih; simpa using ih
theorem index_space (t : ByteArray) : Lib.indexB t spaceT = Lib.indexByte t.data.toList 32 := by
  rw [Lib.indexB, show spaceT.data.toList = [32] from rfl, Lib.index_one]
/-- The library's words are these. -/
theorem splitB_spl : ∀ (n : Nat) (t : ByteArray), t.size ≤ n → Lib.splitB spaceT 0 (Lib.countB t spaceT) t = (spl t.data.toList).map fun w => ⟨w.toArray⟩
  | n, t, hn => by
    rcases Int.lt_or_le (Lib.indexByte t.data.toList 32) 0 with e | e
    · have hm : Lib.indexB t spaceT = -1 := by rw [index_space]; have := Lib.indexByte_ge t.data.toList 32; omega
      rw [Lib.splitB_miss spaceT 0 _ t hm]
      have hno := Lib.indexByte_none (l := t.data.toList) (c := 32) (by rw [← index_space]; exact hm)
      rw [spl_one t.data.toList (fun c hc he => by
        obtain ⟨i, hi, rfl⟩ := List.getElem_of_mem hc
        exact hno i (by rw [List.getElem?_eq_getElem hi, he]))]
      rfl
    · obtain ⟨i, hi⟩ := Int.eq_ofNat_of_zero_le e
      have hix : Lib.indexB t spaceT = (i : Int) := by rw [index_space]; exact hi
      obtain ⟨h1, h2⟩ := Lib.indexByte_some hi
      obtain ⟨hlt, hget⟩ := List.getElem?_eq_some_iff.1 h1
      have hz : t.size = t.data.toList.length := Lib.size_eq t
      have hlist : t.data.toList = t.data.toList.take i ++ 32 :: t.data.toList.drop (i + 1) := by
        conv => lhs; rw [← List.take_append_drop i t.data.toList, List.drop_eq_getElem_cons hlt, hget]
      have hclean : ∀ c ∈ t.data.toList.take i, c ≠ 32 := fun c hc he => by
        obtain ⟨j, hj, rfl⟩ := List.getElem_of_mem hc
        have hji : j < i := by simp at hj; omega
        refine h2 j hji ?_
        rw [List.getElem?_eq_getElem (by omega)]
        rw [List.getElem_take] at he
        rw [he]
      cases n with
      | zero => omega
      | succ n =>
        rw [Lib.countB_hit t spaceT i (by decide) hix, Nat.add_comm 1, Lib.splitB_hit spaceT 0 _ t i hix]
        have hs1 : spaceT.size = 1 := rfl
        rw [hs1, splitB_spl n _ (by simp; omega)]
        have e2 : (t.extract (i + 1) t.size).data.toList = t.data.toList.drop (i + 1) := Lib.extract_to_end t (i + 1)
        rw [e2, hlist, spl_app _ _ hclean, List.map_cons, ← hlist]
        congr 1
        apply ByteArray.ext
        apply Array.ext'
        simp [List.extract_eq_take_drop]
end Go.Proofs.YtopjkdddicgajaaGreatDoor
namespace Go.Proofs.YtopjkdddicgajaaGreatDoor
open Go.RowKit Mk
/-- A word: not empty, without spaces and ends of lines. -/
def Cw (w : ByteArray) : Prop := w.data.toList ≠ [] ∧ ∀ c ∈ w.data.toList, c ≠ 10 ∧ c ≠ 32 ∧ c.toNat < 128
theorem cw_num {c : UInt8} (h : c = 45 ∨ digB c = true) : c ≠ 10 ∧ c ≠ 32 ∧ c.toNat < 128 := by
  rcases h with rfl | h
  · decide
  · refine ⟨fun e => (by subst e; cases h), fun e => (by subst e; cases h), ?_⟩
    simp only [digB, Bool.and_eq_true, decide_eq_true_eq] at h
    omega
theorem itoa_ne (n : Int) : Lib.itoa n ≠ [] := by
  rw [itoa_eq]; intro e
  exact dec_ne _ (List.append_eq_nil_iff.1 e).2
theorem cw_itoa (n : Int) : Cw (itoaT n) := ⟨itoa_ne n, fun c hc => cw_num (itoa_clean n c hc)⟩
theorem ivalid_bytes {s : ByteArray} (h : ivalid s = true) : s.data.toList ≠ [] ∧ ∀ c ∈ s.data.toList, c = 45 ∨ digB c = true := by
  have hp := valid_pos h
  have hz : s.size = s.data.toList.length := Lib.size_eq s
  refine ⟨fun e => (by have h0 : s.size = 0 := (by rw [hz, e]; rfl); omega), fun c hc => ?_⟩
  have hd := (ivalid_dig h).1
  by_cases hn : negOf s = true
  · have e1 : s.data.toList = 45 :: digsOf s := by
      have hpre := hn
      rw [negOf, Lib.hasPrefix] at hpre
      cases hs : s.data.toList with
      | nil => rw [hs] at hpre; cases hpre
      | cons a l =>
        rw [hs] at hpre
        have : a = 45 := by
          have : ((45 : UInt8) == a && List.isPrefixOf [] l) = true := hpre
          simp at this; exact this.symm
        rw [digsOf, Lib.trimPrefix, if_pos (by rw [negOf] at hn; exact hn), hs, this]; rfl
    rw [e1] at hc
    rcases List.mem_cons.1 hc with e | e
    · exact .inl e
    · exact .inr (hd c e)
  · have e1 : digsOf s = s.data.toList := by rw [digsOf, Lib.trimPrefix, if_neg (by rw [negOf] at hn; exact hn)]
    rw [← e1] at hc
    exact .inr (hd c hc)
theorem slash_parts {s : ByteArray} (h : slashB s = true) : s.data.toList = (numT s).data.toList ++ 47 :: (denT s).data.toList := by
  rcases Int.lt_or_le (Lib.indexByte s.data.toList 47) 0 with e | e
  · have := Lib.indexByte_ge s.data.toList 47
    rw [(cut_none (s := s) (by omega)).2] at h; cases h
  · obtain ⟨i, hi⟩ := Int.eq_ofNat_of_zero_le e
    obtain ⟨hlt, hget⟩ := List.getElem?_eq_some_iff.1 (Lib.indexByte_some hi).1
    obtain ⟨c1, c2, _⟩ := cut_hit (s := s) hi
    have e2 : (s.extract (i + 1) s.size).data.toList = s.data.toList.drop (i + 1) := Lib.extract_to_end s (i + 1)
    have e1 : (s.extract 0 i).data.toList = s.data.toList.take i := by simp [List.extract_eq_take_drop]
    rw [c1, c2, e1, e2]
    conv => lhs; rw [← List.take_append_drop i s.data.toList, List.drop_eq_getElem_cons hlt, hget]
theorem cw_rat {s : ByteArray} (h : rvalid s = true) : Cw s := by
  have hn : ivalid (numT s) = true := by
    cases hn : ivalid (numT s) with
    | true => rfl
    | false => rw [rval_bad s (.inl hn)] at h; cases h
  cases hs : slashB s with
  | false =>
    have e : numT s = s := by
      rcases Int.lt_or_le (Lib.indexByte s.data.toList 47) 0 with e | e
      · have := Lib.indexByte_ge s.data.toList 47
        exact (cut_none (s := s) (by omega)).1
      · obtain ⟨i, hi⟩ := Int.eq_ofNat_of_zero_le e
        rw [(cut_hit (s := s) hi).2.2] at hs; cases hs
    rw [e] at hn
    have := ivalid_bytes hn
    exact ⟨this.1, fun c hc => cw_num (this.2 c hc)⟩
  | true =>
    have hd : ivalid (denT s) = true := by
      cases hd : ivalid (denX s) with
      | true => rw [denX, hs, if_pos rfl] at hd; exact hd
      | false => rw [rval_bad s (.inr hd)] at h; cases h
    have e := slash_parts hs
    refine ⟨fun h0 => by rw [e] at h0; simp at h0, fun c hc => ?_⟩
    rw [e] at hc
    rcases List.mem_append.1 hc with h1 | h1
    · exact cw_num ((ivalid_bytes hn).2 c h1)
    · rcases List.mem_cons.1 h1 with h2 | h2
      · rw [h2]; decide
      · exact cw_num ((ivalid_bytes hd).2 c h2)
theorem cw_wordL {c : ByteArray} (h : wordB c = true) : Cw c ∧ (c.toList == dashT.toList) = false ∧ (c.toList == emptyT.toList) = false := by
  rw [wordB] at h
  rw [Lib.toList_data, Lib.toList_data, Lib.toList_data]
  unfold Cw
  cases hl : c.data.toList with
  | nil => rw [hl] at h; cases h
  | cons a l =>
    rw [hl] at h
    simp only [wordL, Bool.and_eq_true, List.all_eq_true, decide_eq_true_eq] at h
    have ha : letterB a = true := by simp_all
    have ht : ∀ x ∈ l, tailB x = true := by simp_all
    have hlet : ∀ x : UInt8, letterB x = true → x ≠ 10 ∧ x ≠ 32 ∧ x ≠ 45 := fun x hx => by
      refine ⟨fun e => ?_, fun e => ?_, fun e => ?_⟩ <;> subst e <;> cases hx
    have htl : ∀ x : UInt8, tailB x = true → x ≠ 10 ∧ x ≠ 32 := fun x hx => by
      refine ⟨fun e => ?_, fun e => ?_⟩ <;> subst e <;> cases hx
    have htl8 : ∀ x : UInt8, tailB x = true → x.toNat < 128 := fun x hx => by
      have key : ∀ y : UInt8, x ≤ y → y.toNat < 128 → x.toNat < 128 := fun y h1 h2 => Nat.lt_of_le_of_lt (UInt8.le_iff_toNat_le.1 h1) h2
      unfold tailB letterB at hx
      simp only [Bool.or_eq_true, Bool.and_eq_true, decide_eq_true_eq, beq_iff_eq] at hx
      rcases hx with (h | h) | h
      · exact key _ h.2 (by decide)
      · exact key _ h.2 (by decide)
      · rw [h]; decide
    refine ⟨⟨by simp, fun x hx => ?_⟩, ?_, ?_⟩
    · rcases List.mem_cons.1 hx with e | e
      · rw [e]; exact ⟨(hlet a ha).1, (hlet a ha).2.1, htl8 a (by rw [tailB, ha]; rfl)⟩
      · exact ⟨(htl x (ht x e)).1, (htl x (ht x e)).2, htl8 x (ht x e)⟩
    · rw [beq_eq_false_iff_ne]; intro e
      injection e with e1 e2
      exact (hlet a ha).2.2 e1
    · rfl
theorem cw_cat {p : Par} (h : paramOk p = true) : Cw (catT p.c) ∧ uncatT (catT p.c) = p.c := by
  rw [paramOk, Bool.and_eq_true, Bool.or_eq_true] at h
  rcases h.2 with h2 | h2
  · rw [catT, if_pos h2]
    refine ⟨⟨by simp [dashT], fun c hc => by simp [dashT] at hc; rw [hc]; decide⟩, ?_⟩
    rw [uncatT, if_pos (by rw [Lib.toList_data, beq_iff_eq]), ba_eq h2]
  · obtain ⟨c1, c2, c3⟩ := cw_wordL h2
    rw [catT, if_neg (by rw [c3]; decide)]
    exact ⟨c1, by rw [uncatT, if_neg (by rw [c2]; decide)]⟩
/-- What is read of a number's text. -/
theorem parse10 {l : List UInt8} (h : ∀ c ∈ l, digB c = true) : ∀ (a : Nat), l.foldl (fun a c => a * 10 + (c.toNat - 48)) a < 18446744073709551616 → Lib.parseUint10 a l = .ok (l.foldl (fun a c => a * 10 + (c.toNat - 48)) a) := by
  induction l with
  | nil => intro a _; rfl
  | cons c l ih =>
    intro a hlt
    have hc := h c (by simp)
    simp only [digB, Bool.and_eq_true, decide_eq_true_eq] at hc
    rw [List.foldl_cons] at hlt ⊢
    have hge := dval_from l (a * 10 + (c.toNat - 48))
    have hp : 1 ≤ 10 ^ l.length := Nat.pow_pos (by decide)
    have h2 : (a * 10 + (c.toNat - 48)) * 1 ≤ (a * 10 + (c.toNat - 48)) * 10 ^ l.length := Nat.mul_le_mul_left _ hp
    rw [Lib.parseUint10, if_pos hc, if_neg (by omega), if_neg (by omega)]
    exact ih (fun d hd => h d (by simp [hd])) _ hlt
theorem int_itoa (n : Int) (h : -9223372036854775808 ≤ n ∧ n ≤ 9223372036854775807) : intW (itoaT n) = n ∧ errW (itoaT n) = false := by
  have hp : Lib.parseMag (Lib.decDigits n.natAbs) = .ok n.natAbs := by
    rw [Lib.parseMag, if_neg (dec_ne _)]
    have hv : (Lib.decDigits n.natAbs).foldl (fun a c => a * 10 + (c.toNat - 48)) 0 = n.natAbs := dval_dec n.natAbs
    have := parse10 (dec_digs n.natAbs) 0 (by rw [hv]; omega)
    rw [hv] at this
    exact this
  have ha : Lib.atoiAll (Lib.itoa n) = .ok n := by
    rw [itoa_eq]
    by_cases hn : n < 0
    · rw [if_pos hn]
      show Lib.atoiAll (45 :: Lib.decDigits n.natAbs) = _
      rw [Lib.atoiAll]
      simp only [show (45 : UInt8).toNat = 45 from rfl, or_true, if_true, hp]
      rw [if_neg (by simp), if_neg (by simp; omega)]
      simp; omega
    · rw [if_neg hn, List.nil_append]
      cases hd : Lib.decDigits n.natAbs with
      | nil => exact absurd hd (dec_ne _)
      | cons c r =>
        have hc := dec_digs n.natAbs c (by rw [hd]; simp)
        simp only [digB, Bool.and_eq_true, decide_eq_true_eq] at hc
        rw [hd] at hp
        rw [Lib.atoiAll]
        simp only [show ¬ (c.toNat = 43 ∨ c.toNat = 45) by omega, if_false, hp]
        rw [if_neg (by omega), if_neg (by omega), if_neg (by omega)]
        congr 1; omega
  have hd : (itoaT n).data.toList = Lib.itoa n := rfl
  exact ⟨by rw [intW, hd, ha], by rw [errW, hd, ha]⟩
end Go.Proofs.YtopjkdddicgajaaGreatDoor
namespace Go.Proofs.YtopjkdddicgajaaGreatDoor
open Go.RowKit Mk Go.Shelf
set_option maxRecDepth 100000
set_option maxHeartbeats 4000000
attribute [local go_sem] Oper.semAt_some
theorem nl_lt {s : ByteArray} (h : 0 ≤ nlI s) : (nlI s).toNat < s.size := by
  obtain ⟨i, hi⟩ : ∃ i : Nat, nlI s = i := ⟨(nlI s).toNat, (Int.toNat_of_nonneg h).symm⟩
  rw [hi, Lib.size_eq]
  exact (List.getElem?_eq_some_iff.1 (Lib.indexByte_some (show Lib.indexByte s.data.toList 10 = (i : Int) from hi)).1).1
theorem rest_size {s : ByteArray} (h : 0 < s.size) : (restL s).size < s.size ∧ (lineL s).size + (restL s).size = s.size ∧ 0 < (lineL s).size := by
  unfold restL lineL
  by_cases hn : 0 ≤ nlI s
  · have := nl_lt hn
    rw [if_pos hn, if_pos hn]
    simp
    omega
  · rw [if_neg hn, if_neg hn]
    have : (⟨#[]⟩ : ByteArray).size = 0 := rfl
    omega
/-- What is read of a text. -/
def readF : Nat → ByteArray → List Pgs × Nat
  | 0, _ => ([], 0)
  | k + 1, s => if s.size = 0 then ([], 0) else if parseOk (lineL s) = true then ((parseP (lineW (lineL s))) :: (readF k (restL s)).1, (lineL s).size + (readF k (restL s)).2) else ([], 0)
theorem readF_succ (k : Nat) (s : ByteArray) : readF (k + 1) s = if s.size = 0 then ([], 0) else if parseOk (lineL s) = true then ((parseP (lineW (lineL s))) :: (readF k (restL s)).1, (lineL s).size + (readF k (restL s)).2) else ([], 0) := rfl
theorem readF_more : ∀ (k : Nat) (s : ByteArray), s.size ≤ k → readF (k + 1) s = readF k s
  | 0, s, h => by rw [readF_succ, if_pos (by omega)]; rfl
  | k + 1, s, h => by
    rw [readF_succ (k + 1) s, readF_succ k s]
    by_cases h0 : s.size = 0
    · rw [if_pos h0, if_pos h0]
    · rw [if_neg h0, if_neg h0, readF_more k (restL s) (by have := rest_size (s := s) (by omega); omega)]
theorem readF_any {k j : Nat} {s : ByteArray} (h : s.size ≤ k) (hj : k ≤ j) : readF j s = readF k s := by
  obtain ⟨d, rfl⟩ := Nat.le.dest hj
  induction d with
  | zero => rfl
  | succ d ih => rw [← Nat.add_assoc, readF_more _ _ (by omega)]; exact ih (by omega)
def readA (s : ByteArray) : List Pgs × Nat := readF s.size s
theorem readA_nil {s : ByteArray} (h : s.size = 0) : readA s = ([], 0) := by rw [readA, h]; rfl
theorem readA_ok {s : ByteArray} (h : 0 < s.size) (hp : parseOk (lineL s) = true) : readA s = ((parseP (lineW (lineL s))) :: (readA (restL s)).1, (lineL s).size + (readA (restL s)).2) := by
  have hr := rest_size h
  have e : readF (s.size - 1) (restL s) = readA (restL s) := readF_any (Nat.le_refl _) (by omega)
  rw [readA, show s.size = (s.size - 1) + 1 by omega, readF_succ, if_neg (by omega), if_pos hp, e]
theorem readA_bad {s : ByteArray} (h : 0 < s.size) (hp : parseOk (lineL s) = false) : readA s = ([], 0) := by
  rw [readA, show s.size = (s.size - 1) + 1 by omega, readF_succ, if_neg (by omega), if_neg (by rw [hp]; decide)]
/-- All lines may be read. -/
def LinesOk : Nat → ByteArray → Prop
  | 0, _ => True
  | k + 1, s => s.size = 0 ∨ (LnOk (lineW (lineL s)) ∧ (parseOk (lineL s) = true → LinesOk k (restL s)))
theorem lines_walk (s : ByteArray) (w : World) : Calls Tryz.prog 26 #[.string s] w fun e w' => e = .returned (.func (.func 53) #[] #[.pointer (some ⟨w.heap.size, 0, none⟩)]) ∧ w' = w.alloc (.cells #[.string s] 9) := by
  go_enter Tryz.func26, Tryz.ntmps26
  go_wp2
  go_ret
  exact ⟨rfl, rfl⟩
/-- What comes out. -/
theorem rd_out {P : Program} {w0 W : World} {R0 : Nat → Prop} {b4 b5 : Nat} {X : List Nat} {qs : List Pgs} {k : Int} (h : Btw P w0 R0 [b4, b5] X (rdO qs k) 1 W) :
    ∃ u, W.cell? ⟨b4, 0, none⟩ = some u ∧ W.cell? ⟨b5, 0, none⟩ = some (.int .i64 k) ∧
      ∀ W' : World, W.heap.size ≤ W'.heap.size → (∀ q, q < W.heap.size → q ∉ X → W'.heap[q]? = W.heap[q]?) → RelP W' (fun b => R0 b ∨ (w0.heap.size ≤ b ∧ b < W'.heap.size)) (.sl none qs.length (pgssC qs)) u := by
  obtain ⟨m, rt, hr, h1, h2, h3, h4⟩ := h.ex
  have hsw : SJ ⟨P, m, W, OwnB m, rt⟩ 0 (mkS [] (rdO qs k) 1) { tmps := #[], defers := [] } W := ⟨m, rt.p, hr, rfl, rfl, fun t ht => absurd ht (Nat.not_lt_zero _)⟩
  have hle : (mkS [] (rdO qs k) 1).le (mkS [] [(big, .mix 39 [.pv (.sl none qs.length (pgssC qs))]), (1000001, .mix 3 [.pv (.int .i64 k)])] 1) :=
    St.le.trans (St.le_pubA (o := .gro 33 (pgssC qs)) 0 (by kernel_rfl) rfl) (St.le_mk trivial ⟨by kernel_rfl, by kernel_rfl, trivial⟩ rfl rfl)
  obtain ⟨m', R', hw⟩ := hle _ _ _ _ hsw
  have hr' : HR ⟨P, m, W, OwnB m, rt⟩ m' R' (lookO [(big, .mix 39 [.pv (.sl none qs.length (pgssC qs))]), (1000001, .mix 3 [.pv (.int .i64 k)])]) (avK 1) W := hw.hr
  clear hw hle hsw
  obtain ⟨N4, hN4⟩ := h1 0 b4 rfl
  obtain ⟨N5, hN5⟩ := h1 1 b5 rfl
  have mk : ∀ id x, big ≤ id → m id = some x → (m' id).isSome = true → m' id = some x := fun id x hb e hl => by
    obtain ⟨y, hy⟩ := Option.isSome_iff_exists.1 hl
    have h5 : m id = some y := hr'.keep id y hb hy
    rw [e] at h5
    rw [hy, ← h5]
  have e4 := mk big _ (Nat.le_refl _) hN4 ((hr'.dom big).trans (by kernel_rfl))
  have e5 := mk 1000001 _ (by decide) hN5 ((hr'.dom 1000001).trans (by kernel_rfl))
  obtain ⟨arr4, h41, h42, h43, h44⟩ := hr'.obj big (.mix 39 [.pv (.sl none qs.length (pgssC qs))]) b4 N4 (by kernel_rfl) e4
  obtain ⟨arr5, h51, h52, h53, h54⟩ := hr'.obj 1000001 (.mix 3 [.pv (.int .i64 k)]) b5 N5 (by kernel_rfl) e5
  simp only [RelL, Rel] at h44 h54
  obtain ⟨u, _, ha4, hu, rfl⟩ := h44
  obtain ⟨u5, _, ha5, hu5, rfl⟩ := h54
  simp only [RelP] at hu5
  have c4 : W.cell? ⟨b4, 0, none⟩ = some u := by
    have : arr4[0]? = some u := by
      have := congrArg (·[0]?) ha4
      simpa using this
    simp [World.cell?, h41, this]
  have c5 : W.cell? ⟨b5, 0, none⟩ = some u5 := by
    have : arr5[0]? = some u5 := by
      have := congrArg (·[0]?) ha5
      simpa using this
    simp [World.cell?, h51, this]
  rw [hu5] at c5
  refine ⟨u, c4, c5, fun W' hs hb => hu.mono fun b hb' => ?_⟩
  have hlt : b < W.heap.size := hr'.rsz b hb'
  rcases hr'.rfr b hb' with e | e | ⟨id, N, e⟩
  · exact ⟨(h4 b e).1.imp (fun x => x) (fun x => ⟨x, Nat.lt_of_lt_of_le hlt hs⟩), hb b hlt (h4 b e).2⟩
  · exact absurd e (Nat.not_le.2 hlt)
  · exact ⟨.inr ⟨(h2 id b N e).1, Nat.lt_of_lt_of_le hlt hs⟩, hb b hlt (h2 id b N e).2⟩
/-- The state of the loop: what has come, what is still to come. -/
structure RJ (w : World) (R : Nat → Prop) (b4 b5 : Nat) (X : List Nat) (s r : ByteArray) (qs : List Pgs) (k : Nat) (W : World) : Prop where
  b : Btw Tryz.prog w R [b4, b5] X (rdO qs (k : Int)) 1 W
  e : readA s = (qs ++ (readA r).1, k + (readA r).2)
  n : k + r.size = s.size
  q : qs.length ≤ k
  l : LinesOk r.size r
theorem linesOk_more : ∀ (k : Nat) (s : ByteArray), s.size ≤ k → LinesOk (k + 1) s → LinesOk k s
  | 0, _, _, _ => trivial
  | k + 1, s, h, hl => by
    rcases hl with h0 | ⟨h1, h2⟩
    · exact .inl h0
    · by_cases h0 : s.size = 0
      · exact .inl h0
      · exact .inr ⟨h1, fun hp => linesOk_more k (restL s) (by have := rest_size (s := s) (by omega); omega) (h2 hp)⟩
theorem linesOk_any {k j : Nat} {s : ByteArray} (h : s.size ≤ k) (hj : k ≤ j) (hl : LinesOk j s) : LinesOk k s := by
  obtain ⟨d, rfl⟩ := Nat.le.dest hj
  clear hj
  induction d with
  | zero => exact hl
  | succ d ih => exact ih (linesOk_more (k + d) s (by omega) hl)
theorem LinesOk.head {s : ByteArray} (h : LinesOk s.size s) (h0 : 0 < s.size) : LnOk (lineW (lineL s)) ∧ (parseOk (lineL s) = true → LinesOk (restL s).size (restL s)) := by
  have hr := rest_size h0
  have h2 : LinesOk ((s.size - 1) + 1) s := by rw [show (s.size - 1) + 1 = s.size by omega]; exact h
  rcases h2 with e | ⟨h1, h2⟩
  · omega
  · exact ⟨h1, fun hp => linesOk_any (Nat.le_refl _) (by omega) (h2 hp)⟩
theorem btw0 {P : Program} {w W : World} {R : Nat → Prop} {b4 b5 : Nat} (hG : GlbOk w R) (hR : ∀ b, R b → b < w.heap.size) (hb : Below w.heap.size w W) (h4 : W.heap[b4]? = some (.cells #[.slice none 0 0] 39 (0, 0))) (h5 : W.heap[b5]? = some (.cells #[.int .i64 0] 3 (0, 0)))
    (g4 : w.heap.size ≤ b4) (g5 : w.heap.size ≤ b5) (hne : b4 ≠ b5) : Btw P w R [b4, b5] [] (rdO [] 0) 1 W := by
  have l4 : b4 < W.heap.size := (Array.getElem?_eq_some_iff.1 h4).1
  have l5 : b5 < W.heap.size := (Array.getElem?_eq_some_iff.1 h5).1
  obtain ⟨m, hm⟩ : ∃ m : Gm, m = fun id => if id = big then some (b4, 1) else if id = 1000001 then some (b5, 1) else none := ⟨_, rfl⟩
  have m4 : m big = some (b4, 1) := by rw [hm]; simp
  have m5 : m 1000001 = some (b5, 1) := by rw [hm]; simp only; rw [if_neg (by decide), if_pos trivial]
  have mc : ∀ id b N, m id = some (b, N) → (id = big ∧ b = b4 ∧ N = 1) ∨ (id = 1000001 ∧ b = b5 ∧ N = 1) := fun id b N e => by
    rw [hm] at e
    simp only at e
    split at e
    · cases e; exact .inl ⟨by assumption, rfl, rfl⟩
    · split at e
      · cases e; exact .inr ⟨by assumption, rfl, rfl⟩
      · cases e
  have hRk : ∀ b, R b → R b ∧ W.heap[b]? = w.heap[b]? := fun b h => ⟨h, hb.block b (hR b h)⟩
  have nR : ∀ b, w.heap.size ≤ b → ¬ R b := fun b h hr => by have := hR b hr; omega
  have hgeb : ∀ id b N, m id = some (b, N) → w.heap.size ≤ b ∧ b < W.heap.size := fun id b N e => by
    rcases mc id b N e with ⟨_, rfl, _⟩ | ⟨_, rfl, _⟩
    · exact ⟨g4, l4⟩
    · exact ⟨g5, l5⟩
  refine ⟨⟨m, ⟨R, hG.mono hRk, fun b h => ⟨Nat.lt_of_lt_of_le (hR b h) hb.size, fun ⟨id, N, e⟩ => nR b (hgeb id b N e).1 h⟩⟩, ?_, ?_, ?_, fun _ h => h, ?_⟩, hb, fun x hx => absurd hx (by simp)⟩
  · refine ⟨fun id => ?_, fun id h => ?_, fun id o b N ho e => ?_, fun i j b N N' e1 e2 => ?_, fun id b N e => ⟨(hgeb id b N e).2, nR b (hgeb id b N e).1, .inl ⟨id, N, e⟩⟩, fun b h => Nat.lt_of_lt_of_le (hR b h) hb.size, fun b h => .inl h, fun b h => h, Fr.refl _ _, fun _ _ _ e => e, fun id h => ?_⟩
    · by_cases e1 : id = big
      · subst e1; rw [m4]; rfl
      · by_cases e2 : id = 1000001
        · subst e2; rw [m5]; rfl
        · have e3 : m id = none := by rw [hm]; simp [e1, e2]
          rw [e3]
          have b1 : Nat.beq id big = false := by cases hb : Nat.beq id big; rfl; exact absurd (Nat.eq_of_beq_eq_true hb) e1
          have b2 : Nat.beq id 1000001 = false := by cases hb : Nat.beq id 1000001; rfl; exact absurd (Nat.eq_of_beq_eq_true hb) e2
          simp only [lookO, b1, b2, cond_false]
          cases Nat.beq id 0 <;> rfl
    · have h1 : Nat.ble 1 id = true ∧ Nat.blt id big = true := by simpa [avK] using h
      have g1 := Nat.le_of_ble_eq_true h1.1
      have g2 : id < big := Nat.le_of_ble_eq_true h1.2
      have b1 : Nat.beq id big = false := by cases hb : Nat.beq id big; rfl; have := Nat.eq_of_beq_eq_true hb; omega
      have b2 : Nat.beq id 1000001 = false := by cases hb : Nat.beq id 1000001; rfl; have := Nat.eq_of_beq_eq_true hb; have : big = 1000000 := rfl; omega
      have b3 : Nat.beq id 0 = false := by cases hb : Nat.beq id 0; rfl; have := Nat.eq_of_beq_eq_true hb; omega
      simp only [lookO, b1, b2, b3, cond_false]
    · rcases mc id b N e with ⟨rfl, rfl, rfl⟩ | ⟨rfl, rfl, rfl⟩
      · obtain rfl : o = .mix 39 [.gsl 0 5 0] := by
          have : lookO (rdO [] 0) big = some (.mix 39 [.gsl 0 5 0]) := rfl
          rw [this] at ho; cases ho; rfl
        refine ⟨_, h4, rfl, by decide, ?_⟩
        simp only [RelL, Rel]
        refine ⟨_, _, rfl, ⟨rfl, none, 0, rfl, Nat.le_refl _, by decide, fun _ => ⟨rfl, rfl, by rw [hm]; simp only; rw [if_neg (by decide), if_neg (by decide)]⟩, fun h => absurd h (by decide)⟩, rfl⟩
      · obtain rfl : o = .mix 3 [.pv (.int .i64 0)] := by
          have : lookO (rdO [] 0) 1000001 = some (.mix 3 [.pv (.int .i64 0)]) := by kernel_rfl
          rw [this] at ho; cases ho; rfl
        refine ⟨_, h5, rfl, by decide, ?_⟩
        simp only [RelL, Rel, RelP]
        exact ⟨_, _, rfl, rfl, rfl⟩
    · rcases mc i b N e1 with ⟨rfl, rfl, rfl⟩ | ⟨rfl, rfl, rfl⟩ <;> rcases mc j _ N' e2 with ⟨h1, h2, _⟩ | ⟨h1, h2, _⟩
      · exact h1.symm
      · exact absurd h2 hne
      · exact absurd h2.symm hne
      · exact h1.symm
    · show (Nat.ble 1 id && Nat.blt id big) = false
      have : Nat.blt id big = false := by cases hb : Nat.blt id big; rfl; have := Nat.le_of_ble_eq_true hb; omega
      rw [this, Bool.and_false]
  · intro j b hj
    match j with
    | 0 => cases hj; exact ⟨1, m4⟩
    | 1 => cases hj; exact ⟨1, m5⟩
    | j + 2 => simp at hj
  · exact fun id b N e => ⟨(hgeb id b N e).1, by simp⟩
  · exact fun b h => ⟨.inl h, by simp⟩
/-- The round's act: the line stands in its slot. -/
def rdAct (s x : ByteArray) (b4 b5 bB : Nat) : Act := { tmps := #[.string s, undef, .slice none 0 0, .int .i64 0, .pointer (some ⟨b4, 0, none⟩), .pointer (some ⟨b5, 0, none⟩), .string x, undef, undef, .string s, .func (.func 53) #[] #[.pointer (some ⟨bB, 0, none⟩)], .string x, undef, undef, undef, undef, undef, undef, undef, undef, undef, undef, undef, undef, undef, undef, undef, undef, undef], defers := [] }
theorem rdAct_sl (s x : ByteArray) (b4 b5 bB : Nat) (W : World) (m : Gm) (R : Nat → Prop) (h : ∀ j b, [b4, b5][j]? = some b → ∃ N, m (big + j) = some (b, N)) : ∀ t, t < Tryz.f13.ntmps → Rel W m (avK 1) R (look (rdS x) t) ((rdAct s x b4 b5 bB).eval (.tmp t)) := by
  intro t _
  by_cases e4 : t = 4
  · subst e4
    obtain ⟨N, hN⟩ := h 0 b4 rfl
    have : Rel W m (avK 1) R (.ptr big 0) (.pointer (some ⟨b4, 0, none⟩)) := by
      simp only [Rel]
      exact ⟨by decide, fun b N' e => by have h2 : m big = some (b4, N) := hN; rw [h2] at e; cases e; rfl⟩
    exact this
  · by_cases e5 : t = 5
    · subst e5
      obtain ⟨N, hN⟩ := h 1 b5 rfl
      have : Rel W m (avK 1) R (.ptr 1000001 0) (.pointer (some ⟨b5, 0, none⟩)) := by
        simp only [Rel]
        exact ⟨by decide, fun b N' e => by have h2 : m 1000001 = some (b5, N) := hN; rw [h2] at e; cases e; rfl⟩
      exact this
    · by_cases e6 : t = 6
      · subst e6
        have : Rel W m (avK 1) R (.pv (.str x)) (.string x) := by simp only [Rel, RelP]
        exact this
      · have b4' : Nat.beq t 4 = false := by cases hb : Nat.beq t 4; rfl; exact absurd (Nat.eq_of_beq_eq_true hb) e4
        have b5' : Nat.beq t 5 = false := by cases hb : Nat.beq t 5; rfl; exact absurd (Nat.eq_of_beq_eq_true hb) e5
        have b6' : Nat.beq t 6 = false := by cases hb : Nat.beq t 6; rfl; exact absurd (Nat.eq_of_beq_eq_true hb) e6
        have e : look (rdS x) t = .pv .any := by simp only [rdS, look, b4', b5', b6', cond_false]
        rw [e]
        simp only [Rel, RelP]
end Go.Proofs.YtopjkdddicgajaaGreatDoor
namespace Go.Proofs.YtopjkdddicgajaaGreatDoor
open Go.RowKit Mk
theorem bad_parts {p : Pgs} (h : badP p = false) : (0 ≤ p.job ∧ p.job < 8) ∧ (0 ≤ p.done ∧ p.done ≤ 60) ∧ cvalid p.sum = true := by
  rw [badP] at h
  simp only [Bool.or_eq_false_iff, decide_eq_false_iff_not, Bool.not_eq_false'] at h
  obtain ⟨⟨⟨⟨h1, h2⟩, h3⟩, h4⟩, h5⟩ := h
  exact ⟨⟨by omega, by omega⟩, ⟨by omega, by omega⟩, h5⟩
theorem cval_parts {c : Cof} (h : cvalid c = true) : rvalid c.n = true ∧ (∀ t ∈ c.s, badT t = false) ∧ (∀ t ∈ c.q, badQ t = false) := by
  rw [cvalid] at h
  simp only [Bool.and_eq_true, Bool.not_eq_true', List.any_eq_false] at h
  exact ⟨h.1, fun t ht => by simpa using h.2.1 t ht, fun t ht => by simpa using h.2.2.1 t ht⟩
theorem badT_parts {t : Trm} (h : badT t = false) : paramOk t.p = true ∧ rvalid t.v = true := by
  rw [badT, entryOk] at h
  simp only [Bool.or_eq_false_iff, Bool.not_eq_false', Bool.and_eq_true] at h
  exact ⟨h.1, h.2.1⟩
theorem badQ_parts {t : Prr} (h : badQ t = false) : paramOk t.a = true ∧ paramOk t.b = true ∧ rvalid t.v = true := by
  rw [badQ, entryOk] at h
  simp only [Bool.or_eq_false_iff, Bool.not_eq_false', Bool.and_eq_true] at h
  exact ⟨h.1.1.1, h.1.1.2, h.2.1⟩
/-- The words of a valid progress are words. -/
theorem words_cw {p : Pgs} (h : badP p = false) : ∀ w ∈ wordsOf p, Cw w := by
  obtain ⟨_, _, hc⟩ := bad_parts h
  obtain ⟨h1, h2, h3⟩ := cval_parts hc
  intro w hw
  simp only [wordsOf, wSums, wHead, List.mem_append, List.mem_cons, List.not_mem_nil, or_false] at hw
  rcases hw with (((rfl | rfl | rfl | rfl) | hw) | rfl) | hw
  · exact cw_itoa _
  · exact cw_itoa _
  · exact cw_rat h1
  · exact cw_itoa _
  · obtain ⟨t, ht, hw⟩ := List.mem_flatMap.1 hw
    obtain ⟨b1, b2⟩ := badT_parts (h2 t ht)
    simp only [wT, List.mem_cons, List.not_mem_nil, or_false] at hw
    rcases hw with rfl | rfl | rfl
    · exact cw_itoa _
    · exact (cw_cat b1).1
    · exact cw_rat b2
  · exact cw_itoa _
  · obtain ⟨t, ht, hw⟩ := List.mem_flatMap.1 hw
    obtain ⟨b1, b2, b3⟩ := badQ_parts (h3 t ht)
    simp only [wQ, List.mem_cons, List.not_mem_nil, or_false] at hw
    rcases hw with rfl | rfl | rfl | rfl | rfl
    · exact cw_itoa _
    · exact (cw_cat b1).1
    · exact cw_itoa _
    · exact (cw_cat b2).1
    · exact cw_rat b3
/-- The words of a line. -/
def hashT (p : Pgs) : ByteArray := fmtT (hashN (bodyT p).data.toList)
theorem cw_fmt (u : Nat) : Cw (fmtT u) := ⟨dec_ne u, fun c hc => cw_num (.inr (dec_digs u c hc))⟩
theorem line_join (p : Pgs) : lineT p = joinT (hashT p :: wordsOf p) ++ nlT := by
  rw [lineT, show hashT p :: wordsOf p = [hashT p] ++ wordsOf p from rfl]
  congr 1
  have e : joinT ([hashT p] ++ wordsOf p) = (hashT p ++ spaceT) ++ bodyT p := by
    apply ByteArray.ext
    apply Array.ext'
    have hne : wordsOf p ≠ [] := by simp [wordsOf, wSums, wHead]
    cases hw : wordsOf p with
    | nil => exact absurd hw hne
    | cons a l =>
      simp only [joinT, bodyT, hw, Lib.join, List.singleton_append, List.map_cons]
      rw [List.intercalate_cons_cons]
      simp [spaceT]
  rw [e]; rfl
theorem line_data (p : Pgs) : (lineT p).data.toList = (joinT (hashT p :: wordsOf p)).data.toList ++ [10] := by
  rw [line_join]; simp [nlT]
theorem join_all {q : UInt8 → Prop} (h32 : q 32) {l : List ByteArray} (h : ∀ w ∈ l, ∀ c ∈ w.data.toList, q c) : ∀ c ∈ (joinT l).data.toList, q c := by
  have key : ∀ (l : List (List UInt8)), (∀ w ∈ l, ∀ c ∈ w, q c) → ∀ c ∈ List.intercalate [32] l, q c := by
    intro l
    induction l with
    | nil => intro _ c hc; simp [List.intercalate] at hc
    | cons a l ih =>
      intro h c hc
      cases l with
      | nil =>
        rw [show List.intercalate [32] [a] = a by simp [List.intercalate]] at hc
        exact h a (by simp) c hc
      | cons b l =>
        rw [List.intercalate_cons_cons] at hc
        rcases List.mem_append.1 hc with e | e
        · rcases List.mem_append.1 e with e | e
          · exact h a (by simp) c e
          · simp at e; rw [e]; exact h32
        · exact ih (fun w hw => h w (by simp at hw ⊢; exact .inr hw)) c e
  refine key _ fun w hw => ?_
  obtain ⟨b, hb, rfl⟩ := List.mem_map.1 hw
  exact h b hb
theorem join_clean {l : List ByteArray} (h : ∀ w ∈ l, ∀ c ∈ w.data.toList, c ≠ 10) : ∀ c ∈ (joinT l).data.toList, c ≠ 10 := join_all (q := (· ≠ 10)) (by decide) h
theorem trim_nl (l : List UInt8) : Lib.trimSuffix (l ++ [10]) [10] = l := by
  rw [Lib.trimSuffix, if_pos (by rw [Lib.hasSuffix]; exact List.isSuffixOf_iff_suffix.2 ⟨l, rfl⟩)]; simp
theorem trim_no {l : List UInt8} (h : ∀ c ∈ l, c ≠ 10) : Lib.trimSuffix l [10] = l := by
  rw [Lib.trimSuffix, if_neg]
  intro e
  obtain ⟨m, hm⟩ := List.isSuffixOf_iff_suffix.1 e
  exact h 10 (by rw [← hm]; simp) rfl
theorem lineW_eq (s : ByteArray) : lineW s = (spl (Lib.trimSuffix s.data.toList [10])).map fun w => ⟨w.toArray⟩ := by
  rw [lineW]
  exact splitB_spl _ _ (Nat.le_refl _)
theorem words_all {p : Pgs} (h : badP p = false) : ∀ w ∈ hashT p :: wordsOf p, Cw w := fun w hw => by
  rcases List.mem_cons.1 hw with e | e
  · rw [e]; exact cw_fmt _
  · exact words_cw h w e
theorem lineW_line {p : Pgs} (h : badP p = false) : lineW (lineT p) = hashT p :: wordsOf p := by
  rw [lineW_eq, line_data, trim_nl]
  have e : (joinT (hashT p :: wordsOf p)).data.toList = List.intercalate [32] ((hashT p :: wordsOf p).map (·.data.toList)) := rfl
  rw [e, spl_join _ (by simp) (fun w hw => by
    obtain ⟨b, hb, rfl⟩ := List.mem_map.1 hw
    exact fun c hc => ((words_all h b hb).2 c hc).2.1), List.map_map]
  exact List.map_id _
/-- What the scanner reads of words. -/
theorem scanT_words (l : List Trm) (rest : List ByteArray) (h : ∀ t ∈ l, (-9223372036854775808 ≤ t.p.f ∧ t.p.f ≤ 9223372036854775807) ∧ uncatT (catT t.p.c) = t.p.c) :
    ∀ n, n ≤ l.length → scanT n (l.flatMap wT ++ rest) false = (l.take n, (l.drop n).flatMap wT ++ rest, false) := by
  intro n
  induction n with
  | zero => intro _; rfl
  | succ n ih =>
    intro hn
    have ih := ih (by omega)
    have hlt : n < l.length := by omega
    obtain ⟨⟨h1, h2⟩, h3⟩ := h _ (List.getElem_mem hlt)
    have hd : l.drop n = l[n] :: l.drop (n + 1) := List.drop_eq_getElem_cons hlt
    rw [scanT, ih, hd, List.take_succ_eq_append_getElem hlt]
    generalize l[n] = t at *
    obtain ⟨i1, i2⟩ := int_itoa t.p.f ⟨h1, h2⟩
    simp only [List.flatMap_cons, wT, List.cons_append, List.nil_append, paramW, paramB, flagI, nextW, List.headD_cons, List.tail_cons, List.isEmpty_cons, i1, i2, h3, Bool.or_false, Bool.false_or]
theorem scanQ_words (l : List Prr) (rest : List ByteArray) (h : ∀ t ∈ l, ((-9223372036854775808 ≤ t.a.f ∧ t.a.f ≤ 9223372036854775807) ∧ uncatT (catT t.a.c) = t.a.c) ∧ (-9223372036854775808 ≤ t.b.f ∧ t.b.f ≤ 9223372036854775807) ∧ uncatT (catT t.b.c) = t.b.c) :
    ∀ n, n ≤ l.length → scanQ n (l.flatMap wQ ++ rest) false = (l.take n, (l.drop n).flatMap wQ ++ rest, false) := by
  intro n
  induction n with
  | zero => intro _; rfl
  | succ n ih =>
    intro hn
    have ih := ih (by omega)
    have hlt : n < l.length := by omega
    obtain ⟨⟨h1, h3⟩, h2, h4⟩ := h _ (List.getElem_mem hlt)
    have hd : l.drop n = l[n] :: l.drop (n + 1) := List.drop_eq_getElem_cons hlt
    rw [scanQ, ih, hd, List.take_succ_eq_append_getElem hlt]
    generalize l[n] = t at *
    obtain ⟨i1, i2⟩ := int_itoa t.a.f h1
    obtain ⟨i3, i4⟩ := int_itoa t.b.f h2
    simp only [List.flatMap_cons, wQ, List.cons_append, List.nil_append, paramW, paramB, flagI, nextW, List.headD_cons, List.tail_cons, List.isEmpty_cons, i1, i2, i3, i4, h3, h4, Bool.or_false, Bool.false_or]
theorem many_words (n : Nat) (k : Nat) (rest : List ByteArray) (hk : 0 < k) (hn : n * k ≤ rest.length) (hl : rest.length ≤ 1000000) :
    manyN (itoaT (n : Int) :: rest) k = n ∧ manyB (itoaT (n : Int) :: rest) false k = false := by
  have hnk : n ≤ n * k := Nat.le_mul_of_pos_right _ hk
  obtain ⟨i1, i2⟩ := int_itoa (n : Int) (by omega)
  have hq : ((rest.length : Int).tdiv k) = ((rest.length / k : Nat) : Int) := rfl
  have hle : n ≤ rest.length / k := (Nat.le_div_iff_mul_le hk).2 hn
  have hdl : rest.length / k ≤ rest.length := Nat.div_le_self _ _
  have hx : manyX (itoaT (n : Int) :: rest) k = false := by
    rw [manyX]
    simp only [nextW, List.headD_cons, List.tail_cons, i1, hq]
    rw [wrap_in (by omega), decide_eq_false (by omega), decide_eq_false (by omega)]; rfl
  refine ⟨by rw [manyN, hx, if_neg (by decide)]; exact i1, ?_⟩
  rw [manyB, hx, flagI]
  simp [nextW, i2]
/-- Parameters that are read back. -/
def PgR (p : Pgs) : Prop := (∀ t ∈ p.sum.s, -9223372036854775808 ≤ t.p.f ∧ t.p.f ≤ 9223372036854775807) ∧ (∀ t ∈ p.sum.q, (-9223372036854775808 ≤ t.a.f ∧ t.a.f ≤ 9223372036854775807) ∧ (-9223372036854775808 ≤ t.b.f ∧ t.b.f ≤ 9223372036854775807)) ∧ p.sum.s.length ≤ 100000 ∧ p.sum.q.length ≤ 100000
theorem parse_words {p : Pgs} (h : badP p = false) (hr : PgR p) (x : ByteArray) : parseP (x :: wordsOf p) = p ∧ parseB (x :: wordsOf p) = false := by
  obtain ⟨hj, hd, hc⟩ := bad_parts h
  obtain ⟨h1, h2, h3⟩ := cval_parts hc
  obtain ⟨r1, r2, r3, r4⟩ := hr
  have fs := flat_len wT 3 wT_len p.sum.s
  have fq := flat_len wQ 5 wQ_len p.sum.q
  obtain ⟨i1, i2⟩ := int_itoa p.job (by omega)
  obtain ⟨i3, i4⟩ := int_itoa p.done (by omega)
  have m1 := many_words p.sum.s.length 3 (p.sum.s.flatMap wT ++ itoaT p.sum.q.length :: p.sum.q.flatMap wQ) (by decide) (by simp [fs]) (by simp [fs, fq]; omega)
  have m2 := many_words p.sum.q.length 5 (p.sum.q.flatMap wQ) (by decide) (by simp [fq]) (by simp [fq]; omega)
  have s1 := scanT_words p.sum.s (itoaT p.sum.q.length :: p.sum.q.flatMap wQ) (fun t ht => ⟨r1 t ht, (cw_cat (badT_parts (h2 t ht)).1).2⟩) p.sum.s.length (Nat.le_refl _)
  have s2 := scanQ_words p.sum.q [] (fun t ht => ⟨⟨(r2 t ht).1, (cw_cat (badQ_parts (h3 t ht)).1).2⟩, (r2 t ht).2, (cw_cat (badQ_parts (h3 t ht)).2.1).2⟩) p.sum.q.length (Nat.le_refl _)
  rw [List.take_length, List.drop_length, List.flatMap_nil, List.nil_append] at s1
  rw [List.take_length, List.drop_length, List.flatMap_nil, List.append_nil] at s2
  have hw : x :: wordsOf p = x :: itoaT p.job :: itoaT p.done :: p.sum.n :: itoaT p.sum.s.length :: (p.sum.s.flatMap wT ++ itoaT p.sum.q.length :: p.sum.q.flatMap wQ) := by
    simp [wordsOf, wSums, wHead]
  rw [hw]
  generalize hW : x :: itoaT p.job :: itoaT p.done :: p.sum.n :: itoaT p.sum.s.length :: (p.sum.s.flatMap wT ++ itoaT p.sum.q.length :: p.sum.q.flatMap wQ) = W
  have e4 : pL4 W = itoaT p.sum.s.length :: (p.sum.s.flatMap wT ++ itoaT p.sum.q.length :: p.sum.q.flatMap wQ) := by rw [← hW]; rfl
  have b4 : pb4 W = false := by
    rw [pb4, pb3, pb2, pb1, ← hW]
    simp [flagI, nextW, i2, i4]
  have b5 : pb5 W = false := by
    have := e4
    rw [pL4] at this
    rw [pb5, this, b4]; exact m1.2
  have hN : pN W = p.sum.s.length := by rw [pN, e4, m1.1]; simp
  have hS : pS W = (p.sum.s, itoaT p.sum.q.length :: p.sum.q.flatMap wQ, false) := by rw [pS, hN, e4, b5, List.tail_cons]; exact s1
  have b7 : pb7 W = false := by rw [pb7, hS]; exact m2.2
  have hM : pM W = p.sum.q.length := by rw [pM, hS, m2.1]; simp
  have hQ : pQ W = (p.sum.q, [], false) := by rw [pQ, hM, hS, b7, List.tail_cons]; exact s2
  refine ⟨?_, by rw [parseB, hQ]⟩
  rw [parseP, hS, hQ, ← hW]
  simp only [nextW, List.tail_cons, List.headD_cons, i1, i3]
theorem parse_line {p : Pgs} (h : badP p = false) (hr : PgR p) : parseOk (lineT p) = true ∧ parseP (lineW (lineT p)) = p := by
  obtain ⟨h1, h2⟩ := parse_words h hr (hashT p)
  rw [parseOk, lineW_line h, h1, h2, h]
  exact ⟨by simp, rfl⟩
end Go.Proofs.YtopjkdddicgajaaGreatDoor
namespace Go.Proofs.YtopjkdddicgajaaGreatDoor
open Go.RowKit Mk
theorem byte_at {c : UInt8} {l r : List UInt8} (h : ∀ x ∈ l, x ≠ c) : Lib.indexByte (l ++ c :: r) c = (l.length : Int) := by
  induction l with
  | nil => rw [List.nil_append, Lib.indexByte, if_pos (by simp)]; rfl
  | cons a l ih =>
    have ih := ih fun x hx => h x (by simp [hx])
    have ha : (a == c) = false := by simpa using h a (by simp)
    rw [List.cons_append, Lib.indexByte, ih]
    simp [ha]
    try omega
theorem byte_no {c : UInt8} {l : List UInt8} (h : ∀ x ∈ l, x ≠ c) : Lib.indexByte l c = -1 := by
  induction l with
  | nil => rfl
  | cons a l ih =>
    have ih := ih fun x hx => h x (by simp [hx])
    have ha : (a == c) = false := by simpa using h a (by simp)
    rw [Lib.indexByte, ih]
    simp [ha]
/-- The text of a line ahead of its end. -/
def preT (p : Pgs) : List UInt8 := (joinT (hashT p :: wordsOf p)).data.toList
theorem pre_clean {p : Pgs} (h : badP p = false) : ∀ c ∈ preT p, c ≠ 10 := join_clean fun w hw c hc => ((words_all h w hw).2 c hc).1
theorem line_pre (p : Pgs) : (lineT p).data.toList = preT p ++ [10] := line_data p
theorem ba_ext {a b : ByteArray} (h : a.data.toList = b.data.toList) : a = b := ByteArray.ext (Array.ext' h)
theorem first_line {p : Pgs} (h : badP p = false) {s r : ByteArray} (hs : s.data.toList = (lineT p).data.toList ++ r.data.toList) : lineL s = lineT p ∧ restL s = r := by
  have hz : s.size = s.data.toList.length := Lib.size_eq s
  have hn : nlI s = ((preT p).length : Int) := by
    rw [nlI, hs, line_pre, List.append_assoc, List.singleton_append]
    exact byte_at (pre_clean h)
  have hl : (lineT p).data.toList.length = (preT p).length + 1 := by rw [line_pre]; simp
  unfold lineL restL
  rw [if_pos (by omega), if_pos (by omega), hn]
  constructor
  · apply ba_ext
    have : (s.extract 0 (((preT p).length : Int).toNat + 1)).data.toList = s.data.toList.take ((preT p).length + 1) := by simp [List.extract_eq_take_drop]
    rw [this, hs, ← hl, List.take_left]
  · apply ba_ext
    have : (s.extract (((preT p).length : Int).toNat + 1) s.size).data.toList = s.data.toList.drop ((preT p).length + 1) := Lib.extract_to_end s _
    rw [this, hs, ← hl, List.drop_left]
theorem line_pos (p : Pgs) : 0 < (lineT p).size := by
  have := Lib.size_eq (lineT p)
  rw [line_pre] at this
  simp at this; omega
theorem read_cons {p : Pgs} (h : badP p = false) (hr : PgR p) {s r : ByteArray} (hs : s.data.toList = (lineT p).data.toList ++ r.data.toList) : readA s = (p :: (readA r).1, (lineT p).size + (readA r).2) := by
  obtain ⟨h1, h2⟩ := first_line h hs
  obtain ⟨h3, h4⟩ := parse_line h hr
  have hz : s.size = s.data.toList.length := Lib.size_eq s
  have hp := line_pos p
  have hlz : (lineT p).size = (lineT p).data.toList.length := Lib.size_eq _
  rw [hs, List.length_append] at hz
  rw [readA_ok (by omega) (by rw [h1]; exact h3), h1, h2, h4]
/-- What is read ends with the end of a line. -/
theorem parse_nl {s : ByteArray} (h : ∀ c ∈ s.data.toList, c ≠ 10) : parseOk s = false := by
  cases e : parseOk s with
  | false => rfl
  | true =>
    rw [parseOk] at e
    simp only [Bool.and_eq_true] at e
    have e2 := e.2.2
    rw [Lib.toList_data, Lib.toList_data, beq_iff_eq, line_pre] at e2
    exact absurd rfl (h 10 (by rw [← e2]; simp))
theorem read_none {s : ByteArray} (h : ∀ c ∈ s.data.toList, c ≠ 10) : readA s = ([], 0) := by
  by_cases h0 : s.size = 0
  · exact readA_nil h0
  · have hl : lineL s = s := by unfold lineL; rw [if_neg (by rw [nlI, byte_no h]; decide)]
    exact readA_bad (by omega) (by rw [hl]; exact parse_nl h)
/-- A log. -/
def logL (l : List Pgs) : List UInt8 := l.flatMap fun p => (lineT p).data.toList
def GoodP (p : Pgs) : Prop := badP p = false ∧ PgR p
theorem read_log {l : List Pgs} (hl : ∀ p ∈ l, GoodP p) {s r : ByteArray} (hs : s.data.toList = logL l ++ r.data.toList) : readA s = (l ++ (readA r).1, (logL l).length + (readA r).2) := by
  induction l generalizing s with
  | nil =>
    obtain rfl : s = r := ba_ext (by simpa [logL] using hs)
    simp [logL]
  | cons p l ih =>
    have hp := hl p (by simp)
    have hlz : (lineT p).size = (lineT p).data.toList.length := Lib.size_eq _
    have e := ih (fun q hq => hl q (by simp [hq])) (s := ⟨(logL l ++ r.data.toList).toArray⟩) rfl
    have e2 : logL (p :: l) = (lineT p).data.toList ++ logL l := by simp [logL]
    rw [e2, List.append_assoc] at hs
    rw [read_cons hp.1 hp.2 (r := ⟨(logL l ++ r.data.toList).toArray⟩) hs, e, e2, List.length_append]
    simp only [List.cons_append, Prod.mk.injEq, true_and]
    omega
theorem readA_empty : readA ⟨#[]⟩ = ([], 0) := readA_nil rfl
theorem read_whole {l : List Pgs} (hl : ∀ p ∈ l, GoodP p) {s : ByteArray} (hs : s.data.toList = logL l) : readA s = (l, s.size) := by
  rw [read_log hl (r := ⟨#[]⟩) (by rw [hs]; simp), readA_empty]
  simp only [List.append_nil, Nat.add_zero]
  rw [Lib.size_eq s, hs]
/-- Where a log is cut off. -/
theorem cut_log : ∀ (l : List Pgs) (k : Nat), k ≤ (logL l).length → ∃ j r, (logL l).take k = logL (l.take j) ++ r ∧ j ≤ l.length ∧ (r = [] ∨ ∃ (h : j < l.length) (i : Nat), i < (lineT l[j]).data.toList.length ∧ r = (lineT l[j]).data.toList.take i)
  | [], k, _ => ⟨0, [], by simp [logL], Nat.le_refl _, .inl rfl⟩
  | p :: l, k, h => by
    have e2 : logL (p :: l) = (lineT p).data.toList ++ logL l := by simp [logL]
    rcases Nat.lt_or_ge k (lineT p).data.toList.length with h1 | h1
    · refine ⟨0, (lineT p).data.toList.take k, ?_, Nat.zero_le _, .inr ⟨by simp, k, h1, rfl⟩⟩
      rw [e2, List.take_append_of_le_length (by omega)]; simp [logL]
    · rw [e2, List.length_append] at h
      obtain ⟨j, r, h2, h3, h4⟩ := cut_log l (k - (lineT p).data.toList.length) (by omega)
      refine ⟨j + 1, r, ?_, by simp; omega, ?_⟩
      · rw [e2, List.take_append, List.take_of_length_le h1, h2, List.take_succ_cons]
        simp [logL]
      · rcases h4 with h4 | ⟨h5, i, h6, h7⟩
        · exact .inl h4
        · exact .inr ⟨by simp; omega, i, by simpa using h6, by simpa using h7⟩
/-- Short words cut off are short words. -/
theorem RW_prefix {w w' : ByteArray} (h : RW w) (hp : w'.data.toList <+: w.data.toList) : RW w' := by
  have z1 : w.size = w.data.toList.length := Lib.size_eq w
  have z2 : w'.size = w'.data.toList.length := Lib.size_eq w'
  have hle := hp.length_le
  refine ⟨by have := h.1; omega, ?_⟩
  cases hs : slashB w' with
  | false =>
    have hno : ∀ c ∈ w'.data.toList, c ≠ 47 := fun c hc e => by
      obtain ⟨i, hi, hci⟩ := List.getElem_of_mem hc
      rcases Int.lt_or_le (Lib.indexByte w'.data.toList 47) 0 with e1 | e1
      · have := Lib.indexByte_ge w'.data.toList 47
        exact Lib.indexByte_none (show Lib.indexByte w'.data.toList 47 = -1 by omega) i (by rw [List.getElem?_eq_getElem hi, hci, e])
      · obtain ⟨j, hj⟩ := Int.eq_ofNat_of_zero_le e1
        rw [(cut_hit hj).2.2] at hs; cases hs
    rw [(cut_clean hno).2.2]; exact Nat.zero_le _
  | true =>
    have hs2 := slash_parts hs
    have hno : ∀ c ∈ (numT w').data.toList, c ≠ 47 := fun c hc e => by
      rcases Int.lt_or_le (Lib.indexByte w'.data.toList 47) 0 with e1 | e1
      · have := Lib.indexByte_ge w'.data.toList 47
        rw [(cut_none (s := w') (by omega)).2] at hs; cases hs
      · obtain ⟨j, hj⟩ := Int.eq_ofNat_of_zero_le e1
        rw [(cut_hit hj).1] at hc
        have e3 : (w'.extract 0 j).data.toList = w'.data.toList.take j := by simp [List.extract_eq_take_drop]
        rw [e3] at hc
        obtain ⟨i, hi, hci⟩ := List.getElem_of_mem hc
        have hij : i < j := by simp at hi; omega
        refine (Lib.indexByte_some hj).2 i hij ?_
        have hlt : i < w'.data.toList.length := by simp at hi; omega
        rw [List.getElem?_eq_getElem hlt]
        rw [List.getElem_take] at hci
        rw [hci, e]
    obtain ⟨t, ht⟩ := hp
    have hw : w.data.toList = (numT w').data.toList ++ 47 :: ((denT w').data.toList ++ t) := by rw [← ht, hs2]; simp
    have e2 : w = ((numT w') ++ ⟨#[47]⟩) ++ ⟨((denT w').data.toList ++ t).toArray⟩ := by
      apply ba_ext; rw [hw]; simp
    have hd := h.2
    rw [e2, (cut_slash (b := ⟨((denT w').data.toList ++ t).toArray⟩) hno).2.2] at hd
    have z3 : (denT w').size = (denT w').data.toList.length := Lib.size_eq _
    have z4 : (⟨((denT w').data.toList ++ t).toArray⟩ : ByteArray).size = (denT w').data.toList.length + t.length := by rw [Lib.size_eq]; exact List.length_append
    omega
/-- The words of a line are short. -/
structure Lg (p : Pgs) : Prop where
  g : GoodP p
  w : ∀ w ∈ hashT p :: wordsOf p, RW w
  n : (wordsOf p).length ≤ 400
theorem RW.swd {w : ByteArray} (h : RW w) : SWd w := ⟨by have := h.1; omega, h.ok⟩
theorem spl_line {p : Pgs} (h : badP p = false) : spl (preT p) = (hashT p :: wordsOf p).map (·.data.toList) := by
  have e : preT p = List.intercalate [32] ((hashT p :: wordsOf p).map (·.data.toList)) := rfl
  rw [e, spl_join _ (by simp) (fun w hw => by
    obtain ⟨b, hb, rfl⟩ := List.mem_map.1 hw
    exact fun c hc => ((words_all h b hb).2 c hc).2.1)]
theorem ln_cut {p : Pgs} (h : Lg p) {s : ByteArray} {i : Nat} (hs : s.data.toList = (preT p).take i) : LnOk (lineW s) := by
  have hcl : ∀ c ∈ s.data.toList, c ≠ 10 := fun c hc => pre_clean h.g.1 c (List.mem_of_mem_take (hs ▸ hc))
  rw [lineW_eq, trim_no hcl, hs]
  have hl := spl_take_len (preT p) i
  rw [spl_line h.g.1, List.length_map, List.length_cons] at hl
  have hn := h.n
  refine ⟨fun w hw => ?_, by rw [List.length_map]; omega⟩
  obtain ⟨x, hx, rfl⟩ := List.mem_map.1 hw
  obtain ⟨y, hy, hp⟩ := spl_take (preT p) i x hx
  rw [spl_line h.g.1] at hy
  obtain ⟨b, hb, rfl⟩ := List.mem_map.1 hy
  exact (RW_prefix (h.w b hb) hp).swd
theorem ln_line {p : Pgs} (h : Lg p) : LnOk (lineW (lineT p)) := by
  rw [lineW_line h.g.1]
  have hn := h.n
  exact ⟨fun w hw => (h.w w hw).swd, by simp; omega⟩
theorem linesOk_le : ∀ (k : Nat) (s : ByteArray), LinesOk s.size s → LinesOk k s
  | 0, _, _ => trivial
  | k + 1, s, h => by
    by_cases h0 : s.size = 0
    · exact .inl h0
    · have hh := h.head (by omega)
      exact .inr ⟨hh.1, fun hp => linesOk_le k (restL s) (hh.2 hp)⟩
theorem lines_log {l : List Pgs} (hl : ∀ p ∈ l, Lg p) {s r : ByteArray} (hs : s.data.toList = logL l ++ r.data.toList) (hr : LinesOk r.size r) : LinesOk s.size s := by
  induction l generalizing s with
  | nil =>
    obtain rfl : s = r := ba_ext (by simpa [logL] using hs)
    exact hr
  | cons p l ih =>
    have hp := hl p (by simp)
    have e2 : logL (p :: l) = (lineT p).data.toList ++ logL l := by simp [logL]
    rw [e2, List.append_assoc] at hs
    have e := ih (fun q hq => hl q (by simp [hq])) (s := ⟨(logL l ++ r.data.toList).toArray⟩) rfl
    obtain ⟨h1, h2⟩ := first_line hp.g.1 (r := ⟨(logL l ++ r.data.toList).toArray⟩) hs
    have key : ∀ k, LinesOk k s := fun k => by
      cases k with
      | zero => trivial
      | succ k => exact .inr ⟨by rw [h1]; exact ln_line hp, fun _ => by rw [h2]; exact linesOk_le k _ e⟩
    exact key _
theorem lines_cut {p : Pgs} (h : Lg p) {s : ByteArray} {i : Nat} (hs : s.data.toList = (preT p).take i) : LinesOk s.size s := by
  have hcl : ∀ c ∈ s.data.toList, c ≠ 10 := fun c hc => pre_clean h.g.1 c (List.mem_of_mem_take (hs ▸ hc))
  have hl : lineL s = s := by unfold lineL; rw [if_neg (by rw [nlI, byte_no hcl]; decide)]
  have key : ∀ k, LinesOk k s := fun k => by
    cases k with
    | zero => trivial
    | succ k => exact .inr ⟨by rw [hl]; exact ln_cut h hs, fun hp => by rw [hl, parse_nl hcl] at hp; cases hp⟩
  exact key _
theorem lines_nil {s : ByteArray} (h : s.size = 0) : LinesOk s.size s := by rw [h]; trivial
end Go.Proofs.YtopjkdddicgajaaGreatDoor
namespace Go.Proofs.YtopjkdddicgajaaGreatDoor
open Go.RowKit Mk
theorem PW.pok {p : Par} (h : PW p) : POk p ∧ p.c.size ≤ 1000 := by
  have h1 := h.1
  have h2 := h.2.1
  exact ⟨⟨by omega, by omega⟩, by omega⟩
theorem PgW.s {p : Pgs} (h : PgW p) : PgS p := by
  have hj := h.j
  have hd := h.d
  have hs := h.c.sl
  have hq := h.c.ql
  exact ⟨by omega, by omega, h.c.n.swd, fun t ht => ⟨(h.c.s t ht).1.pok.1, (h.c.s t ht).2.ok, (h.c.s t ht).1.pok.2, (h.c.s t ht).2.swd.1⟩,
    fun t ht => ⟨(h.c.q t ht).1.pok.1, (h.c.q t ht).2.1.pok.1, (h.c.q t ht).2.2.ok, (h.c.q t ht).1.pok.2, (h.c.q t ht).2.1.pok.2, (h.c.q t ht).2.2.swd.1⟩, by omega, by omega⟩
theorem PgW.r {p : Pgs} (h : PgW p) : PgR p := ⟨fun t ht => (h.s.s t ht).1.1, fun t ht => ⟨(h.s.q t ht).1.1, (h.s.q t ht).2.1.1⟩, h.s.sl, h.s.ql⟩
theorem RW_itoa (n : Int) (h : -9223372036854775808 ≤ n ∧ n ≤ 9223372036854775807) : RW (itoaT n) :=
  RW_plain (List.all_eq_true.2 fun c hc => by have := no_slash (itoa_clean n c hc); simpa using this)
    (by have := itoa_size n h; have z : (itoaT n).size = (itoaT n).data.toList.length := Lib.size_eq _; omega)
theorem RW_cat {p : Par} (h : PW p) : RW (catT p.c) := by
  unfold catT
  split
  · exact RW_plain rfl (by simp [dashT])
  · exact RW_plain (List.all_eq_true.2 fun c hc => by simpa using h.2.2 c hc) (by have := h.2.1; have z := Lib.size_eq p.c; omega)
theorem RW_hash (p : Pgs) : RW (hashT p) :=
  RW_plain (List.all_eq_true.2 fun c hc => by have := no_slash (.inr (dec_digs _ c hc)); simpa using this)
    (by have := fmt_size _ (hash_lt (bodyT p).data.toList); have z : (hashT p).size = (hashT p).data.toList.length := Lib.size_eq _; rw [hashT] at z ⊢; omega)
theorem PgW.words {p : Pgs} (h : PgW p) : ∀ w ∈ hashT p :: wordsOf p, RW w := by
  have hs := h.s
  have hsl := h.c.sl
  have hql := h.c.ql
  intro w hw
  simp only [wordsOf, wSums, wHead, List.mem_append, List.mem_cons, List.not_mem_nil, or_false] at hw
  rcases hw with rfl | (((rfl | rfl | rfl | rfl) | hw) | rfl) | hw
  · exact RW_hash p
  · exact RW_itoa _ hs.j
  · exact RW_itoa _ hs.d
  · exact h.c.n
  · exact RW_itoa _ (by omega)
  · obtain ⟨t, ht, hw⟩ := List.mem_flatMap.1 hw
    have h1 := h.c.s t ht
    simp only [wT, List.mem_cons, List.not_mem_nil, or_false] at hw
    rcases hw with rfl | rfl | rfl
    · exact RW_itoa _ h1.1.pok.1.1
    · exact RW_cat h1.1
    · exact h1.2
  · exact RW_itoa _ (by omega)
  · obtain ⟨t, ht, hw⟩ := List.mem_flatMap.1 hw
    have h1 := h.c.q t ht
    simp only [wQ, List.mem_cons, List.not_mem_nil, or_false] at hw
    rcases hw with rfl | rfl | rfl | rfl | rfl
    · exact RW_itoa _ h1.1.pok.1.1
    · exact RW_cat h1.1
    · exact RW_itoa _ h1.2.1.pok.1.1
    · exact RW_cat h1.2.1
    · exact h1.2.2
theorem PgW.lg {p : Pgs} (h : PgW p) (hb : badP p = false) : Lg p :=
  ⟨⟨hb, h.r⟩, h.words, by rw [words_len]; have := h.c.sl; have := h.c.ql; omega⟩
theorem PgW.size {p : Pgs} (h : PgW p) : (lineT p).size ≤ 166200 := by
  have h1 := join_size (hashT p :: wordsOf p) fun w hw => (h.words w hw).swd.1
  rw [List.length_cons, words_len] at h1
  have := h.c.sl
  have := h.c.ql
  rw [line_join, ByteArray.size_append]
  have : nlT.size = 1 := rfl
  omega
/-- What Cofactor makes is valid. -/
theorem l4_ok : ∀ p ∈ l4, paramOk p = true := by
  intro p hp
  simp only [l4, List.mem_cons, List.not_mem_nil, or_false] at hp
  rcases hp with rfl | rfl | rfl | rfl <;> (rw [paramOk, Lib.toList_data, Lib.toList_data]; rfl)
theorem asc_pair {α : Type} {less : α → α → Bool} {l : List α} (h : l.Pairwise fun a b => less a b = true) : ascL less l = true :=
  ascL_iff.2 fun j hj => List.pairwise_iff_getElem.1 h j (j + 1) (by omega) hj (by omega)
theorem l4_asc : l4.Pairwise fun a b => lessP a b = true := by decide +kernel
theorem prs_asc : (prsL 4).Pairwise fun a b => (lessP a.1 b.1 || (parEq a.1 b.1 && lessP a.2 b.2)) = true := by decide +kernel
theorem prs_le : ∀ x ∈ prsL 4, lessP x.2 x.1 = false := by decide +kernel
theorem ge_entry {w : ByteArray} (h : GE w) : entryOk w = true := by
  obtain ⟨q, hq, rfl, h0⟩ := h
  rw [entryOk, sml_valid hq, Bool.true_and]
  simpa [bne] using h0
theorem CofV.valid {c : Cof} (h : CofV c) : cvalid c = true := by
  obtain ⟨q, hq, hn⟩ := h.n
  rw [cvalid, hn, sml_valid hq, Bool.true_and]
  have h1 : c.s.any badT = false := by
    rw [List.any_eq_false]
    intro t ht
    rw [badT, l4_ok _ (h.s.subset (List.mem_map.2 ⟨t, ht, rfl⟩)), ge_entry (h.sv t ht)]; decide
  have h2 : c.q.any badQ = false := by
    rw [List.any_eq_false]
    intro t ht
    have hm := h.q.subset (List.mem_map.2 ⟨t, ht, rfl⟩)
    have hl := prs_l4 _ hm
    rw [badQ, l4_ok _ hl.1, l4_ok _ hl.2, ge_entry (h.qv t ht), prs_le _ hm]; decide
  have h3 : ascL lessT c.s = true := asc_pair (List.pairwise_map.1 (l4_asc.sublist h.s))
  have h4 : ascL lessQ c.q = true := asc_pair (List.pairwise_map.1 (prs_asc.sublist h.q))
  rw [h1, h2, h3, h4]; rfl
theorem CofV.good {c : Cof} (h : CofV c) : badP ⟨1, 1, c⟩ = false := by rw [badP, h.valid]; rfl
theorem CofV.pgw {c : Cof} (h : CofV c) : PgW ⟨1, 1, c⟩ := ⟨h.w, by simp only; omega, by simp only; omega⟩
/-- The progress of the sanity check. -/
def threeT : ByteArray := ⟨#[51]⟩
def p0 : Pgs := ⟨1, 2, ⟨threeT, [], []⟩⟩
theorem p0_w : PgW p0 := ⟨⟨RW_plain rfl (by simp [p0, threeT]), fun _ h => absurd h (by simp [p0]), fun _ h => absurd h (by simp [p0]), by simp [p0], by simp [p0]⟩, by decide, by decide⟩
theorem three_rat : threeT = ratT 3 := by
  apply ba_ext
  decide +kernel
theorem p0_ok : badP p0 = false := by
  have h : rvalid threeT = true := by rw [three_rat]; exact rvalid_ratT 3 (by decide +kernel)
  rw [badP, cvalid, show p0.sum.n = threeT from rfl, h]; decide
/-- A log as a text. -/
def logT (l : List Pgs) : ByteArray := ⟨(logL l).toArray⟩
theorem logT_data (l : List Pgs) : (logT l).data.toList = logL l := rfl
theorem logL_app (l m : List Pgs) : logL (l ++ m) = logL l ++ logL m := by simp [logL]
theorem logL_one (p : Pgs) : logL [p] = (lineT p).data.toList := by simp [logL]
theorem logT_app (l m : List Pgs) : logT l ++ logT m = logT (l ++ m) := by
  apply ba_ext
  rw [ByteArray.data_append, Array.toList_append, logT_data, logT_data, logT_data, logL_app]
theorem logT_one (p : Pgs) : logT [p] = lineT p := ba_ext (logL_one p)
theorem logT_snoc (l : List Pgs) (p : Pgs) : logT l ++ lineT p = logT (l ++ [p]) := by rw [← logT_one, logT_app]
theorem logT_size {l : List Pgs} (h : ∀ p ∈ l, PgW p) : (logT l).size ≤ 166200 * l.length := by
  induction l with
  | nil => exact Nat.zero_le _
  | cons p l ih =>
    have h1 := (h p (by simp)).size
    have h2 := ih fun q hq => h q (by simp [hq])
    rw [show p :: l = [p] ++ l from rfl, ← logT_app, logT_one, ByteArray.size_append, List.length_append, List.length_singleton]
    omega
/-- What is read of a text: the progresses l, whose lines are its first n bytes. -/
structure RdS (s : ByteArray) (l : List Pgs) (n : Nat) : Prop where
  r : readA s = (l, n)
  le : n ≤ s.size
  h : s.extract 0 n = logT l
  k : LinesOk s.size s
  z : s.size ≤ 10000000
theorem ext_data (s : ByteArray) (k : Nat) : (s.extract 0 k).data.toList = s.data.toList.take k := by simp [List.extract_eq_take_drop]
theorem RdS.log {l : List Pgs} (h : ∀ p ∈ l, Lg p) (hz : (logT l).size ≤ 10000000) : RdS (logT l) l (logT l).size := by
  refine ⟨read_whole (fun p hp => (h p hp).g) rfl, Nat.le_refl _, ?_, lines_log h (r := ⟨#[]⟩) (by rw [logT_data]; simp) (lines_nil rfl), hz⟩
  apply ba_ext
  have e := ext_data (logT l) (logT l).size
  exact e.trans (List.take_of_length_le (Nat.le_of_eq (Lib.size_eq _).symm))
theorem RdS.cut {l : List Pgs} (h : ∀ p ∈ l, Lg p) (hz : (logT l).size ≤ 10000000) {k : Nat} (hk : k ≤ (logT l).size) : ∃ j n, j ≤ l.length ∧ n ≤ k ∧ RdS ((logT l).extract 0 k) (l.take j) n := by
  have hzl : (logT l).size = (logL l).length := Lib.size_eq _
  obtain ⟨j, r, h1, h2, h3⟩ := cut_log l k (by omega)
  generalize hs : (logT l).extract 0 k = s
  have hd : s.data.toList = logL (l.take j) ++ r := by rw [← hs, ext_data, logT_data, h1]
  have hsz : s.size = (logL (l.take j)).length + r.length := by rw [Lib.size_eq, hd, List.length_append]
  have hsk : s.size = k := by rw [Lib.size_eq, ← hs, ext_data, List.length_take, logT_data]; omega
  have hlt : ∀ p ∈ l.take j, Lg p := fun p hp => h p (List.mem_of_mem_take hp)
  have hr : readA ⟨r.toArray⟩ = ([], 0) ∧ LinesOk (⟨r.toArray⟩ : ByteArray).size ⟨r.toArray⟩ := by
    rcases h3 with rfl | ⟨h4, i, h5, h6⟩
    · exact ⟨readA_empty, lines_nil rfl⟩
    · have hp := h _ (List.getElem_mem h4)
      have e : r = (preT l[j]).take i := by
        rw [h6, line_pre]
        rw [line_pre, List.length_append, List.length_singleton] at h5
        rw [List.take_append_of_le_length (by omega)]
      refine ⟨read_none fun c hc => ?_, lines_cut hp (i := i) e⟩
      have hc' : c ∈ r := hc
      rw [e] at hc'
      exact pre_clean hp.g.1 c (List.mem_of_mem_take hc')
  refine ⟨j, (logL (l.take j)).length, h2, by omega, ?_, by omega, ?_, ?_, by omega⟩
  · rw [read_log (fun p hp => (hlt p hp).g) (r := ⟨r.toArray⟩) hd, hr.1]; simp
  · apply ba_ext
    rw [ext_data, hd, List.take_left]; rfl
  · exact lines_log hlt (r := ⟨r.toArray⟩) hd hr.2
end Go.Proofs.YtopjkdddicgajaaGreatDoor
namespace Go.Proofs.YtopjkdddicgajaaGreatDoor
open Go.RowKit Mk Go.Shelf
set_option maxRecDepth 100000
set_option maxHeartbeats 4000000
attribute [local go_sem] Oper.semAt_some
/-- What stands behind the loop. -/
structure RdEnd (w : World) (R : Nat → Prop) (b4 b5 bB D l : Nat) (s : ByteArray) (W : World) : Prop where
  b : Btw Tryz.prog w R [b4, b5] [bB, D, l] (rdO (readA s).1 ((readA s).2 : Int)) 1 W
  d : W.heap[D]? = some (.deferred (some []))
theorem RJ.set {w W : World} {R : Nat → Prop} {b4 b5 : Nat} {X : List Nat} {s r : ByteArray} {qs : List Pgs} {k x : Nat} (h : RJ w R b4 b5 X s r qs k W) (hx : x ∈ X) {W' : World} (hsz : W.heap.size ≤ W'.heap.size) (hh : ∀ q, q ≠ x → W'.heap[q]? = W.heap[q]?) (hbel : Below w.heap.size w W') : RJ w R b4 b5 X s r qs k W' :=
  ⟨h.b.other hsz (fun q _ hn => hh q fun e => hn (e ▸ hx)) hbel (fun y hy => .inl hy), h.e, h.n, h.q, h.l⟩
theorem btw_set {w W : World} {R : Nat → Prop} {b4 b5 : Nat} {X : List Nat} {os : List (Nat × Ob)} {x : Nat} (h : Btw Tryz.prog w R [b4, b5] X os 1 W) (hx : x ∈ X) {W' : World} (hsz : W.heap.size ≤ W'.heap.size) (hh : ∀ q, q ≠ x → W'.heap[q]? = W.heap[q]?) (hbel : Below w.heap.size w W') : Btw Tryz.prog w R [b4, b5] X os 1 W' :=
  h.other hsz (fun q _ hn => hh q fun e => hn (e ▸ hx)) hbel (fun y hy => .inl hy)
theorem put_size (W : World) (r : Nat) (o : Obj) : (W.putObj r o).heap.size = W.heap.size := by simp [World.putObj]
theorem below_put {n : Nat} {w W : World} {r : Nat} {o : Obj} (h : Below n w W) (hr : n ≤ r) : Below n w (W.putObj r o) :=
  ⟨h.os, h.tape, h.output, by rw [put_size]; exact h.size, fun k hk => (World.putObj_heap_other (by omega)).trans (h.block k hk)⟩
theorem live2 (qs : List Pgs) (k : Int) : ∀ j, j < 2 → liveO (lookO (rdO qs k) (big + j)) = true := fun j hj => by
  have h : j = 0 ∨ j = 1 := by omega
  rcases h with rfl | rfl
  · show liveO (lookO (rdO qs k) 1000000) = true; kernel_rfl
  · show liveO (lookO (rdO qs k) 1000001) = true; kernel_rfl
theorem lines_loop {g : Operand} {assign body : Code} {Q : Exit → Act → World → Prop} {a : Act} {w Wp W0 : World} {R : Nat → Prop} {b4 b5 bB : Nat} {s : ByteArray} (hs : s.size ≤ 100000000) (hl : LinesOk s.size s)
    (hg : a.eval g = .func (.func 53) #[] #[.pointer (some ⟨bB, 0, none⟩)]) (hbB : bB = Wp.heap.size) (hW0 : Wp.alloc (Obj.cells #[Value.string s] 9) = W0) (hge : w.heap.size ≤ Wp.heap.size)
    (hbt : Btw Tryz.prog w R [b4, b5] [] (rdO [] 0) 1 Wp) (hbody : body = rdBody)
    (hassign : ∀ (l : Nat) (x : ByteArray) (W : World) (K : Act → World → Prop), K (rdAct s x b4 b5 bB) W → assign.wpIn (Fence.wide.inRound l) 0 Tryz.prog (Exit.then K (fun _ _ _ => False)) { tmps := (#[11].zip #[Value.string x]).foldl (fun t (p, v) => t.setIfInBounds p v) a.tmps, defers := [] } W)
    (hdone : ∀ (D l : Nat) (W : World), w.heap.size ≤ D → RdEnd w R b4 b5 bB D l s W → Q .normal { a with defers := { target := .collected D, args := #[] } :: a.defers } W)
    (hstop : ∀ (D l : Nat) (W : World), w.heap.size ≤ D → RdEnd w R b4 b5 bB D l s W → (Code.exit 0).wpIn Fence.wide 2 Tryz.prog Q { a with defers := { target := .collected D, args := #[] } :: a.defers } W) :
    (Code.rangeFunc g #[11] assign body).wpIn Fence.wide 2 Tryz.prog Q a W0 := by
  have hs0 : W0.heap.size = Wp.heap.size + 1 := by rw [← hW0]; simp
  have hBB : Boxed W0 bB 9 (.string s) := by rw [← hW0, hbB]; exact World.alloc_heap_new Wp _
  have hbel0 : Below w.heap.size w W0 := by rw [← hW0]; exact hbt.bel.alloc hge _
  have eg := enters_of (P := Tryz.prog) Tryz.func53 (by kernel_rfl) rfl
  refine wpIn_rangeFunc ?_
  intro fn hfn
  obtain ⟨rec, hrec⟩ : ∃ rec : LoopState → Option Code → Loop, rec = fun st pe => { state := st, pending := pe, fn, tmps := a.tmps, params := #[11], assign, body, defers := W0.heap.size } := ⟨_, rfl⟩
  obtain ⟨W1, hW1⟩ : ∃ W1, (W0.alloc (.deferred (some []))).alloc (.loop (rec .ready none)) = W1 := ⟨_, rfl⟩
  obtain ⟨D, hD⟩ : ∃ D, D = W0.heap.size := ⟨_, rfl⟩
  have hL1 : W1.heap[D + 1]? = some (.loop (rec .ready none)) := by
    rw [← hW1, hD]; have := World.alloc_heap_new (W0.alloc (.deferred (some []))) (.loop (rec .ready none)); rwa [World.size_alloc] at this
  have hK1 : W1.heap[D]? = some (.deferred (some [])) := by
    rw [← hW1, hD]; exact (Below.heap_alloc _ _ _ (by simp)).trans (World.alloc_heap_new W0 _)
  have hs1 : W1.heap.size = Wp.heap.size + 3 := by rw [← hW1]; simp [hs0]
  have hB1 : Boxed W1 bB 9 (.string s) := by
    rw [← hW1]; exact (hBB.alloc _).alloc _
  have hbel1 : Below w.heap.size w W1 := by rw [← hW1]; exact (hbel0.alloc (by omega) _).alloc (by simp; omega) _
  have hbt1 : Btw Tryz.prog w R [b4, b5] [bB, D, D + 1] (rdO [] 0) 1 W1 := by
    refine hbt.other (by omega) (fun q hq _ => ?_) hbel1 (fun x hx => ?_)
    · rw [← hW1, ← hW0]; exact ((Below.heap_alloc _ _ _ (by simp; omega)).trans (Below.heap_alloc _ _ _ (by simp; omega))).trans (Below.heap_alloc _ _ _ hq)
    · simp only [List.mem_cons, List.not_mem_nil, or_false] at hx; omega
  have hj0 : RJ w R b4 b5 [bB, D, D + 1] s s [] 0 W1 := ⟨hbt1, by simp, by omega, Nat.le_refl _, hl⟩
  refine ⟨D + 1, [{ target := .collected D, args := #[] }], W1, { target := .fn (.func 53) #[.pointer (some ⟨bB, 0, none⟩)], args := #[.func (.yield (D + 1)) #[] #[]] }, W1, 53,
    #[.func (.yield (D + 1)) #[] #[], .pointer (some ⟨bB, 0, none⟩)], W1, ?_, ?_, fun _ _ => trivial, ?_, fun _ => by decide, ?_⟩
  · rw [← hW1, hrec, hD]; exact run_enterLoop_outer _ _ _ _ _
  · simp only [resolve, hg]
    simp [go_sem]
  · simp [invoke, go_sem, eg]
  · refine (lines_in (D + 1) bB 100000000 (by decide)
      (fun t W => ∃ qs k, RJ w R b4 b5 [bB, D, D + 1] s t qs k W ∧ W.heap[D + 1]? = some (.loop (rec .ready none)) ∧ W.heap[D]? = some (.deferred (some [])))
      (fun W => RdEnd w R b4 b5 bB D (D + 1) s W ∧ W.heap[D + 1]? = some (.loop (rec .done (some (.exit 0)))))
      ?_ ?_ ?_ s hs W1 hB1 ⟨[], 0, hj0, hL1, hK1⟩).mono ?_
    · rintro t v W u hbx ⟨qs, k, hj, h1, h2⟩
      refine ⟨qs, k, hj.set (x := bB) (by simp) (by simp) (fun q hq => Below.heap_setCell W ⟨bB, 0, none⟩ v q hq) (hj.b.bel.setCell (by show w.heap.size ≤ bB; omega) _), ?_, ?_⟩
      · exact (Below.heap_setCell W ⟨bB, 0, none⟩ v _ (by show D + 1 ≠ bB; omega)).trans h1
      · exact (Below.heap_setCell W ⟨bB, 0, none⟩ v _ (by show D ≠ bB; omega)).trans h2
    · rintro t W ⟨qs, k, hj, h1, h2⟩
      exact ⟨qs, k, hj.set (x := bB) (by simp) (Nat.le_refl _) (fun q _ => rfl) hj.b.bel.drew, h1, h2⟩
    · rintro t W ht0 htB hbx ⟨qs, k, hj, h1, h2⟩
      have hlt : D + 1 < W.heap.size := (Array.getElem?_eq_some_iff.1 h1).1
      have hy := run_yield (P := Tryz.prog) (args := #[Value.string (lineL t)]) h1 (by rw [hrec]; rfl)
      rw [hrec] at hy
      refine ⟨fn, _, assign, body, hy, roundIn_of_wpIn hfn (hassign _ (lineL t) W _ ⟨_, run_beginRound h1 (by rw [hrec]), ?_⟩)⟩
      have hwb : w.heap.size ≤ bB := by omega
      have hbtb : Btw Tryz.prog w R [b4, b5] [bB, D, D + 1] (rdO qs (k : Int)) 1 (W.putObj (D + 1) (.loop { rec .ready none with state := .busy })) :=
        btw_set hj.b (x := D + 1) (by simp) (by rw [put_size]; exact Nat.le_refl _) (fun q hq => World.putObj_heap_other hq) (below_put hj.b.bel (by omega))
      have hh := hj.l.head ht0
      have hrs := rest_size ht0
      have hkn := hj.n
      have hql := hj.q
      have hround := hbtb.round (n := Tryz.f13.ntmps) (l := D + 1) (body := rdBody) (slots := rdS (lineL t))
        (G := fun ex os' k' => (parseOk (lineL t) = true ∧ ex = .normal ∧ os' = rdO (qs ++ [parseP (lineW (lineL t))]) ((k : Int) + (lineL t).size) ∧ k' = 1) ∨ (parseOk (lineL t) = false ∧ ex = .exit 0 ∧ os' = rdO qs (k : Int) ∧ k' = 1))
        (fun m0 w0 F R0 => round_spec (lineL t) (by omega) hh.1 qs (k : Int) (by omega) (by omega) m0 w0 F R0)
        (fun ex τ hq => by
          rcases hq with ⟨q1, q2, q3⟩ | ⟨q1, q2, q3⟩
          · exact ⟨rdO (qs ++ [parseP (lineW (lineL t))]) ((k : Int) + (lineL t).size), 1, q3, live2 _ _, .inl ⟨q1, q2, rfl, rfl⟩⟩
          · exact ⟨rdO qs (k : Int), 1, q3, live2 _ _, .inr ⟨q1, q2, rfl, rfl⟩⟩)
        (rdAct s (lineL t) b4 b5 bB) rfl rfl (fun m R' h => rdAct_sl s (lineL t) b4 b5 bB _ m R' h)
      rw [← hbody] at hround
      refine wpIn_mono hround ?_
      rintro ex a3 W3 ⟨⟨os', k', hG, hb3⟩, hX, hsz3⟩
      have hl3 : W3.heap[D + 1]? = some (.loop { rec .ready none with state := .busy }) := (hX (D + 1) (by simp)).trans (World.putObj_heap_same hlt)
      have hk3 : W3.heap[D]? = some (.deferred (some [])) := (hX D (by simp)).trans ((World.putObj_heap_other (by omega)).trans h2)
      have hbx3 : Boxed W3 bB 9 (.string (restL t)) := (hX bB (by simp)).trans ((World.putObj_heap_other (by omega)).trans hbx)
      have hlt3 : D + 1 < W3.heap.size := (Array.getElem?_eq_some_iff.1 hl3).1
      have he := hj.e
      have hput : ∀ o os, Btw Tryz.prog w R [b4, b5] [bB, D, D + 1] os 1 W3 → Btw Tryz.prog w R [b4, b5] [bB, D, D + 1] os 1 (W3.putObj (D + 1) o) := fun o os hb => btw_set hb (x := D + 1) (by simp) (by rw [put_size]; exact Nat.le_refl _) (fun q hq => World.putObj_heap_other hq) (below_put hb.bel (by omega))
      rcases hG with ⟨hp, rfl, rfl, rfl⟩ | ⟨hp, rfl, rfl, rfl⟩
      · rw [readA_ok ht0 hp] at he
        refine ⟨_, _, run_endRound none hl3, .inl ⟨rfl, ⟨qs ++ [parseP (lineW (lineL t))], k + (lineL t).size, ⟨hput _ _ hb3, ?_, by omega, ?_, hh.2 hp⟩, ?_, ?_⟩, ?_⟩⟩
        · rw [he]; simp [Nat.add_assoc]
        · simp; omega
        · rw [World.putObj_heap_same hlt3, hrec]; rfl
        · exact (World.putObj_heap_other (by omega)).trans hk3
        · exact (World.putObj_heap_other (by omega)).trans hbx3
      · rw [readA_bad ht0 hp] at he
        refine ⟨_, _, run_endRound (some (.exit 0)) hl3, .inr ⟨rfl, ⟨?_, ?_⟩, ?_⟩⟩
        · have h4 := hput (.loop { { rec .ready none with state := .busy } with state := if (some (Code.exit 0)).isNone then .ready else .done, pending := some (.exit 0) }) _ hb3
          rw [he]; simpa using h4
        · exact (World.putObj_heap_other (by omega)).trans hk3
        · rw [World.putObj_heap_same hlt3, hrec]; rfl
    · rintro e W2 ⟨⟨v, rfl⟩, (⟨qs, k, hj, h1, h2⟩ | ⟨hj, h1⟩)⟩
      · have he := hj.e
        rw [readA_nil (s := ByteArray.empty) rfl] at he
        refine ⟨none, _, by have := run_endLoop (P := Tryz.prog) h1 (by rw [hrec]; simp); rw [hrec] at this; exact this, hdone D (D + 1) _ (by omega) ⟨?_, (World.putObj_heap_other (by omega)).trans h2⟩⟩
        have h4 := btw_set hj.b (x := D + 1) (by simp) (W' := W2.putObj (D + 1) (.loop { rec .ready none with state := .exhausted })) (by rw [put_size]; exact Nat.le_refl _) (fun q hq => World.putObj_heap_other hq) (below_put hj.b.bel (by omega))
        rw [he]
        rw [hrec] at h4
        simpa using h4
      · refine ⟨some (.exit 0), _, by have := run_endLoop (P := Tryz.prog) h1 (by rw [hrec]; simp); rw [hrec] at this; exact this, hstop D (D + 1) _ (by omega) ⟨?_, (World.putObj_heap_other (by omega)).trans hj.d⟩⟩
        have h4 := btw_set hj.b (x := D + 1) (by simp) (W' := W2.putObj (D + 1) (.loop { rec .done (some (.exit 0)) with state := .exhausted })) (by rw [put_size]; exact Nat.le_refl _) (fun q hq => World.putObj_heap_other hq) (below_put hj.b.bel (by omega))
        rw [hrec] at h4
        exact h4
end Go.Proofs.YtopjkdddicgajaaGreatDoor
namespace Go.Proofs.YtopjkdddicgajaaGreatDoor
open Go.RowKit Mk Go.Shelf
set_option maxRecDepth 100000
set_option maxHeartbeats 4000000
attribute [local go_sem] Oper.semAt_some
theorem read_in (s : ByteArray) (hs : s.size ≤ 100000000) (hl : LinesOk s.size s) (w : World) (R : Nat → Prop) (hG : GlbOk w R) (hR : ∀ b, R b → b < w.heap.size) :
    CallsIn Fence.wide 2 Tryz.prog 13 #[.string s] w fun e w' => ∃ u, e = .returned (.tuple #[u, .int .i64 ((readA s).2 : Int)]) ∧ Below w.heap.size w w' ∧ RelP w' (fun b => R b ∨ (w.heap.size ≤ b ∧ b < w'.heap.size)) (.sl none (readA s).1.length (pgssC (readA s).1)) u := by
  refine callsIn_of_wp_marks Tryz.func13 rfl trivial ?_ rfl
  simp only [Tryz.ntmps13, List.size_toArray, List.length_cons, List.length_nil, Nat.reduceAdd, Nat.reduceSub, Array.replicate_succ, Array.replicate_zero, List.push_toArray, List.append_toArray, List.nil_append, List.cons_append]
  gi_wp2_with (refine ⟨trivial, ?_⟩; gi_at_call 26; refine (calls_wide (lines_walk _ _)).mono ?_; rintro e w' ⟨rfl, rfl⟩)
  obtain ⟨Wp, hWp⟩ : ∃ Wp, (w.alloc (Obj.cells #[Value.slice none 0 0] 39)).alloc (Obj.cells #[Value.int IntKind.i64 0] 3) = Wp := ⟨_, rfl⟩
  have hsp : Wp.heap.size = w.heap.size + 2 := by rw [← hWp]; simp
  have hB4 : Wp.heap[w.heap.size]? = some (.cells #[.slice none 0 0] 39 (0, 0)) := by
    rw [← hWp]; exact (Below.heap_alloc _ _ _ (by simp)).trans (World.alloc_heap_new w _)
  have hB5 : Wp.heap[w.heap.size + 1]? = some (.cells #[.int .i64 0] 3 (0, 0)) := by
    rw [← hWp]; have := World.alloc_heap_new (w.alloc (Obj.cells #[Value.slice none 0 0] 39)) (Obj.cells #[Value.int IntKind.i64 0] 3); rwa [World.size_alloc] at this
  have hbelp : Below w.heap.size w Wp := by rw [← hWp]; exact ((Below.refl _ w).alloc (Nat.le_refl _) _).alloc (by simp) _
  have hbt := btw0 (P := Tryz.prog) hG hR hbelp hB4 hB5 (Nat.le_refl _) (by omega) (by omega)
  rw [hWp]
  refine lines_loop (s := s) (w := w) (Wp := Wp) (R := R) (b4 := w.heap.size) (b5 := w.heap.size + 1) (bB := w.heap.size + 1 + 1) hs hl rfl (by omega) rfl (by omega) hbt (by kernel_rfl) ?assign ?done ?stop
  case assign =>
    intro l x W K hK
    gi_wp2
    exact hK
  case done =>
    rintro D l W hD hE
    obtain ⟨u, hc4, hc5, hrel⟩ := rd_out hE.b
    have hdef := hE.d
    have hbel := hE.b.bel
    have hDl : D < W.heap.size := (Array.getElem?_eq_some_iff.1 hdef).1
    gi_wp2
    gi_region
    gi_wp2
    have hdd : W.drew.heap[D]? = some (.deferred (some [])) := hdef
    refine ⟨by simp, .inl ⟨_, _, rfl, run_takeDeferred hdd, ?_⟩⟩
    refine ⟨.tuple #[u, .int .i64 ((readA s).2 : Int)], ?_, u, rfl, below_put hbel.drew hD, hrel _ (by rw [put_size]; exact Nat.le_refl _) (fun q hq hn => World.putObj_heap_other (fun e => hn (by simp [e])))⟩
    simp [results, Tryz.f13, go_sem]
  case stop =>
    rintro D l W hD hE
    obtain ⟨u, hc4, hc5, hrel⟩ := rd_out hE.b
    have hdef := hE.d
    have hbel := hE.b.bel
    have hDl : D < W.heap.size := (Array.getElem?_eq_some_iff.1 hdef).1
    gi_wp2
    gi_region
    gi_wp2
    have hdd : W.drew.heap[D]? = some (.deferred (some [])) := hdef
    refine ⟨by simp, .inl ⟨_, _, rfl, run_takeDeferred hdd, ?_⟩⟩
    refine ⟨.tuple #[u, .int .i64 ((readA s).2 : Int)], ?_, u, rfl, below_put hbel.drew hD, hrel _ (by rw [put_size]; exact Nat.le_refl _) (fun q hq hn => World.putObj_heap_other (fun e => hn (by simp [e])))⟩
    simp [results, Tryz.f13, go_sem]
theorem read_spec (s : ByteArray) (hs : s.size ≤ 100000000) (hl : LinesOk s.size s) : FnP Tryz.prog 13 [.str s] (· = .tup [.sl none (readA s).1.length (pgssC (readA s).1), .int .i64 ((readA s).2 : Int)]) := by
  intro w R us hG hR hrel
  obtain ⟨vs, e, h2⟩ := rel_str hrel
  subst e
  obtain rfl := rel_nil h2
  refine (callsIn_wide.1 (read_in s hs hl w R hG hR)).mono ?_
  rintro e w' ⟨u, rfl, hb, hr⟩
  refine ⟨_, _, rfl, rfl, hb, ?_⟩
  simp only [RelP]
  exact ⟨[u, .int .i64 ((readA s).2 : Int)], rfl, by simp only [RelPL]; exact ⟨_, _, rfl, hr, _, _, rfl, by simp only [RelP], rfl⟩⟩
end Go.Proofs.YtopjkdddicgajaaGreatDoor
namespace Go.Proofs.YtopjkdddicgajaaGreatDoor
open Go.RowKit Mk
set_option maxRecDepth 100000
set_option maxHeartbeats 4000000
/-- What Line answers. -/
def LnA (p : Pgs) (tx : ByteArray) (er : Int) : Prop := tx.size ≤ 166200 ∧ ((badP p = false ∧ er = 0 ∧ tx = lineT p) ∨ (badP p = true ∧ er = 16 ∧ tx = emptyT))
theorem line_any (p : Pgs) (h : PgW p) : ∃ tx er, LnA p tx er ∧ FnP Tryz.prog 10 [.agg (pgsC p)] (· = .tup [.str tx, .int .i64 er]) ∧ FnP Tryz.prog 16 [.agg (pgsC p)] (· = .tup [.str tx, .int .i64 er]) := by
  refine ⟨_, _, ?_, line_spec p h.s.ok, line40_spec p h.s⟩
  cases hb : badP p with
  | true => rw [if_pos rfl, if_pos rfl]; exact ⟨by decide, .inr ⟨hb, rfl, rfl⟩⟩
  | false => rw [if_neg (by decide), if_neg (by decide)]; exact ⟨h.size, .inl ⟨hb, rfl, rfl⟩⟩
theorem append_bad (s : ByteArray) (p : Pgs) (hp : PgW p) (hb : badP p = true) : FnP Tryz.prog 15 [.str s, .agg (pgsC p)] (· = .tup [.str emptyT, .int .i64 16]) := by
  refine FnP.of Tryz.func15 rfl Tryz.ntmps15 (by simp) fun m0 w0 F R0 => ?_
  have hln := line_spec p hp.s.ok
  rw [if_pos hb, if_pos hb] at hln
  repeat refine AW.seq ?_
  refine AW.region ?_
  iterate 3 refine A1 rfl ?_
  repeat refine AW.seq ?_
  refine AW.region ?_
  refine A1 rfl ?_
  refine RL.step (d := some 12) rfl rfl (xj_call Tryz.call10 hln rfl) ?_
  iterate 5 refine A1 rfl ?_
  repeat refine AW.seq ?_
  refine AW.region ?_
  iterate 2 refine A1 rfl ?_
  repeat refine AW.seq ?_
  refine AW.cond rfl (fun hc16 => ?_) (fun hc16 => absurd hc16 (by decide))
  repeat refine AW.seq ?_
  refine AW.region ?_
  iterate 3 refine A1 rfl ?_
  repeat refine AW.seq ?_
  refine AW.ret ?_
  exact ⟨_, _, rfl, rfl, rfl⟩
theorem append_good (s : ByteArray) (l : List Pgs) (n : Nat) (hs : RdS s l n) (p : Pgs) (hp : PgW p) (hb : badP p = false) (hz : n + (lineT p).size ≤ 1048576) :
    FnP Tryz.prog 15 [.str s, .agg (pgsC p)] (· = .tup [.str (logT (l ++ [p])), .int .i64 0]) := by
  refine FnP.of Tryz.func15 rfl Tryz.ntmps15 (by simp) fun m0 w0 F R0 => ?_
  have hln := line_spec p hp.s.ok
  rw [if_neg (by rw [hb]; decide), if_neg (by rw [hb]; decide)] at hln
  have hsz := hs.z
  have hrd := read_spec s (by omega) hs.k
  rw [hs.r] at hrd
  have hn := hs.le
  have hfin : s.extract 0 n ++ lineT p = logT (l ++ [p]) := by rw [hs.h, logT_snoc]
  have hez : (s.extract 0 n).size ≤ n := by rw [hs.h]; have e := congrArg ByteArray.size hs.h; simp at e; omega
  generalize lineT p = tx at *
  repeat refine AW.seq ?_
  refine AW.region ?_
  iterate 3 refine A1 rfl ?_
  repeat refine AW.seq ?_
  refine AW.region ?_
  refine A1 rfl ?_
  refine RL.step (d := some 12) rfl rfl (xj_call Tryz.call10 hln rfl) ?_
  iterate 5 refine A1 rfl ?_
  repeat refine AW.seq ?_
  refine AW.region ?_
  iterate 2 refine A1 rfl ?_
  repeat refine AW.seq ?_
  refine AW.cond rfl (fun hc16 => absurd hc16 (by decide)) (fun hc16 => ?_)
  refine AW.skip ?_
  repeat refine AW.seq ?_
  refine AW.region ?_
  refine A1 rfl ?_
  refine RL.step (d := some 20) rfl rfl (xj_call Tryz.call13 hrd rfl) ?_
  iterate 5 refine A1 rfl ?_
  repeat refine AW.seq ?_
  refine AW.region ?_
  iterate 5 refine A1 rfl ?_
  repeat refine AW.seq ?_
  refine AW.condP rfl (fun hc27 => absurd hc27 (by omega)) (fun hc27 => ?_)
  refine AW.skip ?_
  repeat refine AW.seq ?_
  refine AW.region ?_
  iterate 7 refine A1 rfl ?_
  repeat refine AW.seq ?_
  refine AW.ret ?_
  exact ⟨_, _, rfl, rfl, congrArg (fun x => PV.tup [.str x, .int .i64 0]) hfin⟩
theorem light_spec (t : List Int) : FnP Tryz.prog 6 [pints t] (· = .bool (decide ((t.length : Int) ≤ 600))) := by
  refine FnP.of Tryz.func6 rfl Tryz.ntmps6 (by simp) fun m0 w0 F R0 => ?_
  repeat refine AW.seq ?_
  refine AW.region ?_
  refine A1 rfl ?_
  repeat refine AW.seq ?_
  refine AW.region ?_
  iterate 4 refine A1 rfl ?_
  repeat refine AW.seq ?_
  refine AW.ret ?_
  exact ⟨_, _, rfl, rfl, rfl⟩
end Go.Proofs.YtopjkdddicgajaaGreatDoor
namespace Go.Proofs.YtopjkdddicgajaaGreatDoor
open Go.RowKit
section
variable {C : Ctx} {n : Nat} {σ : St} {dst : Option Tmp} {ty t : TypeId} {pos : String} {after : Array Edge} {gd : Option (Nat × Bool)} {x : Operand}
end
end Go.Proofs.YtopjkdddicgajaaGreatDoor
namespace Go.Proofs.YtopjkdddicgajaaGreatDoor
open Go.RowKit
section
variable {C : Ctx} {n : Nat} {σ : St} {dst : Option Tmp} {ty : TypeId} {ts : Array TypeId} {pos : String} {after : Array Edge} {gd : Option (Nat × Bool)}
/-- oj_callO with the contract first. -/
theorem oj_callF1 {f : FuncId} {xs : Array Operand} {args : List V} {os : List (Nat × Ob)} {k' : Nat} {Q : V → (Nat → Option Ob) → Prop} {K : St → Prop} (ids : List Nat) (base : Nat) (hc : CallOk C.P f) (hf : FnO C.P f ids.length k' args os Q) (hargs : xs.toList.map (σ.ev n) = V.renL (renI ids base) args)
    (ha : V.allL (okR ids.length 0) args = true) (hos : os.map (·.1) = (List.range ids.length).map (big + ·)) (hob : os.all (fun p => p.2.all (okR ids.length 0)) = true) (hobs : allObR σ (renI ids base) os)
    (hnd : ids.Nodup) (hav : (nwO base k').all σ.av = true)
    (hk : ∀ v ob', Q v ob' → K (σ.app dst ⟨v.ren (renI ids base), wrO ids base k' ob', nwO base k'⟩)) :
    OJ C n ⟨dst, .call { callee := .value (.func f), args := xs, argTypes := ts }, ty, pos, after, gd⟩ K σ := oj_callO ids base hc hargs ha hos hob hobs hnd hav hf hk
end
end Go.Proofs.YtopjkdddicgajaaGreatDoor
namespace Go.Proofs.YtopjkdddicgajaaGreatDoor
open Go.RowKit Mk
set_option maxRecDepth 100000
set_option maxHeartbeats 4000000
/-- The progresses of a made log. -/
def LgL (l : List Pgs) : Prop := ∀ p ∈ l, PgW p ∧ badP p = false
theorem LgL.lg {l : List Pgs} (h : LgL l) : ∀ p ∈ l, Lg p := fun p hp => (h p hp).1.lg (h p hp).2
theorem LgL.size {l : List Pgs} (h : LgL l) : (logT l).size ≤ 166200 * l.length := logT_size fun p hp => (h p hp).1
theorem LgL.snoc {l : List Pgs} (h : LgL l) {p : Pgs} (hp : PgW p) (hb : badP p = false) : LgL (l ++ [p]) := fun x hx => by
  rcases List.mem_append.1 hx with e | e
  · exact h x e
  · rw [List.mem_singleton.1 e]; exact ⟨hp, hb⟩
theorem LgL.app {l m : List Pgs} (h : LgL l) (hm : LgL m) : LgL (l ++ m) := fun x hx => by
  rcases List.mem_append.1 hx with e | e
  · exact h x e
  · exact hm x e
theorem LgL.rd {l : List Pgs} (h : LgL l) (hl : l.length ≤ 10) : FnP Tryz.prog 13 [.str (logT l)] (· = .tup [.sl none l.length (pgssC l), .int .i64 ((logT l).size : Int)]) := by
  have hz := h.size
  have hr := RdS.log h.lg (by omega)
  have := read_spec (logT l) (by omega) hr.k
  rwa [hr.r] at this
theorem LgL.pls {l : List Pgs} (h : LgL l) (hl : l.length ≤ 10) : PLs l := ⟨by omega, fun p hp => by have := (h p hp).1.c.sl; have := (h p hp).1.c.ql; exact ⟨by omega, by omega⟩⟩
theorem log_spec (L : List Int) (k : Nat) (hL : L.length ≤ 600) (hk : k ≤ L.length) :
    FnM Tryz.prog 12 47 (srcC L k) [.int .i64 3] (fun v c => (∃ l, LgL l ∧ l.length ≤ 3 ∧ v = .str (logT l)) ∧ ∃ k', k' ≤ L.length ∧ c = srcC L k') := by
  refine FnM.of Tryz.func12 rfl Tryz.ntmps12 (by simp) rfl (by simp) fun m0 w0 F R0 => ?_
  have hkk : ∀ k, k ≤ L.length → sNk L k ≤ L.length := fun k hk => by unfold sNk; split <;> omega
  have hk1 := hkk _ hk
  have hn1 := n_spec L k 4 hL hk (by decide) (by decide)
  have hb1 := sNv_bd L k 4 (by decide)
  generalize sNv L k 4 = nb at *
  repeat refine AW.seq ?_
  refine AW.region ?_
  refine A1 rfl ?_
  repeat refine AW.seq ?_
  refine AW.region ?_
  refine A1 rfl ?_
  repeat refine AW.seq ?_
  refine AW.region ?_
  iterate 3 refine A1 rfl ?_
  refine RL.step (d := some 12) rfl rfl (xj_callM Tryz.call14 hn1 rfl rfl) ?_
  refine A1 rfl ?_
  repeat refine AW.seq ?_
  refine AW.block ?_
  repeat refine AW.seq ?_
  refine AW.loop (st := fun x_0 : Int × Nat × List Pgs => mkS [(0, .ptr big 0), (5, .pv (.str (logT x_0.2.2))), (6, .pv (.int .i64 x_0.1))] [(big, srcO L x_0.2.1)] 0)
    (I := fun x_0 => (((0 ≤ x_0.1 ∧ x_0.1 ≤ 3) ∧ (x_0.2.2.length : Int) + x_0.1 ≤ 3) ∧ x_0.2.1 ≤ L.length) ∧ LgL x_0.2.2) (μ := fun x_0 => x_0.1.toNat) (x0 := (nb, sNk L k, [])) (St.le_mk ⟨rfl, rfl, rfl, trivial⟩ ⟨rfl, trivial⟩ rfl rfl) (⟨⟨⟨⟨by simp only; omega, by simp only; omega⟩, by simp only [List.length_nil]; omega⟩, hk1⟩, fun _ h => absurd h (by simp)⟩) ?_
  rintro ⟨i, k2, l⟩ ⟨⟨⟨hi, hli⟩, hk2⟩, hl⟩
  try simp only at hi hli hk2 hl ⊢
  repeat refine AW.seq ?_
  refine AW.region ?_
  iterate 2 refine A1 rfl ?_
  repeat refine AW.seq ?_
  refine AW.condP rfl (fun hc14 => ?_) (fun hc14 => ?_)
  · have hsz := hl.size
    refine AW.skip ?_
    repeat refine AW.seq ?_
    refine AW.block ?_
    repeat refine AW.seq ?_
    refine AW.region ?_
    refine A1 rfl ?_
    refine RL.call rfl (oj_callM Tryz.call9 (progress_spec L k2 hL hk2) rfl rfl ?_)
    rintro _ _ ⟨⟨p, hp, rfl⟩, k3, hk3, rfl⟩
    obtain ⟨tx, er, ⟨htz, hcs⟩, _, hln⟩ := line_any p hp
    refine RL.step (d := some 20) rfl rfl (xj_call Tryz.call16 hln rfl) ?_
    iterate 5 refine A1 rfl ?_
    repeat refine AW.seq ?_
    refine AW.region ?_
    iterate 2 refine A1 rfl ?_
    repeat refine AW.seq ?_
    refine AW.cond rfl (fun hc24 => ?_) (fun hc24 => ?_)
    · have hgd : badP p = false ∧ logT l ++ tx = logT (l ++ [p]) := by
        rcases hcs with ⟨h1, h2, h3⟩ | ⟨h1, h2, h3⟩
        · exact ⟨h1, by rw [h3, logT_snoc]⟩
        · rw [h2] at hc24; simp at hc24
      repeat refine AW.seq ?_
      refine AW.region ?_
      iterate 4 refine A1 rfl ?_
      repeat refine AW.seq ?_
      refine AW.region ?_
      iterate 3 refine A1 rfl ?_
      exact ⟨(i - 1, k3, l ++ [p]), St.le_mk ⟨rfl, congrArg (fun x => V.pv (.str x)) hgd.2, rfl, trivial⟩ ⟨rfl, trivial⟩ rfl rfl, ⟨⟨⟨by simp only; omega, by simp only [List.length_append, List.length_singleton]; omega⟩, hk3⟩, hl.snoc hp hgd.1⟩, by simp only; omega⟩
    · refine AW.skip ?_
      repeat refine AW.seq ?_
      refine AW.region ?_
      iterate 3 refine A1 rfl ?_
      exact ⟨(i - 1, k3, l), St.le_mk ⟨rfl, rfl, rfl, trivial⟩ ⟨rfl, trivial⟩ rfl rfl, ⟨⟨⟨by simp only; omega, by simp only; omega⟩, hk3⟩, hl⟩, by simp only; omega⟩
  · repeat refine AW.seq ?_
    refine AW.exit ?_
    repeat refine AW.seq ?_
    refine AW.region ?_
    iterate 2 refine A1 rfl ?_
    repeat refine AW.seq ?_
    refine AW.ret ?_
    exact ⟨_, srcC L k2, rfl, rfl, ⟨l, hl, by omega, rfl⟩, k2, hk2, rfl⟩
theorem line_three (p : Pgs) : 3 ≤ (lineT p).size := by
  have h1 : (fmtT (hashN (bodyT p).data.toList)).size ≠ 0 := fun e => by
    rw [Lib.size_eq] at e
    exact dec_ne _ (List.length_eq_zero_iff.1 e)
  rw [lineT, ByteArray.size_append, ByteArray.size_append, ByteArray.size_append]
  have : spaceT.size = 1 := rfl
  have : nlT.size = 1 := rfl
  omega
theorem torn_rd : FnP Tryz.prog 13 [.str (lineT p0 ++ (lineT p0).extract 0 ((lineT p0).size - 1))] (· = .tup [.sl none 1 (pgssC [p0]), .int .i64 ((lineT p0).size : Int)]) := by
  have hlg : Lg p0 := p0_w.lg p0_ok
  have hz := p0_w.size
  have hd : (lineT p0 ++ (lineT p0).extract 0 ((lineT p0).size - 1)).data.toList = logL [p0] ++ ((lineT p0).extract 0 ((lineT p0).size - 1)).data.toList := by
    rw [ByteArray.data_append, Array.toList_append, logL_one]
  have e : ((lineT p0).extract 0 ((lineT p0).size - 1)).data.toList = (preT p0).take (preT p0).length := by
    rw [ext_data, Lib.size_eq, line_pre, List.length_append, List.length_singleton, Nat.add_sub_cancel, List.take_left, List.take_length]
  have hno : readA ((lineT p0).extract 0 ((lineT p0).size - 1)) = ([], 0) := read_none fun c hc => by
    rw [e, List.take_length] at hc
    exact pre_clean p0_ok c hc
  have hall : ∀ p ∈ [p0], Lg p := fun p hp => by rw [List.mem_singleton.1 hp]; exact hlg
  have hr := read_log (fun p hp => (hall p hp).g) hd
  rw [hno] at hr
  have hk := lines_log hall hd (lines_cut hlg e)
  have hs := read_spec _ (by rw [ByteArray.size_append, Lib.size_eq ((lineT p0).extract _ _), e, List.take_length]; have := Lib.size_eq (lineT p0); rw [line_pre, List.length_append] at this; omega) hk
  rw [hr] at hs
  have e3 : (logL [p0]).length = (lineT p0).size := by rw [logL_one, Lib.size_eq]
  rw [e3] at hs
  exact hs
theorem none_rd : FnP Tryz.prog 13 [.str emptyT] (· = .tup [.sl none 0 [], .int .i64 0]) := by
  have := LgL.rd (l := []) (fun _ h => absurd h (by simp)) (by simp)
  exact this
theorem sane40_spec : FnP Tryz.prog 7 [] (· = .bool true) := by
  refine FnP.of Tryz.func7 rfl Tryz.ntmps7 (by simp) fun m0 w0 F R0 => ?_
  have hln := line_spec p0 p0_w.s.ok
  rw [if_neg (by rw [p0_ok]; decide), if_neg (by rw [p0_ok]; decide)] at hln
  have hrd := torn_rd
  have hre := none_rd
  have h3 := line_three p0
  have hz := p0_w.size
  have a1 : (pgssC [p0])[0 * 5 + 1]? = some (.int .i64 2) := rfl
  have a2 : (pgssC [p0])[0 * 5 + 2]? = some (.str threeT) := rfl
  generalize lineT p0 = tx at *
  have hez : (tx.extract 0 (tx.size - 1)).size ≤ tx.size := by simp
  repeat refine AW.seq ?_
  refine AW.region ?_
  refine A1 rfl ?_
  repeat refine AW.seq ?_
  refine AW.region ?_
  iterate 2 refine A1 rfl ?_
  refine RL.step (d := some 10) rfl rfl (xj_call Tryz.call10 hln (by kernel_rfl)) ?_
  iterate 5 refine A1 rfl ?_
  repeat refine AW.seq ?_
  refine AW.region ?_
  iterate 7 refine A1 rfl ?_
  repeat refine AW.seq ?_
  refine AW.cond rfl (fun hc19 => absurd hc19 (by simp; omega)) (fun hc19 => ?_)
  refine AW.skip ?_
  repeat refine AW.seq ?_
  refine AW.region ?_
  iterate 4 refine A1 rfl ?_
  refine RL.step (d := some 25) rfl rfl (XJ.cast (v' := .pv (.int .i64 ((tx.size - 1 : Nat) : Int))) (xj_sub rfl rfl (by omega)) (congrArg (fun i => V.pv (.int .i64 i)) (by omega))) ?_
  iterate 2 refine A1 rfl ?_
  refine RL.step (d := some 28) rfl rfl (xj_call Tryz.call13 hrd rfl) ?_
  iterate 5 refine A1 rfl ?_
  repeat refine AW.seq ?_
  refine AW.region ?_
  refine RL.step (d := some 32) rfl rfl (xj_call Tryz.call13 hre rfl) ?_
  iterate 5 refine A1 rfl ?_
  repeat refine AW.seq ?_
  refine AW.region ?_
  iterate 4 refine A1 rfl ?_
  apply RL.andB 5 38 43 [39, 40, 41, 42] rfl (by first | exact MonoK.le | exact MonoK.aw | exact MonoK.back)
  · intro hb3
    iterate 5 refine A1 rfl ?_
    exact St.le_fg (fEq.upd (fEq.upd (fEq.upd (fEq.upd (fEq.upd (fEq.upd (fEq.refl) rfl) rfl) rfl) rfl) rfl) rfl) rfl rfl rfl
  · intro hb3
    iterate 5 refine A1 rfl ?_
    exact St.le_fg (fEq.upd (fEq.upd (fEq.upd (fEq.upd (fEq.upd (fEq.upd (fEq.refl) rfl) rfl) rfl) rfl) rfl) rfl) rfl rfl rfl
  refine A1 rfl ?_
  apply RL.andB 6 44 50 [45, 46, 47, 48, 49] rfl (by first | exact MonoK.le | exact MonoK.aw | exact MonoK.back)
  · intro hb9
    refine A1 rfl ?_
    refine RL.stepG (d := some 46) rfl rfl rfl (xj_indexAddr 0 Tryz.underlying39 sz33 rfl rfl rfl (by decide) (by simp [pgssC])) ?_
    refine A1 rfl ?_
    refine RL.stepG (d := some 48) rfl rfl rfl (xj_loadR ⟨_, Tryz.underlying3, rfl⟩ rfl a1) ?_
    iterate 2 refine A1 rfl ?_
    exact St.le_fg (fEq.upd (fEq.upd (fEq.upd (fEq.upd (fEq.upd (fEq.upd (fEq.upd (fEq.refl) rfl) rfl) rfl) rfl) rfl) rfl) rfl) rfl rfl rfl
  · intro hb9
    iterate 6 refine A1 rfl ?_
    exact St.le_fg (fEq.upd (fEq.upd (fEq.upd (fEq.upd (fEq.upd (fEq.upd (fEq.upd (fEq.refl) rfl) rfl) rfl) rfl) rfl) rfl) rfl) rfl rfl rfl
  refine A1 rfl ?_
  apply RL.andB 7 51 58 [52, 53, 54, 55, 56, 57] rfl (by first | exact MonoK.le | exact MonoK.aw | exact MonoK.back)
  · intro hb16
    refine A1 rfl ?_
    refine RL.stepG (d := some 53) rfl rfl rfl (xj_indexAddr 0 Tryz.underlying39 sz33 rfl rfl rfl (by decide) (by simp [pgssC])) ?_
    iterate 2 refine A1 rfl ?_
    refine RL.stepG (d := some 56) rfl rfl rfl (xj_loadR ⟨_, Tryz.underlying27, rfl⟩ rfl a2) ?_
    iterate 2 refine A1 rfl ?_
    exact St.le_fg (fEq.upd (fEq.upd (fEq.upd (fEq.upd (fEq.upd (fEq.upd (fEq.upd (fEq.upd (fEq.refl) rfl) rfl) rfl) rfl) rfl) rfl) rfl) rfl) rfl rfl rfl
  · intro hb16
    iterate 7 refine A1 rfl ?_
    exact St.le_fg (fEq.upd (fEq.upd (fEq.upd (fEq.upd (fEq.upd (fEq.upd (fEq.upd (fEq.upd (fEq.refl) rfl) rfl) rfl) rfl) rfl) rfl) rfl) rfl) rfl rfl rfl
  refine A1 rfl ?_
  apply RL.andB 4 59 63 [60, 61, 62] rfl (by first | exact MonoK.le | exact MonoK.aw | exact MonoK.back)
  · intro hb24
    iterate 4 refine A1 rfl ?_
    exact St.le_fg (fEq.upd (fEq.upd (fEq.upd (fEq.upd (fEq.upd (fEq.refl) rfl) rfl) rfl) rfl) rfl) rfl rfl rfl
  · intro hb24
    iterate 4 refine A1 rfl ?_
    exact St.le_fg (fEq.upd (fEq.upd (fEq.upd (fEq.upd (fEq.upd (fEq.refl) rfl) rfl) rfl) rfl) rfl) rfl rfl rfl
  refine A1 rfl ?_
  apply RL.andB 3 64 67 [65, 66] rfl (by first | exact MonoK.le | exact MonoK.aw | exact MonoK.back)
  · intro hb29
    iterate 3 refine A1 rfl ?_
    exact St.le_fg (fEq.upd (fEq.upd (fEq.upd (fEq.upd (fEq.refl) rfl) rfl) rfl) rfl) rfl rfl rfl
  · intro hb29
    iterate 3 refine A1 rfl ?_
    exact St.le_fg (fEq.upd (fEq.upd (fEq.upd (fEq.upd (fEq.refl) rfl) rfl) rfl) rfl) rfl rfl rfl
  refine A1 rfl ?_
  repeat refine AW.seq ?_
  refine AW.ret ?_
  have e51 : threeT.toList = [51] := by rw [Lib.toList_data]; rfl
  exact ⟨_, _, rfl, rfl, by simp [resOne, e51]⟩
end Go.Proofs.YtopjkdddicgajaaGreatDoor
namespace Go.Proofs.YtopjkdddicgajaaGreatDoor
open Go.RowKit Mk
set_option maxRecDepth 100000
set_option maxHeartbeats 4000000
theorem pgssC_app (l m : List Pgs) : pgssC (l ++ m) = pgssC l ++ pgssC m := by simp [pgssC]
theorem pgssC_leaf (l : List Pgs) : ∀ c ∈ pgssC l, c.leaf = true := fun c hc => by
  obtain ⟨t, _, hc⟩ := List.mem_flatMap.1 hc
  simp only [pgsC, List.mem_cons, List.not_mem_nil, or_false] at hc
  rcases hc with rfl | rfl | rfl | rfl | rfl <;> rfl
section
variable {C : Ctx} {n : Nat} {σ : St} {dst : Option Tmp} {ty t : TypeId} {pos : String} {after : Array Edge} {gd : Option (Nat × Bool)} {x y : Operand}
/-- append of nothing. -/
theorem xj_appendE {e : TypeId} {z : Value} {size bytes k id j : Nat} {bn : Option Bool} {cs : List PV} (he : ElemIs C.P t e z size bytes) (hs : σ.ev n x = .gsl id size k) (hy : σ.ev n y = .pv (.sl bn j cs)) (hj : j = 0) :
    XJ C n ⟨dst, .call { callee := .builtin .append, args := #[x, y], argTypes := #[t, t] }, ty, pos, after, gd⟩ σ ⟨.gsl id size k, [], []⟩ :=
  .val fun a w m R hw => by
    obtain ⟨A0, c, hev, hkc, hcm, hz, hp⟩ := hw.gsl hs
    have h2 := hw.pv hy
    simp only [RelP] at h2
    obtain ⟨A, c2, hev2, _⟩ := h2
    subst hj
    obtain ⟨i, hi, _⟩ := info_parts he.info
    have hst : ∀ (a : Addr) (w : World), (storeCells a []).run C.P w = .ok () w := fun a w => by simp [storeCells]
    have hrun : (Builtin.append_ #[t, t] ty #[.slice A0 k c, .slice A 0 c2]).run C.P w = .ok (.slice A0 k c) w := by
      cases A0 <;> cases A <;> simp [Builtin.append_, run_underlying he.u, sizeOf, typeInfo, hi, Builtin.lenOf, Builtin.firstCells, loadCells, loadCellsFrom, hkc, hst]
    refine ⟨.slice A0 k c, ?_, ?_⟩
    · simp only [execOp, resolve, invoke, builtin, Sem.run_bind, Sem.run_pure, Result.andThen_ok, List.map_toArray, List.map_cons, List.map_nil, hev, hev2, hrun]
    · have := hw.ev x
      rw [hs, hev] at this
      exact this
end
theorem steplogJoins_spec (t : List Int) : FnP Tryz.prog 4 [pints t] (· = .bool true) := by
  refine FnP.of Tryz.func4 rfl Tryz.ntmps4 (by simp) fun m0 w0 F R0 => ?_
  repeat refine AW.seq ?_
  refine AW.region ?_
  refine A1 rfl ?_
  repeat refine AW.seq ?_
  refine AW.region ?_
  refine A1 rfl ?_
  refine RL.step (d := some 13) rfl rfl (xj_call Tryz.call6 (light_spec t) rfl) ?_
  refine A1 rfl ?_
  repeat refine AW.seq ?_
  refine AW.cond rfl (fun hc14 => ?_) (fun hc14 => ?_)
  · repeat refine AW.seq ?_
    refine AW.region ?_
    refine RL.step (d := some 15) rfl rfl (xj_call Tryz.call7 sane40_spec rfl) ?_
    refine A1 rfl ?_
    repeat refine AW.seq ?_
    refine AW.ret ?_
    exact ⟨_, _, rfl, rfl, rfl⟩
  · have hL : t.length ≤ 600 := by simp at hc14; omega
    refine AW.skip ?_
    repeat refine AW.seq ?_
    refine AW.region ?_
    refine A1 rfl ?_
    refine RL.call rfl (oj_callF1 [] 0 Tryz.call8 (new_spec t (by omega)) rfl rfl rfl rfl trivial (by decide) rfl ?_)
    rintro _ _ ⟨rfl, rfl⟩
    refine A1 rfl ?_
    repeat refine AW.seq ?_
    refine AW.region ?_
    refine A1 rfl ?_
    refine RL.call rfl (oj_callM Tryz.call12 (log_spec t 0 hL (by omega)) rfl rfl ?_)
    rintro _ _ ⟨⟨l, hl, hll, rfl⟩, k1, hk1, rfl⟩
    refine A1 rfl ?_
    refine RL.call rfl (oj_callM Tryz.call12 (log_spec t k1 hL hk1) rfl rfl ?_)
    rintro _ _ ⟨⟨m, hm, hml, rfl⟩, k2, hk2, rfl⟩
    have hr1 := hl.rd (by omega)
    have hr2 := hm.rd (by omega)
    have hlm := hl.app hm
    have hr3 := hlm.rd (by rw [List.length_append]; omega)
    rw [← logT_app, List.length_append, pgssC_app, ByteArray.size_append] at hr3
    have hz1 := hl.size
    have hz2 := hm.size
    have hsm := same40_spec (l ++ m) (l ++ m) (hlm.pls (by rw [List.length_append]; omega)) (hlm.pls (by rw [List.length_append]; omega))
    rw [samB_yes rfl, List.length_append, pgssC_app] at hsm
    have hpl := pgssC_len l
    have hpm := pgssC_len m
    generalize logT l = tl at *
    generalize logT m = tm at *
    iterate 2 refine A1 rfl ?_
    repeat refine AW.seq ?_
    refine AW.region ?_
    refine A1 rfl ?_
    refine RL.step (d := some 24) rfl rfl (xj_call Tryz.call13 hr1 rfl) ?_
    iterate 5 refine A1 rfl ?_
    repeat refine AW.seq ?_
    refine AW.region ?_
    refine A1 rfl ?_
    refine RL.step (d := some 29) rfl rfl (xj_call Tryz.call13 hr2 rfl) ?_
    iterate 5 refine A1 rfl ?_
    repeat refine AW.seq ?_
    refine AW.region ?_
    iterate 3 refine A1 rfl ?_
    refine RL.step (d := some 36) rfl rfl (xj_call Tryz.call13 hr3 rfl) ?_
    iterate 5 refine A1 rfl ?_
    by_cases h0 : m.length = 0
    · have e0 : pgssC m = [] := by rw [List.eq_nil_of_length_eq_zero h0]; rfl
      have hsm2 : FnP Tryz.prog 11 [.sl none (l.length + m.length) (pgssC l ++ pgssC m), .sl none l.length (pgssC l)] (· = .bool true) := by
        rw [e0, h0, List.append_nil, Nat.add_zero] at hsm ⊢; exact hsm
      repeat refine AW.seq ?_
      refine AW.region ?_
      iterate 3 refine A1 rfl ?_
      refine RL.step (d := some 42) rfl rfl (XJ.cast (v' := .pv (.bool true)) (xj_bin rfl rfl rfl) (congrArg (fun b => V.pv (.bool b)) (beq_self_eq_true _))) ?_
      iterate 4 refine A1 rfl ?_
      refine RL.stepG (d := some 47) rfl rfl rfl (XJ.cast (v' := .pv (.bool true)) (xj_bin rfl rfl rfl) (congrArg (fun b => V.pv (.bool b)) (beq_self_eq_true _))) ?_
      iterate 6 refine A1 rfl ?_
      refine RL.stepG (d := some 54) rfl rfl rfl (XJ.cast (v' := .pv (.bool true)) (xj_bin rfl rfl rfl) (congrArg (fun b => V.pv (.bool b)) (by simp))) ?_
      iterate 4 refine A1 rfl ?_
      refine RL.stepG (d := some 59) rfl rfl rfl (xj_append0G 1 el39 rfl (.inl ⟨none, rfl⟩) hpl (pgssC_leaf _) (by omega) rfl) ?_
      refine A1 rfl ?_
      refine RL.stepG (d := some 61) rfl rfl rfl (xj_appendE el39 rfl rfl h0) ?_
      refine RL.weaken (by first | exact MonoK.aw | exact MonoK.le | exact MonoK.back) (St.le_pubA 1 rfl rfl) ?_
      refine RL.stepG (d := some 62) rfl rfl rfl (xj_call Tryz.call11 hsm2 (by kernel_rfl)) ?_
      iterate 2 refine A1 rfl ?_
      refine RL.stepG (d := some 65) rfl rfl rfl (xj_call Tryz.call7 sane40_spec rfl) ?_
      iterate 2 refine A1 rfl ?_
      repeat refine AW.seq ?_
      refine AW.ret ?_
      exact ⟨_, _, rfl, rfl, rfl⟩
    · repeat refine AW.seq ?_
      refine AW.region ?_
      iterate 3 refine A1 rfl ?_
      refine RL.step (d := some 42) rfl rfl (XJ.cast (v' := .pv (.bool true)) (xj_bin rfl rfl rfl) (congrArg (fun b => V.pv (.bool b)) (beq_self_eq_true _))) ?_
      iterate 4 refine A1 rfl ?_
      refine RL.stepG (d := some 47) rfl rfl rfl (XJ.cast (v' := .pv (.bool true)) (xj_bin rfl rfl rfl) (congrArg (fun b => V.pv (.bool b)) (beq_self_eq_true _))) ?_
      iterate 6 refine A1 rfl ?_
      refine RL.stepG (d := some 54) rfl rfl rfl (XJ.cast (v' := .pv (.bool true)) (xj_bin rfl rfl rfl) (congrArg (fun b => V.pv (.bool b)) (by simp))) ?_
      iterate 4 refine A1 rfl ?_
      refine RL.stepG (d := some 59) rfl rfl rfl (xj_append0G 1 el39 rfl (.inl ⟨none, rfl⟩) hpl (pgssC_leaf _) (by omega) rfl) ?_
      refine A1 rfl ?_
      refine RL.stepG (d := some 61) rfl rfl rfl (xj_appendG (2) el39 rfl rfl hpl (.inl ⟨none, rfl⟩) hpm (pgssC_leaf _) (by omega) (by omega) rfl) ?_
      refine RL.weaken (by first | exact MonoK.aw | exact MonoK.le | exact MonoK.back) (St.le_pubA (2) rfl rfl) ?_
      refine RL.stepG (d := some 62) rfl rfl rfl (xj_call Tryz.call11 hsm (by kernel_rfl)) ?_
      iterate 2 refine A1 rfl ?_
      refine RL.stepG (d := some 65) rfl rfl rfl (xj_call Tryz.call7 sane40_spec rfl) ?_
      iterate 2 refine A1 rfl ?_
      repeat refine AW.seq ?_
      refine AW.ret ?_
      exact ⟨_, _, rfl, rfl, rfl⟩
end Go.Proofs.YtopjkdddicgajaaGreatDoor
namespace Go.Proofs.YtopjkdddicgajaaGreatDoor
open Go.RowKit Mk
set_option maxRecDepth 100000
set_option maxHeartbeats 4000000
theorem append_line (l : List Pgs) (hl : LgL l) (h5 : l.length ≤ 5) (p : Pgs) (hp : PgW p) : ∃ tx er ln, ((badP p = false ∧ er = 0 ∧ tx = logT (l ++ [p])) ∨ (badP p = true ∧ er = 16)) ∧
    FnP Tryz.prog 15 [.str (logT l), .agg (pgsC p)] (· = .tup [.str tx, .int .i64 er]) ∧ FnP Tryz.prog 16 [.agg (pgsC p)] (· = .tup [.str ln, .int .i64 er]) := by
  have h40 := line40_spec p hp.s
  have hz := hl.size
  have hpz := hp.size
  cases hb : badP p with
  | true =>
    rw [if_pos hb, if_pos hb] at h40
    exact ⟨_, _, _, .inr ⟨rfl, rfl⟩, append_bad _ p hp hb, h40⟩
  | false =>
    rw [if_neg (by rw [hb]; decide), if_neg (by rw [hb]; decide)] at h40
    exact ⟨_, _, _, .inl ⟨rfl, rfl, rfl⟩, append_good _ l _ (RdS.log hl.lg (by omega)) p hp hb (by omega), h40⟩
theorem take_row (l : List Pgs) (j : Nat) : (pgssC l).take ((l.take j).length * 5) = pgssC (l.take j) := by
  have e : pgssC l = pgssC (l.take j) ++ pgssC (l.drop j) := by
    unfold pgssC
    rw [← List.flatMap_append, List.take_append_drop]
  rw [e, ← pgssC_len, List.take_left]
theorem len_sn {α : Type} (l : List α) (a : α) : l.length + 1 = (l ++ [a]).length := by simp
theorem steplogReads_spec (t : List Int) : FnP Tryz.prog 5 [pints t] (· = .bool true) := by
  refine FnP.of Tryz.func5 rfl Tryz.ntmps5 (by simp) fun m0 w0 F R0 => ?_
  repeat refine AW.seq ?_
  refine AW.region ?_
  refine A1 rfl ?_
  repeat refine AW.seq ?_
  refine AW.region ?_
  refine A1 rfl ?_
  refine RL.step (d := some 23) rfl rfl (xj_call Tryz.call6 (light_spec t) rfl) ?_
  refine A1 rfl ?_
  repeat refine AW.seq ?_
  refine AW.cond rfl (fun hc24 => ?_) (fun hc24 => ?_)
  · repeat refine AW.seq ?_
    refine AW.region ?_
    refine RL.step (d := some 25) rfl rfl (xj_call Tryz.call7 sane40_spec rfl) ?_
    refine A1 rfl ?_
    repeat refine AW.seq ?_
    refine AW.ret ?_
    exact ⟨_, _, rfl, rfl, rfl⟩
  · have hL : t.length ≤ 600 := by simp at hc24; omega
    have hkk : ∀ k, k ≤ t.length → sNk t k ≤ t.length := fun k hk => by unfold sNk; split <;> omega
    refine AW.skip ?_
    repeat refine AW.seq ?_
    refine AW.region ?_
    refine A1 rfl ?_
    refine RL.call rfl (oj_callF1 [] 0 Tryz.call8 (new_spec t (by omega)) rfl rfl rfl rfl trivial (by decide) rfl ?_)
    rintro _ _ ⟨rfl, rfl⟩
    refine A1 rfl ?_
    repeat refine AW.seq ?_
    refine AW.region ?_
    refine A1 rfl ?_
    repeat refine AW.seq ?_
    refine AW.region ?_
    refine A1 rfl ?_
    have hn1 := n_spec t 0 5 hL (Nat.zero_le _) (by decide) (by decide)
    have hb1 := sNv_bd t 0 5 (by decide)
    have hk1 := hkk 0 (Nat.zero_le _)
    generalize sNv t 0 5 = nb at *
    repeat refine AW.seq ?_
    refine AW.region ?_
    refine A1 rfl ?_
    refine RL.step (d := some 29) rfl rfl (xj_callM Tryz.call14 hn1 rfl rfl) ?_
    refine A1 rfl ?_
    refine AW.weaken (St.le_gro 4 1 5 33 rfl rfl) ?_
    repeat refine AW.seq ?_
    refine AW.block ?_
    repeat refine AW.seq ?_
    refine AW.loop (st := fun x_0 : Int × Nat × List Pgs => mkS [(3, .ptr 0 0), (4, .gsl 1 5 x_0.2.2.length), (5, .pv (.str (logT x_0.2.2))), (6, .pv (.int .i64 x_0.1))] [(0, srcO t x_0.2.1), (1, .gro 33 (pgssC x_0.2.2))] 2)
      (I := fun x_0 => (((0 ≤ x_0.1 ∧ x_0.1 ≤ 4) ∧ (x_0.2.2.length : Int) + x_0.1 ≤ 4) ∧ x_0.2.1 ≤ t.length) ∧ LgL x_0.2.2) (μ := fun x_0 => x_0.1.toNat) (x0 := (nb, sNk t 0, [])) (St.le_mk ⟨rfl, rfl, rfl, rfl, trivial⟩ ⟨rfl, rfl, trivial⟩ rfl rfl) (⟨⟨⟨⟨by simp only; omega, by simp only; omega⟩, by simp only [List.length_nil]; omega⟩, hk1⟩, fun _ h => absurd h (by simp)⟩) ?_
    rintro ⟨i, k2, l⟩ ⟨⟨⟨hi, hli⟩, hk2⟩, hl⟩
    try simp only at hi hli hk2 hl ⊢
    repeat refine AW.seq ?_
    refine AW.region ?_
    iterate 2 refine A1 rfl ?_
    repeat refine AW.seq ?_
    refine AW.condP rfl (fun hc31 => ?_) (fun hc31 => ?_)
    · have hpl := pgssC_len l
      refine AW.skip ?_
      repeat refine AW.seq ?_
      refine AW.block ?_
      repeat refine AW.seq ?_
      refine AW.region ?_
      refine A1 rfl ?_
      refine RL.call rfl (oj_callM Tryz.call9 (progress_spec t k2 hL hk2) rfl rfl ?_)
      rintro _ _ ⟨⟨p, hp, rfl⟩, k3, hk3, rfl⟩
      obtain ⟨tx, er, ln, hcs, hap, hln⟩ := append_line l hl (by omega) p hp
      have hps := hp.c.sl
      have hpq := hp.c.ql
      iterate 2 refine A1 rfl ?_
      repeat refine AW.seq ?_
      refine AW.region ?_
      iterate 2 refine A1 rfl ?_
      refine RL.step (d := some 39) rfl rfl (xj_call Tryz.call15 hap rfl) ?_
      iterate 5 refine A1 rfl ?_
      repeat refine AW.seq ?_
      refine AW.region ?_
      refine A1 rfl ?_
      refine RL.step (d := some 44) rfl rfl (xj_call Tryz.call16 hln rfl) ?_
      iterate 5 refine A1 rfl ?_
      repeat refine AW.seq ?_
      refine AW.region ?_
      iterate 3 refine A1 rfl ?_
      repeat refine AW.seq ?_
      refine AW.cond rfl (fun hc49 => absurd hc49 (by simp)) (fun hc49 => ?_)
      refine AW.skip ?_
      repeat refine AW.seq ?_
      refine AW.region ?_
      iterate 2 refine A1 rfl ?_
      repeat refine AW.seq ?_
      refine AW.cond rfl (fun hc51 => ?_) (fun hc51 => ?_)
      · have hgd : badP p = false ∧ tx = logT (l ++ [p]) := by
          rcases hcs with ⟨h1, h2, h3⟩ | ⟨h1, h2⟩
          · exact ⟨h1, h3⟩
          · rw [h2] at hc51; simp at hc51
        repeat refine AW.seq ?_
        refine AW.region ?_
        iterate 7 refine A1 rfl ?_
        repeat refine AW.seq ?_
        refine AW.region ?_
        iterate 3 refine A1 rfl ?_
        exact ⟨(i - 1, k3, l ++ [p]), St.le_mkR [0, 4] ⟨rfl, Eq.trans (b := .gsl 4 5 (l.length + 1)) rfl (congrArg (fun n => V.gsl 4 5 n) (len_sn l p)), congrArg (fun x => V.pv (.str x)) hgd.2, rfl, trivial⟩ ⟨rfl, Eq.trans (b := some (.gro 33 (pgssC l ++ pgsC p))) (by kernel_rfl) (congrArg (fun c => some (Ob.gro 33 c)) (pgssC_snoc l p)), trivial⟩ rfl rfl (by decide) rfl, ⟨⟨⟨by simp only; omega, by simp only [List.length_append, List.length_singleton]; omega⟩, hk3⟩, hl.snoc hp hgd.1⟩, by simp only; omega⟩
      · refine AW.skip ?_
        repeat refine AW.seq ?_
        refine AW.region ?_
        iterate 3 refine A1 rfl ?_
        exact ⟨(i - 1, k3, l), St.le_mk ⟨rfl, rfl, rfl, rfl, trivial⟩ ⟨rfl, rfl, trivial⟩ rfl rfl, ⟨⟨⟨by simp only; omega, by simp only; omega⟩, hk3⟩, hl⟩, by simp only; omega⟩
    · refine AW.weaken (St.le_pubA 1 rfl rfl) ?_
      have hl4 : l.length ≤ 4 := by omega
      have hz := hl.size
      have hr1 := hl.rd (by omega)
      have hpl := pgssC_len l
      have hsm1 := same40_spec l l (hl.pls (by omega)) (hl.pls (by omega))
      rw [samB_yes rfl] at hsm1
      have hn2 := n_spec t k2 ((logT l).size + 1) hL hk2 (by omega) (by omega)
      have hb2 := sNv_bd t k2 ((logT l).size + 1) (by omega)
      have hk3 := hkk _ hk2
      obtain ⟨c, hc⟩ := Int.eq_ofNat_of_zero_le hb2.1
      have hcz : c ≤ (logT l).size := by omega
      rw [hc] at hn2
      obtain ⟨j, n, hj, hn, hcut⟩ := RdS.cut hl.lg (by omega) hcz
      have hlj : LgL (l.take j) := fun p hp => hl p (List.mem_of_mem_take hp)
      have hjl : (l.take j).length ≤ l.length := by simp; omega
      have hr2 := read_spec _ (by have := hcut.z; omega) hcut.k
      rw [hcut.r] at hr2
      dsimp only at hr2
      have hsm2 := same40_spec (l.take j) (l.take j) (hlj.pls (by omega)) (hlj.pls (by omega))
      rw [samB_yes rfl] at hsm2
      have hex : (logT l).extract 0 n = logT (l.take j) := by
        rw [← hcut.h]
        apply ba_ext
        rw [ext_data, ext_data, ext_data, List.take_take, Nat.min_eq_left hn]
      have hcof := cofactor_spec t (sNk t k2) hL hk3
      repeat refine AW.seq ?_
      refine AW.exit ?_
      repeat refine AW.seq ?_
      refine AW.region ?_
      refine A1 rfl ?_
      refine RL.step (d := some 59) rfl rfl (xj_call Tryz.call13 hr1 rfl) ?_
      iterate 5 refine A1 rfl ?_
      repeat refine AW.seq ?_
      refine AW.region ?_
      iterate 4 refine A1 rfl ?_
      refine RL.step (d := some 66) rfl rfl (xj_callM Tryz.call14 hn2 rfl rfl) ?_
      refine A1 rfl ?_
      repeat refine AW.seq ?_
      refine AW.region ?_
      iterate 3 refine A1 rfl ?_
      refine RL.step (d := some 71) rfl rfl (xj_call Tryz.call13 hr2 rfl) ?_
      iterate 5 refine A1 rfl ?_
      repeat refine AW.seq ?_
      refine AW.region ?_
      iterate 2 refine A1 rfl ?_
      refine RL.step (d := some 76) rfl rfl (xj_call Tryz.call11 hsm1 rfl) ?_
      iterate 5 refine A1 rfl ?_
      refine RL.stepG (d := some 82) rfl rfl rfl (XJ.cast (v' := .pv (.bool false)) (xj_bin rfl rfl rfl) (congrArg (fun b => V.pv (.bool b)) (bne_self_eq_false _))) ?_
      iterate 6 refine A1 rfl ?_
      refine RL.stepG (d := some 89) rfl rfl rfl (XJ.cast (v' := .pv (.bool false)) (xj_bin rfl rfl rfl) (congrArg (fun b => V.pv (.bool b)) (decide_eq_false (by omega)))) ?_
      iterate 4 refine A1 rfl ?_
      refine RL.stepG (d := some 94) rfl rfl rfl (XJ.cast (v' := .pv (.bool false)) (xj_bin rfl rfl rfl) (congrArg (fun b => V.pv (.bool b)) (decide_eq_false (by omega)))) ?_
      iterate 6 refine A1 rfl ?_
      refine RL.stepG (d := some 101) rfl rfl rfl (XJ.cast (v' := .pv (.sl none (l.take j).length (pgssC (l.take j)))) (xj_sliceTo (l.take j).length Tryz.underlying39 sz33 rfl rfl rfl hjl hpl) (congrArg (fun c => V.pv (.sl none (l.take j).length c)) (take_row l j))) ?_
      refine RL.stepG (d := some 102) rfl rfl rfl (xj_call Tryz.call11 hsm2 rfl) ?_
      iterate 2 refine A1 rfl ?_
      repeat refine AW.seq ?_
      refine AW.cond rfl (fun hc104 => absurd hc104 (by simp)) (fun hc104 => ?_)
      refine AW.skip ?_
      repeat refine AW.seq ?_
      refine AW.region ?_
      refine A1 rfl ?_
      refine RL.call rfl (oj_callM Tryz.call17 hcof rfl rfl ?_)
      rintro _ _ ⟨⟨x, hx, rfl⟩, k4, hk4, rfl⟩
      have hpw := hx.pgw
      have hpb := hx.good
      have hpz := hpw.size
      have hap2 := append_good _ _ _ hcut ⟨1, 1, x⟩ hpw hpb (by omega)
      have hz1 := hlj.size
      have hap1 := append_good _ _ _ (RdS.log hlj.lg (by omega)) ⟨1, 1, x⟩ hpw hpb (by omega)
      rw [← hex] at hap1
      iterate 3 refine A1 rfl ?_
      repeat refine AW.seq ?_
      refine AW.draw follows [[], [], [1, 0], [], [3, 2, 1, 0], [4, 3, 2, 1, 0], [5, 4, 3, 2, 1, 0], [5, 4, 3, 2, 1, 0], [6, 5, 4, 3, 2, 1, 0], [8, 7, 5, 4, 3, 2, 1, 0, 6]] [0, 1, 2, 3, 4, 5, 6, 7, 8, 9] (by kernel_rfl) (by kernel_rfl) ?_
      iterate 4 refine D1 rfl rfl ?_
      refine DL.step (d := some 113) [] rfl rfl rfl (fun τ h => xj_call Tryz.call15 hap1 (h.argsP rfl)) rfl (by kernel_rfl) ?_
      iterate 5 refine D1 rfl rfl ?_
      refine ⟨by kernel_rfl, ?_⟩
      repeat refine AW.seq ?_
      refine AW.draw follows [[], [], [1, 0], [], [3, 2, 1, 0], [4, 3, 2, 1, 0], [5, 4, 3, 2, 1, 0], [5, 4, 3, 2, 1, 0], [6, 5, 4, 3, 2, 1, 0], [8, 7, 5, 4, 3, 2, 1, 0, 6]] [0, 1, 2, 3, 4, 5, 6, 7, 8, 9] (by kernel_rfl) (by kernel_rfl) ?_
      iterate 4 refine D1 rfl rfl ?_
      refine DL.step (d := some 121) [] rfl rfl rfl (fun τ h => xj_call Tryz.call15 hap2 (h.argsP rfl)) rfl (by kernel_rfl) ?_
      iterate 5 refine D1 rfl rfl ?_
      refine ⟨by kernel_rfl, ?_⟩
      repeat refine AW.seq ?_
      refine AW.region ?_
      iterate 3 refine A1 rfl ?_
      apply RL.andB 3 126 129 [127, 128] rfl (by first | exact MonoK.le | exact MonoK.aw | exact MonoK.back)
      · intro hb2
        iterate 3 refine A1 rfl ?_
        exact St.le_fg (fEq.upd (fEq.upd (fEq.upd (fEq.upd (fEq.refl) rfl) rfl) rfl) rfl) rfl rfl rfl
      · intro hb2
        iterate 3 refine A1 rfl ?_
        exact St.le_fg (fEq.upd (fEq.upd (fEq.upd (fEq.upd (fEq.refl) rfl) rfl) rfl) rfl) rfl rfl rfl
      refine A1 rfl ?_
      apply RL.andB 4 130 134 [131, 132, 133] rfl (by first | exact MonoK.le | exact MonoK.aw | exact MonoK.back)
      · intro hb6
        iterate 4 refine A1 rfl ?_
        exact St.le_fg (fEq.upd (fEq.upd (fEq.upd (fEq.upd (fEq.upd (fEq.refl) rfl) rfl) rfl) rfl) rfl) rfl rfl rfl
      · intro hb6
        iterate 4 refine A1 rfl ?_
        exact St.le_fg (fEq.upd (fEq.upd (fEq.upd (fEq.upd (fEq.upd (fEq.refl) rfl) rfl) rfl) rfl) rfl) rfl rfl rfl
      refine A1 rfl ?_
      apply RL.andB 2 135 137 [136] rfl (by first | exact MonoK.le | exact MonoK.aw | exact MonoK.back)
      · intro hb11
        refine RL.stepG (d := some 136) rfl rfl rfl (xj_call Tryz.call7 sane40_spec rfl) ?_
        refine A1 rfl ?_
        exact St.le_fg (fEq.upd (fEq.upd (fEq.upd (fEq.refl) rfl) rfl) rfl) rfl rfl rfl
      · intro hb11
        iterate 2 refine A1 rfl ?_
        exact St.le_fg (fEq.upd (fEq.upd (fEq.upd (fEq.refl) rfl) rfl) rfl) rfl rfl rfl
      refine A1 rfl ?_
      repeat refine AW.seq ?_
      refine AW.ret ?_
      exact ⟨_, _, rfl, rfl, by simp [resOne]⟩
end Go.Proofs.YtopjkdddicgajaaGreatDoor
namespace Go.Proofs.YtopjkdddicgajaaGreatDoor
open Go.RowKit
/-- From a contract on plain values to a call. -/
theorem fn_calls {P : Program} {f : FuncId} {args : List PV} {us : List Value} (h : FnP P f args (· = .bool true)) (w : World) (hG : GlbOk w (fun b => b < w.heap.size)) (hrel : RelPL w (fun b => b < w.heap.size) args us) :
    Calls P f us.toArray w fun e w' => e = .returned (.bool true) ∧ Below w.heap.size w w' :=
  (h w _ us hG (fun _ hb => hb) hrel).mono fun _ _ ⟨u, v, e, hv, hb, hr⟩ => by
    subst hv
    simp only [RelP] at hr
    subst hr
    exact ⟨e, hb⟩
end Go.Proofs.YtopjkdddicgajaaGreatDoor
namespace Go.Proofs.YtopjkdddicgajaaGreatDoor
open Go.RowKit
set_option maxRecDepth 100000
theorem heap_of_var {P : Program} {W : World} {n : String} {g : Nat} {cs : Array Value} (hg : P.globalNamed n = some g) (h : W.var? P n = some cs) : ∃ t fz, W.heap[g]? = some (.cells cs t fz) := by
  simp only [World.var?, hg, Option.bind_some] at h
  split at h
  · rename_i cs' t fz hb
    cases h
    exact ⟨t, fz, hb⟩
  · cases h
theorem lt_heap {W : World} {g : Nat} {o : Obj} (h : W.heap[g]? = some o) : g < W.heap.size := (Array.getElem?_eq_some_iff.1 h).1
theorem gv0 : Tryz.prog.globalNamed "internal/strconv.uint64pow10" = some 0 := by kernel_rfl
theorem gv4 : Tryz.prog.globalNamed "strconv.ErrSyntax" = some 4 := by kernel_rfl
theorem gv5 : Tryz.prog.globalNamed "strconv.ErrRange" = some 5 := by kernel_rfl
theorem gt0 : (Tryz.prog.globals[0]?).map (·.type) = some 162 := by kernel_rfl
theorem gt4 : (Tryz.prog.globals[4]?).map (·.type) = some 132 := by kernel_rfl
theorem gt5 : (Tryz.prog.globals[5]?).map (·.type) = some 132 := by kernel_rfl
/-- internal/bytealg.MaxLen holds some number. -/
theorem max_shape {W : World} (h : W.ShapedOpen Tryz.prog) : ∃ (m : Int) (t : TypeId) (fz : Nat × Nat), W.heap[1]? = some (.cells #[.int .i64 m] t fz) := by
  obtain ⟨cs, hh, hs, hr⟩ := h.1 1 #[.int .i64 0] 3 (of_decide_eq_true (by kernel_rfl)) (by kernel_rfl)
  obtain ⟨ts, hts, _, hall⟩ := hr (by kernel_rfl)
  rw [show Tryz.prog.cellTypes Tryz.prog.depth 3 = some [3] by kernel_rfl] at hts
  cases hts
  have h1 : cs.size = 1 := hs
  obtain ⟨u, hu', hok⟩ := hall 0 cs[0] (by simp [h1])
  obtain rfl : u = 3 := by simpa using hu'.symm
  have hm : ∃ m, cs[0] = .int .i64 m := by
    unfold Cell.ok at hok
    rw [Tryz.underlying3] at hok
    cases hv : cs[0] <;> rw [hv] at hok <;> simp at hok
    rename_i k m
    obtain rfl := hok.1
    exact ⟨m, rfl⟩
  obtain ⟨m, hm⟩ := hm
  have : cs = #[.int .i64 m] := by
    apply Array.ext
    · simp [h1]
    · intro i h2 h3
      have : i = 0 := by omega
      subst this
      simpa using hm
  rw [this] at hh
  exact ⟨m, _, _, hh⟩
/-- What the rows list. -/
def laid7 : List (String × DataW Unit) := Rows.steplogLinesRow.laid
theorem gi_laid {W : World} (hsh : W.ShapedOpen Tryz.prog) (h : laidMetH Tryz.prog laid7 W) : GlbOk W (fun b => b < W.heap.size) := by
  rw [MakeChecks.laidMetH_plain _ _ _ (by kernel_rfl)] at h
  obtain ⟨ps, ⟨g0, t0, cs0, f0, p0, q0, hg0, ht0, hv0, hd0, ⟨g1, t1, cs1, f1, p1, q1, hg1, ht1, hv1, hd1, ⟨g2, t2, cs2, f2, p2, q2, hg2, ht2, hv2, hd2, ⟨g3, t3, cs3, f3, p3, q3, hg3, ht3, hv3, hd3, ⟨g4, t4, cs4, f4, p4, q4, hg4, ht4, hv4, hd4, ⟨g5, t5, cs5, f5, p5, q5, hg5, ht5, hv5, hd5, _⟩, _⟩, _⟩, _⟩, _⟩, _⟩, _, _⟩ := h
  obtain rfl := Option.some.inj (gv0.symm.trans hg2)
  obtain rfl := Option.some.inj (gv5.symm.trans hg4)
  obtain rfl := Option.some.inj (gv4.symm.trans hg5)
  obtain rfl := Option.some.inj (gt0.symm.trans ht2)
  obtain rfl := Option.some.inj (gt5.symm.trans ht4)
  obtain rfl := Option.some.inj (gt4.symm.trans ht5)
  have e2 : cs2.toList = Lib.pow10Tab.map fun z => Value.int .u64 z := Lib.cells_of_tab Tryz.underlying162 Tryz.underlying54 (by kernel_rfl) (by kernel_rfl) hd2
  obtain ⟨_, u4, v4, e4, _⟩ := iface_of_trod Tryz.underlying132 hd4
  obtain ⟨_, u5, v5, e5, _⟩ := iface_of_trod Tryz.underlying132 hd5
  obtain ⟨x2, y2, b2⟩ := heap_of_var gv0 hv2
  obtain ⟨x4, y4, b4⟩ := heap_of_var gv5 hv4
  obtain ⟨x5, y5, b5⟩ := heap_of_var gv4 hv5
  obtain ⟨m, x1, y1, b1⟩ := max_shape hsh
  obtain ⟨l2⟩ := cs2
  obtain ⟨l4⟩ := cs4
  obtain ⟨l5⟩ := cs5
  simp only at e2 e4 e5
  subst e2 e4 e5
  intro x hx
  simp only [glb, List.mem_cons, List.not_mem_nil, or_false] at hx
  rcases hx with rfl | rfl | rfl | rfl
  · exact ⟨lt_heap b2, _, b2, _, _, rfl⟩
  · exact ⟨lt_heap b1, _, b1, _, _, _, rfl⟩
  · exact ⟨lt_heap b5, _, b5, _, _, _, _, rfl⟩
  · exact ⟨lt_heap b4, _, b4, _, _, _, _, rfl⟩
end Go.Proofs.YtopjkdddicgajaaGreatDoor
namespace Go.Proofs.YtopjkdddicgajaaGreatDoor
open Go.RowKit
set_option maxRecDepth 100000
/-- A world that meets the condition: the door's own, with the pinned table laid. -/
def cellsOfD : DataW Unit → Array Value
  | .agg l => (l.map fun | .lit (.int k z) => Value.int k z | _ => .nilFunc).toArray
  | _ => #[]
noncomputable def witW (os : Os) : World :=
  { World.doorLaid Tryz.prog 72 os with heap := (World.doorLaid Tryz.prog 72 os).heap.modify 6 fun
      | .cells _ t fz => .cells (cellsOfD Go.Pinned.utf8First) t fz
      | o => o }
theorem wit_shaped (os : Os) (args : Array Value) : ((witW os).forCall (fun _ _ => 0) ⟨#[], args, []⟩).Shaped Tryz.prog := World.shaped_of_RefB (by kernel_rfl) (by kernel_rfl)
theorem wit_met (os : Os) (args : Array Value) : laidMetH Tryz.prog laid7 ((witW os).forCall (fun _ _ => 0) ⟨#[], args, []⟩).memory :=
  laidMetH_of_parts3 (fuel := 8) (laidMet_of_run' 8 (by kernel_rfl) (by kernel_rfl)) (by kernel_rfl) (by kernel_rfl)
end Go.Proofs.YtopjkdddicgajaaGreatDoor
namespace Go.Proofs.YtopjkdddicgajaaGreatDoor
open Go.RowKit Go.ChangeShapes Go.WideShapes Go.Deep
/-- A type whose readings are the cells f a of some a with I a. -/
def OpT (P : Program) (t : TypeId) {α : Type} (f : α → List PV) (I : α → Prop) : Prop :=
  ∀ (H : Type) (enc : TypeId × Value → H) (w : World) (base : Nat) (spare : Nat → Bool) (held : Bool) (fuel : Nat) (cs : List Value) (x : DataW H × List MemPlace),
    DataW.trod enc P w base spare held fuel t cs = some x → ∃ a, I a ∧ RelPL w (fun b => b < w.heap.size) (f a) cs
section
variable {P : Program} {t : TypeId}
theorem OpT.map {α β : Type} {f : α → List PV} {I : α → Prop} {f' : β → List PV} {I' : β → Prop} (h : OpT P t f I) (g : α → β) (hf : ∀ a, f' (g a) = f a) (hI : ∀ a, I a → I' (g a)) : OpT P t f' I' :=
  fun H enc w base spare held fuel cs x hx => by
    obtain ⟨a, ha, hr⟩ := h H enc w base spare held fuel cs x hx
    exact ⟨g a, hI a ha, by rw [hf]; exact hr⟩
theorem RelPL.one {w : World} {R : Nat → Prop} {p : PV} {u : Value} (h : RelP w R p u) : RelPL w R [p] [u] := RelPL.cons h RelPL.nil
theorem OpT.int (ht : P.underlying t = some (.int .i64)) : OpT P t (fun n : Int => [.int .i64 n]) (fun n => -9223372036854775808 ≤ n ∧ n ≤ 9223372036854775807) :=
  fun H enc w base spare held fuel cs x hx => by
    obtain ⟨n, rfl, _, hw⟩ := DataW.trod_int ht hx
    exact ⟨n, bounds_i64 hw, RelPL.one (by simp only [RelP])⟩
theorem OpT.bool (ht : P.underlying t = some .bool) : OpT P t (fun b : Bool => [.bool b]) (fun _ => True) :=
  fun H enc w base spare held fuel cs x hx => by
    obtain ⟨n, rfl, _⟩ := DataW.trod_bool ht hx
    exact ⟨n, trivial, RelPL.one (by simp only [RelP])⟩
theorem OpT.str (ht : P.underlying t = some .string) : OpT P t (fun s : ByteArray => [.str s]) (fun s => s.size ≤ maxLen) :=
  fun H enc w base spare held fuel cs x hx => by
    obtain ⟨n, rfl, _, hs⟩ := DataW.trod_string ht hx
    exact ⟨n, hs, RelPL.one (by simp only [RelP])⟩
theorem relPL_flat {w : World} {R : Nat → Prop} {α : Type} {f : α → List PV} : ∀ {n : Nat} {A : Nat → α} {us : Nat → List Value}, (∀ i, i < n → RelPL w R (f (A i)) (us i)) → RelPL w R (((List.range n).map A).flatMap f) ((List.range n).flatMap us) := by
  intro n A us h
  induction n with
  | zero => simpa using RelPL.nil
  | succ n ih =>
    rw [List.range_succ, List.map_append, List.flatMap_append, List.flatMap_append]
    refine RelPL.append (ih fun i hi => h i (by omega)) ?_
    simpa using h n (by omega)
theorem flat_range_at {c : Nat} {us : Nat → List Value} : ∀ {n : Nat}, (∀ i, i < n → (us i).length = c) → ((List.range n).flatMap us).length = n * c ∧ ∀ i j, i < n → j < c → ((List.range n).flatMap us)[i * c + j]? = (us i)[j]? := by
  intro n h
  induction n with
  | zero => exact ⟨by simp, fun i j hi => absurd hi (by omega)⟩
  | succ n ih =>
    obtain ⟨h1, h2⟩ := ih fun i hi => h i (by omega)
    rw [List.range_succ, List.flatMap_append]
    refine ⟨by rw [List.length_append, h1, List.flatMap_singleton, h n (by omega), Nat.succ_mul], fun i j hi hj => ?_⟩
    by_cases e : i < n
    · rw [List.getElem?_append_left (by rw [h1]; calc i * c + j < i * c + c := by omega
        _ = (i + 1) * c := by rw [Nat.succ_mul]
        _ ≤ n * c := Nat.mul_le_mul_right c e)]
      exact h2 i j e hj
    · obtain rfl : i = n := by omega
      rw [List.getElem?_append_right (by rw [h1]; omega), h1, List.flatMap_singleton, show i * c + j - i * c = j by omega]
theorem OpT.sl {e : TypeId} {α : Type} {f : α → List PV} {I : α → Prop} (c : Nat) [Inhabited α] (ht : P.underlying t = some (.slice e)) (hc : P.cellsOf e = c) (h : OpT P e f I) :
    OpT P t (fun l : List α => [.sl none l.length (l.flatMap f)]) (fun l => l.length ≤ maxLen ∧ ∀ a ∈ l, I a) :=
  fun H enc w base spare held fuel cs x hx => by
    rcases open_slice ht hx with ⟨rfl, rfl⟩ | ⟨a, len, cap, m, n, D, Pl, rfl, hb, hl, hm, hmm, hxe, hel⟩
    · refine ⟨[], ⟨by simp, by simp⟩, RelPL.one ?_⟩
      simp only [RelP]
      exact ⟨none, 0, rfl, Nat.le_refl _, by simp [maxLen], (fun _ e => by cases e), (fun e => by cases e), fun e => absurd rfl e⟩
    · have hlm : len ≤ m := by rw [hmm]; split <;> omega
      rw [hc] at hel
      have hx2 : ∀ i, i < len → ∃ p : α × List Value, I p.1 ∧ RelPL w (fun b => b < w.heap.size) (f p.1) p.2 ∧ p.2.length = c ∧ ∀ j, j < c → w.cell? (a.add (i * c + j)) = p.2[j]? := fun i hi => by
        obtain ⟨cs', h1, h2⟩ := hel i (by omega)
        obtain ⟨y, hy, hr⟩ := h H enc w base spare held n cs' _ h2
        obtain ⟨_, h3, h4⟩ := World.cells?_some h1
        exact ⟨(y, cs'), hy, hr, h3, fun j hj => by rw [← add_add]; exact h4 j hj⟩
      obtain ⟨F, hF⟩ := choose_lt hx2
      have hlen : ((List.range len).map fun i => (F i).1).length = len := by simp
      refine ⟨(List.range len).map fun i => (F i).1, ⟨by rw [hlen]; omega, fun y hy => ?_⟩, RelPL.one ?_⟩
      · obtain ⟨i, hi, rfl⟩ := List.mem_map.1 hy
        exact (hF i (List.mem_range.1 hi)).1
      · rw [hlen]
        simp only [RelP]
        refine ⟨some a, cap, rfl, hl, hm, (fun _ e => by cases e), (fun e => by cases e), fun hne => ?_⟩
        have hrel := relPL_flat (w := w) (R := fun b => b < w.heap.size) (f := f) (A := fun i => (F i).1) (us := fun i => (F i).2) fun i hi => (hF i hi).2.1
        obtain ⟨hL, hat⟩ := flat_range_at (us := fun i => (F i).2) (c := c) (n := len) fun i hi => (hF i hi).2.2.1
        generalize hU : (List.range len).flatMap (fun i => (F i).2) = U at hrel hL hat
        have hpos : 0 < len * c := by
          rw [← hL, RelPL.length hrel]
          exact List.length_pos_iff.2 hne
        have hlen0 : 0 < len := Nat.pos_of_mul_pos_right hpos
        have hc0 : 0 < c := Nat.pos_of_mul_pos_left hpos
        have hcell : ∀ k, k < len * c → w.cell? (a.add k) = U[k]? := fun k hk => by
          have e : k = k / c * c + k % c := by rw [Nat.mul_comm]; exact (Nat.div_add_mod k c).symm
          have h1 : k / c < len := Nat.div_lt_of_lt_mul (by rw [Nat.mul_comm]; exact hk)
          have h2 : k % c < c := Nat.mod_lt _ hc0
          rw [e, hat _ _ h1 h2]
          exact (hF _ h1).2.2.2 _ h2
        have h0 := hcell 0 hpos
        rw [List.getElem?_eq_getElem (by omega)] at h0
        obtain ⟨b, off, sp⟩ := a
        have hsp : sp = none := by
          cases sp with
          | none => rfl
          | some s =>
            exfalso
            have e : (⟨b, off, some s⟩ : Addr).add 0 = ⟨b, off, some s⟩ := rfl
            rw [e] at h0
            unfold World.cell? at h0
            split at h0
            · simp at h0
            · cases h0
        subst hsp
        rw [Addr.add_lit] at h0
        refine ⟨b, off, U, rfl, hrel, World.block_lt_of_cell? w _ h0, fun j hj => ?_⟩
        have := hcell j (by omega)
        rw [Addr.add_lit] at this
        exact this
/-- The fields of a struct from an offset on. -/
def OpF (P : Program) (off : Nat) (fs : List Field) {α : Type} (f : α → List PV) (I : α → Prop) : Prop :=
  ∀ (H : Type) (enc : TypeId × Value → H) (w : World) (base : Nat) (spare : Nat → Bool) (held : Bool) (n : Nat) (cs : List Value),
    (∀ fld ∈ fs, ∃ y, DataW.trod enc P w base spare held n fld.type ((cs.drop fld.offset).take (P.cellsOf fld.type)) = some y) → cs.length = off + (fs.map fun fld => P.cellsOf fld.type).sum → ∃ a, I a ∧ RelPL w (fun b => b < w.heap.size) (f a) (cs.drop off)
theorem OpF.nil {off : Nat} : OpF P off [] (fun _ : Unit => []) (fun _ => True) :=
  fun H enc w base spare held n cs _ hl => ⟨(), trivial, by rw [List.drop_of_length_le (by simp at hl; omega)]; exact RelPL.nil⟩
theorem OpF.cons {off : Nat} {fld : Field} {fs : List Field} {α β : Type} {f : α → List PV} {I : α → Prop} {g : β → List PV} {J : β → Prop} (c : Nat) (ho : fld.offset = off) (hc : P.cellsOf fld.type = c) (h1 : OpT P fld.type f I) (h2 : OpF P (off + c) fs g J) :
    OpF P off (fld :: fs) (fun p : α × β => f p.1 ++ g p.2) (fun p => I p.1 ∧ J p.2) :=
  fun H enc w base spare held n cs hall hl => by
    obtain ⟨y, hy⟩ := hall fld (by simp)
    obtain ⟨a, ha, hra⟩ := h1 H enc w base spare held n _ y hy
    obtain ⟨b, hb, hrb⟩ := h2 H enc w base spare held n cs (fun k hk => hall k (by simp [hk])) (by simp [hc] at hl; omega)
    refine ⟨(a, b), ⟨ha, hb⟩, ?_⟩
    rw [ho, hc] at hra
    have e : cs.drop off = (cs.drop off).take c ++ cs.drop (off + c) := by rw [← List.drop_drop, List.take_append_drop]
    rw [e]
    exact RelPL.append hra hrb
theorem OpT.struct {fs : Array Field} {α : Type} {f : α → List PV} {I : α → Prop} (ht : P.underlying t = some (.struct fs)) (hc : P.cellsOf t = (fs.toList.map fun fld => P.cellsOf fld.type).sum) (h : OpF P 0 fs.toList f I) : OpT P t f I :=
  fun H enc w base spare held fuel cs x hx => by
    obtain ⟨xs, n, _, _, hl, hxl, hf⟩ := DataW.trod_struct ht hx
    obtain ⟨a, ha, hr⟩ := h H enc w base spare held n cs (fun fld hk => by
      obtain ⟨i, hi, rfl⟩ := List.getElem_of_mem hk
      have hi2 : i < fs.size := by simpa using hi
      have := hf i fs[i] (Array.getElem?_eq_getElem hi2)
      rw [List.getElem?_eq_getElem (by omega)] at this
      exact ⟨_, by simpa using this⟩) (by rw [hl, hc]; omega)
    exact ⟨a, ha, by simpa using hr⟩
end
section
variable {H : Type} {enc : TypeId × Value → H} {P : Program} {w : World} {base : Nat} {spare : Nat → Bool} {held : Bool} {t : TypeId} {v : Value} {d : DataW H} {ps : List MemPlace} {r : Go.Reach} {b0 : Nat}
/-- An argument that is a struct. -/
theorem OpT.agg {α : Type} {f : α → List PV} {I : α → Prop} {fs : Array Field} (ho : OpT P t f I) (ht : P.underlying t = some (.struct fs)) (hv : Value.okWide P w r b0 t v) (h : DataW.Trod enc P w base spare held t v d ps) :
    ∃ a, I a ∧ RelP w (fun b => b < w.heap.size) (.agg (f a)) v := by
  obtain ⟨cs, rfl, _⟩ := okWide_struct ht hv
  obtain ⟨fuel, hf⟩ := h
  obtain ⟨a, ha, hr⟩ := ho _ _ _ _ _ _ _ _ _ hf
  refine ⟨a, ha, ?_⟩
  simp only [RelP]
  exact ⟨cs.toList, by simp, by simpa [Value.cells] using hr⟩
/-- An argument of one cell. -/
theorem OpT.one {α : Type} {p : α → PV} {I : α → Prop} (ho : OpT P t (fun a => [p a]) I) (hv : v.cells = #[v]) (h : DataW.Trod enc P w base spare held t v d ps) : ∃ a, I a ∧ RelP w (fun b => b < w.heap.size) (p a) v := by
  obtain ⟨fuel, hf⟩ := h
  obtain ⟨a, ha, hr⟩ := ho _ _ _ _ _ _ _ _ _ hf
  refine ⟨a, ha, ?_⟩
  rw [hv] at hr
  simp only [RelPL] at hr
  obtain ⟨u, vs, e, h1, _⟩ := hr
  simp at e
  rw [e.1]; exact h1
end
#print axioms OpT.sl
end Go.Proofs.YtopjkdddicgajaaGreatDoor
namespace Go.Proofs.YtopjkdddicgajaaGreatDoor
open Go.RowKit
theorem op_int : OpT Tryz.prog 3 (fun n : Int => [.int .i64 n]) (fun n => -9223372036854775808 ≤ n ∧ n ≤ 9223372036854775807) := OpT.int Tryz.underlying3
theorem op_ints : OpT Tryz.prog 22 (fun l : List Int => [pints l]) (fun l => l.length ≤ 9223372036854775807) :=
  (OpT.sl 1 Tryz.underlying22 (by kernel_rfl) op_int).map id (fun l => by
    show [PV.sl none l.length (intsP l)] = [PV.sl none l.length (l.flatMap fun n => [PV.int .i64 n])]
    congr 2
    induction l with
    | nil => rfl
    | cons x l ih => simp [← ih]) (fun l h => h.1)
end Go.Proofs.YtopjkdddicgajaaGreatDoor
