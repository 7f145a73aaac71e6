/-
  Texts of ours, joined: IC, ID, IE, Q4, Q5, Q6, QS, IF, IG, IH, Q7, Ln, E24, E25, Rd. No statement of the program is proved here.
-/
import Derived.RangeFuncKeeps
import Derived.RangeFuncLeaves
import Derived.RangeFuncBox
import Derived.Shelf.Abstract
import Derived.WalkKit
import Derived.OwnWalkIn
import Derived.TacticsInMore
import Derived.LoopNIn
import Derived.LoopIn
import Derived.RegionIn
import Derived.RangeFuncIn
import Derived.RangeFuncCalls
import Derived.Test.YtopjkdddicgajaaGreatDoorSm4
namespace Go.Proofs.YtopjkdddicgajaaGreatDoor
open Go.RowKit Mk
set_option maxRecDepth 100000
set_option maxHeartbeats 4000000
def parsC (l : List Par) : List PV := l.flatMap parC
theorem parsC_len (l : List Par) : (parsC l).length = l.length * 2 := flat_len _ 2 (fun _ => rfl) l
theorem par_row {l : List Par} {k : Nat} (h : k < l.length) : ((parsC l).drop (k * 2)).take 2 = parC l[k] := flat_row _ 2 (fun _ => rfl) l k h
theorem par_ne {l : List Par} {k : Nat} (h : k < l.length) : parsC l ≠ [] := fun e => by have := parsC_len l; rw [e] at this; simp at this; omega
theorem parsC_drop (l : List Par) (k : Nat) : (parsC l).drop (k * 2) = parsC (l.drop k) := by
  induction k generalizing l with
  | zero => simp
  | succ k ih =>
    cases l with
    | nil => simp [parsC]
    | cons a l =>
      rw [show (k + 1) * 2 = k * 2 + 2 by omega, List.drop_succ_cons, ← ih l]
      show (parC a ++ parsC l).drop (k * 2 + 2) = _
      rw [Nat.add_comm, ← List.drop_drop]; rfl
/-- The parameters of made cofactors. -/
def l4 : List Par := [⟨-1, ⟨#[]⟩⟩, ⟨0, ⟨#[]⟩⟩, ⟨1, ⟨#[98,108,117,101]⟩⟩, ⟨1, ⟨#[114,101,100]⟩⟩]
theorem l4_len : l4.length = 4 := rfl
/-- A small fraction that is not zero. -/
def GE (w : ByteArray) : Prop := ∃ q, Sml q ∧ w = ratT q ∧ (w.toList != zeroT.toList) = true
def rowL (i : Nat) : List (Par × Par) := (l4.drop i).map fun p => (l4.getD i ⟨0, ⟨#[]⟩⟩, p)
def prsL (i : Nat) : List (Par × Par) := (List.range i).flatMap rowL
theorem prsL_succ (i : Nat) : prsL (i + 1) = prsL i ++ rowL i := by simp [prsL, List.range_succ]
/-- What Cofactor makes. -/
structure CofV (c : Cof) : Prop where
  n : ∃ q, Sml q ∧ c.n = ratT q
  s : (c.s.map (·.p)).Sublist l4
  sv : ∀ t ∈ c.s, GE t.v
  q : (c.q.map fun t => (t.a, t.b)).Sublist (prsL 4)
  qv : ∀ t ∈ c.q, GE t.v
theorem ge_snoc {l : List Trm} {t : Trm} (h : ∀ x ∈ l, GE x.v) (ht : GE t.v) : ∀ x ∈ l ++ [t], GE x.v := fun x hx => by
  rcases List.mem_append.1 hx with e | e
  · exact h x e
  · rw [List.mem_singleton.1 e]; exact ht
theorem ge_snocQ {l : List Prr} {t : Prr} (h : ∀ x ∈ l, GE x.v) (ht : GE t.v) : ∀ x ∈ l ++ [t], GE x.v := fun x hx => by
  rcases List.mem_append.1 hx with e | e
  · exact h x e
  · rw [List.mem_singleton.1 e]; exact ht
theorem sub_len {α β : Type} {f : α → β} {l : List α} {m : List β} (h : (l.map f).Sublist m) : l.length ≤ m.length := by have := h.length_le; simpa using this
theorem lenC_snoc {α : Type} (l : List α) (a : α) : l.length + 1 = (l ++ [a]).length := by simp
theorem trmsC_sn (l : List Trm) (t : Trm) : trmsC l ++ trmC t = trmsC (l ++ [t]) := by simp [trmsC]
theorem prrsC_sn (l : List Prr) (t : Prr) : prrsC l ++ prrC t = prrsC (l ++ [t]) := by simp [prrsC]
theorem cofactor_spec (L : List Int) (k : Nat) (hL : L.length ≤ 600) (hk : k ≤ L.length) :
    FnM Tryz.prog 17 47 (srcC L k) [] (fun v c => (∃ x, CofV x ∧ v = .agg (cofC x)) ∧ ∃ k', k' ≤ L.length ∧ c = srcC L k') := by
  refine FnM.ofC (rt := 31) (k := 3) Tryz.func17 rfl Tryz.ntmps17 (by simp) rfl (by simp) ⟨_, Tryz.underlying31, rfl⟩ sz31 fun m0 w0 F R0 => ?_
  have hkk : ∀ k, k ≤ L.length → sNk L k ≤ L.length := fun k hk => by unfold sNk; split <;> omega
  obtain ⟨q0, hq0, hr0⟩ := rat_specF L k hL hk
  have hk0 := hkk _ (hkk _ hk)
  obtain ⟨n0, hn0⟩ : ∃ n0, n0 = ratT q0 := ⟨_, rfl⟩
  rw [← hn0] at hr0
  generalize sNk L (sNk L k) = k0 at *
  repeat refine AW.seq ?_
  refine AW.region ?_
  refine A1 rfl ?_
  repeat refine AW.seq ?_
  refine AW.region ?_
  iterate 4 refine A1 rfl ?_
  refine RL.step (d := some 17) rfl rfl (XJ.cast (v' := .pv (.sl none 4 (parsC l4))) (xj_buildSliceP none (by simp) el67 rfl (by decide) (by decide) rfl rfl) rfl) ?_
  refine A1 rfl ?_
  repeat refine AW.seq ?_
  refine AW.region ?_
  refine A1 rfl ?_
  refine RL.step (d := some 19) rfl rfl (xj_callM Tryz.call33 hr0 rfl rfl) ?_
  iterate 3 refine A1 rfl ?_
  refine AW.weaken (St.le_groC (T' := 31) (cs := [.pv (.str n0), .pv (.sl (some true) 0 []), .pv (.sl (some true) 0 [])]) 1 1 2 3 70 (by kernel_rfl) rfl (by kernel_rfl)) ?_
  refine AW.weaken (St.le_groC (T' := 31) (cs := [.pv (.str n0), .gsl 2 3 0, .pv (.sl (some true) 0 [])]) 1 2 3 5 72 (by kernel_rfl) rfl (by kernel_rfl)) ?_
  repeat refine AW.seq ?_
  refine AW.region ?_
  iterate 3 refine A1 rfl ?_
  repeat refine AW.seq ?_
  refine AW.block ?_
  repeat refine AW.seq ?_
  refine AW.loop (st := fun x_0 : Nat × Nat × List Trm => mkS [(0, .ptr big 0), (2, .ptr 0 0), (3, .pv (.sl none 4 (parsC l4))), (4, .ptr 1 0), (21, .pv (.sl none 4 (parsC l4))), (22, .pv (.int .i64 4)), (23, .pv (.int .i64 x_0.1))] [(big, srcO L x_0.2.1), (0, .mix 31 [.pv (.str ⟨#[]⟩), .pv (.sl (some true) 0 []), .pv (.sl (some true) 0 [])]), (1, .mix 31 [.pv (.str n0), .gsl 2 3 x_0.2.2.length, .gsl 3 5 0]), (2, .gro 70 (trmsC x_0.2.2)), (3, .gro 72 (prrsC []))] 4)
    (I := fun x_0 => (x_0.1 ≤ 4 ∧ x_0.2.1 ≤ L.length) ∧ (x_0.2.2.map (·.p)).Sublist (l4.take x_0.1) ∧ ∀ t ∈ x_0.2.2, GE t.v) (μ := fun x_0 => 4 - x_0.1) (x0 := (0, k0, [])) (St.le_mk ⟨rfl, rfl, rfl, rfl, rfl, rfl, rfl, trivial⟩ ⟨rfl, rfl, rfl, rfl, rfl, trivial⟩ rfl rfl) (⟨⟨Nat.zero_le _, hk0⟩, List.Sublist.refl _, fun _ h => absurd h (by simp)⟩) ?_
  rintro ⟨i, k2, ts⟩ ⟨⟨hi, hk2⟩, hts, hgs⟩
  try simp only at hi hk2 hts hgs ⊢
  repeat refine AW.seq ?_
  refine AW.region ?_
  refine A1 rfl ?_
  repeat refine AW.seq ?_
  refine AW.condP rfl (fun hc24 => ?_) (fun hc24 => ?_)
  · have hil : i < l4.length := by rw [l4_len]; omega
    have hrow := par_row hil
    have hne := par_ne hil
    have htl := sub_len hts
    rw [List.length_take, l4_len] at htl
    obtain ⟨q1, hq1, hr1⟩ := rat_specF L k2 hL hk2
    have hk3 := hkk _ (hkk _ hk2)
    have hst : l4.take (i + 1) = l4.take i ++ [l4[i]] := List.take_succ_eq_append_getElem hil
    generalize l4[i] = pi at *
    obtain ⟨w1, hw1⟩ : ∃ w, w = ratT q1 := ⟨_, rfl⟩
    rw [← hw1] at hr1
    generalize sNk L (sNk L k2) = k3 at *
    have hns := n_spec L k3 2 hL hk3 (by decide) (by decide)
    have hk4 := hkk _ hk3
    have htl3 : (trmsC ts).length = ts.length * 3 := trmsC_len ts
    refine AW.skip ?_
    repeat refine AW.seq ?_
    refine AW.block ?_
    repeat refine AW.seq ?_
    refine AW.region ?_
    refine A1 rfl ?_
    first | refine A3 rfl (by assumption) ?_ | refine A1 rfl ?_
    iterate 2 refine A1 rfl ?_
    repeat refine AW.seq ?_
    refine AW.region ?_
    refine A1 rfl ?_
    refine RL.step (d := some 28) rfl rfl (xj_callM Tryz.call33 hr1 rfl rfl) ?_
    refine A1 rfl ?_
    by_cases hnz : (w1.toList != zeroT.toList) = true
    · repeat refine AW.seq ?_
      refine AW.region ?_
      refine A1 rfl ?_
      refine RL.step (d := some 30) rfl rfl (XJ.cast (v' := .pv (.bool true)) (xj_binS rfl rfl rfl) (congrArg (fun b => V.pv (.bool b)) hnz)) ?_
      iterate 2 refine A1 rfl ?_
      refine RL.stepG (d := some 33) rfl rfl rfl (xj_callM Tryz.call14 hns rfl rfl) ?_
      iterate 2 refine A1 rfl ?_
      repeat refine AW.seq ?_
      refine AW.cond rfl (fun hc35 => ?_) (fun hc35 => ?_)
      · repeat refine AW.seq ?_
        refine AW.region ?_
        iterate 9 refine A1 rfl ?_
        repeat refine AW.seq ?_
        refine AW.region ?_
        iterate 2 refine A1 rfl ?_
        exact ⟨(i + 1, sNk L k3, ts ++ [⟨pi, w1⟩]), St.le_mkR [0, 1, 6, 3] ⟨rfl, rfl, rfl, rfl, rfl, rfl, rfl, trivial⟩ ⟨rfl, rfl, Eq.trans (b := some (.mix 31 [.pv (.str n0), .gsl 6 3 (ts.length + 1), .gsl 3 5 0])) (by kernel_rfl) (congrArg (fun n => some (Ob.mix 31 [.pv (.str n0), .gsl 6 3 n, .gsl 3 5 0])) (lenC_snoc ts _)), Eq.trans (b := some (.gro 70 (trmsC ts ++ trmC ⟨pi, w1⟩))) (by kernel_rfl) (congrArg (fun c => some (Ob.gro 70 c)) (trmsC_sn ts _)), rfl, trivial⟩ rfl rfl (by decide) rfl, ⟨⟨by omega, hk4⟩, by rw [hst, List.map_append]; exact hts.append (List.Sublist.refl _), ge_snoc hgs ⟨q1, hq1, hw1, hnz⟩⟩, by omega⟩
      · refine AW.skip ?_
        repeat refine AW.seq ?_
        refine AW.region ?_
        iterate 2 refine A1 rfl ?_
        exact ⟨(i + 1, sNk L k3, ts), St.le_mk ⟨rfl, rfl, rfl, rfl, rfl, rfl, rfl, trivial⟩ ⟨rfl, rfl, rfl, rfl, rfl, trivial⟩ rfl rfl, ⟨⟨by omega, hk4⟩, by rw [hst]; exact hts.trans (List.sublist_append_left _ _), hgs⟩, by omega⟩
    · repeat refine AW.seq ?_
      refine AW.region ?_
      refine A1 rfl ?_
      refine RL.step (d := some 30) rfl rfl (XJ.cast (v' := .pv (.bool false)) (xj_binS rfl rfl rfl) (congrArg (fun b => V.pv (.bool b)) (eq_false_of_ne_true hnz))) ?_
      iterate 5 refine A1 rfl ?_
      repeat refine AW.seq ?_
      refine AW.cond rfl (fun hc35 => absurd hc35 (by simp)) (fun hc35 => ?_)
      refine AW.skip ?_
      repeat refine AW.seq ?_
      refine AW.region ?_
      iterate 2 refine A1 rfl ?_
      exact ⟨(i + 1, k3, ts), St.le_mk ⟨rfl, rfl, rfl, rfl, rfl, rfl, rfl, trivial⟩ ⟨rfl, rfl, rfl, rfl, rfl, trivial⟩ rfl rfl, ⟨⟨by omega, hk3⟩, by rw [hst]; exact hts.trans (List.sublist_append_left _ _), hgs⟩, by omega⟩
  · have htsL : (ts.map (·.p)).Sublist l4 := by rw [show i = 4 by omega] at hts; exact hts
    have htn := sub_len htsL
    rw [l4_len] at htn
    clear hts
    repeat refine AW.seq ?_
    refine AW.exit ?_
    repeat refine AW.seq ?_
    refine AW.region ?_
    iterate 3 refine A1 rfl ?_
    repeat refine AW.seq ?_
    refine AW.block ?_
    repeat refine AW.seq ?_
    refine AW.loop (st := fun x_1 : Nat × Nat × List Prr => mkS [(0, .ptr big 0), (2, .ptr 0 0), (3, .pv (.sl none 4 (parsC l4))), (4, .ptr 1 0), (45, .pv (.sl none 4 (parsC l4))), (46, .pv (.int .i64 4)), (47, .pv (.int .i64 x_1.1))] [(big, srcO L x_1.2.1), (0, .mix 31 [.pv (.str ⟨#[]⟩), .pv (.sl (some true) 0 []), .pv (.sl (some true) 0 [])]), (1, .mix 31 [.pv (.str n0), .gsl 2 3 ts.length, .gsl 3 5 x_1.2.2.length]), (2, .gro 70 (trmsC ts)), (3, .gro 72 (prrsC x_1.2.2))] 4)
      (I := fun x_1 => (x_1.1 ≤ 4 ∧ x_1.2.1 ≤ L.length) ∧ (x_1.2.2.map fun t => (t.a, t.b)).Sublist (prsL x_1.1) ∧ ∀ t ∈ x_1.2.2, GE t.v) (μ := fun x_1 => 4 - x_1.1) (x0 := (0, k2, [])) (St.le_mk ⟨rfl, rfl, rfl, rfl, rfl, rfl, rfl, trivial⟩ ⟨rfl, rfl, rfl, rfl, rfl, trivial⟩ rfl rfl) (⟨⟨Nat.zero_le _, hk2⟩, List.Sublist.refl _, fun _ h => absurd h (by simp)⟩) ?_
    rintro ⟨i, k4, qs⟩ ⟨⟨hi1, hk4⟩, hqs, hgq⟩
    try simp only at hi1 hk4 hqs hgq ⊢
    repeat refine AW.seq ?_
    refine AW.region ?_
    refine A1 rfl ?_
    repeat refine AW.seq ?_
    refine AW.condP rfl (fun hc48 => ?_) (fun hc48 => ?_)
    · have hil : i < l4.length := by rw [l4_len]; omega
      have hrow := par_row hil
      have hne := par_ne hil
      have hst := prsL_succ i
      have hrl : rowL i = (l4.drop i).map fun p => (l4[i], p) := by rw [rowL]; simp [List.getD, hil]
      have hdl : (l4.drop i).length = 4 - i := by rw [List.length_drop, l4_len]
      have hdr := parsC_drop l4 i
      have hpl4 : (parsC l4).length = 4 * 2 := parsC_len l4
      generalize l4.drop i = m4 at *
      generalize l4[i] = pi at *
      refine AW.skip ?_
      repeat refine AW.seq ?_
      refine AW.block ?_
      repeat refine AW.seq ?_
      refine AW.region ?_
      iterate 2 refine A1 rfl ?_
      first | refine A3 rfl (by assumption) ?_ | refine A1 rfl ?_
      iterate 3 refine A1 rfl ?_
      repeat refine AW.seq ?_
      refine AW.region ?_
      iterate 2 refine A1 rfl ?_
      refine RL.step (d := some 54) rfl rfl (XJ.cast (v' := .pv (.sl none (4 - i) (parsC m4))) (xj_sliceFrom i Tryz.underlying67 sz66 rfl rfl rfl (by omega) hpl4) (by rw [hdr])) ?_
      refine RL.step (d := some 55) rfl rfl (XJ.cast (v' := .pv (.int .i64 ((4 - i : Nat) : Int))) (xj_len Tryz.underlying67 rfl) rfl) ?_
      refine A1 rfl ?_
      repeat refine AW.seq ?_
      refine AW.block ?_
      repeat refine AW.seq ?_
      refine AW.loop (st := fun x_2 : Nat × Nat × List Prr => mkS [(0, .ptr big 0), (2, .ptr 0 0), (3, .pv (.sl none 4 (parsC l4))), (4, .ptr 1 0), (9, .ptr 4 0), (45, .pv (.sl none 4 (parsC l4))), (46, .pv (.int .i64 4)), (47, .pv (.int .i64 i)), (54, .pv (.sl none (4 - i) (parsC m4))), (55, .pv (.int .i64 ((4 - i : Nat) : Int))), (56, .pv (.int .i64 x_2.1))] [(big, srcO L x_2.2.1), (0, .mix 31 [.pv (.str ⟨#[]⟩), .pv (.sl (some true) 0 []), .pv (.sl (some true) 0 [])]), (1, .mix 31 [.pv (.str n0), .gsl 2 3 ts.length, .gsl 3 5 x_2.2.2.length]), (2, .gro 70 (trmsC ts)), (3, .gro 72 (prrsC x_2.2.2)), (4, .mix 66 [.pv (.int .i64 pi.f), .pv (.str pi.c)])] 5)
        (I := fun x_2 => (x_2.1 ≤ 4 - i ∧ x_2.2.1 ≤ L.length) ∧ (x_2.2.2.map fun t => (t.a, t.b)).Sublist (prsL i ++ (m4.take x_2.1).map fun p => (pi, p)) ∧ ∀ t ∈ x_2.2.2, GE t.v) (μ := fun x_2 => 4 - i - x_2.1) (x0 := (0, k4, qs)) (St.le_mk ⟨rfl, rfl, rfl, rfl, rfl, rfl, rfl, rfl, rfl, rfl, rfl, trivial⟩ ⟨rfl, rfl, rfl, rfl, rfl, rfl, trivial⟩ rfl rfl) (⟨⟨Nat.zero_le _, hk4⟩, by simpa using hqs, hgq⟩) ?_
      rintro ⟨j, k5, q2⟩ ⟨⟨hj, hk5⟩, hq2, hg2⟩
      try simp only at hj hk5 hq2 hg2 ⊢
      repeat refine AW.seq ?_
      refine AW.region ?_
      refine A1 rfl ?_
      repeat refine AW.seq ?_
      refine AW.condP rfl (fun hc57 => ?_) (fun hc57 => ?_)
      · have hjl : j < m4.length := by omega
        have hrow2 := par_row hjl
        have hne2 := par_ne hjl
        have hql := sub_len hq2
        have hplen : (prsL i ++ (m4.take j).map fun p => (pi, p)).length ≤ 100 := by
          have h1 : (prsL i).length ≤ 20 := by
            have : ∀ i ≤ 4, (prsL i).length ≤ 20 := by decide
            exact this i hi1
          rw [List.length_append, List.length_map, List.length_take]; omega
        obtain ⟨q1, hq1, hr1⟩ := rat_specF L k5 hL hk5
        have hk6 := hkk _ (hkk _ hk5)
        have hst2 : m4.take (j + 1) = m4.take j ++ [m4[j]] := List.take_succ_eq_append_getElem hjl
        generalize m4[j] = pj at *
        obtain ⟨w1, hw1⟩ : ∃ w, w = ratT q1 := ⟨_, rfl⟩
        rw [← hw1] at hr1
        generalize sNk L (sNk L k5) = k6 at *
        have hns := n_spec L k6 2 hL hk6 (by decide) (by decide)
        have hk7 := hkk _ hk6
        have hql3 : (prrsC q2).length = q2.length * 5 := prrsC_len q2
        refine AW.skip ?_
        repeat refine AW.seq ?_
        refine AW.block ?_
        repeat refine AW.seq ?_
        refine AW.region ?_
        refine A1 rfl ?_
        first | refine A3 rfl (by assumption) ?_ | refine A1 rfl ?_
        iterate 2 refine A1 rfl ?_
        repeat refine AW.seq ?_
        refine AW.region ?_
        refine A1 rfl ?_
        refine RL.step (d := some 61) rfl rfl (xj_callM Tryz.call33 hr1 rfl rfl) ?_
        refine A1 rfl ?_
        by_cases hnz : (w1.toList != zeroT.toList) = true
        · repeat refine AW.seq ?_
          refine AW.region ?_
          refine A1 rfl ?_
          refine RL.step (d := some 63) rfl rfl (XJ.cast (v' := .pv (.bool true)) (xj_binS rfl rfl rfl) (congrArg (fun b => V.pv (.bool b)) hnz)) ?_
          iterate 2 refine A1 rfl ?_
          refine RL.stepG (d := some 66) rfl rfl rfl (xj_callM Tryz.call14 hns rfl rfl) ?_
          iterate 2 refine A1 rfl ?_
          repeat refine AW.seq ?_
          refine AW.cond rfl (fun hc68 => ?_) (fun hc68 => ?_)
          · repeat refine AW.seq ?_
            refine AW.region ?_
            iterate 10 refine A1 rfl ?_
            repeat refine AW.seq ?_
            refine AW.region ?_
            iterate 2 refine A1 rfl ?_
            exact ⟨(j + 1, sNk L k6, q2 ++ [⟨pi, pj, w1⟩]), St.le_mkR [0, 1, 2, 7, 4] ⟨rfl, rfl, rfl, rfl, rfl, rfl, rfl, rfl, rfl, rfl, rfl, trivial⟩ ⟨rfl, rfl, Eq.trans (b := some (.mix 31 [.pv (.str n0), .gsl 2 3 ts.length, .gsl 7 5 (q2.length + 1)])) (by kernel_rfl) (congrArg (fun n => some (Ob.mix 31 [.pv (.str n0), .gsl 2 3 ts.length, .gsl 7 5 n])) (lenC_snoc q2 _)), rfl, Eq.trans (b := some (.gro 72 (prrsC q2 ++ prrC ⟨pi, pj, w1⟩))) (by kernel_rfl) (congrArg (fun c => some (Ob.gro 72 c)) (prrsC_sn q2 _)), rfl, trivial⟩ rfl rfl (by decide) rfl, ⟨⟨by omega, hk7⟩, by rw [hst2, List.map_append, List.map_append, ← List.append_assoc]; exact hq2.append (List.Sublist.refl _), ge_snocQ hg2 ⟨q1, hq1, hw1, hnz⟩⟩, by omega⟩
          · refine AW.skip ?_
            repeat refine AW.seq ?_
            refine AW.region ?_
            iterate 2 refine A1 rfl ?_
            exact ⟨(j + 1, sNk L k6, q2), St.le_mk ⟨rfl, rfl, rfl, rfl, rfl, rfl, rfl, rfl, rfl, rfl, rfl, trivial⟩ ⟨rfl, rfl, rfl, rfl, rfl, rfl, trivial⟩ rfl rfl, ⟨⟨by omega, hk7⟩, by rw [hst2, List.map_append, ← List.append_assoc]; exact hq2.trans (List.sublist_append_left _ _), hg2⟩, by omega⟩
        · repeat refine AW.seq ?_
          refine AW.region ?_
          refine A1 rfl ?_
          refine RL.step (d := some 63) rfl rfl (XJ.cast (v' := .pv (.bool false)) (xj_binS rfl rfl rfl) (congrArg (fun b => V.pv (.bool b)) (eq_false_of_ne_true hnz))) ?_
          iterate 5 refine A1 rfl ?_
          repeat refine AW.seq ?_
          refine AW.cond rfl (fun hc68 => absurd hc68 (by simp)) (fun hc68 => ?_)
          refine AW.skip ?_
          repeat refine AW.seq ?_
          refine AW.region ?_
          iterate 2 refine A1 rfl ?_
          exact ⟨(j + 1, k6, q2), St.le_mk ⟨rfl, rfl, rfl, rfl, rfl, rfl, rfl, rfl, rfl, rfl, rfl, trivial⟩ ⟨rfl, rfl, rfl, rfl, rfl, rfl, trivial⟩ rfl rfl, ⟨⟨by omega, hk6⟩, by rw [hst2, List.map_append, ← List.append_assoc]; exact hq2.trans (List.sublist_append_left _ _), hg2⟩, by omega⟩
      · repeat refine AW.seq ?_
        refine AW.exit ?_
        repeat refine AW.seq ?_
        refine AW.region ?_
        iterate 2 refine A1 rfl ?_
        exact ⟨(i + 1, k5, q2), St.le_mk ⟨rfl, rfl, rfl, rfl, rfl, rfl, rfl, trivial⟩ ⟨rfl, rfl, rfl, rfl, rfl, trivial⟩ rfl rfl, ⟨⟨by omega, hk5⟩, by rw [hst, hrl]; rw [List.take_of_length_le (by omega)] at hq2; exact hq2, hg2⟩, by omega⟩
    · repeat refine AW.seq ?_
      refine AW.exit ?_
      have hqs4 : (qs.map fun t => (t.a, t.b)).Sublist (prsL 4) := by rw [show i = 4 by omega] at hqs; exact hqs
      have hql := sub_len hqs4
      have hp4 : (prsL 4).length = 10 := by decide
      refine AW.weaken (St.le_pubA 2 rfl rfl) ?_
      refine AW.weaken (St.le_pubA 3 rfl rfl) ?_
      repeat refine AW.seq ?_
      refine AW.region ?_
      iterate 2 refine A1 rfl ?_
      repeat refine AW.seq ?_
      refine AW.ret ?_
      exact ⟨0, _, cofC ⟨n0, ts, qs⟩, srcC L k4, rfl, rfl, rfl, rfl, rfl, ⟨⟨n0, ts, qs⟩, ⟨⟨q0, hq0, hn0⟩, htsL, hgs, hqs4, hgq⟩, rfl⟩, k4, hk4, rfl⟩
end Go.Proofs.YtopjkdddicgajaaGreatDoor
namespace Go.Proofs.YtopjkdddicgajaaGreatDoor
open Go.RowKit Mk
set_option maxRecDepth 100000
set_option maxHeartbeats 4000000
theorem trmsC_set {l : List Trm} {k : Nat} (h : k < l.length) (w : ByteArray) : (trmsC l).set (k * 3 + 2) (.str w) = trmsC (l.set k ⟨l[k].p, w⟩) := by
  induction l generalizing k with
  | nil => simp at h
  | cons a l ih =>
    cases k with
    | zero => rfl
    | succ k =>
      have e := ih (k := k) (by simpa using h)
      show (trmC a ++ trmsC l).set ((k + 1) * 3 + 2) (.str w) = trmC a ++ trmsC (l.set k _)
      rw [List.set_append_right _ _ (by simp; omega)]
      rw [show (k + 1) * 3 + 2 - (trmC a).length = k * 3 + 2 by simp; omega, e]; rfl
theorem prrsC_set {l : List Prr} {k : Nat} (h : k < l.length) (w : ByteArray) : (prrsC l).set (k * 5 + 4) (.str w) = prrsC (l.set k ⟨l[k].a, l[k].b, w⟩) := by
  induction l generalizing k with
  | nil => simp at h
  | cons a l ih =>
    cases k with
    | zero => rfl
    | succ k =>
      have e := ih (k := k) (by simpa using h)
      show (prrC a ++ prrsC l).set ((k + 1) * 5 + 4) (.str w) = prrC a ++ prrsC (l.set k _)
      rw [List.set_append_right _ _ (by simp; omega)]
      rw [show (k + 1) * 5 + 4 - (prrC a).length = k * 5 + 4 by simp; omega, e]; rfl
/-- Made parameters, cofactors: short words. -/
def PW (p : Par) : Prop := (-1000 ≤ p.f ∧ p.f ≤ 1000) ∧ p.c.size ≤ 12 ∧ ∀ c ∈ p.c.data.toList, c ≠ 47
structure CW (c : Cof) : Prop where
  n : RW c.n
  s : ∀ t ∈ c.s, PW t.p ∧ RW t.v
  q : ∀ t ∈ c.q, PW t.a ∧ PW t.b ∧ RW t.v
  sl : c.s.length ≤ 20
  ql : c.q.length ≤ 20
theorem ge_RW {w : ByteArray} (h : GE w) : RW w := by obtain ⟨q, hq, rfl, _⟩ := h; exact (sml_RW hq).1
theorem l4_PW : ∀ p ∈ l4, PW p := by
  intro p hp
  simp only [l4, List.mem_cons, List.not_mem_nil, or_false] at hp
  rcases hp with rfl | rfl | rfl | rfl
  · exact ⟨by decide, Nat.zero_le _, fun c hc => by simp at hc⟩
  · exact ⟨by decide, Nat.zero_le _, fun c hc => by simp at hc⟩
  · exact ⟨by decide, by decide, fun c hc => by simp at hc; rcases hc with rfl | rfl | rfl | rfl <;> decide⟩
  · exact ⟨by decide, by decide, fun c hc => by simp at hc; rcases hc with rfl | rfl | rfl <;> decide⟩
theorem row_l4 {i : Nat} (hi : i < 4) : ∀ x ∈ rowL i, x.1 ∈ l4 ∧ x.2 ∈ l4 := by
  intro x hx
  obtain ⟨p, hp, rfl⟩ := List.mem_map.1 hx
  refine ⟨?_, List.mem_of_mem_drop hp⟩
  simp only [List.getD, List.getElem?_eq_getElem (show i < l4.length from hi), Option.getD_some]
  exact List.getElem_mem _
theorem prs_l4 : ∀ x ∈ prsL 4, x.1 ∈ l4 ∧ x.2 ∈ l4 := by
  intro x hx
  obtain ⟨i, hi, hx⟩ := List.mem_flatMap.1 hx
  exact row_l4 (List.mem_range.1 hi) x hx
theorem CofV.w {c : Cof} (h : CofV c) : CW c := by
  obtain ⟨q, hq, hn⟩ := h.n
  have h1 := sub_len h.s
  have h2 := sub_len h.q
  have hp4 : (prsL 4).length = 10 := by decide
  rw [l4_len] at h1
  refine ⟨by rw [hn]; exact (sml_RW hq).1, fun t ht => ⟨l4_PW _ (h.s.subset (List.mem_map.2 ⟨t, ht, rfl⟩)), ge_RW (h.sv t ht)⟩, fun t ht => ?_, by omega, by omega⟩
  have := prs_l4 _ (h.q.subset (List.mem_map.2 ⟨t, ht, rfl⟩))
  exact ⟨l4_PW _ this.1, l4_PW _ this.2, ge_RW (h.qv t ht)⟩
theorem trmsC_leaf (l : List Trm) : ∀ c ∈ trmsC l, c.leaf = true := fun c hc => by
  obtain ⟨t, _, hc⟩ := List.mem_flatMap.1 hc
  simp only [trmC, List.mem_cons, List.not_mem_nil, or_false] at hc
  rcases hc with rfl | rfl | rfl <;> rfl
theorem prrsC_leaf (l : List Prr) : ∀ c ∈ prrsC l, c.leaf = true := fun c hc => by
  obtain ⟨t, _, hc⟩ := List.mem_flatMap.1 hc
  simp only [prrC, List.mem_cons, List.not_mem_nil, or_false] at hc
  rcases hc with rfl | rfl | rfl | rfl | rfl <;> rfl
theorem CW.setS {c : Cof} (h : CW c) {j : Nat} (hj : j < c.s.length) {w : ByteArray} (hw : RW w) : CW ⟨c.n, c.s.set j ⟨c.s[j].p, w⟩, c.q⟩ :=
  ⟨h.n, fun t ht => by
    rcases List.mem_or_eq_of_mem_set ht with e | e
    · exact h.s t e
    · rw [e]; exact ⟨(h.s _ (List.getElem_mem hj)).1, hw⟩, h.q, by simpa using h.sl, h.ql⟩
theorem CW.setQ {c : Cof} (h : CW c) {j : Nat} (hj : j < c.q.length) {w : ByteArray} (hw : RW w) : CW ⟨c.n, c.s, c.q.set j ⟨c.q[j].a, c.q[j].b, w⟩⟩ :=
  ⟨h.n, h.s, fun t ht => by
    rcases List.mem_or_eq_of_mem_set ht with e | e
    · exact h.q t e
    · rw [e]; exact ⟨(h.q _ (List.getElem_mem hj)).1, (h.q _ (List.getElem_mem hj)).2.1, hw⟩, h.sl, by simpa using h.ql⟩
theorem cof_fg2 {ns nq : Nat} {cs cq : List PV} {b1 b2 : Option Bool} {w : ByteArray} (y : Cof) (h0 : w = y.n) (h1 : cs = trmsC y.s) (n1 : ns = y.s.length) (h2 : cq = prrsC y.q) (n2 : nq = y.q.length) :
    (PV.agg [.str w, .sl b1 ns cs, .sl b2 nq cq]).fg2 = .agg (cofC y) := by subst h0 h1 n1 h2 n2; rfl
theorem CW.addS {c : Cof} (h : CW c) (hl : c.s.length ≤ 10) {t : Trm} (ht : PW t.p ∧ RW t.v) : CW ⟨c.n, c.s ++ [t], c.q⟩ :=
  ⟨h.n, fun x hx => by
    rcases List.mem_append.1 hx with e | e
    · exact h.s x e
    · rw [List.mem_singleton.1 e]; exact ht, h.q, by simp; omega, h.ql⟩
theorem CW.addQ {c : Cof} (h : CW c) (hl : c.q.length ≤ 15) {t : Prr} (ht : PW t.a ∧ PW t.b ∧ RW t.v) : CW ⟨c.n, c.s, c.q ++ [t]⟩ :=
  ⟨h.n, h.s, fun x hx => by
    rcases List.mem_append.1 hx with e | e
    · exact h.q x e
    · rw [List.mem_singleton.1 e]; exact ht, h.sl, by simp; omega⟩
theorem CW.one {c : Cof} (h : CW c) {w : ByteArray} (hw : RW w) : CW ⟨w, c.s, c.q⟩ := ⟨hw, h.s, h.q, h.sl, h.ql⟩
theorem RW_one : RW oneT := RW_plain rfl (by simp [oneT])
theorem bentCofactor_spec (L : List Int) (k : Nat) (hL : L.length ≤ 600) (hk : k ≤ L.length) (x : Cof) (hx : CW x) (hsl : x.s.length ≤ 10) (hql : x.q.length ≤ 15) :
    FnM Tryz.prog 20 47 (srcC L k) [.agg (cofC x)] (fun v c => (∃ y, CW y ∧ v = .agg (cofC y)) ∧ ∃ k', k' ≤ L.length ∧ c = srcC L k') := by
  refine FnM.fg2 (FnM.ofC (rt := 31) (k := 3) Tryz.func20 rfl Tryz.ntmps20 (by simp) rfl (by simp) ⟨_, Tryz.underlying31, rfl⟩ sz31 fun m0 w0 F R0 => ?_)
  have hkk : ∀ k, k ≤ L.length → sNk L k ≤ L.length := fun k hk => by unfold sNk; split <;> omega
  have hk1 := hkk _ hk
  have hk2 := hkk _ hk1
  have hk3 := hkk _ hk2
  have hk4 := hkk _ hk3
  have hk5 := hkk _ hk4
  have hSl := trmsC_len x.s
  have hQl := prrsC_len x.q
  obtain ⟨o1, ho1, hod1⟩ := oddRat_specF L (sNk L k) hL hk1
  obtain ⟨o2, ho2, hod2⟩ := oddRat_specF L (sNk L (sNk L k)) hL hk2
  obtain ⟨tx, htx, htxs⟩ := text_specF L (sNk L (sNk L k)) [⟨#[]⟩, ⟨#[114, 101, 100]⟩, ⟨#[88]⟩] hL hk2 (by simp) (by simp)
  have htx2 : tx.size ≤ 12 ∧ ∀ c ∈ tx.data.toList, c ≠ 47 := by
    simp at htx
    rcases htx with rfl | rfl | rfl
    · exact ⟨Nat.zero_le _, fun c hc => by simp at hc⟩
    · exact ⟨by decide, fun c hc => by simp at hc; rcases hc with rfl | rfl | rfl <;> decide⟩
    · exact ⟨by decide, fun c hc => by simp at hc; rw [hc]; decide⟩
  obtain ⟨q3, hq3, hra3⟩ := rat_specF L (sNk L (sNk L (sNk L k))) hL hk3
  have hw3 := (sml_RW hq3).1
  obtain ⟨w3, hw3e⟩ : ∃ w, w = ratT q3 := ⟨_, rfl⟩
  rw [← hw3e] at hra3 hw3
  have hb1 := sNv_bd L (sNk L k) (3 - -2 + 1) (by decide)
  have hb2 := sNv_bd L (sNk L k) (2 - -1 + 1) (by decide)
  have hb3 := sNv_bd L (sNk L (sNk L k)) (2 - -1 + 1) (by decide)
  repeat refine AW.seq ?_
  refine AW.region ?_
  iterate 2 refine A1 rfl ?_
  repeat refine AW.seq ?_
  refine AW.region ?_
  iterate 2 refine A1 rfl ?_
  refine RL.step (d := some 7) rfl rfl (xj_append0G 2 el28 rfl (.inl ⟨none, rfl⟩) hSl (trmsC_leaf _) (by omega) rfl) ?_
  iterate 2 refine A1 rfl ?_
  repeat refine AW.seq ?_
  refine AW.region ?_
  iterate 2 refine A1 rfl ?_
  refine RL.step (d := some 11) rfl rfl (xj_append0G 3 el29 rfl (.inl ⟨none, rfl⟩) hQl (prrsC_leaf _) (by omega) rfl) ?_
  iterate 2 refine A1 rfl ?_
  repeat refine AW.seq ?_
  refine AW.region ?_
  refine A1 rfl ?_
  refine RL.step (d := some 14) rfl rfl (xj_callM Tryz.call14 (n_spec L k 5 hL hk (by omega) (by omega)) rfl rfl) ?_
  repeat refine AW.seq ?_
  refine AW.block ?_
  repeat refine AW.seq ?_
  refine AW.region ?_
  iterate 2 refine A1 rfl ?_
  repeat refine AW.seq ?_
  refine AW.cond rfl (fun hc30 => ?_) (fun hc30 => ?_)
  · repeat refine AW.seq ?_
    refine AW.region ?_
    refine A1 rfl ?_
    refine RL.step (d := some 33) rfl rfl (xj_callM Tryz.call34 hod1 rfl rfl) ?_
    iterate 2 refine A1 rfl ?_
    refine AW.weaken (St.le_pubA 2 rfl rfl) ?_
    refine AW.weaken (St.le_pubA 3 rfl rfl) ?_
    repeat refine AW.seq ?_
    refine AW.region ?_
    iterate 2 refine A1 rfl ?_
    repeat refine AW.seq ?_
    refine AW.ret ?_
    exact ⟨1, _, [.str o1, .sl none x.s.length (trmsC x.s), .sl none x.q.length (prrsC x.q)], srcC L (sNk L (sNk L k)), rfl, rfl, rfl, rfl, rfl, ⟨⟨o1, x.s, x.q⟩, hx.one ho1, cof_fg2 ⟨o1, x.s, x.q⟩ rfl rfl rfl rfl rfl⟩, _, hk2, rfl⟩
  · repeat refine AW.seq ?_
    refine AW.region ?_
    iterate 2 refine A1 rfl ?_
    repeat refine AW.seq ?_
    refine AW.cond rfl (fun hc35 => ?_) (fun hc35 => ?_)
    · repeat refine AW.seq ?_
      refine AW.draw follows [[], [0], [], [2], [], [], [3, 5, 4, 2], [6, 3, 2, 5, 4], [], [6, 8, 3, 5, 4, 2], [9, 7, 6, 3, 2, 5, 4, 8], [10, 9, 7, 6, 3, 2, 5, 4, 8], [11, 1, 0, 10, 9, 7, 6, 3, 2, 5, 4, 8], [12, 11, 10, 9, 8, 7, 6, 5, 4, 3, 2, 1, 0], [13, 12, 11, 10, 9, 8, 7, 6, 5, 4, 3, 2, 1, 0]] [0, 1, 2, 3, 4, 5, 6, 7, 8, 9, 10, 11, 12, 13, 14] (by kernel_rfl) (by kernel_rfl) ?_
      iterate 3 refine D1 rfl rfl ?_
      refine DL.step (d := some 40) [_] rfl rfl rfl (fun τ h => xj_callM Tryz.call18 (range_spec L (sNk L k) (-2) 3 hL hk1 (by omega) (by omega) (by omega)) (h.args.trans rfl) ((h.o 0 _ rfl).trans rfl)) rfl (by kernel_rfl) ?_
      refine D1 rfl rfl ?_
      refine DL.step (d := some 42) [] rfl rfl rfl (fun τ h => xj_buildSliceP none (by simp) el74 rfl (by decide) (by decide) (h.fillS rfl rfl) rfl) rfl (by kernel_rfl) ?_
      refine DL.step (d := some 43) [_] rfl rfl rfl (fun τ h => xj_callM Tryz.call35 htxs (h.args.trans rfl) ((h.o 0 _ rfl).trans rfl)) rfl (by kernel_rfl) ?_
      iterate 2 refine D1 rfl rfl ?_
      refine DL.step (d := some 46) [_] rfl rfl rfl (fun τ h => xj_callM Tryz.call33 hra3 (h.args.trans rfl) ((h.o 0 _ rfl).trans rfl)) rfl (by kernel_rfl) ?_
      iterate 5 refine D1 rfl rfl ?_
      refine ⟨by kernel_rfl, ?_⟩
      refine AW.weaken (St.le_pubA 5 rfl rfl) ?_
      refine AW.weaken (St.le_pubA 3 rfl rfl) ?_
      repeat refine AW.seq ?_
      refine AW.region ?_
      iterate 2 refine A1 rfl ?_
      repeat refine AW.seq ?_
      refine AW.ret ?_
      exact ⟨1, _, [.str x.n, .sl none (x.s.length + 1) (trmsC x.s ++ [.int .i64 (-2 + sNv L (sNk L k) (3 - -2 + 1)), .str tx, .str w3]), .sl none x.q.length (prrsC x.q)], srcC L (sNk L (sNk L (sNk L (sNk L (sNk L k))))), rfl, rfl, rfl, rfl, rfl, ⟨⟨x.n, x.s ++ [⟨⟨-2 + sNv L (sNk L k) (3 - -2 + 1), tx⟩, w3⟩], x.q⟩, hx.addS hsl ⟨⟨by simp only; omega, htx2⟩, hw3⟩, cof_fg2 ⟨x.n, x.s ++ [⟨⟨-2 + sNv L (sNk L k) (3 - -2 + 1), tx⟩, w3⟩], x.q⟩ rfl (by simp [trmsC]) (by simp) rfl rfl⟩, _, hk5, rfl⟩
    · repeat refine AW.seq ?_
      refine AW.region ?_
      iterate 2 refine A1 rfl ?_
      repeat refine AW.seq ?_
      refine AW.cond rfl (fun hc51 => ?_) (fun hc51 => ?_)
      · repeat refine AW.seq ?_
        refine AW.draw follows [[], [0], [], [2], [3, 2], [], [3, 5, 2], [6, 3, 5, 2], [7, 4, 3, 2, 6, 5], [8, 7, 4, 3, 2, 6, 5], [9, 1, 0, 8, 7, 4, 3, 2, 6, 5], [10, 9, 8, 7, 6, 5, 4, 3, 2, 1, 0], [11, 10, 9, 8, 7, 6, 5, 4, 3, 2, 1, 0]] [0, 1, 2, 3, 4, 5, 6, 7, 8, 9, 10, 11, 12] (by kernel_rfl) (by kernel_rfl) ?_
        iterate 3 refine D1 rfl rfl ?_
        refine DL.step (d := some 56) [_] rfl rfl rfl (fun τ h => xj_callM Tryz.call18 (range_spec L (sNk L k) (-1) 2 hL hk1 (by omega) (by omega) (by omega)) (h.args.trans rfl) ((h.o 0 _ rfl).trans rfl)) rfl (by kernel_rfl) ?_
        iterate 2 refine D1 rfl rfl ?_
        refine DL.step (d := some 59) [_] rfl rfl rfl (fun τ h => xj_callM Tryz.call18 (range_spec L (sNk L (sNk L k)) (-1) 2 hL hk2 (by omega) (by omega) (by omega)) (h.args.trans rfl) ((h.o 0 _ rfl).trans rfl)) rfl (by kernel_rfl) ?_
        iterate 6 refine D1 rfl rfl ?_
        refine ⟨by kernel_rfl, ?_⟩
        refine AW.weaken (St.le_pubA 2 rfl rfl) ?_
        refine AW.weaken (St.le_pubA 5 rfl rfl) ?_
        repeat refine AW.seq ?_
        refine AW.region ?_
        iterate 2 refine A1 rfl ?_
        repeat refine AW.seq ?_
        refine AW.ret ?_
        exact ⟨1, _, [.str x.n, .sl none x.s.length (trmsC x.s), .sl none (x.q.length + 1) (prrsC x.q ++ [.int .i64 (-1 + sNv L (sNk L k) (2 - -1 + 1)), .str ⟨#[]⟩, .int .i64 (-1 + sNv L (sNk L (sNk L k)) (2 - -1 + 1)), .str ⟨#[]⟩, .str oneT])], srcC L (sNk L (sNk L (sNk L k))), rfl, rfl, rfl, rfl, rfl, ⟨⟨x.n, x.s, x.q ++ [⟨⟨-1 + sNv L (sNk L k) (2 - -1 + 1), ⟨#[]⟩⟩, ⟨-1 + sNv L (sNk L (sNk L k)) (2 - -1 + 1), ⟨#[]⟩⟩, oneT⟩]⟩, hx.addQ hql ⟨⟨by simp only; omega, Nat.zero_le _, fun c hc => by simp at hc⟩, ⟨by simp only; omega, Nat.zero_le _, fun c hc => by simp at hc⟩, RW_one⟩, cof_fg2 ⟨x.n, x.s, x.q ++ [⟨⟨-1 + sNv L (sNk L k) (2 - -1 + 1), ⟨#[]⟩⟩, ⟨-1 + sNv L (sNk L (sNk L k)) (2 - -1 + 1), ⟨#[]⟩⟩, oneT⟩]⟩ rfl rfl rfl (by simp [prrsC]) (by simp)⟩, _, hk3, rfl⟩
      · repeat refine AW.seq ?_
        refine AW.region ?_
        iterate 2 refine A1 rfl ?_
        repeat refine AW.seq ?_
        refine AW.cond rfl (fun hc65 => ?_) (fun hc65 => ?_)
        · repeat refine AW.seq ?_
          refine AW.region ?_
          iterate 4 refine A1 rfl ?_
          repeat refine AW.seq ?_
          refine AW.condP rfl (fun hc70 => ?_) (fun hc70 => ?_)
          · have hsp : 0 < x.s.length := by omega
            have hbs := sNv_bd L (sNk L k) x.s.length (by omega)
            obtain ⟨js, hjs⟩ := Int.eq_ofNat_of_zero_le hbs.1
            have hjsl : js < x.s.length := by omega
            have hsne : trmsC x.s ≠ [] := trm_ne hjsl
            refine AW.weaken (St.le_ownC 0 1 rfl rfl rfl hsp hsne) ?_
            repeat refine AW.seq ?_
            refine AW.draw follows [[], [0], [], [], [3], [4, 3], [5, 2, 4, 3], [], [6, 7, 5, 2, 4, 3], [8, 7, 6, 1, 0, 5, 2, 4, 3], [9, 8, 7, 6, 1, 0, 5, 2, 4, 3], [10, 9, 8, 7, 6, 1, 0, 5, 2, 4, 3]] [0, 1, 2, 3, 4, 5, 6, 7, 8, 9, 10, 11] (by kernel_rfl) (by kernel_rfl) ?_
            iterate 6 refine D1 rfl rfl ?_
            refine DL.step (d := some 77) [_] rfl rfl rfl (fun τ h => xj_callM Tryz.call14 (n_spec L (sNk L k) x.s.length hL hk1 (by omega) (by omega)) (h.args.trans rfl) ((h.o 0 _ rfl).trans rfl)) rfl (by kernel_rfl) ?_
            refine D1 rfl rfl ?_
            refine DL.step (d := some 79) [_] rfl rfl rfl (fun τ h => xj_callM Tryz.call34 hod2 (h.args.trans rfl) ((h.o 0 _ rfl).trans rfl)) rfl (by kernel_rfl) ?_
            refine DL.step (d := some 80) [_] rfl rfl rfl (fun τ h => xj_indexAddrO js Tryz.underlying28 sz70 ((h.e 0 _ rfl).trans rfl) ((h.o 0 _ rfl).trans rfl) ((h.e 1 _ rfl).trans rfl) hjs hjsl) rfl (by kernel_rfl) ?_
            iterate 2 refine D1 rfl rfl ?_
            refine ⟨by kernel_rfl, ?_⟩
            refine AW.weaken (St.le_pubA 2 rfl rfl) ?_
            refine AW.weaken (St.le_pubA 3 rfl rfl) ?_
            repeat refine AW.seq ?_
            refine AW.region ?_
            iterate 2 refine A1 rfl ?_
            repeat refine AW.seq ?_
            refine AW.ret ?_
            exact ⟨1, _, [.str x.n, .sl (some false) x.s.length ((trmsC x.s).set (js * 3 + 2) (.str o2)), .sl none x.q.length (prrsC x.q)], srcC L (sNk L (sNk L (sNk L k))), rfl, rfl, rfl, rfl, rfl, ⟨⟨x.n, x.s.set js ⟨x.s[js].p, o2⟩, x.q⟩, hx.setS hjsl ho2, cof_fg2 ⟨x.n, x.s.set js ⟨x.s[js].p, o2⟩, x.q⟩ rfl (trmsC_set hjsl o2) (by simp) rfl rfl⟩, _, hk3, rfl⟩
          · refine AW.skip ?_
            refine AW.weaken (St.le_pubA 2 rfl rfl) ?_
            refine AW.weaken (St.le_pubA 3 rfl rfl) ?_
            repeat refine AW.seq ?_
            refine AW.region ?_
            iterate 2 refine A1 rfl ?_
            repeat refine AW.seq ?_
            refine AW.ret ?_
            exact ⟨1, _, [.str x.n, .sl none x.s.length (trmsC x.s), .sl none x.q.length (prrsC x.q)], srcC L (sNk L k), rfl, rfl, rfl, rfl, rfl, ⟨x, hx, cof_fg2 x rfl rfl rfl rfl rfl⟩, _, hk1, rfl⟩
        · repeat refine AW.seq ?_
          refine AW.region ?_
          iterate 4 refine A1 rfl ?_
          repeat refine AW.seq ?_
          refine AW.condP rfl (fun hc18 => ?_) (fun hc18 => ?_)
          · have hqp : 0 < x.q.length := by omega
            have hbs := sNv_bd L (sNk L k) x.q.length (by omega)
            obtain ⟨jq, hjq⟩ := Int.eq_ofNat_of_zero_le hbs.1
            have hjql : jq < x.q.length := by omega
            have hqne : prrsC x.q ≠ [] := prr_ne hjql
            refine AW.weaken (St.le_ownC 0 2 rfl rfl rfl hqp hqne) ?_
            repeat refine AW.seq ?_
            refine AW.draw follows [[], [0], [], [], [3], [4, 3], [5, 2, 4, 3], [], [6, 7, 5, 2, 4, 3], [8, 7, 6, 1, 0, 5, 2, 4, 3], [9, 8, 7, 6, 1, 0, 5, 2, 4, 3], [10, 9, 8, 7, 6, 1, 0, 5, 2, 4, 3]] [0, 1, 2, 3, 4, 5, 6, 7, 8, 9, 10, 11] (by kernel_rfl) (by kernel_rfl) ?_
            iterate 6 refine D1 rfl rfl ?_
            refine DL.step (d := some 25) [_] rfl rfl rfl (fun τ h => xj_callM Tryz.call14 (n_spec L (sNk L k) x.q.length hL hk1 (by omega) (by omega)) (h.args.trans rfl) ((h.o 0 _ rfl).trans rfl)) rfl (by kernel_rfl) ?_
            refine D1 rfl rfl ?_
            refine DL.step (d := some 27) [_] rfl rfl rfl (fun τ h => xj_callM Tryz.call34 hod2 (h.args.trans rfl) ((h.o 0 _ rfl).trans rfl)) rfl (by kernel_rfl) ?_
            refine DL.step (d := some 28) [_] rfl rfl rfl (fun τ h => xj_indexAddrO jq Tryz.underlying29 sz72 ((h.e 0 _ rfl).trans rfl) ((h.o 0 _ rfl).trans rfl) ((h.e 1 _ rfl).trans rfl) hjq hjql) rfl (by kernel_rfl) ?_
            iterate 2 refine D1 rfl rfl ?_
            refine ⟨by kernel_rfl, ?_⟩
            refine AW.weaken (St.le_pubA 2 rfl rfl) ?_
            refine AW.weaken (St.le_pubA 3 rfl rfl) ?_
            repeat refine AW.seq ?_
            refine AW.region ?_
            iterate 2 refine A1 rfl ?_
            repeat refine AW.seq ?_
            refine AW.ret ?_
            exact ⟨1, _, [.str x.n, .sl none x.s.length (trmsC x.s), .sl (some false) x.q.length ((prrsC x.q).set (jq * 5 + 4) (.str o2))], srcC L (sNk L (sNk L (sNk L k))), rfl, rfl, rfl, rfl, rfl, ⟨⟨x.n, x.s, x.q.set jq ⟨x.q[jq].a, x.q[jq].b, o2⟩⟩, hx.setQ hjql ho2, cof_fg2 ⟨x.n, x.s, x.q.set jq ⟨x.q[jq].a, x.q[jq].b, o2⟩⟩ rfl rfl rfl (prrsC_set hjql o2) (by simp)⟩, _, hk3, rfl⟩
          · refine AW.skip ?_
            refine AW.weaken (St.le_pubA 2 rfl rfl) ?_
            refine AW.weaken (St.le_pubA 3 rfl rfl) ?_
            repeat refine AW.seq ?_
            refine AW.region ?_
            iterate 2 refine A1 rfl ?_
            repeat refine AW.seq ?_
            refine AW.ret ?_
            exact ⟨1, _, [.str x.n, .sl none x.s.length (trmsC x.s), .sl none x.q.length (prrsC x.q)], srcC L (sNk L k), rfl, rfl, rfl, rfl, rfl, ⟨x, hx, cof_fg2 x rfl rfl rfl rfl rfl⟩, _, hk1, rfl⟩
end Go.Proofs.YtopjkdddicgajaaGreatDoor
namespace Go.Proofs.YtopjkdddicgajaaGreatDoor
open Go.RowKit Mk
set_option maxRecDepth 100000
set_option maxHeartbeats 4000000
structure PgW (p : Pgs) : Prop where
  c : CW p.sum
  j : -1000 ≤ p.job ∧ p.job ≤ 1000
  d : -1000 ≤ p.done ∧ p.done ≤ 1000
theorem progress_spec (L : List Int) (k : Nat) (hL : L.length ≤ 600) (hk : k ≤ L.length) :
    FnM Tryz.prog 9 47 (srcC L k) [] (fun v c => (∃ p, PgW p ∧ v = .agg (pgsC p)) ∧ ∃ k', k' ≤ L.length ∧ c = srcC L k') := by
  refine FnM.ofC (rt := 33) (k := 5) Tryz.func9 rfl Tryz.ntmps9 (by simp) rfl (by simp) ⟨_, Tryz.underlying33, rfl⟩ sz33 fun m0 w0 F R0 => ?_
  have hkk : ∀ k, k ≤ L.length → sNk L k ≤ L.length := fun k hk => by unfold sNk; split <;> omega
  have hk1 := hkk _ hk
  have hk2 := hkk _ hk1
  have hb1 := sNv_bd L k 8 (by decide)
  have hb2 := sNv_bd L (sNk L k) 8 (by decide)
  have hn1 := n_spec L k 8 hL hk (by decide) (by decide)
  have hn2 := n_spec L (sNk L k) 8 hL hk1 (by decide) (by decide)
  have hc := cofactor_spec L (sNk L (sNk L k)) hL hk2
  generalize sNv L k 8 = jb at *
  generalize sNv L (sNk L k) 8 = dn at *
  repeat refine AW.seq ?_
  refine AW.region ?_
  refine A1 rfl ?_
  repeat refine AW.seq ?_
  refine AW.region ?_
  refine A1 rfl ?_
  refine RL.step (d := some 5) rfl rfl (xj_callM Tryz.call14 hn1 rfl rfl) ?_
  refine A1 rfl ?_
  refine RL.step (d := some 7) rfl rfl (xj_callM Tryz.call14 hn2 rfl rfl) ?_
  refine A1 rfl ?_
  refine RL.call rfl (oj_callM Tryz.call17 hc rfl rfl ?_)
  rintro _ _ ⟨⟨x, hx, rfl⟩, k3, hk3, rfl⟩
  have hsl := sub_len hx.s
  have hql := sub_len hx.q
  rw [l4_len] at hsl
  rw [show (prsL 4).length = 10 by decide] at hql
  have hk4 := hkk _ hk3
  have hk5 := hkk _ hk4
  have hk6 := hkk _ hk5
  have hxw := hx.w
  have hbc := bentCofactor_spec L (sNk L k3) hL hk4 x hxw (by omega) (by omega)
  have hn3 := n_spec L k3 8 hL hk3 (by decide) (by decide)
  have hrg := range_spec L (sNk L k3) (-1) 8 hL hk4 (by decide) (by decide) (by decide)
  have hb3 := sNv_bd L (sNk L k3) (8 - -1 + 1) (by decide)
  obtain ⟨pk, hpk1, hpk⟩ := pick_specF L (sNk L (sNk L k3)) [-1, 60, 61] hL hk5 (by simp) (by simp)
  have hpk2 : -1 ≤ pk ∧ pk ≤ 61 := (by simp at hpk1; omega)
  iterate 3 refine A1 rfl ?_
  repeat refine AW.seq ?_
  refine AW.region ?_
  refine A1 rfl ?_
  refine RL.step (d := some 12) rfl rfl (xj_callM Tryz.call14 hn3 rfl rfl) ?_
  repeat refine AW.seq ?_
  refine AW.block ?_
  repeat refine AW.seq ?_
  refine AW.region ?_
  iterate 2 refine A1 rfl ?_
  repeat refine AW.seq ?_
  refine AW.cond rfl (fun hc13 => ?_) (fun hc13 => ?_)
  · repeat refine AW.seq ?_
    refine AW.region ?_
    refine A1 rfl ?_
    refine RL.step (d := some 16) rfl rfl (xj_callM Tryz.call18 hrg rfl rfl) ?_
    refine A1 rfl ?_
    refine RL.step (d := some 18) rfl rfl (xj_buildSliceP none (by simp) el22 rfl (by decide) (by decide) rfl rfl) ?_
    refine RL.step (d := some 19) rfl rfl (xj_callM Tryz.call19 hpk rfl rfl) ?_
    iterate 4 refine A1 rfl ?_
    repeat refine AW.seq ?_
    refine AW.region ?_
    iterate 2 refine A1 rfl ?_
    repeat refine AW.seq ?_
    refine AW.ret ?_
    exact ⟨0, _, pgsC ⟨-1 + sNv L (sNk L k3) (8 - -1 + 1), pk, x⟩, srcC L (sNk L (sNk L (sNk L k3))), rfl, rfl, rfl, rfl, rfl, ⟨⟨-1 + sNv L (sNk L k3) (8 - -1 + 1), pk, x⟩, ⟨hxw, ⟨by simp only; omega, by simp only; omega⟩, ⟨by simp only; omega, by simp only; omega⟩⟩, rfl⟩, _, hk6, rfl⟩
  · repeat refine AW.seq ?_
    refine AW.region ?_
    iterate 2 refine A1 rfl ?_
    repeat refine AW.seq ?_
    refine AW.cond rfl (fun hc22 => ?_) (fun hc22 => ?_)
    · repeat refine AW.seq ?_
      refine AW.region ?_
      iterate 3 refine A1 rfl ?_
      refine RL.call rfl (oj_callM Tryz.call20 hbc rfl rfl ?_)
      rintro _ _ ⟨⟨y, hy, rfl⟩, k7, hk7, rfl⟩
      iterate 2 refine A1 rfl ?_
      repeat refine AW.seq ?_
      refine AW.region ?_
      iterate 2 refine A1 rfl ?_
      repeat refine AW.seq ?_
      refine AW.ret ?_
      exact ⟨0, _, pgsC ⟨jb, dn, y⟩, srcC L k7, rfl, rfl, rfl, rfl, rfl, ⟨⟨jb, dn, y⟩, ⟨hy, ⟨by simp only; omega, by simp only; omega⟩, ⟨by simp only; omega, by simp only; omega⟩⟩, rfl⟩, _, hk7, rfl⟩
    · refine AW.skip ?_
      repeat refine AW.seq ?_
      refine AW.region ?_
      iterate 2 refine A1 rfl ?_
      repeat refine AW.seq ?_
      refine AW.ret ?_
      exact ⟨0, _, pgsC ⟨jb, dn, x⟩, srcC L (sNk L k3), rfl, rfl, rfl, rfl, rfl, ⟨⟨jb, dn, x⟩, ⟨hxw, ⟨by simp only; omega, by simp only; omega⟩, ⟨by simp only; omega, by simp only; omega⟩⟩, rfl⟩, _, hk4, rfl⟩
end Go.Proofs.YtopjkdddicgajaaGreatDoor
namespace Go.Proofs.YtopjkdddicgajaaGreatDoor
open Go.RowKit Mk
set_option maxRecDepth 100000
set_option maxHeartbeats 4000000
def wT (t : Trm) : List ByteArray := [itoaT t.p.f, catT t.p.c, t.v]
def wQ (t : Prr) : List ByteArray := [itoaT t.a.f, catT t.a.c, itoaT t.b.f, catT t.b.c, t.v]
def wHead (p : Pgs) : List ByteArray := [itoaT p.job, itoaT p.done, p.sum.n, itoaT p.sum.s.length]
def wSums (p : Pgs) : List ByteArray := wHead p ++ p.sum.s.flatMap wT ++ [itoaT p.sum.q.length]
def wordsOf (p : Pgs) : List ByteArray := wSums p ++ p.sum.q.flatMap wQ
def spaceT : ByteArray := ⟨#[32]⟩
/-- Words with spaces between. -/
def joinT (l : List ByteArray) : ByteArray := ⟨(Lib.join (l.map (·.data.toList)) [32]).toArray⟩
theorem flat_snoc {α β : Type} {f : α → List β} {l : List α} {k : Nat} (h : k < l.length) : (l.take (k + 1)).flatMap f = (l.take k).flatMap f ++ f l[k] := by
  rw [List.take_succ_eq_append_getElem h, List.flatMap_append]; simp
theorem flat_take_le {α β : Type} (f : α → List β) (n : Nat) (h : ∀ a, (f a).length = n) (l : List α) (k : Nat) : ((l.take k).flatMap f).length ≤ l.length * n := by
  rw [flat_len f n h]; exact Nat.mul_le_mul_right _ (by simp; omega)
abbrev pgsV (p : Pgs) : List V := [.pv (.int .i64 p.job), .pv (.int .i64 p.done), .pv (.str p.sum.n), .pv (.sl none p.sum.s.length (trmsC p.sum.s)), .pv (.sl none p.sum.q.length (prrsC p.sum.q))]
theorem wT_len (t : Trm) : (wT t).length = 3 := rfl
theorem wQ_len (t : Prr) : (wQ t).length = 5 := rfl
theorem body_spec (p : Pgs) (h : COk p.sum) (hj : -9223372036854775808 ≤ p.job ∧ p.job ≤ 9223372036854775807) (hd : -9223372036854775808 ≤ p.done ∧ p.done ≤ 9223372036854775807)
    (hlen : (Lib.join ((wordsOf p).map (·.data.toList)) [32]).length ≤ 140737488355328) : FnP Tryz.prog 22 [.agg (pgsC p)] (· = .str (joinT (wordsOf p))) := by
  refine FnP.of Tryz.func22 rfl Tryz.ntmps22 (by simp) fun m0 w0 F R0 => ?_
  have hsl := h.sl
  have hql := h.ql
  have hn1 := wnumber_spec [] p.job hj (by simp)
  have hn2 := wnumber_spec [itoaT p.job] p.done hd (by simp)
  have hn3 := put_spec [itoaT p.job, itoaT p.done] [p.sum.n] (by simp) (by simp)
  have hn4 := wnumber_spec [itoaT p.job, itoaT p.done, p.sum.n] p.sum.s.length (by omega) (by simp)
  repeat refine AW.seq ?_
  refine AW.region ?_
  iterate 2 refine A1 rfl ?_
  repeat refine AW.seq ?_
  refine AW.region ?_
  refine A1 rfl ?_
  refine AW.weaken (St.le_groC 1 0 2 1 9 rfl rfl rfl) ?_
  repeat refine AW.seq ?_
  refine AW.region ?_
  iterate 2 refine A1 rfl ?_
  refine RL.call rfl (oj_callF2 [1, 2] 3 Tryz.call48 hn1 rfl rfl rfl rfl ⟨by kernel_rfl, by kernel_rfl, trivial⟩ (by decide) rfl ?_)
  rintro _ _ ⟨rfl, rfl⟩
  repeat refine AW.seq ?_
  refine AW.region ?_
  iterate 2 refine A1 rfl ?_
  refine RL.call rfl (oj_callF2 [1, 3] 4 Tryz.call48 hn2 rfl rfl rfl rfl ⟨by kernel_rfl, by kernel_rfl, trivial⟩ (by decide) rfl ?_)
  rintro _ _ ⟨rfl, rfl⟩
  repeat refine AW.seq ?_
  refine AW.region ?_
  iterate 3 refine A1 rfl ?_
  refine RL.step (d := some 17) rfl rfl (xj_buildSliceP none (by simp) el74 rfl (by decide) (by decide) rfl rfl) ?_
  refine RL.call rfl (oj_callF2 [1, 4] 5 Tryz.call49 hn3 rfl rfl rfl rfl ⟨by kernel_rfl, by kernel_rfl, trivial⟩ (by decide) rfl ?_)
  rintro _ _ ⟨rfl, rfl⟩
  repeat refine AW.seq ?_
  refine AW.region ?_
  iterate 4 refine A1 rfl ?_
  refine RL.call rfl (oj_callF2 [1, 5] 6 Tryz.call48 hn4 rfl rfl rfl rfl ⟨by kernel_rfl, by kernel_rfl, trivial⟩ (by decide) rfl ?_)
  rintro _ _ ⟨rfl, rfl⟩
  repeat refine AW.seq ?_
  refine AW.region ?_
  iterate 5 refine A1 rfl ?_
  repeat refine AW.seq ?_
  refine AW.block ?_
  repeat refine AW.seq ?_
  refine AW.loop (st := fun x_0 : Nat × List ByteArray => mkS [(1, .ptr 0 0), (3, .ptr 1 0), (26, .pv (.sl none p.sum.s.length (trmsC p.sum.s))), (27, .pv (.int .i64 p.sum.s.length)), (28, .pv (.int .i64 x_0.1))] [(0, .mix 33 (pgsV p)), (1, .mix 87 [.gsl 2 1 x_0.2.length]), (2, .gro 9 (strsP x_0.2))] 3)
    (I := fun x_0 => x_0.1 ≤ p.sum.s.length ∧ x_0.2 = wHead p ++ (p.sum.s.take x_0.1).flatMap wT) (μ := fun x_0 => p.sum.s.length - x_0.1) (x0 := (0, wHead p)) (St.le_mkR [0, 1, 6] ⟨rfl, rfl, rfl, rfl, rfl, trivial⟩ ⟨by kernel_rfl, by kernel_rfl, by kernel_rfl, trivial⟩ rfl rfl (by decide) rfl) (⟨Nat.zero_le _, by simp⟩) ?_
  rintro ⟨k, L⟩ ⟨hk, hL⟩
  try simp only at hk hL ⊢
  repeat refine AW.seq ?_
  refine AW.region ?_
  refine A1 rfl ?_
  repeat refine AW.seq ?_
  refine AW.condP rfl (fun hc29 => ?_) (fun hc29 => ?_)
  · have hlt : k < p.sum.s.length := by omega
    have hrow := trm_row hlt
    have hne := trm_ne hlt
    have hLl : L.length ≤ 400000 := by rw [hL, List.length_append]; have := flat_take_le wT 3 wT_len p.sum.s k; simp only [wHead, List.length_cons, List.length_nil]; omega
    have hnx : L ++ [itoaT p.sum.s[k].p.f, catT p.sum.s[k].p.c] ++ [p.sum.s[k].v] = wHead p ++ (p.sum.s.take (k + 1)).flatMap wT := by rw [flat_snoc hlt, hL]; simp [wT]
    have hpar := wparam_spec L p.sum.s[k].p (h.s _ (List.getElem_mem hlt)).1 (by omega)
    have hput := put_spec (L ++ [itoaT p.sum.s[k].p.f, catT p.sum.s[k].p.c]) [p.sum.s[k].v] (by simp) (by simp; omega)
    clear hL
    generalize p.sum.s[k] = tm at *
    refine AW.skip ?_
    repeat refine AW.seq ?_
    refine AW.block ?_
    repeat refine AW.seq ?_
    refine AW.region ?_
    refine A1 rfl ?_
    refine RL.step (d := some 31) rfl rfl (xj_loadAR ⟨_, Tryz.underlying70, rfl⟩ sz70 rfl hrow rfl) ?_
    iterate 2 refine A1 rfl ?_
    repeat refine AW.seq ?_
    refine AW.region ?_
    iterate 2 refine A1 rfl ?_
    refine RL.call rfl (oj_callF2 [1, 2] 4 Tryz.call50 hpar rfl rfl rfl rfl ⟨by kernel_rfl, by kernel_rfl, trivial⟩ (by decide) rfl ?_)
    rintro _ _ ⟨rfl, rfl⟩
    repeat refine AW.seq ?_
    refine AW.region ?_
    iterate 2 refine A1 rfl ?_
    refine RL.step (d := some 37) rfl rfl (xj_buildSliceP none (by simp) el74 rfl (by decide) (by decide) rfl rfl) ?_
    refine RL.call rfl (oj_callF2 [1, 4] 5 Tryz.call49 hput rfl rfl rfl rfl ⟨by kernel_rfl, by kernel_rfl, trivial⟩ (by decide) rfl ?_)
    rintro _ _ ⟨rfl, rfl⟩
    repeat refine AW.seq ?_
    refine AW.region ?_
    iterate 2 refine A1 rfl ?_
    exact ⟨(k + 1, L ++ [itoaT tm.p.f, catT tm.p.c] ++ [tm.v]), St.le_mkR [0, 1, 5] ⟨rfl, rfl, rfl, rfl, rfl, trivial⟩ ⟨by kernel_rfl, by kernel_rfl, by kernel_rfl, trivial⟩ rfl rfl (by decide) rfl, ⟨by omega, hnx⟩, by simp only; omega⟩
  · have hL2 : L = wHead p ++ p.sum.s.flatMap wT := by rw [hL, List.take_of_length_le (by omega)]
    have hLl : L.length ≤ 400000 := by rw [hL2, List.length_append, flat_len wT 3 wT_len]; simp only [wHead, List.length_cons, List.length_nil]; omega
    have hS : L ++ [itoaT p.sum.q.length] = wSums p := by rw [hL2]; rfl
    have hn5 := wnumber_spec L p.sum.q.length (by omega) (by omega)
    clear hL hL2
    repeat refine AW.seq ?_
    refine AW.exit ?_
    repeat refine AW.seq ?_
    refine AW.region ?_
    iterate 4 refine A1 rfl ?_
    refine RL.call rfl (oj_callF2 [1, 2] 3 Tryz.call48 hn5 rfl rfl rfl rfl ⟨by kernel_rfl, by kernel_rfl, trivial⟩ (by decide) rfl ?_)
    rintro _ _ ⟨rfl, rfl⟩
    repeat refine AW.seq ?_
    refine AW.region ?_
    iterate 5 refine A1 rfl ?_
    repeat refine AW.seq ?_
    refine AW.block ?_
    repeat refine AW.seq ?_
    refine AW.loop (st := fun x_1 : Nat × List ByteArray => mkS [(3, .ptr 1 0), (47, .pv (.sl none p.sum.q.length (prrsC p.sum.q))), (48, .pv (.int .i64 p.sum.q.length)), (49, .pv (.int .i64 x_1.1))] [(1, .mix 87 [.gsl 2 1 x_1.2.length]), (2, .gro 9 (strsP x_1.2))] 3)
      (I := fun x_1 => x_1.1 ≤ p.sum.q.length ∧ x_1.2 = wSums p ++ (p.sum.q.take x_1.1).flatMap wQ) (μ := fun x_1 => p.sum.q.length - x_1.1) (x0 := (0, L ++ [itoaT p.sum.q.length])) (St.le_mkR [0, 1, 3] ⟨rfl, rfl, rfl, rfl, trivial⟩ ⟨by kernel_rfl, by kernel_rfl, trivial⟩ rfl rfl (by decide) rfl) (⟨Nat.zero_le _, by rw [hS]; simp⟩) ?_
    rintro ⟨k2, L2⟩ ⟨hk2, hL⟩
    try simp only at hk2 hL ⊢
    repeat refine AW.seq ?_
    refine AW.region ?_
    refine A1 rfl ?_
    repeat refine AW.seq ?_
    refine AW.condP rfl (fun hc50 => ?_) (fun hc50 => ?_)
    · have hlt : k2 < p.sum.q.length := by omega
      have hrow := prr_row hlt
      have hne := prr_ne hlt
      have hLl : L2.length ≤ 1000000 - 5 := by rw [hL, List.length_append, wSums, List.length_append, List.length_append, flat_len wT 3 wT_len]; have := flat_take_le wQ 5 wQ_len p.sum.q k2; simp only [wHead, List.length_cons, List.length_nil]; omega
      have hnx : L2 ++ [itoaT p.sum.q[k2].a.f, catT p.sum.q[k2].a.c] ++ [itoaT p.sum.q[k2].b.f, catT p.sum.q[k2].b.c] ++ [p.sum.q[k2].v] = wSums p ++ (p.sum.q.take (k2 + 1)).flatMap wQ := by rw [flat_snoc hlt, hL]; simp [wQ]
      have hpar := wparam_spec L2 p.sum.q[k2].a (h.q _ (List.getElem_mem hlt)).1 (by omega)
      have hpar2 := wparam_spec (L2 ++ [itoaT p.sum.q[k2].a.f, catT p.sum.q[k2].a.c]) p.sum.q[k2].b (h.q _ (List.getElem_mem hlt)).2.1 (by simp; omega)
      have hput := put_spec (L2 ++ [itoaT p.sum.q[k2].a.f, catT p.sum.q[k2].a.c] ++ [itoaT p.sum.q[k2].b.f, catT p.sum.q[k2].b.c]) [p.sum.q[k2].v] (by simp) (by simp; omega)
      clear hL
      generalize p.sum.q[k2] = tm at *
      refine AW.skip ?_
      repeat refine AW.seq ?_
      refine AW.block ?_
      repeat refine AW.seq ?_
      refine AW.region ?_
      refine A1 rfl ?_
      refine RL.step (d := some 52) rfl rfl (xj_loadAR ⟨_, Tryz.underlying72, rfl⟩ sz72 rfl hrow rfl) ?_
      iterate 2 refine A1 rfl ?_
      repeat refine AW.seq ?_
      refine AW.region ?_
      iterate 2 refine A1 rfl ?_
      refine RL.call rfl (oj_callF2 [1, 2] 4 Tryz.call50 hpar rfl rfl rfl rfl ⟨by kernel_rfl, by kernel_rfl, trivial⟩ (by decide) rfl ?_)
      rintro _ _ ⟨rfl, rfl⟩
      repeat refine AW.seq ?_
      refine AW.region ?_
      iterate 2 refine A1 rfl ?_
      refine RL.call rfl (oj_callF2 [1, 4] 5 Tryz.call50 hpar2 rfl rfl rfl rfl ⟨by kernel_rfl, by kernel_rfl, trivial⟩ (by decide) rfl ?_)
      rintro _ _ ⟨rfl, rfl⟩
      repeat refine AW.seq ?_
      refine AW.region ?_
      iterate 2 refine A1 rfl ?_
      refine RL.step (d := some 61) rfl rfl (xj_buildSliceP none (by simp) el74 rfl (by decide) (by decide) rfl rfl) ?_
      refine RL.call rfl (oj_callF2 [1, 5] 6 Tryz.call49 hput rfl rfl rfl rfl ⟨by kernel_rfl, by kernel_rfl, trivial⟩ (by decide) rfl ?_)
      rintro _ _ ⟨rfl, rfl⟩
      repeat refine AW.seq ?_
      refine AW.region ?_
      iterate 2 refine A1 rfl ?_
      exact ⟨(k2 + 1, L2 ++ [itoaT tm.a.f, catT tm.a.c] ++ [itoaT tm.b.f, catT tm.b.c] ++ [tm.v]), St.le_mkR [0, 1, 6] ⟨rfl, rfl, rfl, rfl, trivial⟩ ⟨by kernel_rfl, by kernel_rfl, trivial⟩ rfl rfl (by decide) rfl, ⟨by omega, hnx⟩, by simp only; omega⟩
    · have hW : L2 = wordsOf p := by rw [hL, List.take_of_length_le (by omega)]; rfl
      have hLl : L2.length ≤ 1000000 := by rw [hL, List.length_append, wSums, List.length_append, List.length_append, flat_len wT 3 wT_len]; have := flat_take_le wQ 5 wQ_len p.sum.q k2; simp only [wHead, List.length_cons, List.length_nil]; omega
      have hjn := join_fn L2 spaceT (by omega) (by rw [hW]; exact hlen)
      clear hL
      repeat refine AW.seq ?_
      refine AW.exit ?_
      refine AW.weaken (St.le_pubA 2 rfl rfl) ?_
      repeat refine AW.seq ?_
      refine AW.region ?_
      iterate 2 refine A1 rfl ?_
      refine RL.step (d := some 66) rfl rfl (xj_call Tryz.call51 hjn rfl) ?_
      refine A1 rfl ?_
      repeat refine AW.seq ?_
      refine AW.ret ?_
      exact ⟨_, _, rfl, rfl, by rw [← hW]; rfl⟩
end Go.Proofs.YtopjkdddicgajaaGreatDoor
namespace Go.Proofs.YtopjkdddicgajaaGreatDoor
open Go.RowKit Mk
set_option maxRecDepth 100000
set_option maxHeartbeats 4000000
def bodyT (p : Pgs) : ByteArray := joinT (wordsOf p)
def nlT : ByteArray := ⟨#[10]⟩
def fmtT (u : Nat) : ByteArray := ⟨(Lib.decDigits u).toArray⟩
/-- The line of a progress. -/
def lineT (p : Pgs) : ByteArray := ((fmtT (hashN (bodyT p).data.toList) ++ spaceT) ++ bodyT p) ++ nlT
/-- A progress that has no line. -/
def badP (p : Pgs) : Bool := ((((decide (p.job < 0) || decide (p.job ≥ 8)) || decide (p.done < 0)) || decide (p.done > 60)) || !cvalid p.sum)
theorem fmt_size (u : Nat) (h : u < 18446744073709551616) : (fmtT u).size ≤ 20 := by
  have h1 : (fmtT u).size = Lib.nDigits u := by
    rw [← Lib.decDigits_length]
    simp [fmtT, ByteArray.size]
  rw [h1]
  rcases Nat.eq_zero_or_pos u with e | e
  · subst e; rw [Lib.nDigits]; simp
  · have := Lib.numDigits_eq u e h; split at this <;> omega
structure PgOk (p : Pgs) : Prop where
  c : COk p.sum
  j : -9223372036854775808 ≤ p.job ∧ p.job ≤ 9223372036854775807
  d : -9223372036854775808 ≤ p.done ∧ p.done ≤ 9223372036854775807
  b : badP p = false → (bodyT p).size ≤ 1000000000
theorem line_spec (p : Pgs) (h : PgOk p) : FnP Tryz.prog 10 [.agg (pgsC p)] (· = .tup [.str (if badP p = true then emptyT else lineT p), .int .i64 (if badP p = true then 16 else 0)]) := by
  refine FnP.of Tryz.func10 rfl Tryz.ntmps10 (by simp) fun m0 w0 F R0 => ?_
  have hv := cvalid_spec p.sum h.c
  repeat refine AW.seq ?_
  refine AW.region ?_
  iterate 3 refine A1 rfl ?_
  repeat refine AW.seq ?_
  refine AW.region ?_
  iterate 4 refine A1 rfl ?_
  apply RL.orB 4 8 12 [9, 10, 11] rfl (by first | exact MonoK.le | exact MonoK.aw | exact MonoK.back)
  · intro hb3
    iterate 4 refine A1 rfl ?_
    exact St.le_fg (fEq.upd (fEq.upd (fEq.upd (fEq.upd (fEq.upd (fEq.refl) rfl) rfl) rfl) rfl) rfl) rfl rfl rfl
  · intro hb3
    iterate 4 refine A1 rfl ?_
    exact St.le_fg (fEq.upd (fEq.upd (fEq.upd (fEq.upd (fEq.upd (fEq.refl) rfl) rfl) rfl) rfl) rfl) rfl rfl rfl
  refine A1 rfl ?_
  apply RL.orB 4 13 17 [14, 15, 16] rfl (by first | exact MonoK.le | exact MonoK.aw | exact MonoK.back)
  · intro hb8
    iterate 4 refine A1 rfl ?_
    exact St.le_fg (fEq.upd (fEq.upd (fEq.upd (fEq.upd (fEq.upd (fEq.refl) rfl) rfl) rfl) rfl) rfl) rfl rfl rfl
  · intro hb8
    iterate 4 refine A1 rfl ?_
    exact St.le_fg (fEq.upd (fEq.upd (fEq.upd (fEq.upd (fEq.upd (fEq.refl) rfl) rfl) rfl) rfl) rfl) rfl rfl rfl
  refine A1 rfl ?_
  apply RL.orB 4 18 22 [19, 20, 21] rfl (by first | exact MonoK.le | exact MonoK.aw | exact MonoK.back)
  · intro hb13
    iterate 4 refine A1 rfl ?_
    exact St.le_fg (fEq.upd (fEq.upd (fEq.upd (fEq.upd (fEq.upd (fEq.refl) rfl) rfl) rfl) rfl) rfl) rfl rfl rfl
  · intro hb13
    iterate 4 refine A1 rfl ?_
    exact St.le_fg (fEq.upd (fEq.upd (fEq.upd (fEq.upd (fEq.upd (fEq.refl) rfl) rfl) rfl) rfl) rfl) rfl rfl rfl
  refine A1 rfl ?_
  apply RL.orB 5 23 28 [24, 25, 26, 27] rfl (by first | exact MonoK.le | exact MonoK.aw | exact MonoK.back)
  · intro hb18
    iterate 5 refine A1 rfl ?_
    exact St.le_fg (fEq.upd (fEq.upd (fEq.upd (fEq.upd (fEq.upd (fEq.upd (fEq.refl) rfl) rfl) rfl) rfl) rfl) rfl) rfl rfl rfl
  · intro hb18
    iterate 2 refine A1 rfl ?_
    refine RL.stepG (d := some 26) rfl rfl rfl (xj_call Tryz.call21 hv rfl) ?_
    iterate 2 refine A1 rfl ?_
    exact St.le_fg (fEq.upd (fEq.upd (fEq.upd (fEq.upd (fEq.upd (fEq.upd (fEq.refl) rfl) rfl) rfl) rfl) rfl) rfl) rfl rfl rfl
  repeat refine AW.seq ?_
  refine AW.cond rfl (fun hc28 => ?_) (fun hc28 => ?_)
  · have hb : badP p = true := hc28
    repeat refine AW.seq ?_
    refine AW.region ?_
    iterate 2 refine A1 rfl ?_
    repeat refine AW.seq ?_
    refine AW.ret ?_
    exact ⟨_, _, rfl, rfl, by rw [hb]; rfl⟩
  · have hb : badP p = false := hc28
    have hbs := h.b hb
    have hjs : (Lib.join ((wordsOf p).map (·.data.toList)) [32]).length ≤ 140737488355328 := by have e : (bodyT p).size = (Lib.join ((wordsOf p).map (·.data.toList)) [32]).length := (by simp [bodyT, joinT, ByteArray.size]); omega
    have hbd : FnP Tryz.prog 22 [.agg (pgsC p)] (· = .str (bodyT p)) := body_spec p h.c h.j h.d hjs
    have hfm := fmt_size (hashN (bodyT p).data.toList) (hash_lt _)
    have hfu : FnP Tryz.prog 23 [.int .u64 (hashN (bodyT p).data.toList : Int), .int .i64 10] (· = .str (fmtT (hashN (bodyT p).data.toList))) := formatUint_fn _ (hash_lt _)
    have hlt := lineT.eq_1 p
    generalize lineT p = ln at *
    generalize bodyT p = bd at *
    have hha := hash_spec bd.data.toList none (by have e : bd.data.toList.length = bd.size := Array.length_toList; omega)
    generalize hashN bd.data.toList = hsh at *
    generalize fmtT hsh = fm at *
    have hs1 : (⟨#[32]⟩ : ByteArray).size = 1 := rfl
    have hs2 : (⟨#[10]⟩ : ByteArray).size = 1 := rfl
    refine AW.skip ?_
    repeat refine AW.seq ?_
    refine AW.region ?_
    refine A1 rfl ?_
    refine RL.step (d := some 30) rfl rfl (xj_call Tryz.call22 hbd rfl) ?_
    refine A1 rfl ?_
    repeat refine AW.seq ?_
    refine AW.region ?_
    iterate 2 refine A1 rfl ?_
    refine RL.step (d := some 33) rfl rfl (xj_call Tryz.call24 hha rfl) ?_
    refine RL.step (d := some 34) rfl rfl (xj_call Tryz.call23 hfu rfl) ?_
    iterate 6 refine A1 rfl ?_
    repeat refine AW.seq ?_
    refine AW.ret ?_
    exact ⟨_, _, rfl, rfl, by subst hlt; rw [hb]; rfl⟩
end Go.Proofs.YtopjkdddicgajaaGreatDoor
namespace Go.Proofs.YtopjkdddicgajaaGreatDoor
open Go.RowKit Mk
set_option maxRecDepth 100000
set_option maxHeartbeats 4000000
section
variable {C : Ctx} {n : Nat} {σ : St} {dst : Option Tmp} {ty t t' : TypeId} {pos : String} {after : Array Edge} {gd : Option (Nat × Bool)} {x : Operand}
theorem run_eqI0 {P : Program} (w : World) (t : TypeId) {ms} (h : P.underlying t = some (.interface ms)) : (Op.equal t .nilIface .nilIface).run P w = .ok true w := by
  rw [Op.equal, Op.maxDepth, show (10000 : Nat) = 9999 + 1 from rfl, Op.equalIn]
  simp only [Sem.run_bind, run_underlying h, Result.andThen_ok, Sem.run_pure]
theorem run_eqI1 {P : Program} (w : World) (t s : TypeId) (v : Value) {ms} (h : P.underlying t = some (.interface ms)) : (Op.equal t (.iface s v) .nilIface).run P w = .ok false w := by
  rw [Op.equal, Op.maxDepth, show (10000 : Nat) = 9999 + 1 from rfl, Op.equalIn]
  simp only [Sem.run_bind, run_underlying h, Result.andThen_ok, Sem.run_pure]
theorem xj_neI0 {ms} (hu : C.P.underlying t = some (.interface ms)) (hx : σ.ev n x = .pv .niliface) :
    XJ C n ⟨dst, .binOp .neq t x (.const .nilIface) t', ty, pos, after, gd⟩ σ ⟨.pv (.bool false), [], []⟩ :=
  .lit rfl fun a w m R hw => by
    have e := hw.pv hx
    simp only [RelP] at e
    have hc : a.eval (.const .nilIface) = .nilIface := rfl
    simp [execOp, e, eqGuard, binOp, hc, run_eqI0 w t hu, litV]
theorem xj_neI1 {ms} {s : TypeId} {p : PV} (hu : C.P.underlying t = some (.interface ms)) (hx : σ.ev n x = .pv (.iface s p)) :
    XJ C n ⟨dst, .binOp .neq t x (.const .nilIface) t', ty, pos, after, gd⟩ σ ⟨.pv (.bool true), [], []⟩ :=
  .lit rfl fun a w m R hw => by
    have e := hw.pv hx
    simp only [RelP] at e
    obtain ⟨v, e, _⟩ := e
    have hc : a.eval (.const .nilIface) = .nilIface := rfl
    simp [execOp, e, eqGuard, binOp, hc, run_eqI1 w t s v hu, litV]
end
abbrev scO (L : List ByteArray) (b : Bool) : List (Nat × Ob) := [(big, .mix 97 [.pv (pstrs L), .pv (.bool b)])]
def nextW (L : List ByteArray) : ByteArray := L.headD emptyT
/-- What a word is as a number; what does not read. -/
def intW (s : ByteArray) : Int := match Lib.atoiAll s.data.toList with | .ok n => n | .syntax => 0 | .range => Lib.atoiSat s.data.toList
def errW (s : ByteArray) : Bool := match Lib.atoiAll s.data.toList with | .ok _ => false | _ => true
theorem atoi2_fn (s : ByteArray) (hs : s.size ≤ 281474976710656) : FnP Tryz.prog 89 [.str s] (fun v => ∃ i : PV, v = .tup [.int .i64 (intW s), i] ∧ (¬ errW s = true → i = .niliface) ∧ (errW s = true → ∃ t, i = .iface t .any)) := by
  refine (atoi_fn s hs).mono fun v h => ?_
  unfold intW errW
  cases e : Lib.atoiAll s.data.toList with
  | ok n => rw [e] at h; exact ⟨_, h, fun _ => rfl, fun h => by cases h⟩
  | «syntax» => rw [e] at h; obtain ⟨t, h⟩ := h; exact ⟨_, h, fun h => absurd rfl h, fun _ => ⟨t, rfl⟩⟩
  | range => rw [e] at h; obtain ⟨t, h⟩ := h; exact ⟨_, h, fun h => absurd rfl h, fun _ => ⟨t, rfl⟩⟩
theorem next0_spec (b : Bool) : FnO Tryz.prog 57 1 0 [.ptr big 0] (scO [] b) (fun v ob' => v = .pv (.str emptyT) ∧ ob' = lookO (scO [] true)) := by
  refine FnO.of Tryz.func57 rfl Tryz.ntmps57 (by simp) fun m0 w0 F R0 => ?_
  repeat refine AW.seq ?_
  refine AW.region ?_
  refine A1 rfl ?_
  repeat refine AW.seq ?_
  refine AW.region ?_
  iterate 7 refine A1 rfl ?_
  repeat refine AW.seq ?_
  refine AW.cond rfl (fun hc10 => ?_) (fun hc10 => absurd hc10 (by simp))
  repeat refine AW.seq ?_
  refine AW.region ?_
  iterate 4 refine A1 rfl ?_
  repeat refine AW.seq ?_
  refine AW.region ?_
  refine A1 rfl ?_
  repeat refine AW.seq ?_
  refine AW.ret ?_
  exact ⟨[(2, .pv (.str emptyT))], scO [] true, [.pv (.str emptyT)], St.le_mk ⟨rfl, trivial⟩ ⟨rfl, trivial⟩ rfl rfl, rfl, rfl, rfl, rfl, rfl⟩
theorem next1_spec (w : ByteArray) (l : List ByteArray) (b : Bool) (hl : l.length ≤ 1000000) : FnO Tryz.prog 57 1 0 [.ptr big 0] (scO (w :: l) b) (fun v ob' => v = .pv (.str w) ∧ ob' = lookO (scO l b)) := by
  refine FnO.of Tryz.func57 rfl Tryz.ntmps57 (by simp) fun m0 w0 F R0 => ?_
  repeat refine AW.seq ?_
  refine AW.region ?_
  refine A1 rfl ?_
  repeat refine AW.seq ?_
  refine AW.region ?_
  iterate 7 refine A1 rfl ?_
  repeat refine AW.seq ?_
  refine AW.cond rfl (fun hc10 => absurd hc10 (by simp only [List.length_cons, beq_iff_eq] at hc10; omega)) (fun hc10 => ?_)
  refine AW.skip ?_
  repeat refine AW.seq ?_
  refine AW.region ?_
  iterate 6 refine A1 rfl ?_
  first | refine A2 rfl (by assumption) ?_ | refine A1 rfl ?_
  refine A1 rfl ?_
  repeat refine AW.seq ?_
  refine AW.region ?_
  iterate 6 refine A1 rfl ?_
  refine RL.step (d := some 27) rfl rfl (XJ.cast (v' := .pv (pstrs l)) (xj_sliceFrom 1 Tryz.underlying74 sz9 rfl rfl rfl (by simp) (by simp)) (by simp)) ?_
  iterate 4 refine A1 rfl ?_
  repeat refine AW.seq ?_
  refine AW.region ?_
  iterate 2 refine A1 rfl ?_
  repeat refine AW.seq ?_
  refine AW.ret ?_
  exact ⟨[(2, .pv (.str w))], scO l b, [.pv (.str w)], St.le_mk ⟨rfl, trivial⟩ ⟨rfl, trivial⟩ rfl rfl, rfl, rfl, rfl, rfl, rfl⟩
theorem next_spec (L : List ByteArray) (b : Bool) (hl : L.length ≤ 1000000) : FnO Tryz.prog 57 1 0 [.ptr big 0] (scO L b) (fun v ob' => v = .pv (.str (nextW L)) ∧ ob' = lookO (scO L.tail (b || L.isEmpty))) := by
  cases L with
  | nil => rw [show (b || ([] : List ByteArray).isEmpty) = true by simp]; exact next0_spec b
  | cons w l => rw [show (b || (w :: l).isEmpty) = b by simp]; exact next1_spec w l b (by simp at hl; omega)
theorem next_size {L : List ByteArray} {k : Nat} (h : ∀ w ∈ L, w.size ≤ k) : (nextW L).size ≤ k := by
  cases L with
  | nil => exact Nat.zero_le _
  | cons w l => exact h w (by simp)
/-- The flag behind a number. -/
def flagI (L : List ByteArray) (b : Bool) : Bool := (b || L.isEmpty) || errW (nextW L)
theorem int_spec (L : List ByteArray) (b : Bool) (hl : L.length ≤ 1000000) (hs : ∀ w ∈ L, w.size ≤ 1000) : FnO Tryz.prog 58 1 0 [.ptr big 0] (scO L b) (fun v ob' => v = .pv (.int .i64 (intW (nextW L))) ∧ ob' = lookO (scO L.tail (flagI L b))) := by
  refine FnO.of Tryz.func58 rfl Tryz.ntmps58 (by simp) fun m0 w0 F R0 => ?_
  have hn := next_spec L b hl
  have hat := atoi2_fn (nextW L) (by have := next_size hs; omega)
  unfold flagI
  generalize nextW L = w at *
  generalize (b || L.isEmpty) = b2 at *
  repeat refine AW.seq ?_
  refine AW.region ?_
  refine A1 rfl ?_
  repeat refine AW.seq ?_
  refine AW.region ?_
  refine A1 rfl ?_
  refine RL.call rfl (oj_callF2 [big] 0 Tryz.call57 hn rfl rfl rfl rfl ⟨rfl, trivial⟩ (by decide) rfl ?_)
  rintro _ _ ⟨rfl, rfl⟩
  refine RL.call rfl (oj_call Tryz.call89 hat rfl ?_)
  rintro _ ⟨i, rfl, hi⟩
  iterate 5 refine A1 rfl ?_
  by_cases hE : errW w = true
  · obtain ⟨t, rfl⟩ := hi.2 hE
    rw [hE, Bool.or_true]
    repeat refine AW.seq ?_
    refine AW.region ?_
    refine A1 rfl ?_
    refine RL.step (d := some 12) rfl rfl (xj_neI1 Tryz.underlying132 rfl) ?_
    repeat refine AW.seq ?_
    refine AW.cond rfl (fun hc12 => ?_) (fun hc12 => absurd hc12 (by simp))
    repeat refine AW.seq ?_
    refine AW.region ?_
    iterate 4 refine A1 rfl ?_
    repeat refine AW.seq ?_
    refine AW.region ?_
    iterate 2 refine A1 rfl ?_
    repeat refine AW.seq ?_
    refine AW.ret ?_
    exact ⟨[(2, .pv (.int .i64 (intW w)))], scO L.tail true, [.pv (.int .i64 (intW w))], St.le_mk ⟨rfl, trivial⟩ ⟨by kernel_rfl, trivial⟩ rfl rfl, rfl, rfl, rfl, rfl, rfl⟩
  · obtain rfl := hi.1 hE
    rw [Bool.eq_false_iff.2 hE, Bool.or_false]
    repeat refine AW.seq ?_
    refine AW.region ?_
    refine A1 rfl ?_
    refine RL.step (d := some 12) rfl rfl (xj_neI0 Tryz.underlying132 rfl) ?_
    repeat refine AW.seq ?_
    refine AW.cond rfl (fun hc12 => absurd hc12 (by simp)) (fun hc12 => ?_)
    refine AW.skip ?_
    repeat refine AW.seq ?_
    refine AW.region ?_
    iterate 2 refine A1 rfl ?_
    repeat refine AW.seq ?_
    refine AW.ret ?_
    exact ⟨[(2, .pv (.int .i64 (intW w)))], scO L.tail b2, [.pv (.int .i64 (intW w))], St.le_mk ⟨rfl, trivial⟩ ⟨by kernel_rfl, trivial⟩ rfl rfl, rfl, rfl, rfl, rfl, rfl⟩
def manyX (L : List ByteArray) (k : Nat) : Bool := decide (intW (nextW L) < 0) || decide (intW (nextW L) > IntKind.i64.wrap ((L.tail.length : Int).tdiv k))
def manyN (L : List ByteArray) (k : Nat) : Int := if manyX L k = true then 0 else intW (nextW L)
def manyB (L : List ByteArray) (b : Bool) (k : Nat) : Bool := flagI L b || manyX L k
theorem many_spec (L : List ByteArray) (b : Bool) (k : Nat) (hk : 0 < k ∧ k ≤ 5) (hl : L.length ≤ 1000000) (hs : ∀ w ∈ L, w.size ≤ 1000) : FnO Tryz.prog 59 1 0 [.ptr big 0, .pv (.int .i64 k)] (scO L b) (fun v ob' => v = .pv (.int .i64 (manyN L k)) ∧ ob' = lookO (scO L.tail (manyB L b k))) := by
  refine FnO.of Tryz.func59 rfl Tryz.ntmps59 (by simp) fun m0 w0 F R0 => ?_
  have hi := int_spec L b hl hs
  have hm := manyX.eq_1 L k
  unfold manyN manyB
  generalize manyX L k = mx at *
  generalize intW (nextW L) = n at *
  generalize flagI L b = b2 at *
  have hlt : L.tail.length ≤ 1000000 := by simp; omega
  generalize L.tail = T at *
  repeat refine AW.seq ?_
  refine AW.region ?_
  refine A1 rfl ?_
  repeat refine AW.seq ?_
  refine AW.region ?_
  refine A1 rfl ?_
  refine RL.call rfl (oj_callF2 [big] 0 Tryz.call58 hi rfl rfl rfl rfl ⟨rfl, trivial⟩ (by decide) rfl ?_)
  rintro _ _ ⟨rfl, rfl⟩
  refine A1 rfl ?_
  repeat refine AW.seq ?_
  refine AW.region ?_
  iterate 3 refine A1 rfl ?_
  apply RL.orB 11 10 21 [11, 12, 13, 14, 15, 16, 17, 18, 19, 20] rfl (by first | exact MonoK.le | exact MonoK.aw | exact MonoK.back)
  · intro hb2
    iterate 11 refine A1 rfl ?_
    exact St.le_fg (fEq.upd (fEq.upd (fEq.upd (fEq.upd (fEq.upd (fEq.upd (fEq.upd (fEq.upd (fEq.upd (fEq.upd (fEq.upd (fEq.upd (fEq.refl) rfl) rfl) rfl) rfl) rfl) rfl) rfl) rfl) rfl) rfl) rfl) rfl) rfl rfl rfl
  · intro hb2
    iterate 11 refine A1 rfl ?_
    exact St.le_fg (fEq.upd (fEq.upd (fEq.upd (fEq.upd (fEq.upd (fEq.upd (fEq.upd (fEq.upd (fEq.upd (fEq.upd (fEq.upd (fEq.upd (fEq.refl) rfl) rfl) rfl) rfl) rfl) rfl) rfl) rfl) rfl) rfl) rfl) rfl) rfl rfl rfl
  repeat refine AW.seq ?_
  refine AW.cond rfl (fun hc21 => ?_) (fun hc21 => ?_)
  · obtain rfl : mx = true := hm.trans hc21
    repeat refine AW.seq ?_
    refine AW.region ?_
    iterate 4 refine A1 rfl ?_
    repeat refine AW.seq ?_
    refine AW.region ?_
    refine A1 rfl ?_
    repeat refine AW.seq ?_
    refine AW.ret ?_
    rw [Bool.or_true, if_pos rfl]
    exact ⟨[(4, .pv (.int .i64 0))], scO T true, [.pv (.int .i64 0)], St.le_mk ⟨rfl, trivial⟩ ⟨by kernel_rfl, trivial⟩ rfl rfl, rfl, rfl, rfl, rfl, rfl⟩
  · obtain rfl : mx = false := hm.trans hc21
    refine AW.skip ?_
    repeat refine AW.seq ?_
    refine AW.region ?_
    iterate 2 refine A1 rfl ?_
    repeat refine AW.seq ?_
    refine AW.ret ?_
    rw [Bool.or_false, if_neg Bool.false_ne_true]
    exact ⟨[(4, .pv (.int .i64 n))], scO T b2, [.pv (.int .i64 n)], St.le_mk ⟨rfl, trivial⟩ ⟨by kernel_rfl, trivial⟩ rfl rfl, rfl, rfl, rfl, rfl, rfl⟩
theorem look_app : ∀ (a b : List (Nat × Ob)) (i : Nat) (o : Ob), lookO a i = some o → lookO (a ++ b) i = some o
  | [], _, _, _, h => by simp [lookO] at h
  | (d, v) :: a, b, i, o, h => by
    simp only [lookO, List.cons_append] at h ⊢
    cases hb : Nat.beq i d with
    | true => rw [hb] at h; simpa using h
    | false => rw [hb] at h; simp only [cond_false] at h ⊢; exact look_app a b i o h
/-- A word as a category. -/
def uncatT (c : ByteArray) : ByteArray := if (c.toList == dashT.toList) = true then emptyT else c
def paramW (L : List ByteArray) : Par := ⟨intW (nextW L), uncatT (nextW L.tail)⟩
def paramB (L : List ByteArray) (b : Bool) : Bool := flagI L b || L.tail.isEmpty
abbrev parV (p : Par) : V := .agg [.pv (.int .i64 p.f), .pv (.str p.c)]
theorem sparam_spec (L : List ByteArray) (b : Bool) (hl : L.length ≤ 1000000) (hs : ∀ w ∈ L, w.size ≤ 1000) : FnO Tryz.prog 60 1 0 [.ptr big 0] (scO L b) (fun v ob' => v = parV (paramW L) ∧ ob' = lookO (scO L.tail.tail (paramB L b))) := by
  refine FnO.ofC Tryz.func60 rfl Tryz.ntmps60 (by simp) fun m0 w0 F R0 => ?_
  have hi := int_spec L b hl hs
  have hn := next_spec L.tail (flagI L b) (by simp; omega)
  unfold paramB paramW
  generalize hun : uncatT (nextW L.tail) = cc
  generalize intW (nextW L) = n at *
  generalize (flagI L b || L.tail.isEmpty) = b3 at *
  generalize flagI L b = b2 at *
  generalize nextW L.tail = c at *
  generalize L.tail.tail = T2 at *
  generalize L.tail = T at *
  repeat refine AW.seq ?_
  refine AW.region ?_
  refine A1 rfl ?_
  repeat refine AW.seq ?_
  refine AW.region ?_
  refine A1 rfl ?_
  refine RL.call rfl (oj_callF2 [big] 1 Tryz.call58 hi rfl rfl rfl rfl ⟨by kernel_rfl, trivial⟩ (by decide) rfl ?_)
  rintro _ _ ⟨rfl, rfl⟩
  refine A1 rfl ?_
  refine RL.call rfl (oj_callF2 [big] 1 Tryz.call57 hn rfl rfl rfl rfl ⟨by kernel_rfl, trivial⟩ (by decide) rfl ?_)
  rintro _ _ ⟨rfl, rfl⟩
  iterate 3 refine A1 rfl ?_
  repeat refine AW.seq ?_
  refine AW.region ?_
  iterate 3 refine A1 rfl ?_
  repeat refine AW.seq ?_
  refine AW.cond rfl (fun hc11 => ?_) (fun hc11 => ?_)
  · obtain rfl : cc = emptyT := hun.symm.trans (if_pos hc11)
    repeat refine AW.seq ?_
    refine AW.region ?_
    iterate 2 refine A1 rfl ?_
    repeat refine AW.seq ?_
    refine AW.region ?_
    iterate 2 refine A1 rfl ?_
    repeat refine AW.seq ?_
    refine AW.ret ?_
    exact ⟨[(2, .ptr 0 0)], [(big, .mix 97 [.pv (pstrs T2), .pv (.bool b3)]), (0, .mix 66 [.pv (.int .i64 n), .pv (.str emptyT)])], [parV ⟨n, emptyT⟩], scO T2 b3, 1, St.le_mk ⟨rfl, trivial⟩ ⟨by kernel_rfl, by kernel_rfl, trivial⟩ rfl rfl, rfl, ⟨cellOk1 ⟨_, Tryz.underlying66, rfl⟩ sz66 rfl rfl rfl, trivial⟩, rfl, rfl, look_app _ _, by decide, rfl, rfl⟩
  · obtain rfl : cc = c := hun.symm.trans (if_neg fun h => Bool.false_ne_true (hc11.symm.trans h))
    refine AW.skip ?_
    repeat refine AW.seq ?_
    refine AW.region ?_
    iterate 2 refine A1 rfl ?_
    repeat refine AW.seq ?_
    refine AW.ret ?_
    exact ⟨[(2, .ptr 0 0)], [(big, .mix 97 [.pv (pstrs T2), .pv (.bool b3)]), (0, .mix 66 [.pv (.int .i64 n), .pv (.str cc)])], [parV ⟨n, cc⟩], scO T2 b3, 1, St.le_mk ⟨rfl, trivial⟩ ⟨by kernel_rfl, by kernel_rfl, trivial⟩ rfl rfl, rfl, ⟨cellOk1 ⟨_, Tryz.underlying66, rfl⟩ sz66 rfl rfl rfl, trivial⟩, rfl, rfl, look_app _ _, by decide, rfl, rfl⟩
end Go.Proofs.YtopjkdddicgajaaGreatDoor
namespace Go.Proofs.YtopjkdddicgajaaGreatDoor
open Go.RowKit Mk
theorem intW_range (s : ByteArray) : -9223372036854775808 ≤ intW s ∧ intW s ≤ 9223372036854775807 := by
  unfold intW
  cases e : Lib.atoiAll s.data.toList with
  | «syntax» => show -9223372036854775808 ≤ (0 : Int) ∧ (0 : Int) ≤ 9223372036854775807; decide
  | range => show _ ≤ Lib.atoiSat _ ∧ Lib.atoiSat _ ≤ _; unfold Lib.atoiSat; split <;> decide
  | ok n =>
    show -9223372036854775808 ≤ n ∧ n ≤ 9223372036854775807
    unfold Lib.atoiAll at e
    split at e
    · cases e
    · rename_i c r _
      revert e
      cases hu : Lib.parseMag (if c.toNat = 43 ∨ c.toNat = 45 then r else s.data.toList) with
      | «syntax» => intro e; cases e
      | range => intro e; cases e
      | ok u =>
        intro e
        have hl := Lib.parseMag_lt hu
        simp only at e
        split at e
        · cases e
        · split at e
          · cases e
          · injection e with e
            subst e
            split <;> omega
/-- A word that may be read. -/
def SWd (w : ByteArray) : Prop := w.size ≤ 1000 ∧ ROk w
theorem swd_empty : SWd emptyT := ⟨Nat.zero_le _, by decide, fun h => by rw [show ivalid (numT emptyT) = false by rw [ivalid, Lib.toList_data, Lib.toList_data]; decide] at h; cases h⟩
theorem swd_next {L : List ByteArray} (h : ∀ w ∈ L, SWd w) : SWd (nextW L) := by
  cases L with
  | nil => exact swd_empty
  | cons w l => exact h w (by simp)
theorem pok_param {L : List ByteArray} (h : ∀ w ∈ L, SWd w) : POk (paramW L) ∧ (paramW L).c.size ≤ 1000 := by
  have h2 : (uncatT (nextW L.tail)).size ≤ 1000 := by
    unfold uncatT
    split
    · decide
    · exact (swd_next fun w hw => h w (List.mem_of_mem_tail hw)).1
  exact ⟨⟨intW_range _, by show (uncatT (nextW L.tail)).size < _; omega⟩, h2⟩
def scanT : Nat → List ByteArray → Bool → List Trm × List ByteArray × Bool
  | 0, L, b => ([], L, b)
  | k + 1, L, b => let r := scanT k L b
    (r.1 ++ [⟨paramW r.2.1, nextW r.2.1.tail.tail⟩], r.2.1.tail.tail.tail, paramB r.2.1 r.2.2 || r.2.1.tail.tail.isEmpty)
def scanQ : Nat → List ByteArray → Bool → List Prr × List ByteArray × Bool
  | 0, L, b => ([], L, b)
  | k + 1, L, b => let r := scanQ k L b
    (r.1 ++ [⟨paramW r.2.1, paramW r.2.1.tail.tail, nextW r.2.1.tail.tail.tail.tail⟩], r.2.1.tail.tail.tail.tail.tail, paramB r.2.1.tail.tail (paramB r.2.1 r.2.2) || r.2.1.tail.tail.tail.tail.isEmpty)
/-- What is read of an entry. -/
def TOk (t : Trm) : Prop := POk t.p ∧ ROk t.v ∧ t.p.c.size ≤ 1000 ∧ t.v.size ≤ 1000
def QOk (t : Prr) : Prop := POk t.a ∧ POk t.b ∧ ROk t.v ∧ t.a.c.size ≤ 1000 ∧ t.b.c.size ≤ 1000 ∧ t.v.size ≤ 1000
def SubW (M L : List ByteArray) : Prop := (∀ w ∈ M, w ∈ L) ∧ M.length ≤ L.length
theorem SubW.refl (L : List ByteArray) : SubW L L := ⟨fun _ h => h, Nat.le_refl _⟩
theorem SubW.tail {M L : List ByteArray} (h : SubW M L) : SubW M.tail L := ⟨fun w hw => h.1 w (List.mem_of_mem_tail hw), by have := h.2; simp; omega⟩
theorem SubW.ok {M L : List ByteArray} (h : SubW M L) (hL : ∀ w ∈ L, SWd w) : ∀ w ∈ M, SWd w := fun w hw => hL w (h.1 w hw)
theorem scanT_ok {L : List ByteArray} (hL : ∀ w ∈ L, SWd w) (b : Bool) (k : Nat) : SubW (scanT k L b).2.1 L ∧ (scanT k L b).1.length = k ∧ ∀ t ∈ (scanT k L b).1, TOk t := by
  induction k with
  | zero => exact ⟨SubW.refl L, rfl, fun t ht => absurd ht (by simp [scanT])⟩
  | succ k ih =>
    obtain ⟨h1, h2, h3⟩ := ih
    have hM := h1.ok hL
    refine ⟨h1.tail.tail.tail, by simp [scanT, h2], fun t ht => ?_⟩
    simp only [scanT, List.mem_append, List.mem_singleton] at ht
    rcases ht with ht | rfl
    · exact h3 t ht
    · have hp := pok_param hM
      have hv := swd_next (h1.tail.tail.ok hL)
      exact ⟨hp.1, hv.2, hp.2, hv.1⟩
theorem scanQ_ok {L : List ByteArray} (hL : ∀ w ∈ L, SWd w) (b : Bool) (k : Nat) : SubW (scanQ k L b).2.1 L ∧ (scanQ k L b).1.length = k ∧ ∀ t ∈ (scanQ k L b).1, QOk t := by
  induction k with
  | zero => exact ⟨SubW.refl L, rfl, fun t ht => absurd ht (by simp [scanQ])⟩
  | succ k ih =>
    obtain ⟨h1, h2, h3⟩ := ih
    have hM := h1.ok hL
    refine ⟨h1.tail.tail.tail.tail.tail, by simp [scanQ, h2], fun t ht => ?_⟩
    simp only [scanQ, List.mem_append, List.mem_singleton] at ht
    rcases ht with ht | rfl
    · exact h3 t ht
    · have hp := pok_param hM
      have hp2 := pok_param (h1.tail.tail.ok hL)
      have hv := swd_next (h1.tail.tail.tail.tail.ok hL)
      exact ⟨hp.1, hp2.1, hv.2, hp.2, hp2.2, hv.1⟩
/-- The state behind each word. -/
def pb1 (W : List ByteArray) : Bool := false || W.isEmpty
def pb2 (W : List ByteArray) : Bool := flagI W.tail (pb1 W)
def pb3 (W : List ByteArray) : Bool := flagI W.tail.tail (pb2 W)
def pb4 (W : List ByteArray) : Bool := pb3 W || W.tail.tail.tail.isEmpty
def pb5 (W : List ByteArray) : Bool := manyB W.tail.tail.tail.tail (pb4 W) 3
def pL4 (W : List ByteArray) : List ByteArray := W.tail.tail.tail.tail
def pN (W : List ByteArray) : Nat := (manyN (pL4 W) 3).toNat
def pS (W : List ByteArray) : List Trm × List ByteArray × Bool := scanT (pN W) (pL4 W).tail (pb5 W)
def pb7 (W : List ByteArray) : Bool := manyB (pS W).2.1 (pS W).2.2 5
def pM (W : List ByteArray) : Nat := (manyN (pS W).2.1 5).toNat
def pQ (W : List ByteArray) : List Prr × List ByteArray × Bool := scanQ (pM W) (pS W).2.1.tail (pb7 W)
/-- The progress that is read, and whether the words do not fit. -/
def parseP (W : List ByteArray) : Pgs := ⟨intW (nextW W.tail), intW (nextW W.tail.tail), ⟨nextW W.tail.tail.tail, (pS W).1, (pQ W).1⟩⟩
def parseB (W : List ByteArray) : Bool := (pQ W).2.2
theorem manyN_bd (L : List ByteArray) (k : Nat) (hk : 0 < k) (hl : L.length ≤ 1000000) : ((manyN L k).toNat : Int) = manyN L k ∧ (manyN L k).toNat ≤ L.length := by
  unfold manyN
  by_cases h : manyX L k = true
  · rw [if_pos h]; exact ⟨rfl, Nat.zero_le _⟩
  · rw [if_neg h]
    have h2 : manyX L k = false := by simpa using h
    simp only [manyX, Bool.or_eq_false_iff, decide_eq_false_iff_not] at h2
    have h3 : ((L.tail.length : Int).tdiv k) = ((L.tail.length / k : Nat) : Int) := rfl
    have h4 : L.tail.length / k ≤ L.tail.length := Nat.div_le_self _ _
    have h5 : L.tail.length ≤ L.length := by simp
    generalize L.tail.length / k = q at *
    rw [h3, wrap_in (by omega)] at h2
    omega
structure LnOk (W : List ByteArray) : Prop where
  w : ∀ w ∈ W, SWd w
  n : W.length ≤ 100000
theorem sub_pL4 (W : List ByteArray) : SubW (pL4 W) W := (SubW.refl W).tail.tail.tail.tail
theorem sub_pS {W : List ByteArray} (h : LnOk W) : SubW (pS W).2.1 W := by
  have h1 := (scanT_ok ((sub_pL4 W).tail.ok h.w) (pb5 W) (pN W)).1
  exact ⟨fun w hw => (sub_pL4 W).tail.1 w (h1.1 w hw), Nat.le_trans h1.2 (sub_pL4 W).tail.2⟩
theorem parse_ok2 {W : List ByteArray} (h : LnOk W) : (∀ t ∈ (pS W).1, TOk t) ∧ (pS W).1.length ≤ 100000 ∧ (∀ t ∈ (pQ W).1, QOk t) ∧ (pQ W).1.length ≤ 100000 := by
  have h1 := scanT_ok ((sub_pL4 W).tail.ok h.w) (pb5 W) (pN W)
  have h2 := scanQ_ok ((sub_pS h).tail.ok h.w) (pb7 W) (pM W)
  have hn := manyN_bd (pL4 W) 3 (by decide) (by have := (sub_pL4 W).2; have := h.n; omega)
  have hm := manyN_bd (pS W).2.1 5 (by decide) (by have := (sub_pS h).2; have := h.n; omega)
  have := (sub_pL4 W).2
  have := (sub_pS h).2
  have := h.n
  exact ⟨h1.2.2, by show (scanT _ _ _).1.length ≤ _; rw [h1.2.1]; unfold pN; omega, h2.2.2, by show (scanQ _ _ _).1.length ≤ _; rw [h2.2.1]; unfold pM; omega⟩
theorem itoa_size (n : Int) (h : -9223372036854775808 ≤ n ∧ n ≤ 9223372036854775807) : (itoaT n).size ≤ 21 := by
  have h1 : (itoaT n).size = (Lib.itoa n).length := by simp [itoaT, ByteArray.size]
  have h2 : ∀ u, u < 18446744073709551616 → (Lib.decDigits u).length ≤ 20 := fun u hu => by
    have := fmt_size u hu
    simpa [fmtT, ByteArray.size] using this
  rw [h1, Lib.itoa]
  have := h2 n.natAbs (by omega)
  have := h2 n.toNat (by omega)
  split
  · simp; omega
  · simp; omega
theorem cat_size {c : ByteArray} (h : c.size ≤ 1000) : (catT c).size ≤ 1000 := by
  unfold catT; split
  · decide
  · exact h
/-- The size of words with spaces between. -/
theorem join_size (l : List ByteArray) (h : ∀ w ∈ l, w.size ≤ 1000) : (joinT l).size ≤ 1001 * l.length := by
  have e : (joinT l).size = (Lib.join (l.map (·.data.toList)) [32]).length := by simp [joinT, ByteArray.size]
  rw [e, Lib.join]
  clear e
  induction l with
  | nil => simp [List.intercalate]
  | cons a l ih =>
    have ha : a.data.toList.length ≤ 1000 := by have := h a (by simp); rwa [Lib.size_eq] at this
    have := ih fun w hw => h w (by simp [hw])
    cases l with
    | nil => simp [List.intercalate] at *; omega
    | cons c l =>
      rw [List.map_cons, List.map_cons, List.intercalate_cons_cons]
      simp only [List.length_append, List.length_cons, List.length_nil, List.map_cons] at *
      omega
theorem flat_sizes {α : Type} {f : α → List ByteArray} {l : List α} (h : ∀ a ∈ l, ∀ w ∈ f a, w.size ≤ 1000) : ∀ w ∈ l.flatMap f, w.size ≤ 1000 := fun w hw => by
  obtain ⟨a, ha, hw⟩ := List.mem_flatMap.1 hw
  exact h a ha w hw
/-- A progress with short words. -/
structure PgS (p : Pgs) : Prop where
  j : -9223372036854775808 ≤ p.job ∧ p.job ≤ 9223372036854775807
  d : -9223372036854775808 ≤ p.done ∧ p.done ≤ 9223372036854775807
  n : SWd p.sum.n
  s : ∀ t ∈ p.sum.s, TOk t
  q : ∀ t ∈ p.sum.q, QOk t
  sl : p.sum.s.length ≤ 100000
  ql : p.sum.q.length ≤ 100000
theorem PgS.words {p : Pgs} (h : PgS p) : ∀ w ∈ wordsOf p, w.size ≤ 1000 := by
  have hi : ∀ n : Int, -9223372036854775808 ≤ n ∧ n ≤ 9223372036854775807 → (itoaT n).size ≤ 1000 := fun n hn => by have := itoa_size n hn; omega
  intro w hw
  simp only [wordsOf, wSums, wHead, List.mem_append, List.mem_cons, List.not_mem_nil, or_false] at hw
  have h1 := h.sl
  have h2 := h.ql
  rcases hw with (((rfl | rfl | rfl | rfl) | hw) | rfl) | hw
  · exact hi _ h.j
  · exact hi _ h.d
  · exact h.n.1
  · exact hi _ (by omega)
  · refine flat_sizes (fun t ht w hw => ?_) w hw
    have ht := h.s t ht
    simp only [wT, List.mem_cons, List.not_mem_nil, or_false] at hw
    rcases hw with rfl | rfl | rfl
    · exact hi _ ht.1.1
    · exact cat_size ht.2.2.1
    · exact ht.2.2.2
  · exact hi _ (by omega)
  · refine flat_sizes (fun t ht w hw => ?_) w hw
    have ht := h.q t ht
    simp only [wQ, List.mem_cons, List.not_mem_nil, or_false] at hw
    rcases hw with rfl | rfl | rfl | rfl | rfl
    · exact hi _ ht.1.1
    · exact cat_size ht.2.2.2.1
    · exact hi _ ht.2.1.1
    · exact cat_size ht.2.2.2.2.1
    · exact ht.2.2.2.2.2
theorem words_len (p : Pgs) : (wordsOf p).length = 5 + p.sum.s.length * 3 + p.sum.q.length * 5 := by
  rw [wordsOf, wSums, List.length_append, List.length_append, List.length_append, flat_len wT 3 wT_len, flat_len wQ 5 wQ_len]
  simp only [wHead, List.length_cons, List.length_nil]; omega
theorem PgS.ok {p : Pgs} (h : PgS p) : PgOk p := by
  have hb := join_size (wordsOf p) h.words
  have hl := words_len p
  have h1 := h.sl
  have h2 := h.ql
  refine ⟨⟨h.n.2, fun t ht => ⟨(h.s t ht).1, (h.s t ht).2.1⟩, fun t ht => ⟨(h.q t ht).1, (h.q t ht).2.1, (h.q t ht).2.2.1⟩, h1, h2⟩, h.j, h.d, fun _ => ?_⟩
  show (joinT (wordsOf p)).size ≤ _
  omega
theorem parse_pgs {W : List ByteArray} (h : LnOk W) : PgS (parseP W) := by
  obtain ⟨h1, h2, h3, h4⟩ := parse_ok2 h
  exact ⟨intW_range _, intW_range _, swd_next ((SubW.refl W).tail.tail.tail.ok h.w), h1, h3, h2, h4⟩
end Go.Proofs.YtopjkdddicgajaaGreatDoor
namespace Go.Proofs.YtopjkdddicgajaaGreatDoor
open Go.RowKit Mk
set_option maxRecDepth 100000
set_option maxHeartbeats 4000000
theorem lessP_eq (p q : Par) : lessP p q = (decide (p.f < q.f) || (p.f == q.f && Op.bytesLess p.c.toList q.c.toList)) := by
  rw [lessP, cmpP, orI]
  rcases Int.lt_trichotomy p.f q.f with h | h | h
  · have e : cmpI p.f q.f = -1 := by rw [cmpI, if_pos h]
    rw [e, decide_eq_true h]; rfl
  · have e : cmpI p.f q.f = 0 := by rw [cmpI, if_neg (by omega), if_neg (by omega)]
    have hb : (p.f == q.f) = true := by simpa using h
    have hd : decide (p.f < q.f) = false := decide_eq_false (by omega)
    rw [e, hd, hb, Bool.false_or, Bool.true_and, cmpS]
    by_cases h1 : Op.bytesLess p.c.toList q.c.toList = true
    · rw [if_pos h1, h1]; rfl
    · rw [if_neg h1, (by simpa using h1 : Op.bytesLess p.c.toList q.c.toList = false)]
      split <;> rfl
  · have e : cmpI p.f q.f = 1 := by rw [cmpI, if_neg (by omega), if_pos h]
    have hb : (p.f == q.f) = false := by simp; omega
    have hd : decide (p.f < q.f) = false := decide_eq_false (by omega)
    rw [e, hd, hb]; rfl
theorem less10_spec (p q : Par) : FnP Tryz.prog 92 [.agg (parC p), .agg (parC q)] (· = .bool (lessP p q)) := by
  refine FnP.of Tryz.func92 rfl Tryz.ntmps92 (by simp) fun m0 w0 F R0 => ?_
  have he := lessP_eq p q
  repeat refine AW.seq ?_
  refine AW.region ?_
  iterate 3 refine A1 rfl ?_
  by_cases hlt : p.f < q.f
  · repeat refine AW.seq ?_
    refine AW.region ?_
    iterate 4 refine A1 rfl ?_
    refine RL.step (d := some 9) rfl rfl (XJ.cast (v' := .pv (.bool true)) (xj_bin rfl rfl rfl) (congrArg (fun b => V.pv (.bool b)) (decide_eq_true hlt))) ?_
    iterate 15 refine A1 rfl ?_
    repeat refine AW.seq ?_
    refine AW.ret ?_
    exact ⟨_, _, rfl, rfl, congrArg PV.bool (by rw [he, decide_eq_true hlt]; rfl)⟩
  · repeat refine AW.seq ?_
    refine AW.region ?_
    iterate 4 refine A1 rfl ?_
    refine RL.step (d := some 9) rfl rfl (XJ.cast (v' := .pv (.bool false)) (xj_bin rfl rfl rfl) (congrArg (fun b => V.pv (.bool b)) (decide_eq_false hlt))) ?_
    iterate 7 refine A1 rfl ?_
    apply RL.andB 6 16 22 [17, 18, 19, 20, 21] rfl (by first | exact MonoK.le | exact MonoK.aw | exact MonoK.back)
    · intro hb11
      iterate 6 refine A1 rfl ?_
      exact St.le_fg (fEq.upd (fEq.upd (fEq.upd (fEq.upd (fEq.upd (fEq.upd (fEq.upd (fEq.refl) rfl) rfl) rfl) rfl) rfl) rfl) rfl) rfl rfl rfl
    · intro hb11
      iterate 6 refine A1 rfl ?_
      exact St.le_fg (fEq.upd (fEq.upd (fEq.upd (fEq.upd (fEq.upd (fEq.upd (fEq.upd (fEq.refl) rfl) rfl) rfl) rfl) rfl) rfl) rfl) rfl rfl rfl
    iterate 2 refine A1 rfl ?_
    repeat refine AW.seq ?_
    refine AW.ret ?_
    exact ⟨_, _, rfl, rfl, congrArg PV.bool (by rw [he, decide_eq_false hlt, Bool.false_or])⟩
theorem named10_spec (p : Par) (hs : p.c.size ≤ 1000) : FnP Tryz.prog 91 [.agg (parC p)] (· = .bool (paramOk p)) := by
  refine FnP.of Tryz.func91 rfl Tryz.ntmps91 (by simp) fun m0 w0 F R0 => ?_
  have he := paramOk.eq_1 p
  have hw := rword_spec p.c (by omega)
  repeat refine AW.seq ?_
  refine AW.region ?_
  iterate 2 refine A1 rfl ?_
  by_cases hf : p.f ≥ -1
  · repeat refine AW.seq ?_
    refine AW.region ?_
    iterate 2 refine A1 rfl ?_
    refine RL.step (d := some 5) rfl rfl (XJ.cast (v' := .pv (.bool true)) (xj_bin rfl rfl rfl) (congrArg (fun b => V.pv (.bool b)) (decide_eq_true hf))) ?_
    iterate 5 refine A1 rfl ?_
    apply RL.orB 4 10 14 [11, 12, 13] rfl (by first | exact MonoK.le | exact MonoK.aw | exact MonoK.back)
    · intro hb7
      iterate 4 refine A1 rfl ?_
      exact St.le_fg (fEq.upd (fEq.upd (fEq.upd (fEq.upd (fEq.upd (fEq.refl) rfl) rfl) rfl) rfl) rfl) rfl rfl rfl
    · intro hb7
      iterate 2 refine A1 rfl ?_
      refine RL.stepG (d := some 13) rfl rfl rfl (xj_call Tryz.call129 hw rfl) ?_
      refine A1 rfl ?_
      exact St.le_fg (fEq.upd (fEq.upd (fEq.upd (fEq.upd (fEq.upd (fEq.refl) rfl) rfl) rfl) rfl) rfl) rfl rfl rfl
    iterate 2 refine A1 rfl ?_
    repeat refine AW.seq ?_
    refine AW.ret ?_
    exact ⟨_, _, rfl, rfl, congrArg PV.bool (by rw [he, decide_eq_true hf, Bool.true_and]; rfl)⟩
  · repeat refine AW.seq ?_
    refine AW.region ?_
    iterate 2 refine A1 rfl ?_
    refine RL.step (d := some 5) rfl rfl (XJ.cast (v' := .pv (.bool false)) (xj_bin rfl rfl rfl) (congrArg (fun b => V.pv (.bool b)) (decide_eq_false hf))) ?_
    iterate 11 refine A1 rfl ?_
    repeat refine AW.seq ?_
    refine AW.ret ?_
    exact ⟨_, _, rfl, rfl, congrArg PV.bool (by rw [he, decide_eq_false hf]; rfl)⟩
theorem before10_spec (p q : Prr) : FnP Tryz.prog 93 [.agg (prrC p), .agg (prrC q)] (· = .bool (lessQ p q)) := by
  refine FnP.of Tryz.func93 rfl Tryz.ntmps93 (by simp) fun m0 w0 F R0 => ?_
  have he := lessQ.eq_1 p q
  have h1 := less10_spec p.a q.a
  have h2 := less10_spec p.b q.b
  generalize lessP p.a q.a = b1 at *
  generalize lessP p.b q.b = b2 at *
  repeat refine AW.seq ?_
  refine AW.region ?_
  iterate 3 refine A1 rfl ?_
  by_cases hb : b1 = true
  · subst hb
    repeat refine AW.seq ?_
    refine AW.region ?_
    iterate 4 refine A1 rfl ?_
    refine RL.step (d := some 9) rfl rfl (xj_call Tryz.call92 h1 rfl) ?_
    iterate 15 refine A1 rfl ?_
    repeat refine AW.seq ?_
    refine AW.ret ?_
    exact ⟨_, _, rfl, rfl, congrArg PV.bool (by rw [he]; rfl)⟩
  · obtain rfl : b1 = false := eq_false_of_ne_true hb
    repeat refine AW.seq ?_
    refine AW.region ?_
    iterate 4 refine A1 rfl ?_
    refine RL.step (d := some 9) rfl rfl (xj_call Tryz.call92 h1 rfl) ?_
    iterate 5 refine A1 rfl ?_
    refine RL.stepG (d := some 15) rfl rfl rfl (xj_eqPar (p := p.a) (q := q.a) rfl rfl rfl) ?_
    refine A1 rfl ?_
    apply RL.andB 6 16 22 [17, 18, 19, 20, 21] rfl (by first | exact MonoK.le | exact MonoK.aw | exact MonoK.back)
    · intro hb11
      iterate 4 refine A1 rfl ?_
      refine RL.stepG (d := some 21) rfl rfl rfl (xj_call Tryz.call92 h2 rfl) ?_
      refine A1 rfl ?_
      exact St.le_fg (fEq.upd (fEq.upd (fEq.upd (fEq.upd (fEq.upd (fEq.upd (fEq.upd (fEq.refl) rfl) rfl) rfl) rfl) rfl) rfl) rfl) rfl rfl rfl
    · intro hb11
      iterate 6 refine A1 rfl ?_
      exact St.le_fg (fEq.upd (fEq.upd (fEq.upd (fEq.upd (fEq.upd (fEq.upd (fEq.upd (fEq.refl) rfl) rfl) rfl) rfl) rfl) rfl) rfl) rfl rfl rfl
    iterate 2 refine A1 rfl ?_
    repeat refine AW.seq ?_
    refine AW.ret ?_
    exact ⟨_, _, rfl, rfl, congrArg PV.bool (by rw [he]; rfl)⟩
theorem cat40_spec (c : ByteArray) : FnP Tryz.prog 63 [.str c] (· = .str (catT c)) := by
  refine FnP.of Tryz.func63 rfl Tryz.ntmps63 (by simp) fun m0 w0 F R0 => ?_
  repeat refine AW.seq ?_
  refine AW.region ?_
  refine A1 rfl ?_
  repeat refine AW.seq ?_
  refine AW.region ?_
  iterate 2 refine A1 rfl ?_
  repeat refine AW.seq ?_
  refine AW.cond rfl (fun hc4 => ?_) (fun hc4 => ?_)
  · repeat refine AW.seq ?_
    refine AW.region ?_
    refine A1 rfl ?_
    repeat refine AW.seq ?_
    refine AW.ret ?_
    exact ⟨_, _, rfl, rfl, by rw [catT, if_pos (show (c.toList == emptyT.toList) = true from hc4)]; rfl⟩
  · refine AW.skip ?_
    repeat refine AW.seq ?_
    refine AW.region ?_
    iterate 2 refine A1 rfl ?_
    repeat refine AW.seq ?_
    refine AW.ret ?_
    exact ⟨_, _, rfl, rfl, by rw [catT, if_neg (show ¬ (c.toList == emptyT.toList) = true from by intro e; rw [show (c.toList == emptyT.toList) = false from hc4] at e; cases e)]; rfl⟩
theorem dec40_spec (n : Int) (h : -9223372036854775808 ≤ n ∧ n ≤ 9223372036854775807) : FnP Tryz.prog 62 [.int .i64 n] (· = .str (itoaT n)) := by
  refine FnP.of Tryz.func62 rfl Tryz.ntmps62 (by simp) fun m0 w0 F R0 => ?_
  repeat refine AW.seq ?_
  refine AW.region ?_
  refine A1 rfl ?_
  repeat refine AW.seq ?_
  refine AW.region ?_
  refine A1 rfl ?_
  refine RL.step (d := some 4) rfl rfl (xj_call Tryz.call94 (rwhole_spec n h.1 h.2) rfl) ?_
  refine A1 rfl ?_
  repeat refine AW.seq ?_
  refine AW.ret ?_
  exact ⟨_, _, rfl, rfl, rfl⟩
theorem hash26_spec (l : List UInt8) (b : Option Bool) (hl : l.length ≤ 1000000000) : FnP Tryz.prog 32 [.sl b l.length (bytesP l)] (· = .int .u64 (hashN l : Int)) := by
  refine FnP.of Tryz.func32 rfl Tryz.ntmps32 (by simp) fun m0 w0 F R0 => ?_
  repeat refine AW.seq ?_
  refine AW.region ?_
  refine A1 rfl ?_
  have h00 := congrArg (fun i : Int => V.pv (.int .u64 i)) (hash0_cast.trans (congrArg (fun n : Nat => (n : Int)) (hash_none l)))
  repeat refine AW.seq ?_
  refine AW.region ?_
  refine RL.step (d := some 3) rfl rfl (XJ.cast (v' := .pv (.int .u64 (hashN (l.take 0) : Int))) xj_assign h00) ?_
  repeat refine AW.seq ?_
  refine AW.region ?_
  iterate 3 refine A1 rfl ?_
  repeat refine AW.seq ?_
  refine AW.block ?_
  repeat refine AW.seq ?_
  refine AW.loop (st := fun x_0 : Nat => mkS [(3, .pv (.int .u64 (hashN (l.take x_0) : Int))), (6, .pv (.sl b l.length (bytesP l))), (7, .pv (.int .i64 l.length)), (8, .pv (.int .i64 x_0))] [] 0)
    (I := fun x_0 => x_0 ≤ l.length) (μ := fun x_0 => l.length - x_0) (x0 := (0)) (St.le_mk ⟨rfl, rfl, rfl, rfl, trivial⟩ trivial rfl rfl) (Nat.zero_le _) ?_
  rintro k hk
  repeat refine AW.seq ?_
  refine AW.region ?_
  refine A1 rfl ?_
  repeat refine AW.seq ?_
  refine AW.condP rfl (fun hc9 => ?_) (fun hc9 => ?_)
  · have hlt : k < l.length := by omega
    have hv := bytesP_at hlt
    have hne := bytesP_ne hlt
    have hs := congrArg (fun n : Nat => V.pv (.int .u64 (n : Int))) (hash_snoc hlt).symm
    have hcs := congrArg (fun i : Int => V.pv (.int .u64 i)) (hstep_cast (hashN (l.take k)) l[k])
    refine AW.skip ?_
    repeat refine AW.seq ?_
    refine AW.block ?_
    repeat refine AW.seq ?_
    refine AW.region ?_
    refine A1 rfl ?_
    first | refine A2 rfl (by assumption) ?_ | refine A1 rfl ?_
    refine A1 rfl ?_
    repeat refine AW.seq ?_
    refine AW.region ?_
    iterate 2 refine A1 rfl ?_
    refine RL.step (d := some 14) rfl rfl (xj_conv Tryz.underlying5 Tryz.underlying54 rfl) ?_
    refine RL.step (d := some 15) rfl rfl (xj_bin rfl rfl rfl) ?_
    refine RL.step (d := some 16) rfl rfl (XJ.cast (v' := .pv (.int .u64 (hashN (l.take (k + 1)) : Int))) (xj_bin rfl rfl rfl) (hcs.trans hs)) ?_
    refine A1 rfl ?_
    repeat refine AW.seq ?_
    refine AW.region ?_
    iterate 2 refine A1 rfl ?_
    exact ⟨(k + 1), St.le_mk ⟨rfl, rfl, rfl, rfl, trivial⟩ trivial rfl rfl, by omega, by omega⟩
  · have hke : l.take k = l := List.take_of_length_le (by omega)
    repeat refine AW.seq ?_
    refine AW.exit ?_
    repeat refine AW.seq ?_
    refine AW.region ?_
    iterate 2 refine A1 rfl ?_
    repeat refine AW.seq ?_
    refine AW.ret ?_
    exact ⟨_, _, rfl, rfl, congrArg (fun l => PV.int .u64 (hashN l : Int)) hke⟩
theorem fmtT_small {n : Nat} (h : n < 10) : fmtT n = ⟨#[UInt8.ofNat (48 + n)]⟩ := by rw [fmtT, Lib.decDigits, dif_pos h]
theorem fmtT_step {n : Nat} (h : ¬ n < 10) : fmtT n = fmtT (n / 10) ++ ⟨#[UInt8.ofNat (48 + n % 10)]⟩ := by
  have e2 : Lib.decDigits n = Lib.decDigits (n / 10) ++ [UInt8.ofNat (48 + n % 10)] := by
    conv => lhs; rw [Lib.decDigits]
    rw [dif_neg h]
  apply ByteArray.ext
  apply Array.ext'
  simp [fmtT, e2]
theorem uns_step (n : Nat) (hn : n < 18446744073709551616) (ih : ¬ n < 10 → FnP Tryz.prog 31 [.int .u64 ((n / 10 : Nat) : Int)] (· = .str (fmtT (n / 10)))) : FnP Tryz.prog 31 [.int .u64 (n : Int)] (· = .str (fmtT n)) := by
  refine FnP.of Tryz.func31 rfl Tryz.ntmps31 (by simp) fun m0 w0 F R0 => ?_
  have hs1 := fmtT_small (n := n)
  have hs2 := fmtT_step (n := n)
  have hsz := fmt_size (n / 10) (by omega)
  generalize fmtT n = T at *
  generalize fmtT (n / 10) = T1 at *
  have hone : ∀ d, d < 10 → bytesP [UInt8.ofNat (48 + d)] = [.int .u8 ((48 + d : Nat) : Int)] := fun d hd => by
    simp only [bytesP, List.map_cons, List.map_nil]
    congr 2
    have : (UInt8.ofNat (48 + d)).toNat = 48 + d := by simp; omega
    rw [this]
  repeat refine AW.seq ?_
  refine AW.region ?_
  refine A1 rfl ?_
  repeat refine AW.seq ?_
  refine AW.region ?_
  iterate 2 refine A1 rfl ?_
  repeat refine AW.seq ?_
  refine AW.condP rfl (fun hc4 => ?_) (fun hc4 => ?_)
  · have hn10 : n < 10 := by omega
    repeat refine AW.seq ?_
    refine AW.region ?_
    refine A1 rfl ?_
    refine RL.step (d := some 6) rfl rfl (xj_addN (a := 48) rfl rfl (by omega)) ?_
    refine RL.step (d := some 7) rfl rfl (XJ.cast (v' := .pv (.int .u8 ((48 + n : Nat) : Int))) (xj_conv Tryz.underlying54 Tryz.underlying5 rfl) (congrArg (fun i => V.pv (.int .u8 i)) (by show ((48 + n : Nat) : Int) % 256 = _; omega))) ?_
    refine A1 rfl ?_
    refine RL.step (d := some 9) rfl rfl (xj_toS [UInt8.ofNat (48 + n)] Tryz.underlying56 Tryz.underlying5 Tryz.underlying9 (.inr ⟨_, _, _, _, rfl, rfl, by rw [hone n hn10]; rfl⟩)) ?_
    refine A1 rfl ?_
    repeat refine AW.seq ?_
    refine AW.ret ?_
    exact ⟨_, _, rfl, rfl, by rw [hs1 hn10]; rfl⟩
  · have hn10 : ¬ n < 10 := by omega
    have ih := ih hn10
    refine AW.skip ?_
    repeat refine AW.seq ?_
    refine AW.draw follows [[], [0], [1, 0], [], [3], [4, 3], [5, 4, 3], [6, 5, 4, 3], [7, 6, 5, 4, 3], [8, 2, 1, 0, 7, 6, 5, 4, 3], [9, 8, 2, 1, 0, 7, 6, 5, 4, 3]] [0, 1, 2, 3, 4, 5, 6, 7, 8, 9, 10] (by kernel_rfl) (by kernel_rfl) ?_
    refine D1 rfl rfl ?_
    refine DL.step (d := some 11) [] rfl rfl rfl (fun τ h => xj_quoN (b := 10) ((h.e 0 _ rfl).trans rfl) ((h.e 1 _ rfl).trans rfl) (by omega)) rfl (by kernel_rfl) ?_
    refine DL.step (d := some 12) [] rfl rfl rfl (fun τ h => xj_call Tryz.call31 ih (h.argsP rfl)) rfl (by kernel_rfl) ?_
    refine D1 rfl rfl ?_
    refine DL.step (d := some 14) [] rfl rfl rfl (fun τ h => xj_remN (b := 10) ((h.e 0 _ rfl).trans rfl) ((h.e 1 _ rfl).trans rfl) (by omega)) rfl (by kernel_rfl) ?_
    refine DL.step (d := some 15) [] rfl rfl rfl (fun τ h => xj_addN (a := 48) ((h.e 0 _ rfl).trans rfl) ((h.e 1 _ rfl).trans rfl) (by omega)) rfl (by kernel_rfl) ?_
    refine DL.step (d := some 16) [] rfl rfl rfl (fun τ h => XJ.cast (v' := .pv (.int .u8 ((48 + n % 10 : Nat) : Int))) (xj_conv Tryz.underlying54 Tryz.underlying5 ((h.e 0 _ rfl).trans rfl)) (congrArg (fun i => V.pv (.int .u8 i)) (by show ((48 + n % 10 : Nat) : Int) % 256 = _; omega))) rfl (by kernel_rfl) ?_
    refine D1 rfl rfl ?_
    refine DL.step (d := some 18) [_] rfl rfl rfl (fun τ h => xj_toS [UInt8.ofNat (48 + n % 10)] Tryz.underlying56 Tryz.underlying5 Tryz.underlying9 (.inr ⟨_, _, _, _, ((h.e 0 _ rfl).trans rfl), ((h.o 0 _ rfl).trans rfl), by rw [hone (n % 10) (by omega)]; rfl⟩)) rfl (by kernel_rfl) ?_
    refine DL.step (d := some 19) [] rfl rfl rfl (fun τ h => xj_cat ((h.e 0 _ rfl).trans rfl) ((h.e 1 _ rfl).trans rfl) (by have e1 : (⟨[UInt8.ofNat (48 + n % 10)].toArray⟩ : ByteArray).size = 1 := rfl; omega)) rfl (by kernel_rfl) ?_
    refine D1 rfl rfl ?_
    refine ⟨by kernel_rfl, ?_⟩
    repeat refine AW.seq ?_
    refine AW.ret ?_
    exact ⟨_, _, rfl, rfl, by rw [hs2 hn10]; rfl⟩
theorem uns_spec (n : Nat) (hn : n < 18446744073709551616) : FnP Tryz.prog 31 [.int .u64 (n : Int)] (· = .str (fmtT n)) := by
  induction n using Nat.strongRecOn with
  | ind n ih => exact uns_step n hn fun h => ih (n / 10) (by omega) (by omega)
end Go.Proofs.YtopjkdddicgajaaGreatDoor
namespace Go.Proofs.YtopjkdddicgajaaGreatDoor
open Go.RowKit Mk
set_option maxRecDepth 100000
set_option maxHeartbeats 4000000
theorem cval_noN {c : Cof} (h : rvalid c.n = false) : cvalid c = false := by rw [cvalid, h]; rfl
theorem cval_badS {c : Cof} {i : Nat} (hi : i < c.s.length) (h : badT c.s[i] = true) : cvalid c = false := by
  have : c.s.any badT = true := List.any_eq_true.2 ⟨_, List.getElem_mem hi, h⟩
  rw [cvalid, this]; simp
theorem cval_ascS {c : Cof} {i : Nat} (hi : i + 1 < c.s.length) (h : lessT c.s[i] c.s[i + 1] = false) : cvalid c = false := by
  rw [cvalid, ascL_no hi h]; simp
theorem cval_badQ {c : Cof} {i : Nat} (hi : i < c.q.length) (h : badQ c.q[i] = true) : cvalid c = false := by
  have : c.q.any badQ = true := List.any_eq_true.2 ⟨_, List.getElem_mem hi, h⟩
  rw [cvalid, this]; simp
theorem cval_ascQ {c : Cof} {i : Nat} (hi : i + 1 < c.q.length) (h : lessQ c.q[i] c.q[i + 1] = false) : cvalid c = false := by
  rw [cvalid, ascL_no hi h]; simp
theorem cval_yes {c : Cof} (h0 : rvalid c.n = true) (h1 : ∀ (j : Nat) (h : j < c.s.length), badT c.s[j] = false) (h2 : ∀ (j : Nat) (h : j + 1 < c.s.length), lessT c.s[j] c.s[j + 1] = true)
    (h3 : ∀ (j : Nat) (h : j < c.q.length), badQ c.q[j] = false) (h4 : ∀ (j : Nat) (h : j + 1 < c.q.length), lessQ c.q[j] c.q[j + 1] = true) : cvalid c = true := by
  have a1 : c.s.any badT = false := by
    rw [List.any_eq_false]; intro x hx; obtain ⟨j, hj, rfl⟩ := List.getElem_of_mem hx; rw [h1 j hj]; decide
  have a2 : c.q.any badQ = false := by
    rw [List.any_eq_false]; intro x hx; obtain ⟨j, hj, rfl⟩ := List.getElem_of_mem hx; rw [h3 j hj]; decide
  rw [cvalid, h0, a1, a2, ascL_iff.2 h2, ascL_iff.2 h4]; rfl
/-- Lengths of words that are read. -/
structure CSz (c : Cof) : Prop where
  n : c.n.size ≤ 1000
  s : ∀ t ∈ c.s, t.p.c.size ≤ 1000 ∧ t.v.size ≤ 1000
  q : ∀ t ∈ c.q, t.a.c.size ≤ 1000 ∧ t.b.c.size ≤ 1000 ∧ t.v.size ≤ 1000
  sl : c.s.length ≤ 100000
  ql : c.q.length ≤ 100000
theorem val10_spec (c : Cof) (h : CSz c) : FnP Tryz.prog 61 [.agg (cofC c)] (· = .bool (cvalid c)) := by
  refine FnP.of Tryz.func61 rfl Tryz.ntmps61 (by simp) fun m0 w0 F R0 => ?_
  obtain ⟨v, hv⟩ : ∃ v, v = cvalid c := ⟨_, rfl⟩
  have hn0 := rval_spec c.n (by have := h.n; omega)
  have hsl := h.sl
  have hql := h.ql
  have k0 := @cval_noN c
  have k1 := @cval_badS c
  have k2 := @cval_ascS c
  have k3 := @cval_badQ c
  have k4 := @cval_ascQ c
  have k5 := @cval_yes c
  rw [← hv] at k0 k1 k2 k3 k4 k5 ⊢
  clear hv
  generalize rvalid c.n = bn at *
  repeat refine AW.seq ?_
  refine AW.region ?_
  iterate 2 refine A1 rfl ?_
  repeat refine AW.seq ?_
  refine AW.region ?_
  iterate 2 refine A1 rfl ?_
  refine RL.step (d := some 9) rfl rfl (xj_call Tryz.call90 hn0 rfl) ?_
  refine A1 rfl ?_
  repeat refine AW.seq ?_
  refine AW.cond rfl (fun hc10 => ?_) (fun hc10 => ?_)
  · repeat refine AW.seq ?_
    refine AW.region ?_
    refine A1 rfl ?_
    repeat refine AW.seq ?_
    refine AW.ret ?_
    exact ⟨_, _, rfl, rfl, congrArg PV.bool (k0 (by simpa using hc10)).symm⟩
  · refine AW.skip ?_
    repeat refine AW.seq ?_
    refine AW.region ?_
    iterate 4 refine A1 rfl ?_
    repeat refine AW.seq ?_
    refine AW.block ?_
    repeat refine AW.seq ?_
    refine AW.loop (st := fun x_0 : Nat => mkS [(1, .ptr 0 0), (12, .pv (.sl none c.s.length (trmsC c.s))), (13, .pv (.int .i64 c.s.length)), (14, .pv (.int .i64 x_0))] [(0, .mix 31 [.pv (.str c.n), .pv (.sl none c.s.length (trmsC c.s)), .pv (.sl none c.q.length (prrsC c.q))])] 1)
      (I := fun x_0 => x_0 ≤ c.s.length ∧ (∀ (j : Nat) (h : j < c.s.length), j < x_0 → badT c.s[j] = false) ∧ ∀ (j : Nat) (h : j + 1 < c.s.length), j + 1 < x_0 → lessT c.s[j] c.s[j + 1] = true) (μ := fun x_0 => c.s.length - x_0) (x0 := (0)) (St.le_mk ⟨rfl, rfl, rfl, rfl, trivial⟩ ⟨rfl, trivial⟩ rfl rfl) (⟨Nat.zero_le _, fun _ _ h => absurd h (Nat.not_lt_zero _), fun _ _ h => absurd h (Nat.not_lt_zero _)⟩) ?_
    rintro i ⟨hi, hb, ha⟩
    repeat refine AW.seq ?_
    refine AW.region ?_
    refine A1 rfl ?_
    repeat refine AW.seq ?_
    refine AW.condP rfl (fun hc15 => ?_) (fun hc15 => ?_)
    · have hil : i < c.s.length := by omega
      have hrow := trm_row hil
      have hne := trm_ne hil
      have hsz := h.s _ (List.getElem_mem hil)
      have hprev : 0 < i → ∃ t', (((trmsC c.s).drop ((i - 1) * 3)).take 2 = parC t'.p) ∧ (lessT t' c.s[i] = false → v = false) ∧ (lessT t' c.s[i] = true → ∀ (j : Nat) (h : j + 1 < c.s.length), j + 1 < i + 1 → lessT c.s[j] c.s[j + 1] = true) := fun h0 => by
        obtain ⟨i', rfl⟩ : ∃ i', i = i' + 1 := ⟨i - 1, by omega⟩
        refine ⟨c.s[i']'(by omega), ?_, fun e => k2 hil e, fun e j hj hji => ?_⟩
        · have := trm_row (l := c.s) (k := i') (by omega)
          rw [Nat.add_sub_cancel]
          have e2 := congrArg (List.take 2) this
          rw [List.take_take] at e2
          exact e2
        · rcases Nat.lt_succ_iff_lt_or_eq.1 hji with h1 | h1
          · exact ha j hj h1
          · obtain rfl : j = i' := by omega
            exact e
      have hno := k1 hil
      have hyes : badT c.s[i] = false → ∀ (j : Nat) (h : j < c.s.length), j < i + 1 → badT c.s[j] = false := fun e j hj hji => by
        rcases Nat.lt_succ_iff_lt_or_eq.1 hji with h1 | h1
        · exact hb j hj h1
        · subst h1; exact e
      have hfirst : i = 0 → ∀ (j : Nat) (h : j + 1 < c.s.length), j + 1 < i + 1 → lessT c.s[j] c.s[j + 1] = true := fun e j hj hji => by omega
      refine AW.skip ?_
      repeat refine AW.seq ?_
      refine AW.block ?_
      repeat refine AW.seq ?_
      refine AW.region ?_
      iterate 2 refine A1 rfl ?_
      first | refine A3 rfl (by assumption) ?_ | refine A1 rfl ?_
      iterate 3 refine A1 rfl ?_
      generalize c.s[i] = t at *
      have hbt := badT.eq_1 t
      rw [entryOk] at hbt
      have hn1 := named10_spec t.p hsz.1
      have hr1 := rval_spec t.v (by omega)
      obtain ⟨b3, hb3⟩ : ∃ b, b = (t.v.toList == zeroT.toList) := ⟨_, rfl⟩
      rw [← hb3] at hbt
      generalize badT t = bt at *
      generalize paramOk t.p = b1 at *
      generalize rvalid t.v = b2 at *
      by_cases h1 : b1 = true
      · by_cases h2 : b2 = true
        · by_cases h3 : b3 = true
          · subst h1 h2 h3
            repeat refine AW.seq ?_
            refine AW.draw follows [[], [0], [1, 0], [2, 1, 0], [3, 2, 1, 0], [4, 3, 2, 1, 0], [5, 4, 3, 2, 1, 0], [6, 5, 4, 3, 2, 1, 0], [7, 6, 5, 4, 3, 2, 1, 0], [8, 4, 3, 2, 1, 0, 7, 6, 5], [9, 8, 4, 3, 2, 1, 0, 7, 6, 5], [10, 9, 8, 4, 3, 2, 1, 0, 7, 6, 5], [11, 10, 9, 8, 4, 3, 2, 1, 0, 7, 6, 5], [12, 11, 10, 9, 8, 4, 3, 2, 1, 0, 7, 6, 5], [13, 10, 9, 8, 4, 3, 2, 1, 0, 7, 6, 5, 12, 11], [14, 13, 10, 9, 8, 4, 3, 2, 1, 0, 7, 6, 5, 12, 11], [15, 14, 13, 10, 9, 8, 4, 3, 2, 1, 0, 7, 6, 5, 12, 11], [16, 15, 14, 13, 10, 9, 8, 4, 3, 2, 1, 0, 7, 6, 5, 12, 11], [17, 16, 15, 14, 13, 10, 9, 8, 4, 3, 2, 1, 0, 7, 6, 5, 12, 11], [18, 17, 16, 15, 14, 13, 10, 9, 8, 4, 3, 2, 1, 0, 7, 6, 5, 12, 11], [19, 18, 17, 16, 15, 14, 13, 10, 9, 8, 4, 3, 2, 1, 0, 7, 6, 5, 12, 11], [18, 17, 16, 15, 14, 13, 10, 9, 8, 4, 3, 2, 1, 0, 7, 6, 5, 12, 11], [21, 18, 17, 16, 15, 14, 13, 10, 9, 8, 4, 3, 2, 1, 0, 7, 6, 5, 12, 11], [22, 20, 19, 18, 17, 16, 15, 14, 13, 10, 9, 8, 4, 3, 2, 1, 0, 7, 6, 5, 12, 11, 21], [23, 22, 20, 19, 18, 17, 16, 15, 14, 13, 10, 9, 8, 4, 3, 2, 1, 0, 7, 6, 5, 12, 11, 21], [24, 23, 22, 20, 19, 18, 17, 16, 15, 14, 13, 10, 9, 8, 4, 3, 2, 1, 0, 7, 6, 5, 12, 11, 21], [18, 17, 16, 15, 14, 13, 10, 9, 8, 4, 3, 2, 1, 0, 7, 6, 5, 12, 11], [26, 18, 17, 16, 15, 14, 13, 10, 9, 8, 4, 3, 2, 1, 0, 7, 6, 5, 12, 11], [27, 25, 24, 23, 22, 20, 19, 18, 17, 16, 15, 14, 13, 10, 9, 8, 4, 3, 2, 1, 0, 7, 6, 5, 12, 11, 21, 26], [28, 27, 25, 24, 23, 22, 20, 19, 18, 17, 16, 15, 14, 13, 10, 9, 8, 4, 3, 2, 1, 0, 7, 6, 5, 12, 11, 21, 26], [29, 18, 17, 16, 15, 14, 13, 10, 9, 8, 4, 3, 2, 1, 0, 7, 6, 5, 12, 11, 28, 27, 25, 24, 23, 22, 20, 19, 21, 26], [30, 15, 14, 13, 10, 9, 8, 4, 3, 2, 1, 0, 7, 6, 5, 12, 11, 29, 18, 17, 16, 28, 27, 25, 24, 23, 22, 20, 19, 21, 26]] [0, 1, 2, 3, 4, 5, 6, 7, 8, 9, 10, 11, 12, 13, 14, 15, 16, 17, 18, 19, 20, 21, 22, 23, 24, 25, 26, 27, 28, 29, 30, 31] (by kernel_rfl) (by kernel_rfl) ?_
            iterate 2 refine D1 rfl rfl ?_
            refine DL.step (d := some 21) [] rfl rfl rfl (fun τ h => xj_call Tryz.call91 hn1 (h.argsP rfl)) rfl (by kernel_rfl) ?_
            iterate 4 refine D1 rfl rfl ?_
            refine DL.stepG (d := some 26) [] rfl rfl rfl rfl (fun τ h => xj_call Tryz.call90 hr1 (h.argsP rfl)) rfl (by kernel_rfl) ?_
            iterate 5 refine D1 rfl rfl ?_
            refine DL.stepG (d := some 32) [] rfl rfl rfl rfl (fun τ h => XJ.cast (v' := .pv (.bool true)) (xj_binS ((h.e 0 _ rfl).trans rfl) ((h.e 1 _ rfl).trans rfl) rfl) (congrArg (fun b => V.pv (.bool b)) hb3.symm)) rfl (by kernel_rfl) ?_
            iterate 18 refine D1 rfl rfl ?_
            refine ⟨by kernel_rfl, ?_⟩
            repeat refine AW.seq ?_
            refine AW.cond rfl (fun hc50 => ?_) (fun hc50 => absurd hc50 (by simp))
            repeat refine AW.seq ?_
            refine AW.region ?_
            refine A1 rfl ?_
            repeat refine AW.seq ?_
            refine AW.ret ?_
            exact ⟨_, _, rfl, rfl, congrArg PV.bool (hno (by rw [hbt]; rfl)).symm⟩
          · by_cases h4 : 0 < i
            · subst h1 h2
              obtain rfl : b3 = false := eq_false_of_ne_true h3
              obtain ⟨t', hr2, hls1, hls2⟩ := hprev h4
              have hi1 : i - 1 < c.s.length := by omega
              have hls := less10_spec t'.p t.p
              rw [lessT] at hls1 hls2
              generalize lessP t'.p t.p = b5 at *
              repeat refine AW.seq ?_
              refine AW.draw follows [[], [0], [1, 0], [2, 1, 0], [3, 2, 1, 0], [4, 3, 2, 1, 0], [5, 4, 3, 2, 1, 0], [6, 5, 4, 3, 2, 1, 0], [7, 6, 5, 4, 3, 2, 1, 0], [8, 4, 3, 2, 1, 0, 7, 6, 5], [9, 8, 4, 3, 2, 1, 0, 7, 6, 5], [10, 9, 8, 4, 3, 2, 1, 0, 7, 6, 5], [11, 10, 9, 8, 4, 3, 2, 1, 0, 7, 6, 5], [12, 11, 10, 9, 8, 4, 3, 2, 1, 0, 7, 6, 5], [13, 10, 9, 8, 4, 3, 2, 1, 0, 7, 6, 5, 12, 11], [14, 13, 10, 9, 8, 4, 3, 2, 1, 0, 7, 6, 5, 12, 11], [15, 14, 13, 10, 9, 8, 4, 3, 2, 1, 0, 7, 6, 5, 12, 11], [16, 15, 14, 13, 10, 9, 8, 4, 3, 2, 1, 0, 7, 6, 5, 12, 11], [17, 16, 15, 14, 13, 10, 9, 8, 4, 3, 2, 1, 0, 7, 6, 5, 12, 11], [18, 17, 16, 15, 14, 13, 10, 9, 8, 4, 3, 2, 1, 0, 7, 6, 5, 12, 11], [19, 18, 17, 16, 15, 14, 13, 10, 9, 8, 4, 3, 2, 1, 0, 7, 6, 5, 12, 11], [18, 17, 16, 15, 14, 13, 10, 9, 8, 4, 3, 2, 1, 0, 7, 6, 5, 12, 11], [21, 18, 17, 16, 15, 14, 13, 10, 9, 8, 4, 3, 2, 1, 0, 7, 6, 5, 12, 11], [22, 20, 19, 18, 17, 16, 15, 14, 13, 10, 9, 8, 4, 3, 2, 1, 0, 7, 6, 5, 12, 11, 21], [23, 22, 20, 19, 18, 17, 16, 15, 14, 13, 10, 9, 8, 4, 3, 2, 1, 0, 7, 6, 5, 12, 11, 21], [24, 23, 22, 20, 19, 18, 17, 16, 15, 14, 13, 10, 9, 8, 4, 3, 2, 1, 0, 7, 6, 5, 12, 11, 21], [18, 17, 16, 15, 14, 13, 10, 9, 8, 4, 3, 2, 1, 0, 7, 6, 5, 12, 11], [26, 18, 17, 16, 15, 14, 13, 10, 9, 8, 4, 3, 2, 1, 0, 7, 6, 5, 12, 11], [27, 25, 24, 23, 22, 20, 19, 18, 17, 16, 15, 14, 13, 10, 9, 8, 4, 3, 2, 1, 0, 7, 6, 5, 12, 11, 21, 26], [28, 27, 25, 24, 23, 22, 20, 19, 18, 17, 16, 15, 14, 13, 10, 9, 8, 4, 3, 2, 1, 0, 7, 6, 5, 12, 11, 21, 26], [29, 18, 17, 16, 15, 14, 13, 10, 9, 8, 4, 3, 2, 1, 0, 7, 6, 5, 12, 11, 28, 27, 25, 24, 23, 22, 20, 19, 21, 26], [30, 15, 14, 13, 10, 9, 8, 4, 3, 2, 1, 0, 7, 6, 5, 12, 11, 29, 18, 17, 16, 28, 27, 25, 24, 23, 22, 20, 19, 21, 26]] [0, 1, 2, 3, 4, 5, 6, 7, 8, 9, 10, 11, 12, 13, 14, 15, 16, 17, 18, 19, 20, 21, 22, 23, 24, 25, 26, 27, 28, 29, 30, 31] (by kernel_rfl) (by kernel_rfl) ?_
              iterate 2 refine D1 rfl rfl ?_
              refine DL.step (d := some 21) [] rfl rfl rfl (fun τ h => xj_call Tryz.call91 hn1 (h.argsP rfl)) rfl (by kernel_rfl) ?_
              iterate 4 refine D1 rfl rfl ?_
              refine DL.stepG (d := some 26) [] rfl rfl rfl rfl (fun τ h => xj_call Tryz.call90 hr1 (h.argsP rfl)) rfl (by kernel_rfl) ?_
              iterate 5 refine D1 rfl rfl ?_
              refine DL.stepG (d := some 32) [] rfl rfl rfl rfl (fun τ h => XJ.cast (v' := .pv (.bool false)) (xj_binS ((h.e 0 _ rfl).trans rfl) ((h.e 1 _ rfl).trans rfl) rfl) (congrArg (fun b => V.pv (.bool b)) hb3.symm)) rfl (by kernel_rfl) ?_
              iterate 3 refine D1 rfl rfl ?_
              refine DL.stepG (d := some 36) [] rfl rfl rfl rfl (fun τ h => XJ.cast (v' := .pv (.bool true)) (xj_bin ((h.e 0 _ rfl).trans rfl) ((h.e 1 _ rfl).trans rfl) rfl) (congrArg (fun b => V.pv (.bool b)) (decide_eq_true (by omega)))) rfl (by kernel_rfl) ?_
              iterate 5 refine D1 rfl rfl ?_
              refine DL.stepG (d := some 42) [] rfl rfl rfl rfl (fun τ h => xj_indexAddr (i - 1) Tryz.underlying28 sz70 ((h.e 0 _ rfl).trans rfl) ((h.e 1 _ rfl).trans rfl) (by omega) hi1 hne) rfl (by kernel_rfl) ?_
              refine D1 rfl rfl ?_
              refine DL.stepG (d := some 44) [] rfl rfl rfl rfl (fun τ h => xj_loadAR ⟨_, Tryz.underlying66, rfl⟩ sz66 ((h.e 0 _ rfl).trans rfl) hr2 rfl) rfl (by kernel_rfl) ?_
              iterate 2 refine D1 rfl rfl ?_
              refine DL.stepG (d := some 47) [] rfl rfl rfl rfl (fun τ h => xj_call Tryz.call92 hls (h.argsP rfl)) rfl (by kernel_rfl) ?_
              iterate 3 refine D1 rfl rfl ?_
              refine ⟨by kernel_rfl, ?_⟩
              repeat refine AW.seq ?_
              refine AW.cond rfl (fun hc50 => ?_) (fun hc50 => ?_)
              · repeat refine AW.seq ?_
                refine AW.region ?_
                refine A1 rfl ?_
                repeat refine AW.seq ?_
                refine AW.ret ?_
                exact ⟨_, _, rfl, rfl, congrArg PV.bool (hls1 (by simpa using hc50)).symm⟩
              · refine AW.skip ?_
                repeat refine AW.seq ?_
                refine AW.region ?_
                iterate 2 refine A1 rfl ?_
                exact ⟨(i + 1), St.le_mk ⟨rfl, rfl, rfl, rfl, trivial⟩ ⟨rfl, trivial⟩ rfl rfl, ⟨by omega, hyes (by rw [hbt]; rfl), hls2 (by simpa using hc50)⟩, by omega⟩
            · subst h1 h2
              obtain rfl : b3 = false := eq_false_of_ne_true h3
              repeat refine AW.seq ?_
              refine AW.draw follows [[], [0], [1, 0], [2, 1, 0], [3, 2, 1, 0], [4, 3, 2, 1, 0], [5, 4, 3, 2, 1, 0], [6, 5, 4, 3, 2, 1, 0], [7, 6, 5, 4, 3, 2, 1, 0], [8, 4, 3, 2, 1, 0, 7, 6, 5], [9, 8, 4, 3, 2, 1, 0, 7, 6, 5], [10, 9, 8, 4, 3, 2, 1, 0, 7, 6, 5], [11, 10, 9, 8, 4, 3, 2, 1, 0, 7, 6, 5], [12, 11, 10, 9, 8, 4, 3, 2, 1, 0, 7, 6, 5], [13, 10, 9, 8, 4, 3, 2, 1, 0, 7, 6, 5, 12, 11], [14, 13, 10, 9, 8, 4, 3, 2, 1, 0, 7, 6, 5, 12, 11], [15, 14, 13, 10, 9, 8, 4, 3, 2, 1, 0, 7, 6, 5, 12, 11], [16, 15, 14, 13, 10, 9, 8, 4, 3, 2, 1, 0, 7, 6, 5, 12, 11], [17, 16, 15, 14, 13, 10, 9, 8, 4, 3, 2, 1, 0, 7, 6, 5, 12, 11], [18, 17, 16, 15, 14, 13, 10, 9, 8, 4, 3, 2, 1, 0, 7, 6, 5, 12, 11], [19, 18, 17, 16, 15, 14, 13, 10, 9, 8, 4, 3, 2, 1, 0, 7, 6, 5, 12, 11], [18, 17, 16, 15, 14, 13, 10, 9, 8, 4, 3, 2, 1, 0, 7, 6, 5, 12, 11], [21, 18, 17, 16, 15, 14, 13, 10, 9, 8, 4, 3, 2, 1, 0, 7, 6, 5, 12, 11], [22, 20, 19, 18, 17, 16, 15, 14, 13, 10, 9, 8, 4, 3, 2, 1, 0, 7, 6, 5, 12, 11, 21], [23, 22, 20, 19, 18, 17, 16, 15, 14, 13, 10, 9, 8, 4, 3, 2, 1, 0, 7, 6, 5, 12, 11, 21], [24, 23, 22, 20, 19, 18, 17, 16, 15, 14, 13, 10, 9, 8, 4, 3, 2, 1, 0, 7, 6, 5, 12, 11, 21], [18, 17, 16, 15, 14, 13, 10, 9, 8, 4, 3, 2, 1, 0, 7, 6, 5, 12, 11], [26, 18, 17, 16, 15, 14, 13, 10, 9, 8, 4, 3, 2, 1, 0, 7, 6, 5, 12, 11], [27, 25, 24, 23, 22, 20, 19, 18, 17, 16, 15, 14, 13, 10, 9, 8, 4, 3, 2, 1, 0, 7, 6, 5, 12, 11, 21, 26], [28, 27, 25, 24, 23, 22, 20, 19, 18, 17, 16, 15, 14, 13, 10, 9, 8, 4, 3, 2, 1, 0, 7, 6, 5, 12, 11, 21, 26], [29, 18, 17, 16, 15, 14, 13, 10, 9, 8, 4, 3, 2, 1, 0, 7, 6, 5, 12, 11, 28, 27, 25, 24, 23, 22, 20, 19, 21, 26], [30, 15, 14, 13, 10, 9, 8, 4, 3, 2, 1, 0, 7, 6, 5, 12, 11, 29, 18, 17, 16, 28, 27, 25, 24, 23, 22, 20, 19, 21, 26]] [0, 1, 2, 3, 4, 5, 6, 7, 8, 9, 10, 11, 12, 13, 14, 15, 16, 17, 18, 19, 20, 21, 22, 23, 24, 25, 26, 27, 28, 29, 30, 31] (by kernel_rfl) (by kernel_rfl) ?_
              iterate 2 refine D1 rfl rfl ?_
              refine DL.step (d := some 21) [] rfl rfl rfl (fun τ h => xj_call Tryz.call91 hn1 (h.argsP rfl)) rfl (by kernel_rfl) ?_
              iterate 4 refine D1 rfl rfl ?_
              refine DL.stepG (d := some 26) [] rfl rfl rfl rfl (fun τ h => xj_call Tryz.call90 hr1 (h.argsP rfl)) rfl (by kernel_rfl) ?_
              iterate 5 refine D1 rfl rfl ?_
              refine DL.stepG (d := some 32) [] rfl rfl rfl rfl (fun τ h => XJ.cast (v' := .pv (.bool false)) (xj_binS ((h.e 0 _ rfl).trans rfl) ((h.e 1 _ rfl).trans rfl) rfl) (congrArg (fun b => V.pv (.bool b)) hb3.symm)) rfl (by kernel_rfl) ?_
              iterate 3 refine D1 rfl rfl ?_
              refine DL.stepG (d := some 36) [] rfl rfl rfl rfl (fun τ h => XJ.cast (v' := .pv (.bool false)) (xj_bin ((h.e 0 _ rfl).trans rfl) ((h.e 1 _ rfl).trans rfl) rfl) (congrArg (fun b => V.pv (.bool b)) (decide_eq_false (by omega)))) rfl (by kernel_rfl) ?_
              iterate 14 refine D1 rfl rfl ?_
              refine ⟨by kernel_rfl, ?_⟩
              repeat refine AW.seq ?_
              refine AW.cond rfl (fun hc50 => absurd hc50 (by simp)) (fun hc50 => ?_)
              refine AW.skip ?_
              repeat refine AW.seq ?_
              refine AW.region ?_
              iterate 2 refine A1 rfl ?_
              exact ⟨(i + 1), St.le_mk ⟨rfl, rfl, rfl, rfl, trivial⟩ ⟨rfl, trivial⟩ rfl rfl, ⟨by omega, hyes (by rw [hbt]; rfl), hfirst (by omega)⟩, by omega⟩
        · obtain rfl : b2 = false := eq_false_of_ne_true h2
          subst h1
          repeat refine AW.seq ?_
          refine AW.draw follows [[], [0], [1, 0], [2, 1, 0], [3, 2, 1, 0], [4, 3, 2, 1, 0], [5, 4, 3, 2, 1, 0], [6, 5, 4, 3, 2, 1, 0], [7, 6, 5, 4, 3, 2, 1, 0], [8, 4, 3, 2, 1, 0, 7, 6, 5], [9, 8, 4, 3, 2, 1, 0, 7, 6, 5], [10, 9, 8, 4, 3, 2, 1, 0, 7, 6, 5], [11, 10, 9, 8, 4, 3, 2, 1, 0, 7, 6, 5], [12, 11, 10, 9, 8, 4, 3, 2, 1, 0, 7, 6, 5], [13, 10, 9, 8, 4, 3, 2, 1, 0, 7, 6, 5, 12, 11], [14, 13, 10, 9, 8, 4, 3, 2, 1, 0, 7, 6, 5, 12, 11], [15, 14, 13, 10, 9, 8, 4, 3, 2, 1, 0, 7, 6, 5, 12, 11], [16, 15, 14, 13, 10, 9, 8, 4, 3, 2, 1, 0, 7, 6, 5, 12, 11], [17, 16, 15, 14, 13, 10, 9, 8, 4, 3, 2, 1, 0, 7, 6, 5, 12, 11], [18, 17, 16, 15, 14, 13, 10, 9, 8, 4, 3, 2, 1, 0, 7, 6, 5, 12, 11], [19, 18, 17, 16, 15, 14, 13, 10, 9, 8, 4, 3, 2, 1, 0, 7, 6, 5, 12, 11], [18, 17, 16, 15, 14, 13, 10, 9, 8, 4, 3, 2, 1, 0, 7, 6, 5, 12, 11], [21, 18, 17, 16, 15, 14, 13, 10, 9, 8, 4, 3, 2, 1, 0, 7, 6, 5, 12, 11], [22, 20, 19, 18, 17, 16, 15, 14, 13, 10, 9, 8, 4, 3, 2, 1, 0, 7, 6, 5, 12, 11, 21], [23, 22, 20, 19, 18, 17, 16, 15, 14, 13, 10, 9, 8, 4, 3, 2, 1, 0, 7, 6, 5, 12, 11, 21], [24, 23, 22, 20, 19, 18, 17, 16, 15, 14, 13, 10, 9, 8, 4, 3, 2, 1, 0, 7, 6, 5, 12, 11, 21], [18, 17, 16, 15, 14, 13, 10, 9, 8, 4, 3, 2, 1, 0, 7, 6, 5, 12, 11], [26, 18, 17, 16, 15, 14, 13, 10, 9, 8, 4, 3, 2, 1, 0, 7, 6, 5, 12, 11], [27, 25, 24, 23, 22, 20, 19, 18, 17, 16, 15, 14, 13, 10, 9, 8, 4, 3, 2, 1, 0, 7, 6, 5, 12, 11, 21, 26], [28, 27, 25, 24, 23, 22, 20, 19, 18, 17, 16, 15, 14, 13, 10, 9, 8, 4, 3, 2, 1, 0, 7, 6, 5, 12, 11, 21, 26], [29, 18, 17, 16, 15, 14, 13, 10, 9, 8, 4, 3, 2, 1, 0, 7, 6, 5, 12, 11, 28, 27, 25, 24, 23, 22, 20, 19, 21, 26], [30, 15, 14, 13, 10, 9, 8, 4, 3, 2, 1, 0, 7, 6, 5, 12, 11, 29, 18, 17, 16, 28, 27, 25, 24, 23, 22, 20, 19, 21, 26]] [0, 1, 2, 3, 4, 5, 6, 7, 8, 9, 10, 11, 12, 13, 14, 15, 16, 17, 18, 19, 20, 21, 22, 23, 24, 25, 26, 27, 28, 29, 30, 31] (by kernel_rfl) (by kernel_rfl) ?_
          iterate 2 refine D1 rfl rfl ?_
          refine DL.step (d := some 21) [] rfl rfl rfl (fun τ h => xj_call Tryz.call91 hn1 (h.argsP rfl)) rfl (by kernel_rfl) ?_
          iterate 4 refine D1 rfl rfl ?_
          refine DL.stepG (d := some 26) [] rfl rfl rfl rfl (fun τ h => xj_call Tryz.call90 hr1 (h.argsP rfl)) rfl (by kernel_rfl) ?_
          iterate 24 refine D1 rfl rfl ?_
          refine ⟨by kernel_rfl, ?_⟩
          repeat refine AW.seq ?_
          refine AW.cond rfl (fun hc50 => ?_) (fun hc50 => absurd hc50 (by simp))
          repeat refine AW.seq ?_
          refine AW.region ?_
          refine A1 rfl ?_
          repeat refine AW.seq ?_
          refine AW.ret ?_
          exact ⟨_, _, rfl, rfl, congrArg PV.bool (hno (by rw [hbt]; rfl)).symm⟩
      · obtain rfl : b1 = false := eq_false_of_ne_true h1
        repeat refine AW.seq ?_
        refine AW.draw follows [[], [0], [1, 0], [2, 1, 0], [3, 2, 1, 0], [4, 3, 2, 1, 0], [5, 4, 3, 2, 1, 0], [6, 5, 4, 3, 2, 1, 0], [7, 6, 5, 4, 3, 2, 1, 0], [8, 4, 3, 2, 1, 0, 7, 6, 5], [9, 8, 4, 3, 2, 1, 0, 7, 6, 5], [10, 9, 8, 4, 3, 2, 1, 0, 7, 6, 5], [11, 10, 9, 8, 4, 3, 2, 1, 0, 7, 6, 5], [12, 11, 10, 9, 8, 4, 3, 2, 1, 0, 7, 6, 5], [13, 10, 9, 8, 4, 3, 2, 1, 0, 7, 6, 5, 12, 11], [14, 13, 10, 9, 8, 4, 3, 2, 1, 0, 7, 6, 5, 12, 11], [15, 14, 13, 10, 9, 8, 4, 3, 2, 1, 0, 7, 6, 5, 12, 11], [16, 15, 14, 13, 10, 9, 8, 4, 3, 2, 1, 0, 7, 6, 5, 12, 11], [17, 16, 15, 14, 13, 10, 9, 8, 4, 3, 2, 1, 0, 7, 6, 5, 12, 11], [18, 17, 16, 15, 14, 13, 10, 9, 8, 4, 3, 2, 1, 0, 7, 6, 5, 12, 11], [19, 18, 17, 16, 15, 14, 13, 10, 9, 8, 4, 3, 2, 1, 0, 7, 6, 5, 12, 11], [18, 17, 16, 15, 14, 13, 10, 9, 8, 4, 3, 2, 1, 0, 7, 6, 5, 12, 11], [21, 18, 17, 16, 15, 14, 13, 10, 9, 8, 4, 3, 2, 1, 0, 7, 6, 5, 12, 11], [22, 20, 19, 18, 17, 16, 15, 14, 13, 10, 9, 8, 4, 3, 2, 1, 0, 7, 6, 5, 12, 11, 21], [23, 22, 20, 19, 18, 17, 16, 15, 14, 13, 10, 9, 8, 4, 3, 2, 1, 0, 7, 6, 5, 12, 11, 21], [24, 23, 22, 20, 19, 18, 17, 16, 15, 14, 13, 10, 9, 8, 4, 3, 2, 1, 0, 7, 6, 5, 12, 11, 21], [18, 17, 16, 15, 14, 13, 10, 9, 8, 4, 3, 2, 1, 0, 7, 6, 5, 12, 11], [26, 18, 17, 16, 15, 14, 13, 10, 9, 8, 4, 3, 2, 1, 0, 7, 6, 5, 12, 11], [27, 25, 24, 23, 22, 20, 19, 18, 17, 16, 15, 14, 13, 10, 9, 8, 4, 3, 2, 1, 0, 7, 6, 5, 12, 11, 21, 26], [28, 27, 25, 24, 23, 22, 20, 19, 18, 17, 16, 15, 14, 13, 10, 9, 8, 4, 3, 2, 1, 0, 7, 6, 5, 12, 11, 21, 26], [29, 18, 17, 16, 15, 14, 13, 10, 9, 8, 4, 3, 2, 1, 0, 7, 6, 5, 12, 11, 28, 27, 25, 24, 23, 22, 20, 19, 21, 26], [30, 15, 14, 13, 10, 9, 8, 4, 3, 2, 1, 0, 7, 6, 5, 12, 11, 29, 18, 17, 16, 28, 27, 25, 24, 23, 22, 20, 19, 21, 26]] [0, 1, 2, 3, 4, 5, 6, 7, 8, 9, 10, 11, 12, 13, 14, 15, 16, 17, 18, 19, 20, 21, 22, 23, 24, 25, 26, 27, 28, 29, 30, 31] (by kernel_rfl) (by kernel_rfl) ?_
        iterate 2 refine D1 rfl rfl ?_
        refine DL.step (d := some 21) [] rfl rfl rfl (fun τ h => xj_call Tryz.call91 hn1 (h.argsP rfl)) rfl (by kernel_rfl) ?_
        iterate 29 refine D1 rfl rfl ?_
        refine ⟨by kernel_rfl, ?_⟩
        repeat refine AW.seq ?_
        refine AW.cond rfl (fun hc50 => ?_) (fun hc50 => absurd hc50 (by simp))
        repeat refine AW.seq ?_
        refine AW.region ?_
        refine A1 rfl ?_
        repeat refine AW.seq ?_
        refine AW.ret ?_
        exact ⟨_, _, rfl, rfl, congrArg PV.bool (hno (by rw [hbt]; rfl)).symm⟩
    · have hb0 : ∀ (j : Nat) (h : j < c.s.length), badT c.s[j] = false := fun j hj => hb j hj (by omega)
      have ha0 : ∀ (j : Nat) (h : j + 1 < c.s.length), lessT c.s[j] c.s[j + 1] = true := fun j hj => ha j hj (by omega)
      have k5 := k5 (by simpa using hc10) hb0 ha0
      clear hb ha hb0 ha0
      repeat refine AW.seq ?_
      refine AW.exit ?_
      repeat refine AW.seq ?_
      refine AW.region ?_
      iterate 4 refine A1 rfl ?_
      repeat refine AW.seq ?_
      refine AW.block ?_
      repeat refine AW.seq ?_
      refine AW.loop (st := fun x_1 : Nat => mkS [(1, .ptr 0 0), (53, .pv (.sl none c.q.length (prrsC c.q))), (54, .pv (.int .i64 c.q.length)), (55, .pv (.int .i64 x_1))] [(0, .mix 31 [.pv (.str c.n), .pv (.sl none c.s.length (trmsC c.s)), .pv (.sl none c.q.length (prrsC c.q))])] 1)
        (I := fun x_1 => x_1 ≤ c.q.length ∧ (∀ (j : Nat) (h : j < c.q.length), j < x_1 → badQ c.q[j] = false) ∧ ∀ (j : Nat) (h : j + 1 < c.q.length), j + 1 < x_1 → lessQ c.q[j] c.q[j + 1] = true) (μ := fun x_1 => c.q.length - x_1) (x0 := (0)) (St.le_mk ⟨rfl, rfl, rfl, rfl, trivial⟩ ⟨rfl, trivial⟩ rfl rfl) (⟨Nat.zero_le _, fun _ _ h => absurd h (Nat.not_lt_zero _), fun _ _ h => absurd h (Nat.not_lt_zero _)⟩) ?_
      rintro i ⟨hi, hb, ha⟩
      repeat refine AW.seq ?_
      refine AW.region ?_
      refine A1 rfl ?_
      repeat refine AW.seq ?_
      refine AW.condP rfl (fun hc56 => ?_) (fun hc56 => ?_)
      · have hil : i < c.q.length := by omega
        have hrow := prr_row hil
        have hne := prr_ne hil
        have hsz := h.q _ (List.getElem_mem hil)
        have hprev : 0 < i → ∃ t', (((prrsC c.q).drop ((i - 1) * 5)).take 5 = prrC t') ∧ (lessQ t' c.q[i] = false → v = false) ∧ (lessQ t' c.q[i] = true → ∀ (j : Nat) (h : j + 1 < c.q.length), j + 1 < i + 1 → lessQ c.q[j] c.q[j + 1] = true) := fun h0 => by
          obtain ⟨i', rfl⟩ : ∃ i', i = i' + 1 := ⟨i - 1, by omega⟩
          refine ⟨c.q[i']'(by omega), ?_, fun e => k4 hil e, fun e j hj hji => ?_⟩
          · rw [Nat.add_sub_cancel]; exact prr_row (by omega)
          · rcases Nat.lt_succ_iff_lt_or_eq.1 hji with h1 | h1
            · exact ha j hj h1
            · obtain rfl : j = i' := by omega
              exact e
        have hno := k3 hil
        have hyes : badQ c.q[i] = false → ∀ (j : Nat) (h : j < c.q.length), j < i + 1 → badQ c.q[j] = false := fun e j hj hji => by
          rcases Nat.lt_succ_iff_lt_or_eq.1 hji with h1 | h1
          · exact hb j hj h1
          · subst h1; exact e
        have hfirst : i = 0 → ∀ (j : Nat) (h : j + 1 < c.q.length), j + 1 < i + 1 → lessQ c.q[j] c.q[j + 1] = true := fun e j hj hji => by omega
        refine AW.skip ?_
        repeat refine AW.seq ?_
        refine AW.block ?_
        repeat refine AW.seq ?_
        refine AW.region ?_
        iterate 2 refine A1 rfl ?_
        first | refine A3 rfl (by assumption) ?_ | refine A1 rfl ?_
        iterate 3 refine A1 rfl ?_
        generalize c.q[i] = t at *
        have hbt := badQ.eq_1 t
        rw [entryOk] at hbt
        have hn1 := named10_spec t.a hsz.1
        have hn2 := named10_spec t.b hsz.2.1
        have hls := less10_spec t.b t.a
        have hr1 := rval_spec t.v (by omega)
        obtain ⟨b5, hb5⟩ : ∃ b, b = (t.v.toList == zeroT.toList) := ⟨_, rfl⟩
        rw [← hb5] at hbt
        generalize badQ t = bt at *
        generalize paramOk t.a = b1 at *
        generalize paramOk t.b = b2 at *
        generalize lessP t.b t.a = b3 at *
        generalize rvalid t.v = b4 at *
        by_cases g1 : b1 = true
        · by_cases g2 : b2 = true
          · by_cases g3 : b3 = true
            · subst g1 g2 g3
              repeat refine AW.seq ?_
              refine AW.draw follows [[], [0], [1, 0], [2, 1, 0], [3, 2, 1, 0], [4, 3, 2, 1, 0], [5, 4, 3, 2, 1, 0], [6, 5, 4, 3, 2, 1, 0], [7, 6, 5, 4, 3, 2, 1, 0], [8, 4, 3, 2, 1, 0, 7, 6, 5], [9, 8, 4, 3, 2, 1, 0, 7, 6, 5], [10, 9, 8, 4, 3, 2, 1, 0, 7, 6, 5], [11, 10, 9, 8, 4, 3, 2, 1, 0, 7, 6, 5], [10, 9, 8, 4, 3, 2, 1, 0, 7, 6, 5], [13, 10, 9, 8, 4, 3, 2, 1, 0, 7, 6, 5], [14, 12, 11, 10, 9, 8, 4, 3, 2, 1, 0, 7, 6, 5, 13], [15, 10, 9, 8, 4, 3, 2, 1, 0, 7, 6, 5, 14, 12, 11, 13], [16, 15, 10, 9, 8, 4, 3, 2, 1, 0, 7, 6, 5, 14, 12, 11, 13], [17, 16, 15, 10, 9, 8, 4, 3, 2, 1, 0, 7, 6, 5, 14, 12, 11, 13], [18, 17, 16, 15, 10, 9, 8, 4, 3, 2, 1, 0, 7, 6, 5, 14, 12, 11, 13], [19, 18, 17, 16, 15, 10, 9, 8, 4, 3, 2, 1, 0, 7, 6, 5, 14, 12, 11, 13], [20, 19, 18, 17, 16, 15, 10, 9, 8, 4, 3, 2, 1, 0, 7, 6, 5, 14, 12, 11, 13], [21, 17, 16, 15, 10, 9, 8, 4, 3, 2, 1, 0, 7, 6, 5, 14, 12, 11, 13, 20, 19, 18], [22, 21, 17, 16, 15, 10, 9, 8, 4, 3, 2, 1, 0, 7, 6, 5, 14, 12, 11, 13, 20, 19, 18], [23, 22, 21, 17, 16, 15, 10, 9, 8, 4, 3, 2, 1, 0, 7, 6, 5, 14, 12, 11, 13, 20, 19, 18], [24, 23, 22, 21, 17, 16, 15, 10, 9, 8, 4, 3, 2, 1, 0, 7, 6, 5, 14, 12, 11, 13, 20, 19, 18], [25, 24, 23, 22, 21, 17, 16, 15, 10, 9, 8, 4, 3, 2, 1, 0, 7, 6, 5, 14, 12, 11, 13, 20, 19, 18], [26, 23, 22, 21, 17, 16, 15, 10, 9, 8, 4, 3, 2, 1, 0, 7, 6, 5, 14, 12, 11, 13, 20, 19, 18, 25, 24], [27, 26, 23, 22, 21, 17, 16, 15, 10, 9, 8, 4, 3, 2, 1, 0, 7, 6, 5, 14, 12, 11, 13, 20, 19, 18, 25, 24], [28, 27, 26, 23, 22, 21, 17, 16, 15, 10, 9, 8, 4, 3, 2, 1, 0, 7, 6, 5, 14, 12, 11, 13, 20, 19, 18, 25, 24], [29, 28, 27, 26, 23, 22, 21, 17, 16, 15, 10, 9, 8, 4, 3, 2, 1, 0, 7, 6, 5, 14, 12, 11, 13, 20, 19, 18, 25, 24], [30, 29, 28, 27, 26, 23, 22, 21, 17, 16, 15, 10, 9, 8, 4, 3, 2, 1, 0, 7, 6, 5, 14, 12, 11, 13, 20, 19, 18, 25, 24], [31, 30, 29, 28, 27, 26, 23, 22, 21, 17, 16, 15, 10, 9, 8, 4, 3, 2, 1, 0, 7, 6, 5, 14, 12, 11, 13, 20, 19, 18, 25, 24], [32, 31, 30, 29, 28, 27, 26, 23, 22, 21, 17, 16, 15, 10, 9, 8, 4, 3, 2, 1, 0, 7, 6, 5, 14, 12, 11, 13, 20, 19, 18, 25, 24], [31, 30, 29, 28, 27, 26, 23, 22, 21, 17, 16, 15, 10, 9, 8, 4, 3, 2, 1, 0, 7, 6, 5, 14, 12, 11, 13, 20, 19, 18, 25, 24], [34, 31, 30, 29, 28, 27, 26, 23, 22, 21, 17, 16, 15, 10, 9, 8, 4, 3, 2, 1, 0, 7, 6, 5, 14, 12, 11, 13, 20, 19, 18, 25, 24], [35, 33, 32, 31, 30, 29, 28, 27, 26, 23, 22, 21, 17, 16, 15, 10, 9, 8, 4, 3, 2, 1, 0, 7, 6, 5, 14, 12, 11, 13, 20, 19, 18, 25, 24, 34], [36, 35, 33, 32, 31, 30, 29, 28, 27, 26, 23, 22, 21, 17, 16, 15, 10, 9, 8, 4, 3, 2, 1, 0, 7, 6, 5, 14, 12, 11, 13, 20, 19, 18, 25, 24, 34], [31, 30, 29, 28, 27, 26, 23, 22, 21, 17, 16, 15, 10, 9, 8, 4, 3, 2, 1, 0, 7, 6, 5, 14, 12, 11, 13, 20, 19, 18, 25, 24], [38, 37, 36, 35, 33, 32, 31, 30, 29, 28, 27, 26, 23, 22, 21, 17, 16, 15, 10, 9, 8, 4, 3, 2, 1, 0, 7, 6, 5, 14, 12, 11, 13, 20, 19, 18, 25, 24, 34], [39, 38, 37, 36, 35, 33, 32, 31, 30, 29, 28, 27, 26, 23, 22, 21, 17, 16, 15, 10, 9, 8, 4, 3, 2, 1, 0, 7, 6, 5, 14, 12, 11, 13, 20, 19, 18, 25, 24, 34], [40, 31, 30, 29, 28, 27, 26, 23, 22, 21, 17, 16, 15, 10, 9, 8, 4, 3, 2, 1, 0, 7, 6, 5, 14, 12, 11, 13, 20, 19, 18, 25, 24, 39, 38, 37, 36, 35, 33, 32, 34], [41, 28, 27, 26, 23, 22, 21, 17, 16, 15, 10, 9, 8, 4, 3, 2, 1, 0, 7, 6, 5, 14, 12, 11, 13, 20, 19, 18, 25, 24, 40, 31, 30, 29, 39, 38, 37, 36, 35, 33, 32, 34]] [0, 1, 2, 3, 4, 5, 6, 7, 8, 9, 10, 11, 12, 13, 14, 15, 16, 17, 18, 19, 20, 21, 22, 23, 24, 25, 26, 27, 28, 29, 30, 31, 32, 33, 34, 35, 36, 37, 38, 39, 40, 41, 42] (by kernel_rfl) (by kernel_rfl) ?_
              iterate 2 refine D1 rfl rfl ?_
              refine DL.step (d := some 62) [] rfl rfl rfl (fun τ h => xj_call Tryz.call91 hn1 (h.argsP rfl)) rfl (by kernel_rfl) ?_
              iterate 4 refine D1 rfl rfl ?_
              refine DL.stepG (d := some 67) [] rfl rfl rfl rfl (fun τ h => xj_call Tryz.call91 hn2 (h.argsP rfl)) rfl (by kernel_rfl) ?_
              iterate 7 refine D1 rfl rfl ?_
              refine DL.stepG (d := some 75) [] rfl rfl rfl rfl (fun τ h => xj_call Tryz.call92 hls (h.argsP rfl)) rfl (by kernel_rfl) ?_
              iterate 27 refine D1 rfl rfl ?_
              refine ⟨by kernel_rfl, ?_⟩
              repeat refine AW.seq ?_
              refine AW.cond rfl (fun hc102 => ?_) (fun hc102 => absurd hc102 (by simp))
              repeat refine AW.seq ?_
              refine AW.region ?_
              refine A1 rfl ?_
              repeat refine AW.seq ?_
              refine AW.ret ?_
              exact ⟨_, _, rfl, rfl, congrArg PV.bool (hno (by rw [hbt]; rfl)).symm⟩
            · by_cases g4 : b4 = true
              · by_cases g5 : b5 = true
                · subst g1 g2 g4 g5
                  obtain rfl : b3 = false := eq_false_of_ne_true g3
                  repeat refine AW.seq ?_
                  refine AW.draw follows [[], [0], [1, 0], [2, 1, 0], [3, 2, 1, 0], [4, 3, 2, 1, 0], [5, 4, 3, 2, 1, 0], [6, 5, 4, 3, 2, 1, 0], [7, 6, 5, 4, 3, 2, 1, 0], [8, 4, 3, 2, 1, 0, 7, 6, 5], [9, 8, 4, 3, 2, 1, 0, 7, 6, 5], [10, 9, 8, 4, 3, 2, 1, 0, 7, 6, 5], [11, 10, 9, 8, 4, 3, 2, 1, 0, 7, 6, 5], [10, 9, 8, 4, 3, 2, 1, 0, 7, 6, 5], [13, 10, 9, 8, 4, 3, 2, 1, 0, 7, 6, 5], [14, 12, 11, 10, 9, 8, 4, 3, 2, 1, 0, 7, 6, 5, 13], [15, 10, 9, 8, 4, 3, 2, 1, 0, 7, 6, 5, 14, 12, 11, 13], [16, 15, 10, 9, 8, 4, 3, 2, 1, 0, 7, 6, 5, 14, 12, 11, 13], [17, 16, 15, 10, 9, 8, 4, 3, 2, 1, 0, 7, 6, 5, 14, 12, 11, 13], [18, 17, 16, 15, 10, 9, 8, 4, 3, 2, 1, 0, 7, 6, 5, 14, 12, 11, 13], [19, 18, 17, 16, 15, 10, 9, 8, 4, 3, 2, 1, 0, 7, 6, 5, 14, 12, 11, 13], [20, 19, 18, 17, 16, 15, 10, 9, 8, 4, 3, 2, 1, 0, 7, 6, 5, 14, 12, 11, 13], [21, 17, 16, 15, 10, 9, 8, 4, 3, 2, 1, 0, 7, 6, 5, 14, 12, 11, 13, 20, 19, 18], [22, 21, 17, 16, 15, 10, 9, 8, 4, 3, 2, 1, 0, 7, 6, 5, 14, 12, 11, 13, 20, 19, 18], [23, 22, 21, 17, 16, 15, 10, 9, 8, 4, 3, 2, 1, 0, 7, 6, 5, 14, 12, 11, 13, 20, 19, 18], [24, 23, 22, 21, 17, 16, 15, 10, 9, 8, 4, 3, 2, 1, 0, 7, 6, 5, 14, 12, 11, 13, 20, 19, 18], [25, 24, 23, 22, 21, 17, 16, 15, 10, 9, 8, 4, 3, 2, 1, 0, 7, 6, 5, 14, 12, 11, 13, 20, 19, 18], [26, 23, 22, 21, 17, 16, 15, 10, 9, 8, 4, 3, 2, 1, 0, 7, 6, 5, 14, 12, 11, 13, 20, 19, 18, 25, 24], [27, 26, 23, 22, 21, 17, 16, 15, 10, 9, 8, 4, 3, 2, 1, 0, 7, 6, 5, 14, 12, 11, 13, 20, 19, 18, 25, 24], [28, 27, 26, 23, 22, 21, 17, 16, 15, 10, 9, 8, 4, 3, 2, 1, 0, 7, 6, 5, 14, 12, 11, 13, 20, 19, 18, 25, 24], [29, 28, 27, 26, 23, 22, 21, 17, 16, 15, 10, 9, 8, 4, 3, 2, 1, 0, 7, 6, 5, 14, 12, 11, 13, 20, 19, 18, 25, 24], [30, 29, 28, 27, 26, 23, 22, 21, 17, 16, 15, 10, 9, 8, 4, 3, 2, 1, 0, 7, 6, 5, 14, 12, 11, 13, 20, 19, 18, 25, 24], [31, 30, 29, 28, 27, 26, 23, 22, 21, 17, 16, 15, 10, 9, 8, 4, 3, 2, 1, 0, 7, 6, 5, 14, 12, 11, 13, 20, 19, 18, 25, 24], [32, 31, 30, 29, 28, 27, 26, 23, 22, 21, 17, 16, 15, 10, 9, 8, 4, 3, 2, 1, 0, 7, 6, 5, 14, 12, 11, 13, 20, 19, 18, 25, 24], [31, 30, 29, 28, 27, 26, 23, 22, 21, 17, 16, 15, 10, 9, 8, 4, 3, 2, 1, 0, 7, 6, 5, 14, 12, 11, 13, 20, 19, 18, 25, 24], [34, 31, 30, 29, 28, 27, 26, 23, 22, 21, 17, 16, 15, 10, 9, 8, 4, 3, 2, 1, 0, 7, 6, 5, 14, 12, 11, 13, 20, 19, 18, 25, 24], [35, 33, 32, 31, 30, 29, 28, 27, 26, 23, 22, 21, 17, 16, 15, 10, 9, 8, 4, 3, 2, 1, 0, 7, 6, 5, 14, 12, 11, 13, 20, 19, 18, 25, 24, 34], [36, 35, 33, 32, 31, 30, 29, 28, 27, 26, 23, 22, 21, 17, 16, 15, 10, 9, 8, 4, 3, 2, 1, 0, 7, 6, 5, 14, 12, 11, 13, 20, 19, 18, 25, 24, 34], [31, 30, 29, 28, 27, 26, 23, 22, 21, 17, 16, 15, 10, 9, 8, 4, 3, 2, 1, 0, 7, 6, 5, 14, 12, 11, 13, 20, 19, 18, 25, 24], [38, 37, 36, 35, 33, 32, 31, 30, 29, 28, 27, 26, 23, 22, 21, 17, 16, 15, 10, 9, 8, 4, 3, 2, 1, 0, 7, 6, 5, 14, 12, 11, 13, 20, 19, 18, 25, 24, 34], [39, 38, 37, 36, 35, 33, 32, 31, 30, 29, 28, 27, 26, 23, 22, 21, 17, 16, 15, 10, 9, 8, 4, 3, 2, 1, 0, 7, 6, 5, 14, 12, 11, 13, 20, 19, 18, 25, 24, 34], [40, 31, 30, 29, 28, 27, 26, 23, 22, 21, 17, 16, 15, 10, 9, 8, 4, 3, 2, 1, 0, 7, 6, 5, 14, 12, 11, 13, 20, 19, 18, 25, 24, 39, 38, 37, 36, 35, 33, 32, 34], [41, 28, 27, 26, 23, 22, 21, 17, 16, 15, 10, 9, 8, 4, 3, 2, 1, 0, 7, 6, 5, 14, 12, 11, 13, 20, 19, 18, 25, 24, 40, 31, 30, 29, 39, 38, 37, 36, 35, 33, 32, 34]] [0, 1, 2, 3, 4, 5, 6, 7, 8, 9, 10, 11, 12, 13, 14, 15, 16, 17, 18, 19, 20, 21, 22, 23, 24, 25, 26, 27, 28, 29, 30, 31, 32, 33, 34, 35, 36, 37, 38, 39, 40, 41, 42] (by kernel_rfl) (by kernel_rfl) ?_
                  iterate 2 refine D1 rfl rfl ?_
                  refine DL.step (d := some 62) [] rfl rfl rfl (fun τ h => xj_call Tryz.call91 hn1 (h.argsP rfl)) rfl (by kernel_rfl) ?_
                  iterate 4 refine D1 rfl rfl ?_
                  refine DL.stepG (d := some 67) [] rfl rfl rfl rfl (fun τ h => xj_call Tryz.call91 hn2 (h.argsP rfl)) rfl (by kernel_rfl) ?_
                  iterate 7 refine D1 rfl rfl ?_
                  refine DL.stepG (d := some 75) [] rfl rfl rfl rfl (fun τ h => xj_call Tryz.call92 hls (h.argsP rfl)) rfl (by kernel_rfl) ?_
                  iterate 4 refine D1 rfl rfl ?_
                  refine DL.stepG (d := some 80) [] rfl rfl rfl rfl (fun τ h => xj_call Tryz.call90 hr1 (h.argsP rfl)) rfl (by kernel_rfl) ?_
                  iterate 5 refine D1 rfl rfl ?_
                  refine DL.stepG (d := some 86) [] rfl rfl rfl rfl (fun τ h => XJ.cast (v' := .pv (.bool true)) (xj_binS ((h.e 0 _ rfl).trans rfl) ((h.e 1 _ rfl).trans rfl) rfl) (congrArg (fun b => V.pv (.bool b)) hb5.symm)) rfl (by kernel_rfl) ?_
                  iterate 16 refine D1 rfl rfl ?_
                  refine ⟨by kernel_rfl, ?_⟩
                  repeat refine AW.seq ?_
                  refine AW.cond rfl (fun hc102 => ?_) (fun hc102 => absurd hc102 (by simp))
                  repeat refine AW.seq ?_
                  refine AW.region ?_
                  refine A1 rfl ?_
                  repeat refine AW.seq ?_
                  refine AW.ret ?_
                  exact ⟨_, _, rfl, rfl, congrArg PV.bool (hno (by rw [hbt]; rfl)).symm⟩
                · by_cases g6 : 0 < i
                  · subst g1 g2 g4
                    obtain rfl : b3 = false := eq_false_of_ne_true g3
                    obtain rfl : b5 = false := eq_false_of_ne_true g5
                    obtain ⟨t', hr2, hls1, hls2⟩ := hprev g6
                    have hi1 : i - 1 < c.q.length := by omega
                    have hbf := before10_spec t' t
                    generalize lessQ t' t = b6 at *
                    repeat refine AW.seq ?_
                    refine AW.draw follows [[], [0], [1, 0], [2, 1, 0], [3, 2, 1, 0], [4, 3, 2, 1, 0], [5, 4, 3, 2, 1, 0], [6, 5, 4, 3, 2, 1, 0], [7, 6, 5, 4, 3, 2, 1, 0], [8, 4, 3, 2, 1, 0, 7, 6, 5], [9, 8, 4, 3, 2, 1, 0, 7, 6, 5], [10, 9, 8, 4, 3, 2, 1, 0, 7, 6, 5], [11, 10, 9, 8, 4, 3, 2, 1, 0, 7, 6, 5], [10, 9, 8, 4, 3, 2, 1, 0, 7, 6, 5], [13, 10, 9, 8, 4, 3, 2, 1, 0, 7, 6, 5], [14, 12, 11, 10, 9, 8, 4, 3, 2, 1, 0, 7, 6, 5, 13], [15, 10, 9, 8, 4, 3, 2, 1, 0, 7, 6, 5, 14, 12, 11, 13], [16, 15, 10, 9, 8, 4, 3, 2, 1, 0, 7, 6, 5, 14, 12, 11, 13], [17, 16, 15, 10, 9, 8, 4, 3, 2, 1, 0, 7, 6, 5, 14, 12, 11, 13], [18, 17, 16, 15, 10, 9, 8, 4, 3, 2, 1, 0, 7, 6, 5, 14, 12, 11, 13], [19, 18, 17, 16, 15, 10, 9, 8, 4, 3, 2, 1, 0, 7, 6, 5, 14, 12, 11, 13], [20, 19, 18, 17, 16, 15, 10, 9, 8, 4, 3, 2, 1, 0, 7, 6, 5, 14, 12, 11, 13], [21, 17, 16, 15, 10, 9, 8, 4, 3, 2, 1, 0, 7, 6, 5, 14, 12, 11, 13, 20, 19, 18], [22, 21, 17, 16, 15, 10, 9, 8, 4, 3, 2, 1, 0, 7, 6, 5, 14, 12, 11, 13, 20, 19, 18], [23, 22, 21, 17, 16, 15, 10, 9, 8, 4, 3, 2, 1, 0, 7, 6, 5, 14, 12, 11, 13, 20, 19, 18], [24, 23, 22, 21, 17, 16, 15, 10, 9, 8, 4, 3, 2, 1, 0, 7, 6, 5, 14, 12, 11, 13, 20, 19, 18], [25, 24, 23, 22, 21, 17, 16, 15, 10, 9, 8, 4, 3, 2, 1, 0, 7, 6, 5, 14, 12, 11, 13, 20, 19, 18], [26, 23, 22, 21, 17, 16, 15, 10, 9, 8, 4, 3, 2, 1, 0, 7, 6, 5, 14, 12, 11, 13, 20, 19, 18, 25, 24], [27, 26, 23, 22, 21, 17, 16, 15, 10, 9, 8, 4, 3, 2, 1, 0, 7, 6, 5, 14, 12, 11, 13, 20, 19, 18, 25, 24], [28, 27, 26, 23, 22, 21, 17, 16, 15, 10, 9, 8, 4, 3, 2, 1, 0, 7, 6, 5, 14, 12, 11, 13, 20, 19, 18, 25, 24], [29, 28, 27, 26, 23, 22, 21, 17, 16, 15, 10, 9, 8, 4, 3, 2, 1, 0, 7, 6, 5, 14, 12, 11, 13, 20, 19, 18, 25, 24], [30, 29, 28, 27, 26, 23, 22, 21, 17, 16, 15, 10, 9, 8, 4, 3, 2, 1, 0, 7, 6, 5, 14, 12, 11, 13, 20, 19, 18, 25, 24], [31, 30, 29, 28, 27, 26, 23, 22, 21, 17, 16, 15, 10, 9, 8, 4, 3, 2, 1, 0, 7, 6, 5, 14, 12, 11, 13, 20, 19, 18, 25, 24], [32, 31, 30, 29, 28, 27, 26, 23, 22, 21, 17, 16, 15, 10, 9, 8, 4, 3, 2, 1, 0, 7, 6, 5, 14, 12, 11, 13, 20, 19, 18, 25, 24], [31, 30, 29, 28, 27, 26, 23, 22, 21, 17, 16, 15, 10, 9, 8, 4, 3, 2, 1, 0, 7, 6, 5, 14, 12, 11, 13, 20, 19, 18, 25, 24], [34, 31, 30, 29, 28, 27, 26, 23, 22, 21, 17, 16, 15, 10, 9, 8, 4, 3, 2, 1, 0, 7, 6, 5, 14, 12, 11, 13, 20, 19, 18, 25, 24], [35, 33, 32, 31, 30, 29, 28, 27, 26, 23, 22, 21, 17, 16, 15, 10, 9, 8, 4, 3, 2, 1, 0, 7, 6, 5, 14, 12, 11, 13, 20, 19, 18, 25, 24, 34], [36, 35, 33, 32, 31, 30, 29, 28, 27, 26, 23, 22, 21, 17, 16, 15, 10, 9, 8, 4, 3, 2, 1, 0, 7, 6, 5, 14, 12, 11, 13, 20, 19, 18, 25, 24, 34], [31, 30, 29, 28, 27, 26, 23, 22, 21, 17, 16, 15, 10, 9, 8, 4, 3, 2, 1, 0, 7, 6, 5, 14, 12, 11, 13, 20, 19, 18, 25, 24], [38, 37, 36, 35, 33, 32, 31, 30, 29, 28, 27, 26, 23, 22, 21, 17, 16, 15, 10, 9, 8, 4, 3, 2, 1, 0, 7, 6, 5, 14, 12, 11, 13, 20, 19, 18, 25, 24, 34], [39, 38, 37, 36, 35, 33, 32, 31, 30, 29, 28, 27, 26, 23, 22, 21, 17, 16, 15, 10, 9, 8, 4, 3, 2, 1, 0, 7, 6, 5, 14, 12, 11, 13, 20, 19, 18, 25, 24, 34], [40, 31, 30, 29, 28, 27, 26, 23, 22, 21, 17, 16, 15, 10, 9, 8, 4, 3, 2, 1, 0, 7, 6, 5, 14, 12, 11, 13, 20, 19, 18, 25, 24, 39, 38, 37, 36, 35, 33, 32, 34], [41, 28, 27, 26, 23, 22, 21, 17, 16, 15, 10, 9, 8, 4, 3, 2, 1, 0, 7, 6, 5, 14, 12, 11, 13, 20, 19, 18, 25, 24, 40, 31, 30, 29, 39, 38, 37, 36, 35, 33, 32, 34]] [0, 1, 2, 3, 4, 5, 6, 7, 8, 9, 10, 11, 12, 13, 14, 15, 16, 17, 18, 19, 20, 21, 22, 23, 24, 25, 26, 27, 28, 29, 30, 31, 32, 33, 34, 35, 36, 37, 38, 39, 40, 41, 42] (by kernel_rfl) (by kernel_rfl) ?_
                    iterate 2 refine D1 rfl rfl ?_
                    refine DL.step (d := some 62) [] rfl rfl rfl (fun τ h => xj_call Tryz.call91 hn1 (h.argsP rfl)) rfl (by kernel_rfl) ?_
                    iterate 4 refine D1 rfl rfl ?_
                    refine DL.stepG (d := some 67) [] rfl rfl rfl rfl (fun τ h => xj_call Tryz.call91 hn2 (h.argsP rfl)) rfl (by kernel_rfl) ?_
                    iterate 7 refine D1 rfl rfl ?_
                    refine DL.stepG (d := some 75) [] rfl rfl rfl rfl (fun τ h => xj_call Tryz.call92 hls (h.argsP rfl)) rfl (by kernel_rfl) ?_
                    iterate 4 refine D1 rfl rfl ?_
                    refine DL.stepG (d := some 80) [] rfl rfl rfl rfl (fun τ h => xj_call Tryz.call90 hr1 (h.argsP rfl)) rfl (by kernel_rfl) ?_
                    iterate 5 refine D1 rfl rfl ?_
                    refine DL.stepG (d := some 86) [] rfl rfl rfl rfl (fun τ h => XJ.cast (v' := .pv (.bool false)) (xj_binS ((h.e 0 _ rfl).trans rfl) ((h.e 1 _ rfl).trans rfl) rfl) (congrArg (fun b => V.pv (.bool b)) hb5.symm)) rfl (by kernel_rfl) ?_
                    iterate 3 refine D1 rfl rfl ?_
                    refine DL.stepG (d := some 90) [] rfl rfl rfl rfl (fun τ h => XJ.cast (v' := .pv (.bool true)) (xj_bin ((h.e 0 _ rfl).trans rfl) ((h.e 1 _ rfl).trans rfl) rfl) (congrArg (fun b => V.pv (.bool b)) (decide_eq_true (by omega)))) rfl (by kernel_rfl) ?_
                    iterate 5 refine D1 rfl rfl ?_
                    refine DL.stepG (d := some 96) [] rfl rfl rfl rfl (fun τ h => xj_indexAddr (i - 1) Tryz.underlying29 sz72 ((h.e 0 _ rfl).trans rfl) ((h.e 1 _ rfl).trans rfl) (by omega) hi1 hne) rfl (by kernel_rfl) ?_
                    refine DL.stepG (d := some 97) [] rfl rfl rfl rfl (fun τ h => xj_loadAR ⟨_, Tryz.underlying72, rfl⟩ sz72 ((h.e 0 _ rfl).trans rfl) hr2 rfl) rfl (by kernel_rfl) ?_
                    refine D1 rfl rfl ?_
                    refine DL.stepG (d := some 99) [] rfl rfl rfl rfl (fun τ h => xj_call Tryz.call93 hbf (h.argsP rfl)) rfl (by kernel_rfl) ?_
                    iterate 3 refine D1 rfl rfl ?_
                    refine ⟨by kernel_rfl, ?_⟩
                    repeat refine AW.seq ?_
                    refine AW.cond rfl (fun hc102 => ?_) (fun hc102 => ?_)
                    · repeat refine AW.seq ?_
                      refine AW.region ?_
                      refine A1 rfl ?_
                      repeat refine AW.seq ?_
                      refine AW.ret ?_
                      exact ⟨_, _, rfl, rfl, congrArg PV.bool (hls1 (by simpa using hc102)).symm⟩
                    · refine AW.skip ?_
                      repeat refine AW.seq ?_
                      refine AW.region ?_
                      iterate 2 refine A1 rfl ?_
                      exact ⟨(i + 1), St.le_mk ⟨rfl, rfl, rfl, rfl, trivial⟩ ⟨rfl, trivial⟩ rfl rfl, ⟨by omega, hyes (by rw [hbt]; rfl), hls2 (by simpa using hc102)⟩, by omega⟩
                  · subst g1 g2 g4
                    obtain rfl : b3 = false := eq_false_of_ne_true g3
                    obtain rfl : b5 = false := eq_false_of_ne_true g5
                    repeat refine AW.seq ?_
                    refine AW.draw follows [[], [0], [1, 0], [2, 1, 0], [3, 2, 1, 0], [4, 3, 2, 1, 0], [5, 4, 3, 2, 1, 0], [6, 5, 4, 3, 2, 1, 0], [7, 6, 5, 4, 3, 2, 1, 0], [8, 4, 3, 2, 1, 0, 7, 6, 5], [9, 8, 4, 3, 2, 1, 0, 7, 6, 5], [10, 9, 8, 4, 3, 2, 1, 0, 7, 6, 5], [11, 10, 9, 8, 4, 3, 2, 1, 0, 7, 6, 5], [10, 9, 8, 4, 3, 2, 1, 0, 7, 6, 5], [13, 10, 9, 8, 4, 3, 2, 1, 0, 7, 6, 5], [14, 12, 11, 10, 9, 8, 4, 3, 2, 1, 0, 7, 6, 5, 13], [15, 10, 9, 8, 4, 3, 2, 1, 0, 7, 6, 5, 14, 12, 11, 13], [16, 15, 10, 9, 8, 4, 3, 2, 1, 0, 7, 6, 5, 14, 12, 11, 13], [17, 16, 15, 10, 9, 8, 4, 3, 2, 1, 0, 7, 6, 5, 14, 12, 11, 13], [18, 17, 16, 15, 10, 9, 8, 4, 3, 2, 1, 0, 7, 6, 5, 14, 12, 11, 13], [19, 18, 17, 16, 15, 10, 9, 8, 4, 3, 2, 1, 0, 7, 6, 5, 14, 12, 11, 13], [20, 19, 18, 17, 16, 15, 10, 9, 8, 4, 3, 2, 1, 0, 7, 6, 5, 14, 12, 11, 13], [21, 17, 16, 15, 10, 9, 8, 4, 3, 2, 1, 0, 7, 6, 5, 14, 12, 11, 13, 20, 19, 18], [22, 21, 17, 16, 15, 10, 9, 8, 4, 3, 2, 1, 0, 7, 6, 5, 14, 12, 11, 13, 20, 19, 18], [23, 22, 21, 17, 16, 15, 10, 9, 8, 4, 3, 2, 1, 0, 7, 6, 5, 14, 12, 11, 13, 20, 19, 18], [24, 23, 22, 21, 17, 16, 15, 10, 9, 8, 4, 3, 2, 1, 0, 7, 6, 5, 14, 12, 11, 13, 20, 19, 18], [25, 24, 23, 22, 21, 17, 16, 15, 10, 9, 8, 4, 3, 2, 1, 0, 7, 6, 5, 14, 12, 11, 13, 20, 19, 18], [26, 23, 22, 21, 17, 16, 15, 10, 9, 8, 4, 3, 2, 1, 0, 7, 6, 5, 14, 12, 11, 13, 20, 19, 18, 25, 24], [27, 26, 23, 22, 21, 17, 16, 15, 10, 9, 8, 4, 3, 2, 1, 0, 7, 6, 5, 14, 12, 11, 13, 20, 19, 18, 25, 24], [28, 27, 26, 23, 22, 21, 17, 16, 15, 10, 9, 8, 4, 3, 2, 1, 0, 7, 6, 5, 14, 12, 11, 13, 20, 19, 18, 25, 24], [29, 28, 27, 26, 23, 22, 21, 17, 16, 15, 10, 9, 8, 4, 3, 2, 1, 0, 7, 6, 5, 14, 12, 11, 13, 20, 19, 18, 25, 24], [30, 29, 28, 27, 26, 23, 22, 21, 17, 16, 15, 10, 9, 8, 4, 3, 2, 1, 0, 7, 6, 5, 14, 12, 11, 13, 20, 19, 18, 25, 24], [31, 30, 29, 28, 27, 26, 23, 22, 21, 17, 16, 15, 10, 9, 8, 4, 3, 2, 1, 0, 7, 6, 5, 14, 12, 11, 13, 20, 19, 18, 25, 24], [32, 31, 30, 29, 28, 27, 26, 23, 22, 21, 17, 16, 15, 10, 9, 8, 4, 3, 2, 1, 0, 7, 6, 5, 14, 12, 11, 13, 20, 19, 18, 25, 24], [31, 30, 29, 28, 27, 26, 23, 22, 21, 17, 16, 15, 10, 9, 8, 4, 3, 2, 1, 0, 7, 6, 5, 14, 12, 11, 13, 20, 19, 18, 25, 24], [34, 31, 30, 29, 28, 27, 26, 23, 22, 21, 17, 16, 15, 10, 9, 8, 4, 3, 2, 1, 0, 7, 6, 5, 14, 12, 11, 13, 20, 19, 18, 25, 24], [35, 33, 32, 31, 30, 29, 28, 27, 26, 23, 22, 21, 17, 16, 15, 10, 9, 8, 4, 3, 2, 1, 0, 7, 6, 5, 14, 12, 11, 13, 20, 19, 18, 25, 24, 34], [36, 35, 33, 32, 31, 30, 29, 28, 27, 26, 23, 22, 21, 17, 16, 15, 10, 9, 8, 4, 3, 2, 1, 0, 7, 6, 5, 14, 12, 11, 13, 20, 19, 18, 25, 24, 34], [31, 30, 29, 28, 27, 26, 23, 22, 21, 17, 16, 15, 10, 9, 8, 4, 3, 2, 1, 0, 7, 6, 5, 14, 12, 11, 13, 20, 19, 18, 25, 24], [38, 37, 36, 35, 33, 32, 31, 30, 29, 28, 27, 26, 23, 22, 21, 17, 16, 15, 10, 9, 8, 4, 3, 2, 1, 0, 7, 6, 5, 14, 12, 11, 13, 20, 19, 18, 25, 24, 34], [39, 38, 37, 36, 35, 33, 32, 31, 30, 29, 28, 27, 26, 23, 22, 21, 17, 16, 15, 10, 9, 8, 4, 3, 2, 1, 0, 7, 6, 5, 14, 12, 11, 13, 20, 19, 18, 25, 24, 34], [40, 31, 30, 29, 28, 27, 26, 23, 22, 21, 17, 16, 15, 10, 9, 8, 4, 3, 2, 1, 0, 7, 6, 5, 14, 12, 11, 13, 20, 19, 18, 25, 24, 39, 38, 37, 36, 35, 33, 32, 34], [41, 28, 27, 26, 23, 22, 21, 17, 16, 15, 10, 9, 8, 4, 3, 2, 1, 0, 7, 6, 5, 14, 12, 11, 13, 20, 19, 18, 25, 24, 40, 31, 30, 29, 39, 38, 37, 36, 35, 33, 32, 34]] [0, 1, 2, 3, 4, 5, 6, 7, 8, 9, 10, 11, 12, 13, 14, 15, 16, 17, 18, 19, 20, 21, 22, 23, 24, 25, 26, 27, 28, 29, 30, 31, 32, 33, 34, 35, 36, 37, 38, 39, 40, 41, 42] (by kernel_rfl) (by kernel_rfl) ?_
                    iterate 2 refine D1 rfl rfl ?_
                    refine DL.step (d := some 62) [] rfl rfl rfl (fun τ h => xj_call Tryz.call91 hn1 (h.argsP rfl)) rfl (by kernel_rfl) ?_
                    iterate 4 refine D1 rfl rfl ?_
                    refine DL.stepG (d := some 67) [] rfl rfl rfl rfl (fun τ h => xj_call Tryz.call91 hn2 (h.argsP rfl)) rfl (by kernel_rfl) ?_
                    iterate 7 refine D1 rfl rfl ?_
                    refine DL.stepG (d := some 75) [] rfl rfl rfl rfl (fun τ h => xj_call Tryz.call92 hls (h.argsP rfl)) rfl (by kernel_rfl) ?_
                    iterate 4 refine D1 rfl rfl ?_
                    refine DL.stepG (d := some 80) [] rfl rfl rfl rfl (fun τ h => xj_call Tryz.call90 hr1 (h.argsP rfl)) rfl (by kernel_rfl) ?_
                    iterate 5 refine D1 rfl rfl ?_
                    refine DL.stepG (d := some 86) [] rfl rfl rfl rfl (fun τ h => XJ.cast (v' := .pv (.bool false)) (xj_binS ((h.e 0 _ rfl).trans rfl) ((h.e 1 _ rfl).trans rfl) rfl) (congrArg (fun b => V.pv (.bool b)) hb5.symm)) rfl (by kernel_rfl) ?_
                    iterate 3 refine D1 rfl rfl ?_
                    refine DL.stepG (d := some 90) [] rfl rfl rfl rfl (fun τ h => XJ.cast (v' := .pv (.bool false)) (xj_bin ((h.e 0 _ rfl).trans rfl) ((h.e 1 _ rfl).trans rfl) rfl) (congrArg (fun b => V.pv (.bool b)) (decide_eq_false (by omega)))) rfl (by kernel_rfl) ?_
                    iterate 12 refine D1 rfl rfl ?_
                    refine ⟨by kernel_rfl, ?_⟩
                    repeat refine AW.seq ?_
                    refine AW.cond rfl (fun hc102 => absurd hc102 (by simp)) (fun hc102 => ?_)
                    refine AW.skip ?_
                    repeat refine AW.seq ?_
                    refine AW.region ?_
                    iterate 2 refine A1 rfl ?_
                    exact ⟨(i + 1), St.le_mk ⟨rfl, rfl, rfl, rfl, trivial⟩ ⟨rfl, trivial⟩ rfl rfl, ⟨by omega, hyes (by rw [hbt]; rfl), hfirst (by omega)⟩, by omega⟩
              · subst g1 g2
                obtain rfl : b3 = false := eq_false_of_ne_true g3
                obtain rfl : b4 = false := eq_false_of_ne_true g4
                repeat refine AW.seq ?_
                refine AW.draw follows [[], [0], [1, 0], [2, 1, 0], [3, 2, 1, 0], [4, 3, 2, 1, 0], [5, 4, 3, 2, 1, 0], [6, 5, 4, 3, 2, 1, 0], [7, 6, 5, 4, 3, 2, 1, 0], [8, 4, 3, 2, 1, 0, 7, 6, 5], [9, 8, 4, 3, 2, 1, 0, 7, 6, 5], [10, 9, 8, 4, 3, 2, 1, 0, 7, 6, 5], [11, 10, 9, 8, 4, 3, 2, 1, 0, 7, 6, 5], [10, 9, 8, 4, 3, 2, 1, 0, 7, 6, 5], [13, 10, 9, 8, 4, 3, 2, 1, 0, 7, 6, 5], [14, 12, 11, 10, 9, 8, 4, 3, 2, 1, 0, 7, 6, 5, 13], [15, 10, 9, 8, 4, 3, 2, 1, 0, 7, 6, 5, 14, 12, 11, 13], [16, 15, 10, 9, 8, 4, 3, 2, 1, 0, 7, 6, 5, 14, 12, 11, 13], [17, 16, 15, 10, 9, 8, 4, 3, 2, 1, 0, 7, 6, 5, 14, 12, 11, 13], [18, 17, 16, 15, 10, 9, 8, 4, 3, 2, 1, 0, 7, 6, 5, 14, 12, 11, 13], [19, 18, 17, 16, 15, 10, 9, 8, 4, 3, 2, 1, 0, 7, 6, 5, 14, 12, 11, 13], [20, 19, 18, 17, 16, 15, 10, 9, 8, 4, 3, 2, 1, 0, 7, 6, 5, 14, 12, 11, 13], [21, 17, 16, 15, 10, 9, 8, 4, 3, 2, 1, 0, 7, 6, 5, 14, 12, 11, 13, 20, 19, 18], [22, 21, 17, 16, 15, 10, 9, 8, 4, 3, 2, 1, 0, 7, 6, 5, 14, 12, 11, 13, 20, 19, 18], [23, 22, 21, 17, 16, 15, 10, 9, 8, 4, 3, 2, 1, 0, 7, 6, 5, 14, 12, 11, 13, 20, 19, 18], [24, 23, 22, 21, 17, 16, 15, 10, 9, 8, 4, 3, 2, 1, 0, 7, 6, 5, 14, 12, 11, 13, 20, 19, 18], [25, 24, 23, 22, 21, 17, 16, 15, 10, 9, 8, 4, 3, 2, 1, 0, 7, 6, 5, 14, 12, 11, 13, 20, 19, 18], [26, 23, 22, 21, 17, 16, 15, 10, 9, 8, 4, 3, 2, 1, 0, 7, 6, 5, 14, 12, 11, 13, 20, 19, 18, 25, 24], [27, 26, 23, 22, 21, 17, 16, 15, 10, 9, 8, 4, 3, 2, 1, 0, 7, 6, 5, 14, 12, 11, 13, 20, 19, 18, 25, 24], [28, 27, 26, 23, 22, 21, 17, 16, 15, 10, 9, 8, 4, 3, 2, 1, 0, 7, 6, 5, 14, 12, 11, 13, 20, 19, 18, 25, 24], [29, 28, 27, 26, 23, 22, 21, 17, 16, 15, 10, 9, 8, 4, 3, 2, 1, 0, 7, 6, 5, 14, 12, 11, 13, 20, 19, 18, 25, 24], [30, 29, 28, 27, 26, 23, 22, 21, 17, 16, 15, 10, 9, 8, 4, 3, 2, 1, 0, 7, 6, 5, 14, 12, 11, 13, 20, 19, 18, 25, 24], [31, 30, 29, 28, 27, 26, 23, 22, 21, 17, 16, 15, 10, 9, 8, 4, 3, 2, 1, 0, 7, 6, 5, 14, 12, 11, 13, 20, 19, 18, 25, 24], [32, 31, 30, 29, 28, 27, 26, 23, 22, 21, 17, 16, 15, 10, 9, 8, 4, 3, 2, 1, 0, 7, 6, 5, 14, 12, 11, 13, 20, 19, 18, 25, 24], [31, 30, 29, 28, 27, 26, 23, 22, 21, 17, 16, 15, 10, 9, 8, 4, 3, 2, 1, 0, 7, 6, 5, 14, 12, 11, 13, 20, 19, 18, 25, 24], [34, 31, 30, 29, 28, 27, 26, 23, 22, 21, 17, 16, 15, 10, 9, 8, 4, 3, 2, 1, 0, 7, 6, 5, 14, 12, 11, 13, 20, 19, 18, 25, 24], [35, 33, 32, 31, 30, 29, 28, 27, 26, 23, 22, 21, 17, 16, 15, 10, 9, 8, 4, 3, 2, 1, 0, 7, 6, 5, 14, 12, 11, 13, 20, 19, 18, 25, 24, 34], [36, 35, 33, 32, 31, 30, 29, 28, 27, 26, 23, 22, 21, 17, 16, 15, 10, 9, 8, 4, 3, 2, 1, 0, 7, 6, 5, 14, 12, 11, 13, 20, 19, 18, 25, 24, 34], [31, 30, 29, 28, 27, 26, 23, 22, 21, 17, 16, 15, 10, 9, 8, 4, 3, 2, 1, 0, 7, 6, 5, 14, 12, 11, 13, 20, 19, 18, 25, 24], [38, 37, 36, 35, 33, 32, 31, 30, 29, 28, 27, 26, 23, 22, 21, 17, 16, 15, 10, 9, 8, 4, 3, 2, 1, 0, 7, 6, 5, 14, 12, 11, 13, 20, 19, 18, 25, 24, 34], [39, 38, 37, 36, 35, 33, 32, 31, 30, 29, 28, 27, 26, 23, 22, 21, 17, 16, 15, 10, 9, 8, 4, 3, 2, 1, 0, 7, 6, 5, 14, 12, 11, 13, 20, 19, 18, 25, 24, 34], [40, 31, 30, 29, 28, 27, 26, 23, 22, 21, 17, 16, 15, 10, 9, 8, 4, 3, 2, 1, 0, 7, 6, 5, 14, 12, 11, 13, 20, 19, 18, 25, 24, 39, 38, 37, 36, 35, 33, 32, 34], [41, 28, 27, 26, 23, 22, 21, 17, 16, 15, 10, 9, 8, 4, 3, 2, 1, 0, 7, 6, 5, 14, 12, 11, 13, 20, 19, 18, 25, 24, 40, 31, 30, 29, 39, 38, 37, 36, 35, 33, 32, 34]] [0, 1, 2, 3, 4, 5, 6, 7, 8, 9, 10, 11, 12, 13, 14, 15, 16, 17, 18, 19, 20, 21, 22, 23, 24, 25, 26, 27, 28, 29, 30, 31, 32, 33, 34, 35, 36, 37, 38, 39, 40, 41, 42] (by kernel_rfl) (by kernel_rfl) ?_
                iterate 2 refine D1 rfl rfl ?_
                refine DL.step (d := some 62) [] rfl rfl rfl (fun τ h => xj_call Tryz.call91 hn1 (h.argsP rfl)) rfl (by kernel_rfl) ?_
                iterate 4 refine D1 rfl rfl ?_
                refine DL.stepG (d := some 67) [] rfl rfl rfl rfl (fun τ h => xj_call Tryz.call91 hn2 (h.argsP rfl)) rfl (by kernel_rfl) ?_
                iterate 7 refine D1 rfl rfl ?_
                refine DL.stepG (d := some 75) [] rfl rfl rfl rfl (fun τ h => xj_call Tryz.call92 hls (h.argsP rfl)) rfl (by kernel_rfl) ?_
                iterate 4 refine D1 rfl rfl ?_
                refine DL.stepG (d := some 80) [] rfl rfl rfl rfl (fun τ h => xj_call Tryz.call90 hr1 (h.argsP rfl)) rfl (by kernel_rfl) ?_
                iterate 22 refine D1 rfl rfl ?_
                refine ⟨by kernel_rfl, ?_⟩
                repeat refine AW.seq ?_
                refine AW.cond rfl (fun hc102 => ?_) (fun hc102 => absurd hc102 (by simp))
                repeat refine AW.seq ?_
                refine AW.region ?_
                refine A1 rfl ?_
                repeat refine AW.seq ?_
                refine AW.ret ?_
                exact ⟨_, _, rfl, rfl, congrArg PV.bool (hno (by rw [hbt]; rfl)).symm⟩
          · obtain rfl : b2 = false := eq_false_of_ne_true g2
            subst g1
            repeat refine AW.seq ?_
            refine AW.draw follows [[], [0], [1, 0], [2, 1, 0], [3, 2, 1, 0], [4, 3, 2, 1, 0], [5, 4, 3, 2, 1, 0], [6, 5, 4, 3, 2, 1, 0], [7, 6, 5, 4, 3, 2, 1, 0], [8, 4, 3, 2, 1, 0, 7, 6, 5], [9, 8, 4, 3, 2, 1, 0, 7, 6, 5], [10, 9, 8, 4, 3, 2, 1, 0, 7, 6, 5], [11, 10, 9, 8, 4, 3, 2, 1, 0, 7, 6, 5], [10, 9, 8, 4, 3, 2, 1, 0, 7, 6, 5], [13, 10, 9, 8, 4, 3, 2, 1, 0, 7, 6, 5], [14, 12, 11, 10, 9, 8, 4, 3, 2, 1, 0, 7, 6, 5, 13], [15, 10, 9, 8, 4, 3, 2, 1, 0, 7, 6, 5, 14, 12, 11, 13], [16, 15, 10, 9, 8, 4, 3, 2, 1, 0, 7, 6, 5, 14, 12, 11, 13], [17, 16, 15, 10, 9, 8, 4, 3, 2, 1, 0, 7, 6, 5, 14, 12, 11, 13], [18, 17, 16, 15, 10, 9, 8, 4, 3, 2, 1, 0, 7, 6, 5, 14, 12, 11, 13], [19, 18, 17, 16, 15, 10, 9, 8, 4, 3, 2, 1, 0, 7, 6, 5, 14, 12, 11, 13], [20, 19, 18, 17, 16, 15, 10, 9, 8, 4, 3, 2, 1, 0, 7, 6, 5, 14, 12, 11, 13], [21, 17, 16, 15, 10, 9, 8, 4, 3, 2, 1, 0, 7, 6, 5, 14, 12, 11, 13, 20, 19, 18], [22, 21, 17, 16, 15, 10, 9, 8, 4, 3, 2, 1, 0, 7, 6, 5, 14, 12, 11, 13, 20, 19, 18], [23, 22, 21, 17, 16, 15, 10, 9, 8, 4, 3, 2, 1, 0, 7, 6, 5, 14, 12, 11, 13, 20, 19, 18], [24, 23, 22, 21, 17, 16, 15, 10, 9, 8, 4, 3, 2, 1, 0, 7, 6, 5, 14, 12, 11, 13, 20, 19, 18], [25, 24, 23, 22, 21, 17, 16, 15, 10, 9, 8, 4, 3, 2, 1, 0, 7, 6, 5, 14, 12, 11, 13, 20, 19, 18], [26, 23, 22, 21, 17, 16, 15, 10, 9, 8, 4, 3, 2, 1, 0, 7, 6, 5, 14, 12, 11, 13, 20, 19, 18, 25, 24], [27, 26, 23, 22, 21, 17, 16, 15, 10, 9, 8, 4, 3, 2, 1, 0, 7, 6, 5, 14, 12, 11, 13, 20, 19, 18, 25, 24], [28, 27, 26, 23, 22, 21, 17, 16, 15, 10, 9, 8, 4, 3, 2, 1, 0, 7, 6, 5, 14, 12, 11, 13, 20, 19, 18, 25, 24], [29, 28, 27, 26, 23, 22, 21, 17, 16, 15, 10, 9, 8, 4, 3, 2, 1, 0, 7, 6, 5, 14, 12, 11, 13, 20, 19, 18, 25, 24], [30, 29, 28, 27, 26, 23, 22, 21, 17, 16, 15, 10, 9, 8, 4, 3, 2, 1, 0, 7, 6, 5, 14, 12, 11, 13, 20, 19, 18, 25, 24], [31, 30, 29, 28, 27, 26, 23, 22, 21, 17, 16, 15, 10, 9, 8, 4, 3, 2, 1, 0, 7, 6, 5, 14, 12, 11, 13, 20, 19, 18, 25, 24], [32, 31, 30, 29, 28, 27, 26, 23, 22, 21, 17, 16, 15, 10, 9, 8, 4, 3, 2, 1, 0, 7, 6, 5, 14, 12, 11, 13, 20, 19, 18, 25, 24], [31, 30, 29, 28, 27, 26, 23, 22, 21, 17, 16, 15, 10, 9, 8, 4, 3, 2, 1, 0, 7, 6, 5, 14, 12, 11, 13, 20, 19, 18, 25, 24], [34, 31, 30, 29, 28, 27, 26, 23, 22, 21, 17, 16, 15, 10, 9, 8, 4, 3, 2, 1, 0, 7, 6, 5, 14, 12, 11, 13, 20, 19, 18, 25, 24], [35, 33, 32, 31, 30, 29, 28, 27, 26, 23, 22, 21, 17, 16, 15, 10, 9, 8, 4, 3, 2, 1, 0, 7, 6, 5, 14, 12, 11, 13, 20, 19, 18, 25, 24, 34], [36, 35, 33, 32, 31, 30, 29, 28, 27, 26, 23, 22, 21, 17, 16, 15, 10, 9, 8, 4, 3, 2, 1, 0, 7, 6, 5, 14, 12, 11, 13, 20, 19, 18, 25, 24, 34], [31, 30, 29, 28, 27, 26, 23, 22, 21, 17, 16, 15, 10, 9, 8, 4, 3, 2, 1, 0, 7, 6, 5, 14, 12, 11, 13, 20, 19, 18, 25, 24], [38, 37, 36, 35, 33, 32, 31, 30, 29, 28, 27, 26, 23, 22, 21, 17, 16, 15, 10, 9, 8, 4, 3, 2, 1, 0, 7, 6, 5, 14, 12, 11, 13, 20, 19, 18, 25, 24, 34], [39, 38, 37, 36, 35, 33, 32, 31, 30, 29, 28, 27, 26, 23, 22, 21, 17, 16, 15, 10, 9, 8, 4, 3, 2, 1, 0, 7, 6, 5, 14, 12, 11, 13, 20, 19, 18, 25, 24, 34], [40, 31, 30, 29, 28, 27, 26, 23, 22, 21, 17, 16, 15, 10, 9, 8, 4, 3, 2, 1, 0, 7, 6, 5, 14, 12, 11, 13, 20, 19, 18, 25, 24, 39, 38, 37, 36, 35, 33, 32, 34], [41, 28, 27, 26, 23, 22, 21, 17, 16, 15, 10, 9, 8, 4, 3, 2, 1, 0, 7, 6, 5, 14, 12, 11, 13, 20, 19, 18, 25, 24, 40, 31, 30, 29, 39, 38, 37, 36, 35, 33, 32, 34]] [0, 1, 2, 3, 4, 5, 6, 7, 8, 9, 10, 11, 12, 13, 14, 15, 16, 17, 18, 19, 20, 21, 22, 23, 24, 25, 26, 27, 28, 29, 30, 31, 32, 33, 34, 35, 36, 37, 38, 39, 40, 41, 42] (by kernel_rfl) (by kernel_rfl) ?_
            iterate 2 refine D1 rfl rfl ?_
            refine DL.step (d := some 62) [] rfl rfl rfl (fun τ h => xj_call Tryz.call91 hn1 (h.argsP rfl)) rfl (by kernel_rfl) ?_
            iterate 4 refine D1 rfl rfl ?_
            refine DL.stepG (d := some 67) [] rfl rfl rfl rfl (fun τ h => xj_call Tryz.call91 hn2 (h.argsP rfl)) rfl (by kernel_rfl) ?_
            iterate 35 refine D1 rfl rfl ?_
            refine ⟨by kernel_rfl, ?_⟩
            repeat refine AW.seq ?_
            refine AW.cond rfl (fun hc102 => ?_) (fun hc102 => absurd hc102 (by simp))
            repeat refine AW.seq ?_
            refine AW.region ?_
            refine A1 rfl ?_
            repeat refine AW.seq ?_
            refine AW.ret ?_
            exact ⟨_, _, rfl, rfl, congrArg PV.bool (hno (by rw [hbt]; rfl)).symm⟩
        · obtain rfl : b1 = false := eq_false_of_ne_true g1
          repeat refine AW.seq ?_
          refine AW.draw follows [[], [0], [1, 0], [2, 1, 0], [3, 2, 1, 0], [4, 3, 2, 1, 0], [5, 4, 3, 2, 1, 0], [6, 5, 4, 3, 2, 1, 0], [7, 6, 5, 4, 3, 2, 1, 0], [8, 4, 3, 2, 1, 0, 7, 6, 5], [9, 8, 4, 3, 2, 1, 0, 7, 6, 5], [10, 9, 8, 4, 3, 2, 1, 0, 7, 6, 5], [11, 10, 9, 8, 4, 3, 2, 1, 0, 7, 6, 5], [10, 9, 8, 4, 3, 2, 1, 0, 7, 6, 5], [13, 10, 9, 8, 4, 3, 2, 1, 0, 7, 6, 5], [14, 12, 11, 10, 9, 8, 4, 3, 2, 1, 0, 7, 6, 5, 13], [15, 10, 9, 8, 4, 3, 2, 1, 0, 7, 6, 5, 14, 12, 11, 13], [16, 15, 10, 9, 8, 4, 3, 2, 1, 0, 7, 6, 5, 14, 12, 11, 13], [17, 16, 15, 10, 9, 8, 4, 3, 2, 1, 0, 7, 6, 5, 14, 12, 11, 13], [18, 17, 16, 15, 10, 9, 8, 4, 3, 2, 1, 0, 7, 6, 5, 14, 12, 11, 13], [19, 18, 17, 16, 15, 10, 9, 8, 4, 3, 2, 1, 0, 7, 6, 5, 14, 12, 11, 13], [20, 19, 18, 17, 16, 15, 10, 9, 8, 4, 3, 2, 1, 0, 7, 6, 5, 14, 12, 11, 13], [21, 17, 16, 15, 10, 9, 8, 4, 3, 2, 1, 0, 7, 6, 5, 14, 12, 11, 13, 20, 19, 18], [22, 21, 17, 16, 15, 10, 9, 8, 4, 3, 2, 1, 0, 7, 6, 5, 14, 12, 11, 13, 20, 19, 18], [23, 22, 21, 17, 16, 15, 10, 9, 8, 4, 3, 2, 1, 0, 7, 6, 5, 14, 12, 11, 13, 20, 19, 18], [24, 23, 22, 21, 17, 16, 15, 10, 9, 8, 4, 3, 2, 1, 0, 7, 6, 5, 14, 12, 11, 13, 20, 19, 18], [25, 24, 23, 22, 21, 17, 16, 15, 10, 9, 8, 4, 3, 2, 1, 0, 7, 6, 5, 14, 12, 11, 13, 20, 19, 18], [26, 23, 22, 21, 17, 16, 15, 10, 9, 8, 4, 3, 2, 1, 0, 7, 6, 5, 14, 12, 11, 13, 20, 19, 18, 25, 24], [27, 26, 23, 22, 21, 17, 16, 15, 10, 9, 8, 4, 3, 2, 1, 0, 7, 6, 5, 14, 12, 11, 13, 20, 19, 18, 25, 24], [28, 27, 26, 23, 22, 21, 17, 16, 15, 10, 9, 8, 4, 3, 2, 1, 0, 7, 6, 5, 14, 12, 11, 13, 20, 19, 18, 25, 24], [29, 28, 27, 26, 23, 22, 21, 17, 16, 15, 10, 9, 8, 4, 3, 2, 1, 0, 7, 6, 5, 14, 12, 11, 13, 20, 19, 18, 25, 24], [30, 29, 28, 27, 26, 23, 22, 21, 17, 16, 15, 10, 9, 8, 4, 3, 2, 1, 0, 7, 6, 5, 14, 12, 11, 13, 20, 19, 18, 25, 24], [31, 30, 29, 28, 27, 26, 23, 22, 21, 17, 16, 15, 10, 9, 8, 4, 3, 2, 1, 0, 7, 6, 5, 14, 12, 11, 13, 20, 19, 18, 25, 24], [32, 31, 30, 29, 28, 27, 26, 23, 22, 21, 17, 16, 15, 10, 9, 8, 4, 3, 2, 1, 0, 7, 6, 5, 14, 12, 11, 13, 20, 19, 18, 25, 24], [31, 30, 29, 28, 27, 26, 23, 22, 21, 17, 16, 15, 10, 9, 8, 4, 3, 2, 1, 0, 7, 6, 5, 14, 12, 11, 13, 20, 19, 18, 25, 24], [34, 31, 30, 29, 28, 27, 26, 23, 22, 21, 17, 16, 15, 10, 9, 8, 4, 3, 2, 1, 0, 7, 6, 5, 14, 12, 11, 13, 20, 19, 18, 25, 24], [35, 33, 32, 31, 30, 29, 28, 27, 26, 23, 22, 21, 17, 16, 15, 10, 9, 8, 4, 3, 2, 1, 0, 7, 6, 5, 14, 12, 11, 13, 20, 19, 18, 25, 24, 34], [36, 35, 33, 32, 31, 30, 29, 28, 27, 26, 23, 22, 21, 17, 16, 15, 10, 9, 8, 4, 3, 2, 1, 0, 7, 6, 5, 14, 12, 11, 13, 20, 19, 18, 25, 24, 34], [31, 30, 29, 28, 27, 26, 23, 22, 21, 17, 16, 15, 10, 9, 8, 4, 3, 2, 1, 0, 7, 6, 5, 14, 12, 11, 13, 20, 19, 18, 25, 24], [38, 37, 36, 35, 33, 32, 31, 30, 29, 28, 27, 26, 23, 22, 21, 17, 16, 15, 10, 9, 8, 4, 3, 2, 1, 0, 7, 6, 5, 14, 12, 11, 13, 20, 19, 18, 25, 24, 34], [39, 38, 37, 36, 35, 33, 32, 31, 30, 29, 28, 27, 26, 23, 22, 21, 17, 16, 15, 10, 9, 8, 4, 3, 2, 1, 0, 7, 6, 5, 14, 12, 11, 13, 20, 19, 18, 25, 24, 34], [40, 31, 30, 29, 28, 27, 26, 23, 22, 21, 17, 16, 15, 10, 9, 8, 4, 3, 2, 1, 0, 7, 6, 5, 14, 12, 11, 13, 20, 19, 18, 25, 24, 39, 38, 37, 36, 35, 33, 32, 34], [41, 28, 27, 26, 23, 22, 21, 17, 16, 15, 10, 9, 8, 4, 3, 2, 1, 0, 7, 6, 5, 14, 12, 11, 13, 20, 19, 18, 25, 24, 40, 31, 30, 29, 39, 38, 37, 36, 35, 33, 32, 34]] [0, 1, 2, 3, 4, 5, 6, 7, 8, 9, 10, 11, 12, 13, 14, 15, 16, 17, 18, 19, 20, 21, 22, 23, 24, 25, 26, 27, 28, 29, 30, 31, 32, 33, 34, 35, 36, 37, 38, 39, 40, 41, 42] (by kernel_rfl) (by kernel_rfl) ?_
          iterate 2 refine D1 rfl rfl ?_
          refine DL.step (d := some 62) [] rfl rfl rfl (fun τ h => xj_call Tryz.call91 hn1 (h.argsP rfl)) rfl (by kernel_rfl) ?_
          iterate 40 refine D1 rfl rfl ?_
          refine ⟨by kernel_rfl, ?_⟩
          repeat refine AW.seq ?_
          refine AW.cond rfl (fun hc102 => ?_) (fun hc102 => absurd hc102 (by simp))
          repeat refine AW.seq ?_
          refine AW.region ?_
          refine A1 rfl ?_
          repeat refine AW.seq ?_
          refine AW.ret ?_
          exact ⟨_, _, rfl, rfl, congrArg PV.bool (hno (by rw [hbt]; rfl)).symm⟩
      · repeat refine AW.seq ?_
        refine AW.exit ?_
        repeat refine AW.seq ?_
        refine AW.region ?_
        refine A1 rfl ?_
        repeat refine AW.seq ?_
        refine AW.ret ?_
        exact ⟨_, _, rfl, rfl, congrArg PV.bool (k5 (fun j hj => hb j hj (by omega)) (fun j hj => ha j hj (by omega))).symm⟩
end Go.Proofs.YtopjkdddicgajaaGreatDoor
namespace Go.Proofs.YtopjkdddicgajaaGreatDoor
open Go.RowKit Mk
set_option maxRecDepth 100000
set_option maxHeartbeats 4000000
theorem inter_snoc (sep : List UInt8) : ∀ (l : List (List UInt8)) (w : List UInt8), l ≠ [] → List.intercalate sep (l ++ [w]) = List.intercalate sep l ++ sep ++ w
  | [], _, h => absurd rfl h
  | [a], w, _ => by simp [List.intercalate]
  | a :: b :: l, w, _ => by
    have ih := inter_snoc sep (b :: l) w (by simp)
    rw [List.cons_append, List.cons_append, List.intercalate_cons_cons, ← List.cons_append, ih, List.intercalate_cons_cons]
    simp [List.append_assoc]
theorem joinT_snoc {l : List ByteArray} (h : l ≠ []) (w : ByteArray) : joinT (l ++ [w]) = (joinT l ++ spaceT) ++ w := by
  apply ByteArray.ext
  apply Array.ext'
  simp only [joinT, Lib.join, List.map_append, List.map_cons, List.map_nil]
  rw [inter_snoc [32] _ _ (by simpa using h)]
  simp [spaceT]
theorem ba_assoc (a b c : ByteArray) : (a ++ b) ++ c = a ++ (b ++ c) := by
  apply ByteArray.ext
  apply Array.ext'
  simp
theorem join_1 {l : List ByteArray} (h : l ≠ []) (a : ByteArray) : joinT l ++ (spaceT ++ a) = joinT (l ++ [a]) := by rw [joinT_snoc h, ba_assoc]
theorem join_3 {l : List ByteArray} (h : l ≠ []) (a b c : ByteArray) : joinT l ++ (((((spaceT ++ a) ++ spaceT) ++ b) ++ spaceT) ++ c) = joinT (l ++ [a, b, c]) := by
  rw [show l ++ [a, b, c] = ((l ++ [a]) ++ [b]) ++ [c] by simp, joinT_snoc (by simp), joinT_snoc (by simp), joinT_snoc h]
  simp only [ba_assoc]
theorem join_5 {l : List ByteArray} (h : l ≠ []) (a b c d e : ByteArray) : joinT l ++ (((((((((spaceT ++ a) ++ spaceT) ++ b) ++ spaceT) ++ c) ++ spaceT) ++ d) ++ spaceT) ++ e) = joinT (l ++ [a, b, c, d, e]) := by
  rw [show l ++ [a, b, c, d, e] = ((((l ++ [a]) ++ [b]) ++ [c]) ++ [d]) ++ [e] by simp, joinT_snoc (by simp), joinT_snoc (by simp), joinT_snoc (by simp), joinT_snoc (by simp), joinT_snoc h]
  simp only [ba_assoc]
theorem joinT_one (a : ByteArray) : joinT [a] = a := by
  apply ByteArray.ext
  apply Array.ext'
  simp [joinT, Lib.join, List.intercalate]
theorem join_head (a b c d : ByteArray) : (((((a ++ spaceT) ++ b) ++ spaceT) ++ c) ++ spaceT) ++ d = joinT [a, b, c, d] := by
  rw [show [a, b, c, d] = (([a] ++ [b]) ++ [c]) ++ [d] from rfl, joinT_snoc (by simp), joinT_snoc (by simp), joinT_snoc (by simp), joinT_one]
theorem sums_ne (p : Pgs) (k : Nat) : wHead p ++ (p.sum.s.take k).flatMap wT ≠ [] := by simp [wHead]
theorem wsums_ne (p : Pgs) (k : Nat) : wSums p ++ (p.sum.q.take k).flatMap wQ ≠ [] := by simp [wSums, wHead]
theorem flat_mem_take {α : Type} {f : α → List ByteArray} {l : List α} {k : Nat} {w : ByteArray} (h : w ∈ (l.take k).flatMap f) : w ∈ l.flatMap f := by
  obtain ⟨a, ha, hw⟩ := List.mem_flatMap.1 h
  exact List.mem_flatMap.2 ⟨a, List.mem_of_mem_take ha, hw⟩
theorem PgS.csz {p : Pgs} (h : PgS p) : CSz p.sum :=
  ⟨h.n.1, fun t ht => ⟨(h.s t ht).2.2.1, (h.s t ht).2.2.2⟩, fun t ht => ⟨(h.q t ht).2.2.2.1, (h.q t ht).2.2.2.2.1, (h.q t ht).2.2.2.2.2⟩, h.sl, h.ql⟩
theorem body40_spec (p : Pgs) (h : PgS p) : FnP Tryz.prog 30 [.agg (pgsC p)] (· = .str (bodyT p)) := by
  refine FnP.of Tryz.func30 rfl Tryz.ntmps30 (by simp) fun m0 w0 F R0 => ?_
  have hsl := h.sl
  have hql := h.ql
  have hwd := h.words
  have hsp : (⟨#[32]⟩ : ByteArray).size = 1 := rfl
  have d1 := dec40_spec p.job h.j
  have d2 := dec40_spec p.done h.d
  have d3 := dec40_spec p.sum.s.length (by omega)
  have d4 := dec40_spec p.sum.q.length (by omega)
  have z1 := itoa_size p.job h.j
  have z2 := itoa_size p.done h.d
  have z3 := itoa_size p.sum.s.length (by omega)
  have z4 := itoa_size p.sum.q.length (by omega)
  have z5 := h.n.1
  have hhd := join_head (itoaT p.job) (itoaT p.done) p.sum.n (itoaT p.sum.s.length)
  have hb := bodyT.eq_1 p
  repeat refine AW.seq ?_
  refine AW.region ?_
  iterate 2 refine A1 rfl ?_
  repeat refine AW.seq ?_
  refine AW.draw follows [[], [0], [1, 0], [2, 1, 0], [], [4], [2, 5, 4, 1, 0], [6, 3, 2, 1, 0, 5, 4], [7, 6, 3, 2, 1, 0, 5, 4], [], [9], [10, 9], [11, 8, 7, 6, 3, 2, 1, 0, 5, 4, 10, 9], [12, 11, 8, 7, 6, 3, 2, 1, 0, 5, 4, 10, 9], [], [14], [15, 14], [16, 15, 14], [6, 17, 16, 15, 14, 2, 5, 4, 1, 0], [18, 13, 12, 11, 8, 7, 6, 3, 2, 1, 0, 5, 4, 10, 9, 17, 16, 15, 14], [19, 18, 13, 12, 11, 8, 7, 6, 3, 2, 1, 0, 5, 4, 10, 9, 17, 16, 15, 14]] [0, 1, 2, 3, 4, 5, 6, 7, 8, 9, 10, 11, 12, 13, 14, 15, 16, 17, 18, 19, 20] (by kernel_rfl) (by kernel_rfl) ?_
  iterate 2 refine D1 rfl rfl ?_
  refine DL.step (d := some 10) [] rfl rfl rfl (fun τ h => xj_call Tryz.call62 d1 (h.argsP rfl)) rfl (by kernel_rfl) ?_
  refine DL.step (d := some 11) [] rfl rfl rfl (fun τ h => xj_cat ((h.e 0 _ rfl).trans rfl) ((h.e 1 _ rfl).trans rfl) (by first | omega | (simp only [ByteArray.size_append]; omega))) rfl (by kernel_rfl) ?_
  iterate 2 refine D1 rfl rfl ?_
  refine DL.step (d := some 14) [] rfl rfl rfl (fun τ h => xj_call Tryz.call62 d2 (h.argsP rfl)) rfl (by kernel_rfl) ?_
  refine DL.step (d := some 15) [] rfl rfl rfl (fun τ h => xj_cat ((h.e 0 _ rfl).trans rfl) ((h.e 1 _ rfl).trans rfl) (by first | omega | (simp only [ByteArray.size_append]; omega))) rfl (by kernel_rfl) ?_
  refine DL.step (d := some 16) [] rfl rfl rfl (fun τ h => xj_cat ((h.e 0 _ rfl).trans rfl) ((h.e 1 _ rfl).trans rfl) (by first | omega | (simp only [ByteArray.size_append]; omega))) rfl (by kernel_rfl) ?_
  iterate 3 refine D1 rfl rfl ?_
  refine DL.step (d := some 20) [] rfl rfl rfl (fun τ h => xj_cat ((h.e 0 _ rfl).trans rfl) ((h.e 1 _ rfl).trans rfl) (by first | omega | (simp only [ByteArray.size_append]; omega))) rfl (by kernel_rfl) ?_
  refine DL.step (d := some 21) [] rfl rfl rfl (fun τ h => xj_cat ((h.e 0 _ rfl).trans rfl) ((h.e 1 _ rfl).trans rfl) (by first | omega | (simp only [ByteArray.size_append]; omega))) rfl (by kernel_rfl) ?_
  iterate 4 refine D1 rfl rfl ?_
  refine DL.step (d := some 26) [] rfl rfl rfl (fun τ h => xj_call Tryz.call62 d3 (h.argsP rfl)) rfl (by kernel_rfl) ?_
  refine DL.step (d := some 27) [] rfl rfl rfl (fun τ h => xj_cat ((h.e 0 _ rfl).trans rfl) ((h.e 1 _ rfl).trans rfl) (by first | omega | (simp only [ByteArray.size_append]; omega))) rfl (by kernel_rfl) ?_
  refine D1 rfl rfl ?_
  refine ⟨by kernel_rfl, ?_⟩
  repeat refine AW.seq ?_
  refine AW.region ?_
  iterate 5 refine A1 rfl ?_
  repeat refine AW.seq ?_
  refine AW.block ?_
  repeat refine AW.seq ?_
  refine AW.loop (st := fun x_0 : Nat × ByteArray => mkS [(1, .ptr 0 0), (3, .pv (.str x_0.2)), (30, .pv (.sl none p.sum.s.length (trmsC p.sum.s))), (31, .pv (.int .i64 p.sum.s.length)), (32, .pv (.int .i64 x_0.1))] [(0, .mix 33 (pgsV p))] 1)
    (I := fun x_0 => x_0.1 ≤ p.sum.s.length ∧ x_0.2 = joinT (wHead p ++ (p.sum.s.take x_0.1).flatMap wT)) (μ := fun x_0 => p.sum.s.length - x_0.1) (x0 := (0, (((((((itoaT p.job) ++ spaceT) ++ itoaT p.done) ++ spaceT) ++ p.sum.n) ++ spaceT) ++ itoaT p.sum.s.length))) (St.le_mk ⟨rfl, rfl, rfl, rfl, rfl, trivial⟩ ⟨by kernel_rfl, trivial⟩ rfl rfl) (⟨Nat.zero_le _, by rw [hhd]; simp [wHead]⟩) ?_
  rintro ⟨i, x⟩ ⟨hi, hx⟩
  try simp only at hi hx ⊢
  repeat refine AW.seq ?_
  refine AW.region ?_
  refine A1 rfl ?_
  repeat refine AW.seq ?_
  refine AW.condP rfl (fun hc33 => ?_) (fun hc33 => ?_)
  · have hil : i < p.sum.s.length := by omega
    have hrow := trm_row hil
    have hne := trm_ne hil
    have ht := h.s _ (List.getElem_mem hil)
    have hxs : x.size ≤ 400000000 := by
      rw [hx]
      have h1 := join_size (wHead p ++ (p.sum.s.take i).flatMap wT) (fun w hw => hwd w (by
        simp only [wordsOf, wSums, List.mem_append] at hw ⊢
        rcases hw with e | e
        · exact .inl (.inl (.inl e))
        · exact .inl (.inl (.inr (flat_mem_take e)))))
      have h2 := flat_take_le wT 3 wT_len p.sum.s i
      rw [List.length_append, show (wHead p).length = 4 from rfl] at h1
      omega
    have hnx : x ++ (((((spaceT ++ itoaT p.sum.s[i].p.f) ++ spaceT) ++ catT p.sum.s[i].p.c) ++ spaceT) ++ p.sum.s[i].v) = joinT (wHead p ++ (p.sum.s.take (i + 1)).flatMap wT) := by
      rw [hx, join_3 (sums_ne p i), flat_snoc hil, List.append_assoc]; rfl
    clear hx
    refine AW.skip ?_
    repeat refine AW.seq ?_
    refine AW.block ?_
    repeat refine AW.seq ?_
    refine AW.region ?_
    refine A1 rfl ?_
    first | refine A3 rfl (by assumption) ?_ | refine A1 rfl ?_
    iterate 2 refine A1 rfl ?_
    generalize p.sum.s[i] = t at *
    have e1 := dec40_spec t.p.f ht.1.1
    have e2 := cat40_spec t.p.c
    have y1 := itoa_size t.p.f ht.1.1
    have y2 := cat_size ht.2.2.1
    have y3 := ht.2.2.2
    repeat refine AW.seq ?_
    refine AW.draw follows [[], [], [1], [2, 1], [3, 2, 1], [4, 3, 2, 1], [5, 4, 3, 2, 1], [], [7], [8, 7], [4, 9, 8, 7, 3, 2, 1], [10, 6, 5, 4, 3, 2, 1, 9, 8, 7], [11, 10, 6, 5, 4, 3, 2, 1, 9, 8, 7], [], [13], [14, 12, 11, 10, 6, 5, 4, 3, 2, 1, 9, 8, 7, 13], [15, 0, 14, 12, 11, 10, 6, 5, 4, 3, 2, 1, 9, 8, 7, 13], [16, 15, 0, 14, 12, 11, 10, 6, 5, 4, 3, 2, 1, 9, 8, 7, 13]] [0, 1, 2, 3, 4, 5, 6, 7, 8, 9, 10, 11, 12, 13, 14, 15, 16, 17] (by kernel_rfl) (by kernel_rfl) ?_
    iterate 4 refine D1 rfl rfl ?_
    refine DL.step (d := some 40) [] rfl rfl rfl (fun τ h => xj_call Tryz.call62 e1 (h.argsP rfl)) rfl (by kernel_rfl) ?_
    refine DL.step (d := some 41) [] rfl rfl rfl (fun τ h => xj_cat ((h.e 0 _ rfl).trans rfl) ((h.e 1 _ rfl).trans rfl) (by first | omega | (simp only [ByteArray.size_append]; omega))) rfl (by kernel_rfl) ?_
    refine DL.step (d := some 42) [] rfl rfl rfl (fun τ h => xj_cat ((h.e 0 _ rfl).trans rfl) ((h.e 1 _ rfl).trans rfl) (by first | omega | (simp only [ByteArray.size_append]; omega))) rfl (by kernel_rfl) ?_
    iterate 3 refine D1 rfl rfl ?_
    refine DL.step (d := some 46) [] rfl rfl rfl (fun τ h => xj_call Tryz.call63 e2 (h.argsP rfl)) rfl (by kernel_rfl) ?_
    refine DL.step (d := some 47) [] rfl rfl rfl (fun τ h => xj_cat ((h.e 0 _ rfl).trans rfl) ((h.e 1 _ rfl).trans rfl) (by first | omega | (simp only [ByteArray.size_append]; omega))) rfl (by kernel_rfl) ?_
    refine DL.step (d := some 48) [] rfl rfl rfl (fun τ h => xj_cat ((h.e 0 _ rfl).trans rfl) ((h.e 1 _ rfl).trans rfl) (by first | omega | (simp only [ByteArray.size_append]; omega))) rfl (by kernel_rfl) ?_
    iterate 2 refine D1 rfl rfl ?_
    refine DL.step (d := some 51) [] rfl rfl rfl (fun τ h => xj_cat ((h.e 0 _ rfl).trans rfl) ((h.e 1 _ rfl).trans rfl) (by first | omega | (simp only [ByteArray.size_append]; omega))) rfl (by kernel_rfl) ?_
    refine DL.step (d := some 52) [] rfl rfl rfl (fun τ h => xj_cat ((h.e 0 _ rfl).trans rfl) ((h.e 1 _ rfl).trans rfl) (by first | omega | (simp only [ByteArray.size_append]; omega))) rfl (by kernel_rfl) ?_
    refine D1 rfl rfl ?_
    refine ⟨by kernel_rfl, ?_⟩
    repeat refine AW.seq ?_
    refine AW.region ?_
    iterate 2 refine A1 rfl ?_
    exact ⟨(i + 1, x ++ (((((spaceT ++ itoaT t.p.f) ++ spaceT) ++ catT t.p.c) ++ spaceT) ++ t.v)), St.le_mk ⟨rfl, rfl, rfl, rfl, rfl, trivial⟩ ⟨by kernel_rfl, trivial⟩ rfl rfl, ⟨by omega, hnx⟩, by simp only; omega⟩
  · have hxs : x.size ≤ 400000000 := by
      rw [hx]
      have h1 := join_size (wHead p ++ (p.sum.s.take i).flatMap wT) (fun w hw => hwd w (by
        simp only [wordsOf, wSums, List.mem_append] at hw ⊢
        rcases hw with e | e
        · exact .inl (.inl (.inl e))
        · exact .inl (.inl (.inr (flat_mem_take e)))))
      have h2 := flat_take_le wT 3 wT_len p.sum.s i
      rw [List.length_append, show (wHead p).length = 4 from rfl] at h1
      omega
    rw [List.take_of_length_le (by omega)] at hx
    have hx2 : x ++ (spaceT ++ itoaT p.sum.q.length) = joinT (wSums p) := by rw [hx, join_1 (by simp [wHead])]; rfl
    clear hx
    repeat refine AW.seq ?_
    refine AW.exit ?_
    repeat refine AW.seq ?_
    refine AW.region ?_
    iterate 5 refine A1 rfl ?_
    refine RL.step (d := some 59) rfl rfl (xj_call Tryz.call62 d4 rfl) ?_
    refine RL.step (d := some 60) rfl rfl (xj_cat rfl rfl (by first | omega | (simp only [ByteArray.size_append]; omega))) ?_
    refine RL.step (d := some 61) rfl rfl (xj_cat rfl rfl (by first | omega | (simp only [ByteArray.size_append]; omega))) ?_
    refine A1 rfl ?_
    repeat refine AW.seq ?_
    refine AW.region ?_
    iterate 5 refine A1 rfl ?_
    repeat refine AW.seq ?_
    refine AW.block ?_
    repeat refine AW.seq ?_
    refine AW.loop (st := fun x_1 : Nat × ByteArray => mkS [(3, .pv (.str x_1.2)), (64, .pv (.sl none p.sum.q.length (prrsC p.sum.q))), (65, .pv (.int .i64 p.sum.q.length)), (66, .pv (.int .i64 x_1.1))] [(0, .mix 33 (pgsV p))] 1)
      (I := fun x_1 => x_1.1 ≤ p.sum.q.length ∧ x_1.2 = joinT (wSums p ++ (p.sum.q.take x_1.1).flatMap wQ)) (μ := fun x_1 => p.sum.q.length - x_1.1) (x0 := (0, x ++ (spaceT ++ itoaT p.sum.q.length))) (St.le_mk ⟨rfl, rfl, rfl, rfl, trivial⟩ ⟨by kernel_rfl, trivial⟩ rfl rfl) (⟨Nat.zero_le _, by rw [hx2]; simp⟩) ?_
    rintro ⟨i, y⟩ ⟨hi, hy⟩
    try simp only at hi hy ⊢
    repeat refine AW.seq ?_
    refine AW.region ?_
    refine A1 rfl ?_
    repeat refine AW.seq ?_
    refine AW.condP rfl (fun hc67 => ?_) (fun hc67 => ?_)
    · have hil : i < p.sum.q.length := by omega
      have hrow := prr_row hil
      have hne := prr_ne hil
      have ht := h.q _ (List.getElem_mem hil)
      have hxs : y.size ≤ 900000000 := by
        rw [hy]
        have h1 := join_size (wSums p ++ (p.sum.q.take i).flatMap wQ) (fun w hw => hwd w (by
          simp only [wordsOf, List.mem_append] at hw ⊢
          rcases hw with e | e
          · exact .inl e
          · exact .inr (flat_mem_take e)))
        have h2 := flat_take_le wQ 5 wQ_len p.sum.q i
        have h3 : (wSums p).length = 5 + p.sum.s.length * 3 := by rw [wSums, List.length_append, List.length_append, flat_len wT 3 wT_len]; simp only [wHead, List.length_cons, List.length_nil]; omega
        rw [List.length_append] at h1
        omega
      have hnx : y ++ (((((((((spaceT ++ itoaT p.sum.q[i].a.f) ++ spaceT) ++ catT p.sum.q[i].a.c) ++ spaceT) ++ itoaT p.sum.q[i].b.f) ++ spaceT) ++ catT p.sum.q[i].b.c) ++ spaceT) ++ p.sum.q[i].v) = joinT (wSums p ++ (p.sum.q.take (i + 1)).flatMap wQ) := by
        rw [hy, join_5 (wsums_ne p i), flat_snoc hil, List.append_assoc]; rfl
      clear hy
      refine AW.skip ?_
      repeat refine AW.seq ?_
      refine AW.block ?_
      repeat refine AW.seq ?_
      refine AW.region ?_
      refine A1 rfl ?_
      first | refine A3 rfl (by assumption) ?_ | refine A1 rfl ?_
      iterate 2 refine A1 rfl ?_
      generalize p.sum.q[i] = t at *
      have e1 := dec40_spec t.a.f ht.1.1
      have e2 := cat40_spec t.a.c
      have e3 := dec40_spec t.b.f ht.2.1.1
      have e4 := cat40_spec t.b.c
      have y1 := itoa_size t.a.f ht.1.1
      have y2 := cat_size ht.2.2.2.1
      have y3 := itoa_size t.b.f ht.2.1.1
      have y4 := cat_size ht.2.2.2.2.1
      have y5 := ht.2.2.2.2.2
      repeat refine AW.seq ?_
      refine AW.draw follows [[], [], [1], [2, 1], [3, 2, 1], [4, 3, 2, 1], [5, 4, 3, 2, 1], [], [7], [8, 7], [4, 9, 8, 7, 3, 2, 1], [10, 6, 5, 4, 3, 2, 1, 9, 8, 7], [11, 10, 6, 5, 4, 3, 2, 1, 9, 8, 7], [], [13], [14, 13], [10, 15, 14, 13, 4, 9, 8, 7, 3, 2, 1], [16, 12, 11, 10, 6, 5, 4, 3, 2, 1, 9, 8, 7, 15, 14, 13], [17, 16, 12, 11, 10, 6, 5, 4, 3, 2, 1, 9, 8, 7, 15, 14, 13], [], [19], [20, 19], [16, 21, 20, 19, 10, 15, 14, 13, 4, 9, 8, 7, 3, 2, 1], [22, 18, 17, 16, 12, 11, 10, 6, 5, 4, 3, 2, 1, 9, 8, 7, 15, 14, 13, 21, 20, 19], [23, 22, 18, 17, 16, 12, 11, 10, 6, 5, 4, 3, 2, 1, 9, 8, 7, 15, 14, 13, 21, 20, 19], [], [25], [26, 24, 23, 22, 18, 17, 16, 12, 11, 10, 6, 5, 4, 3, 2, 1, 9, 8, 7, 15, 14, 13, 21, 20, 19, 25], [27, 0, 26, 24, 23, 22, 18, 17, 16, 12, 11, 10, 6, 5, 4, 3, 2, 1, 9, 8, 7, 15, 14, 13, 21, 20, 19, 25], [28, 27, 0, 26, 24, 23, 22, 18, 17, 16, 12, 11, 10, 6, 5, 4, 3, 2, 1, 9, 8, 7, 15, 14, 13, 21, 20, 19, 25]] [0, 1, 2, 3, 4, 5, 6, 7, 8, 9, 10, 11, 12, 13, 14, 15, 16, 17, 18, 19, 20, 21, 22, 23, 24, 25, 26, 27, 28, 29] (by kernel_rfl) (by kernel_rfl) ?_
      iterate 4 refine D1 rfl rfl ?_
      refine DL.step (d := some 74) [] rfl rfl rfl (fun τ h => xj_call Tryz.call62 e1 (h.argsP rfl)) rfl (by kernel_rfl) ?_
      refine DL.step (d := some 75) [] rfl rfl rfl (fun τ h => xj_cat ((h.e 0 _ rfl).trans rfl) ((h.e 1 _ rfl).trans rfl) (by first | omega | (simp only [ByteArray.size_append]; omega))) rfl (by kernel_rfl) ?_
      refine DL.step (d := some 76) [] rfl rfl rfl (fun τ h => xj_cat ((h.e 0 _ rfl).trans rfl) ((h.e 1 _ rfl).trans rfl) (by first | omega | (simp only [ByteArray.size_append]; omega))) rfl (by kernel_rfl) ?_
      iterate 3 refine D1 rfl rfl ?_
      refine DL.step (d := some 80) [] rfl rfl rfl (fun τ h => xj_call Tryz.call63 e2 (h.argsP rfl)) rfl (by kernel_rfl) ?_
      refine DL.step (d := some 81) [] rfl rfl rfl (fun τ h => xj_cat ((h.e 0 _ rfl).trans rfl) ((h.e 1 _ rfl).trans rfl) (by first | omega | (simp only [ByteArray.size_append]; omega))) rfl (by kernel_rfl) ?_
      refine DL.step (d := some 82) [] rfl rfl rfl (fun τ h => xj_cat ((h.e 0 _ rfl).trans rfl) ((h.e 1 _ rfl).trans rfl) (by first | omega | (simp only [ByteArray.size_append]; omega))) rfl (by kernel_rfl) ?_
      iterate 3 refine D1 rfl rfl ?_
      refine DL.step (d := some 86) [] rfl rfl rfl (fun τ h => xj_call Tryz.call62 e3 (h.argsP rfl)) rfl (by kernel_rfl) ?_
      refine DL.step (d := some 87) [] rfl rfl rfl (fun τ h => xj_cat ((h.e 0 _ rfl).trans rfl) ((h.e 1 _ rfl).trans rfl) (by first | omega | (simp only [ByteArray.size_append]; omega))) rfl (by kernel_rfl) ?_
      refine DL.step (d := some 88) [] rfl rfl rfl (fun τ h => xj_cat ((h.e 0 _ rfl).trans rfl) ((h.e 1 _ rfl).trans rfl) (by first | omega | (simp only [ByteArray.size_append]; omega))) rfl (by kernel_rfl) ?_
      iterate 3 refine D1 rfl rfl ?_
      refine DL.step (d := some 92) [] rfl rfl rfl (fun τ h => xj_call Tryz.call63 e4 (h.argsP rfl)) rfl (by kernel_rfl) ?_
      refine DL.step (d := some 93) [] rfl rfl rfl (fun τ h => xj_cat ((h.e 0 _ rfl).trans rfl) ((h.e 1 _ rfl).trans rfl) (by first | omega | (simp only [ByteArray.size_append]; omega))) rfl (by kernel_rfl) ?_
      refine DL.step (d := some 94) [] rfl rfl rfl (fun τ h => xj_cat ((h.e 0 _ rfl).trans rfl) ((h.e 1 _ rfl).trans rfl) (by first | omega | (simp only [ByteArray.size_append]; omega))) rfl (by kernel_rfl) ?_
      iterate 2 refine D1 rfl rfl ?_
      refine DL.step (d := some 97) [] rfl rfl rfl (fun τ h => xj_cat ((h.e 0 _ rfl).trans rfl) ((h.e 1 _ rfl).trans rfl) (by first | omega | (simp only [ByteArray.size_append]; omega))) rfl (by kernel_rfl) ?_
      refine DL.step (d := some 98) [] rfl rfl rfl (fun τ h => xj_cat ((h.e 0 _ rfl).trans rfl) ((h.e 1 _ rfl).trans rfl) (by first | omega | (simp only [ByteArray.size_append]; omega))) rfl (by kernel_rfl) ?_
      refine D1 rfl rfl ?_
      refine ⟨by kernel_rfl, ?_⟩
      repeat refine AW.seq ?_
      refine AW.region ?_
      iterate 2 refine A1 rfl ?_
      exact ⟨(i + 1, y ++ (((((((((spaceT ++ itoaT t.a.f) ++ spaceT) ++ catT t.a.c) ++ spaceT) ++ itoaT t.b.f) ++ spaceT) ++ catT t.b.c) ++ spaceT) ++ t.v)), St.le_mk ⟨rfl, rfl, rfl, rfl, trivial⟩ ⟨by kernel_rfl, trivial⟩ rfl rfl, ⟨by omega, hnx⟩, by simp only; omega⟩
    · repeat refine AW.seq ?_
      refine AW.exit ?_
      repeat refine AW.seq ?_
      refine AW.region ?_
      iterate 2 refine A1 rfl ?_
      repeat refine AW.seq ?_
      refine AW.ret ?_
      exact ⟨_, _, rfl, rfl, by rw [hb, wordsOf, ← List.take_of_length_le (l := p.sum.q) (i := i) (by omega), ← hy]; rfl⟩
end Go.Proofs.YtopjkdddicgajaaGreatDoor
namespace Go.Proofs.YtopjkdddicgajaaGreatDoor
open Go.RowKit Mk
set_option maxRecDepth 100000
set_option maxHeartbeats 4000000
section
variable {C : Ctx} {n : Nat} {σ : St} {dst : Option Tmp} {ty : TypeId} {ts : Array TypeId} {pos : String} {after : Array Edge} {gd : Option (Nat × Bool)}
/-- A call that is handed places, if it always leaves the same. -/
theorem xj_callOF {f : FuncId} {xs : Array Operand} {args : List V} {os : List (Nat × Ob)} {k' : Nat} {r : V} {X : Nat → Option Ob} (ids : List Nat) (base : Nat) (hc : CallOk C.P f) (hf : FnO C.P f ids.length k' args os (fun v ob' => v = r ∧ ob' = X)) (hxs : xs.toList.map (σ.ev n) = V.renL (renI ids base) args)
    (ha : V.allL (okR ids.length 0) args = true) (hos : os.map (·.1) = (List.range ids.length).map (big + ·)) (hob : os.all (fun p => p.2.all (okR ids.length 0)) = true) (hobs : allObR σ (renI ids base) os)
    (hnd : ids.Nodup) (hav : (nwO base k').all σ.av = true) :
    XJ C n ⟨dst, .call { callee := .value (.func f), args := xs, argTypes := ts }, ty, pos, after, gd⟩ σ ⟨r.ren (renI ids base), wrO ids base k' X, nwO base k'⟩ :=
  oj_callO ids base hc hxs ha hos hob hobs hnd hav hf (by rintro _ _ ⟨rfl, rfl⟩; rfl)
end
theorem len_snoc {α : Type} (l : List α) (a : α) : l.length + 1 = (l ++ [a]).length := by simp
theorem trmsC_snoc (l : List Trm) (t : Trm) : trmsC l ++ trmC t = trmsC (l ++ [t]) := by simp [trmsC]
theorem prrsC_snoc (l : List Prr) (t : Prr) : prrsC l ++ prrC t = prrsC (l ++ [t]) := by simp [prrsC]
/-- The words of a line. -/
def lineW (s : ByteArray) : List ByteArray := let t : ByteArray := ⟨(Lib.trimSuffix s.data.toList [10]).toArray⟩; Lib.splitB spaceT 0 (Lib.countB t spaceT) t
/-- What is read is a line. -/
def parseOk (s : ByteArray) : Bool := !parseB (lineW s) && (!badP (parseP (lineW s)) && ((lineT (parseP (lineW s))).toList == s.toList))
theorem parse_spec (s : ByteArray) (hs : s.size < 4294967281) (h : LnOk (lineW s)) : FnP Tryz.prog 27 [.str s] (fun v => ∃ q, v = .tup [.agg (pgsC q), .bool (parseOk s)] ∧ (parseOk s = true → q = parseP (lineW s))) := by
  refine FnP.fg2 (FnP.ofC Tryz.func27 rfl Tryz.ntmps27 (by simp) fun m0 w0 F R0 => ?_)
  have htr : FnP Tryz.prog 56 [.str s, .str ⟨#[10]⟩] (· = .str ⟨(Lib.trimSuffix s.data.toList [10]).toArray⟩) := trimSuffix_fn s ⟨#[10]⟩ (by omega)
  have htl : (⟨(Lib.trimSuffix s.data.toList [10]).toArray⟩ : ByteArray).size ≤ s.size := by
    rw [Lib.size_eq, Lib.size_eq s]
    show (Lib.trimSuffix s.data.toList [10]).length ≤ _
    unfold Lib.trimSuffix
    split
    · simp
    · exact Nat.le_refl _
  have hsp : FnP Tryz.prog 55 [.str ⟨(Lib.trimSuffix s.data.toList [10]).toArray⟩, .str ⟨#[32]⟩] (· = pstrs (lineW s)) := split_fn _ ⟨#[32]⟩ (by omega) (by decide)
  have hpo := parseOk.eq_1 s
  generalize parseOk s = po at *
  generalize lineW s = W at *
  generalize (⟨(Lib.trimSuffix s.data.toList [10]).toArray⟩ : ByteArray) = t at *
  have hW1 : ∀ w ∈ W, w.size ≤ 1000 := fun w hw => (h.w w hw).1
  have hWn := h.n
  have hL4 := sub_pL4 W
  have hS := sub_pS h
  have hln : (parseP W).sum.s.length ≤ 100000 := (parse_ok2 h).2.1
  have s1 : FnO Tryz.prog 57 1 0 [.ptr big 0] (scO W false) (fun v ob' => v = .pv (.str (nextW W)) ∧ ob' = lookO (scO W.tail (pb1 W))) := next_spec W false (by omega)
  have s2 : FnO Tryz.prog 58 1 0 [.ptr big 0] (scO W.tail (pb1 W)) (fun v ob' => v = .pv (.int .i64 (parseP W).job) ∧ ob' = lookO (scO W.tail.tail (pb2 W))) := int_spec W.tail (pb1 W) (by simp; omega) (fun w hw => hW1 w (List.mem_of_mem_tail hw))
  have s3 : FnO Tryz.prog 58 1 0 [.ptr big 0] (scO W.tail.tail (pb2 W)) (fun v ob' => v = .pv (.int .i64 (parseP W).done) ∧ ob' = lookO (scO W.tail.tail.tail (pb3 W))) := int_spec W.tail.tail (pb2 W) (by simp; omega) (fun w hw => hW1 w (List.mem_of_mem_tail (List.mem_of_mem_tail hw)))
  have s4 : FnO Tryz.prog 57 1 0 [.ptr big 0] (scO W.tail.tail.tail (pb3 W)) (fun v ob' => v = .pv (.str (parseP W).sum.n) ∧ ob' = lookO (scO (pL4 W) (pb4 W))) := next_spec W.tail.tail.tail (pb3 W) (by simp; omega)
  have hN := manyN_bd (pL4 W) 3 (by decide) (by have := hL4.2; omega)
  have s5 : FnO Tryz.prog 59 1 0 [.ptr big 0, .pv (.int .i64 3)] (scO (pL4 W) (pb4 W)) (fun v ob' => v = .pv (.int .i64 (pN W : Int)) ∧ ob' = lookO (scO (pL4 W).tail (pb5 W))) := by
    have := many_spec (pL4 W) (pb4 W) 3 (by decide) (by have := hL4.2; omega) (fun w hw => hW1 w (hL4.1 w hw))
    rw [← hN.1] at this
    exact this
  have hM := manyN_bd (pS W).2.1 5 (by decide) (by have := hS.2; omega)
  have s6 : FnO Tryz.prog 59 1 0 [.ptr big 0, .pv (.int .i64 5)] (scO (pS W).2.1 (pS W).2.2) (fun v ob' => v = .pv (.int .i64 (pM W : Int)) ∧ ob' = lookO (scO (pS W).2.1.tail (pb7 W))) := by
    have := many_spec (pS W).2.1 (pS W).2.2 5 (by decide) (by have := hS.2; omega) (fun w hw => hW1 w (hS.1 w hw))
    rw [← hM.1] at this
    exact this
  have hNl : pN W ≤ 1000000 := by have := hN.2; have := hL4.2; unfold pN; omega
  have hMl : pM W ≤ 1000000 := by have := hM.2; have := hS.2; unfold pM; omega
  repeat refine AW.seq ?_
  refine AW.region ?_
  iterate 2 refine A1 rfl ?_
  repeat refine AW.seq ?_
  refine AW.region ?_
  refine A1 rfl ?_
  refine RL.step (d := some 9) rfl rfl (xj_call Tryz.call56 htr rfl) ?_
  refine RL.step (d := some 10) rfl rfl (xj_call Tryz.call55 hsp rfl) ?_
  iterate 4 refine A1 rfl ?_
  repeat refine AW.seq ?_
  refine AW.region ?_
  refine RL.call rfl (oj_callF2 [1] 2 Tryz.call57 s1 rfl rfl rfl rfl ⟨by kernel_rfl, trivial⟩ (by decide) rfl ?_)
  rintro _ _ ⟨rfl, rfl⟩
  repeat refine AW.seq ?_
  refine AW.region ?_
  refine RL.call rfl (oj_callF2 [1] 2 Tryz.call58 s2 rfl rfl rfl rfl ⟨by kernel_rfl, trivial⟩ (by decide) rfl ?_)
  rintro _ _ ⟨rfl, rfl⟩
  refine RL.call rfl (oj_callF2 [1] 2 Tryz.call58 s3 rfl rfl rfl rfl ⟨by kernel_rfl, trivial⟩ (by decide) rfl ?_)
  rintro _ _ ⟨rfl, rfl⟩
  iterate 3 refine A1 rfl ?_
  repeat refine AW.seq ?_
  refine AW.region ?_
  refine RL.call rfl (oj_callF2 [1] 3 Tryz.call57 s4 rfl rfl rfl rfl ⟨by kernel_rfl, trivial⟩ (by decide) rfl ?_)
  rintro _ _ ⟨rfl, rfl⟩
  iterate 3 refine A1 rfl ?_
  refine AW.weaken (St.le_groC (T' := 33) (cs := [.pv (.int .i64 (parseP W).job), .pv (.int .i64 (parseP W).done), .pv (.str (parseP W).sum.n), .pv (.sl (some true) 0 []), .pv (.sl (some true) 0 [])]) 2 3 3 3 70 (by kernel_rfl) rfl rfl) ?_
  refine AW.weaken (St.le_groC (T' := 33) (cs := [.pv (.int .i64 (parseP W).job), .pv (.int .i64 (parseP W).done), .pv (.str (parseP W).sum.n), .gsl 3 3 0, .pv (.sl (some true) 0 [])]) 2 4 4 5 72 (by kernel_rfl) rfl rfl) ?_
  repeat refine AW.seq ?_
  refine AW.region ?_
  refine RL.call rfl (oj_callF2 [1] 5 Tryz.call59 s5 rfl rfl rfl rfl ⟨by kernel_rfl, trivial⟩ (by decide) rfl ?_)
  rintro _ _ ⟨rfl, rfl⟩
  refine A1 rfl ?_
  repeat refine AW.seq ?_
  refine AW.block ?_
  repeat refine AW.seq ?_
  refine AW.loop (st := fun x_0 : Nat × List Trm × List ByteArray × Bool => mkS [(0, .pv (.str s)), (2, .ptr 0 0), (4, .ptr 1 0), (5, .ptr 2 0), (20, .pv (.int .i64 (pN W : Int))), (21, .pv (.int .i64 x_0.1))] [(0, .mix 33 [.pv (.int .i64 0), .pv (.int .i64 0), .pv (.str ⟨#[]⟩), .pv (.sl (some true) 0 []), .pv (.sl (some true) 0 [])]), (1, .mix 97 [.pv (pstrs x_0.2.2.1), .pv (.bool x_0.2.2.2)]), (2, .mix 33 [.pv (.int .i64 (parseP W).job), .pv (.int .i64 (parseP W).done), .pv (.str (parseP W).sum.n), .gsl 3 3 x_0.2.1.length, .gsl 4 5 0]), (3, .gro 70 (trmsC x_0.2.1)), (4, .gro 72 (prrsC []))] 5)
    (I := fun x_0 => x_0.1 ≤ pN W ∧ x_0.2 = scanT x_0.1 (pL4 W).tail (pb5 W)) (μ := fun x_0 => pN W - x_0.1) (x0 := (0, ([], (pL4 W).tail, pb5 W))) (St.le_mk ⟨rfl, rfl, rfl, rfl, rfl, rfl, trivial⟩ ⟨by kernel_rfl, by kernel_rfl, by kernel_rfl, by kernel_rfl, by kernel_rfl, trivial⟩ rfl rfl) (⟨Nat.zero_le _, rfl⟩) ?_
  rintro ⟨k, x⟩ ⟨hk, hx⟩
  try simp only at hk hx ⊢
  repeat refine AW.seq ?_
  refine AW.region ?_
  refine A1 rfl ?_
  repeat refine AW.seq ?_
  refine AW.condP rfl (fun hc22 => ?_) (fun hc22 => ?_)
  · have hlt : k < pN W := by omega
    have hxo := scanT_ok (hL4.tail.ok h.w) (pb5 W) k
    rw [← hx] at hxo
    have hxn : x.2.1.length ≤ 100000 := Nat.le_trans hxo.1.2 (Nat.le_trans hL4.tail.2 hWn)
    have hxs : ∀ w ∈ x.2.1, w.size ≤ 1000 := fun w hw => hW1 w (hL4.tail.1 w (hxo.1.1 w hw))
    have t1 := sparam_spec x.2.1 x.2.2 (by omega) hxs
    have t2 := next_spec x.2.1.tail.tail (paramB x.2.1 x.2.2) (by simp; omega)
    have hnx : (x.1 ++ [⟨paramW x.2.1, nextW x.2.1.tail.tail⟩], x.2.1.tail.tail.tail, paramB x.2.1 x.2.2 || x.2.1.tail.tail.isEmpty) = scanT (k + 1) (pL4 W).tail (pb5 W) := by rw [hx]; rfl
    have htl : (trmsC x.1).length = x.1.length * 3 := trmsC_len x.1
    clear hx
    refine AW.skip ?_
    repeat refine AW.seq ?_
    refine AW.block ?_
    repeat refine AW.seq ?_
    refine AW.draw follows [[], [0], [1, 0], [], [3], [4, 3], [5, 4, 3], [6, 2, 1, 0, 5, 4, 3], [7, 6, 5, 4, 3, 2, 1, 0], [8, 7, 6, 5, 4, 3, 2, 1, 0], [9, 8, 7, 6, 5, 4, 3, 2, 1, 0]] [0, 1, 2, 3, 4, 5, 6, 7, 8, 9, 10] (by kernel_rfl) (by kernel_rfl) ?_
    iterate 3 refine D1 rfl rfl ?_
    refine DL.step (d := some 26) [1] rfl rfl rfl (fun τ h => xj_callOF [1] 5 Tryz.call60 t1 (h.args.trans rfl) rfl rfl rfl ⟨((h.o 0 _ rfl).trans (by kernel_rfl)), trivial⟩ (by decide) rfl) rfl (by kernel_rfl) ?_
    refine DL.step (d := some 27) [1] rfl rfl rfl (fun τ h => xj_callOF [1] 5 Tryz.call57 t2 (h.args.trans rfl) rfl rfl rfl ⟨((h.o 0 _ rfl).trans (by kernel_rfl)), trivial⟩ (by decide) rfl) rfl (by kernel_rfl) ?_
    iterate 6 refine D1 rfl rfl ?_
    refine ⟨by kernel_rfl, ?_⟩
    repeat refine AW.seq ?_
    refine AW.region ?_
    iterate 2 refine A1 rfl ?_
    exact ⟨(k + 1, (x.1 ++ [⟨paramW x.2.1, nextW x.2.1.tail.tail⟩], x.2.1.tail.tail.tail, paramB x.2.1 x.2.2 || x.2.1.tail.tail.isEmpty)), St.le_mkR [0, 1, 2, 6, 4] ⟨rfl, rfl, rfl, rfl, rfl, rfl, trivial⟩ ⟨by kernel_rfl, by kernel_rfl, Eq.trans (b := some (.mix 33 [.pv (.int .i64 (parseP W).job), .pv (.int .i64 (parseP W).done), .pv (.str (parseP W).sum.n), .gsl 6 3 (x.1.length + 1), .gsl 4 5 0])) (by kernel_rfl) (congrArg (fun n => some (Ob.mix 33 [.pv (.int .i64 (parseP W).job), .pv (.int .i64 (parseP W).done), .pv (.str (parseP W).sum.n), .gsl 6 3 n, .gsl 4 5 0])) (len_snoc x.1 _)), Eq.trans (b := some (.gro 70 (trmsC x.1 ++ trmC ⟨paramW x.2.1, nextW x.2.1.tail.tail⟩))) (by kernel_rfl) (congrArg (fun c => some (Ob.gro 70 c)) (trmsC_snoc x.1 _)), by kernel_rfl, trivial⟩ rfl rfl (by decide) rfl, ⟨by omega, hnx⟩, by simp only; omega⟩
  · have hxe : x = pS W := by rw [hx, show k = pN W by omega]; rfl
    rw [← hxe] at s6 hS
    clear hx
    repeat refine AW.seq ?_
    refine AW.exit ?_
    repeat refine AW.seq ?_
    refine AW.region ?_
    refine RL.call rfl (oj_callF2 [1] 5 Tryz.call59 s6 rfl rfl rfl rfl ⟨by kernel_rfl, trivial⟩ (by decide) rfl ?_)
    rintro _ _ ⟨rfl, rfl⟩
    refine A1 rfl ?_
    repeat refine AW.seq ?_
    refine AW.block ?_
    repeat refine AW.seq ?_
    refine AW.loop (st := fun x_1 : Nat × List Prr × List ByteArray × Bool => mkS [(0, .pv (.str s)), (2, .ptr 0 0), (4, .ptr 1 0), (5, .ptr 2 0), (34, .pv (.int .i64 (pM W : Int))), (35, .pv (.int .i64 x_1.1))] [(0, .mix 33 [.pv (.int .i64 0), .pv (.int .i64 0), .pv (.str ⟨#[]⟩), .pv (.sl (some true) 0 []), .pv (.sl (some true) 0 [])]), (1, .mix 97 [.pv (pstrs x_1.2.2.1), .pv (.bool x_1.2.2.2)]), (2, .mix 33 [.pv (.int .i64 (parseP W).job), .pv (.int .i64 (parseP W).done), .pv (.str (parseP W).sum.n), .gsl 3 3 x.1.length, .gsl 4 5 x_1.2.1.length]), (3, .gro 70 (trmsC x.1)), (4, .gro 72 (prrsC x_1.2.1))] 5)
      (I := fun x_1 => x_1.1 ≤ pM W ∧ x_1.2 = scanQ x_1.1 x.2.1.tail (pb7 W)) (μ := fun x_1 => pM W - x_1.1) (x0 := (0, ([], x.2.1.tail, pb7 W))) (St.le_mk ⟨rfl, rfl, rfl, rfl, rfl, rfl, trivial⟩ ⟨by kernel_rfl, by kernel_rfl, by kernel_rfl, by kernel_rfl, by kernel_rfl, trivial⟩ rfl rfl) (⟨Nat.zero_le _, rfl⟩) ?_
    rintro ⟨k2, y⟩ ⟨hk2, hy⟩
    try simp only at hk2 hy ⊢
    repeat refine AW.seq ?_
    refine AW.region ?_
    refine A1 rfl ?_
    repeat refine AW.seq ?_
    refine AW.condP rfl (fun hc36 => ?_) (fun hc36 => ?_)
    · have hlt : k2 < pM W := by omega
      have hyo := scanQ_ok (hS.tail.ok h.w) (pb7 W) k2
      rw [← hy] at hyo
      have hyn : y.2.1.length ≤ 100000 := Nat.le_trans hyo.1.2 (Nat.le_trans hS.tail.2 hWn)
      have hys : ∀ w ∈ y.2.1, w.size ≤ 1000 := fun w hw => hW1 w (hS.tail.1 w (hyo.1.1 w hw))
      have t1 := sparam_spec y.2.1 y.2.2 (by omega) hys
      have t2 := sparam_spec y.2.1.tail.tail (paramB y.2.1 y.2.2) (by simp; omega) (fun w hw => hys w (List.mem_of_mem_tail (List.mem_of_mem_tail hw)))
      have t3 := next_spec y.2.1.tail.tail.tail.tail (paramB y.2.1.tail.tail (paramB y.2.1 y.2.2)) (by simp; omega)
      have hnx : (y.1 ++ [⟨paramW y.2.1, paramW y.2.1.tail.tail, nextW y.2.1.tail.tail.tail.tail⟩], y.2.1.tail.tail.tail.tail.tail, paramB y.2.1.tail.tail (paramB y.2.1 y.2.2) || y.2.1.tail.tail.tail.tail.isEmpty) = scanQ (k2 + 1) x.2.1.tail (pb7 W) := by rw [hy]; rfl
      have htl : (prrsC y.1).length = y.1.length * 5 := prrsC_len y.1
      clear hy
      refine AW.skip ?_
      repeat refine AW.seq ?_
      refine AW.block ?_
      repeat refine AW.seq ?_
      refine AW.draw follows [[], [0], [1, 0], [], [3], [4, 3], [5, 4, 3], [6, 5, 4, 3], [7, 2, 1, 0, 6, 5, 4, 3], [8, 7, 6, 5, 4, 3, 2, 1, 0], [9, 8, 7, 6, 5, 4, 3, 2, 1, 0], [10, 9, 8, 7, 6, 5, 4, 3, 2, 1, 0]] [0, 1, 2, 3, 4, 5, 6, 7, 8, 9, 10, 11] (by kernel_rfl) (by kernel_rfl) ?_
      iterate 3 refine D1 rfl rfl ?_
      refine DL.step (d := some 40) [1] rfl rfl rfl (fun τ h => xj_callOF [1] 5 Tryz.call60 t1 (h.args.trans rfl) rfl rfl rfl ⟨((h.o 0 _ rfl).trans (by kernel_rfl)), trivial⟩ (by decide) rfl) rfl (by kernel_rfl) ?_
      refine DL.step (d := some 41) [1] rfl rfl rfl (fun τ h => xj_callOF [1] 5 Tryz.call60 t2 (h.args.trans rfl) rfl rfl rfl ⟨((h.o 0 _ rfl).trans (by kernel_rfl)), trivial⟩ (by decide) rfl) rfl (by kernel_rfl) ?_
      refine DL.step (d := some 42) [1] rfl rfl rfl (fun τ h => xj_callOF [1] 5 Tryz.call57 t3 (h.args.trans rfl) rfl rfl rfl ⟨((h.o 0 _ rfl).trans (by kernel_rfl)), trivial⟩ (by decide) rfl) rfl (by kernel_rfl) ?_
      iterate 6 refine D1 rfl rfl ?_
      refine ⟨by kernel_rfl, ?_⟩
      repeat refine AW.seq ?_
      refine AW.region ?_
      iterate 2 refine A1 rfl ?_
      exact ⟨(k2 + 1, (y.1 ++ [⟨paramW y.2.1, paramW y.2.1.tail.tail, nextW y.2.1.tail.tail.tail.tail⟩], y.2.1.tail.tail.tail.tail.tail, paramB y.2.1.tail.tail (paramB y.2.1 y.2.2) || y.2.1.tail.tail.tail.tail.isEmpty)), St.le_mkR [0, 1, 2, 3, 6] ⟨rfl, rfl, rfl, rfl, rfl, rfl, trivial⟩ ⟨by kernel_rfl, by kernel_rfl, Eq.trans (b := some (.mix 33 [.pv (.int .i64 (parseP W).job), .pv (.int .i64 (parseP W).done), .pv (.str (parseP W).sum.n), .gsl 3 3 x.1.length, .gsl 6 5 (y.1.length + 1)])) (by kernel_rfl) (congrArg (fun n => some (Ob.mix 33 [.pv (.int .i64 (parseP W).job), .pv (.int .i64 (parseP W).done), .pv (.str (parseP W).sum.n), .gsl 3 3 x.1.length, .gsl 6 5 n])) (len_snoc y.1 _)), by kernel_rfl, Eq.trans (b := some (.gro 72 (prrsC y.1 ++ prrC ⟨paramW y.2.1, paramW y.2.1.tail.tail, nextW y.2.1.tail.tail.tail.tail⟩))) (by kernel_rfl) (congrArg (fun c => some (Ob.gro 72 c)) (prrsC_snoc y.1 _)), trivial⟩ rfl rfl (by decide) rfl, ⟨by omega, hnx⟩, by simp only; omega⟩
    · have hye : y = pQ W := by rw [hy, show k2 = pM W by omega, hxe]; rfl
      have hyb : parseB W = y.2.2 := by rw [hye]; rfl
      have hpe : parseP W = ⟨(parseP W).job, (parseP W).done, ⟨(parseP W).sum.n, x.1, y.1⟩⟩ := by rw [hye, hxe]; rfl
      have hline := line_spec (parseP W) (parse_pgs h).ok
      rw [hpe] at hline hpo
      rw [hyb] at hpo
      clear hy
      have hxl : x.1.length ≤ 100000 := by rw [hxe]; exact (parse_ok2 h).2.1
      generalize parseP W = pp at *
      repeat refine AW.seq ?_
      refine AW.exit ?_
      repeat refine AW.seq ?_
      refine AW.region ?_
      iterate 2 refine A1 rfl ?_
      repeat refine AW.seq ?_
      refine AW.cond rfl (fun hc50 => ?_) (fun hc50 => ?_)
      · obtain rfl : po = false := by rw [hpo, hc50]; rfl
        repeat refine AW.seq ?_
        refine AW.region ?_
        iterate 3 refine A1 rfl ?_
        repeat refine AW.seq ?_
        refine AW.ret ?_
        exact ⟨[.agg [.pv (.int .i64 0), .pv (.int .i64 0), .pv (.str ⟨#[]⟩), .pv (.sl (some true) 0 []), .pv (.sl (some true) 0 [])], .pv (.bool false)], [.agg [.int .i64 0, .int .i64 0, .str ⟨#[]⟩, .sl (some true) 0 [], .sl (some true) 0 []], .bool false], by kernel_rfl, by kernel_rfl, ⟨cellOk1 (T := 33) (id := 0) (cs := [.pv (.int .i64 0), .pv (.int .i64 0), .pv (.str ⟨#[]⟩), .pv (.sl (some true) 0 []), .pv (.sl (some true) 0 [])]) ⟨_, Tryz.underlying33, rfl⟩ sz33 (by kernel_rfl) (by kernel_rfl) rfl, trivial⟩, ⟨0, 0, ⟨emptyT, [], []⟩⟩, rfl, fun h => by cases h⟩
      · refine AW.skip ?_
        refine AW.weaken (St.le_pubA (o := .gro 70 (trmsC x.1)) 3 (by kernel_rfl) rfl) ?_
        refine AW.weaken (St.le_pubA (o := .gro 72 (prrsC y.1)) 4 (by kernel_rfl) rfl) ?_
        repeat refine AW.seq ?_
        refine AW.region ?_
        refine A1 rfl ?_
        refine RL.step (d := some 54) rfl rfl (xj_call Tryz.call10 hline rfl) ?_
        iterate 5 refine A1 rfl ?_
        repeat refine AW.seq ?_
        refine AW.region ?_
        iterate 4 refine A1 rfl ?_
        apply RL.andB 4 60 64 [61, 62, 63] rfl (by first | exact MonoK.le | exact MonoK.aw | exact MonoK.back)
        · intro hb3
          iterate 4 refine A1 rfl ?_
          exact St.le_fg (fEq.upd (fEq.upd (fEq.upd (fEq.upd (fEq.upd (fEq.refl) rfl) rfl) rfl) rfl) rfl) rfl rfl rfl
        · intro hb3
          iterate 4 refine A1 rfl ?_
          exact St.le_fg (fEq.upd (fEq.upd (fEq.upd (fEq.upd (fEq.upd (fEq.refl) rfl) rfl) rfl) rfl) rfl) rfl rfl rfl
        iterate 2 refine A1 rfl ?_
        repeat refine AW.seq ?_
        refine AW.ret ?_
        have hV : (((if badP ⟨pp.job, pp.done, ⟨pp.sum.n, x.1, y.1⟩⟩ = true then 16 else 0 : Int) == 0) && ((if badP ⟨pp.job, pp.done, ⟨pp.sum.n, x.1, y.1⟩⟩ = true then emptyT else lineT ⟨pp.job, pp.done, ⟨pp.sum.n, x.1, y.1⟩⟩).toList == s.toList)) = po := by rw [hpo, hc50]; cases badP ⟨pp.job, pp.done, ⟨pp.sum.n, x.1, y.1⟩⟩ <;> simp
        exact ⟨[.agg [.pv (.int .i64 pp.job), .pv (.int .i64 pp.done), .pv (.str pp.sum.n), .pv (.sl none x.1.length (trmsC x.1)), .pv (.sl none y.1.length (prrsC y.1))], .pv (.bool (((if badP ⟨pp.job, pp.done, ⟨pp.sum.n, x.1, y.1⟩⟩ = true then 16 else 0 : Int) == 0) && ((if badP ⟨pp.job, pp.done, ⟨pp.sum.n, x.1, y.1⟩⟩ = true then emptyT else lineT ⟨pp.job, pp.done, ⟨pp.sum.n, x.1, y.1⟩⟩).toList == s.toList)))], [.agg [.int .i64 pp.job, .int .i64 pp.done, .str pp.sum.n, .sl none x.1.length (trmsC x.1), .sl none y.1.length (prrsC y.1)], .bool (((if badP ⟨pp.job, pp.done, ⟨pp.sum.n, x.1, y.1⟩⟩ = true then 16 else 0 : Int) == 0) && ((if badP ⟨pp.job, pp.done, ⟨pp.sum.n, x.1, y.1⟩⟩ = true then emptyT else lineT ⟨pp.job, pp.done, ⟨pp.sum.n, x.1, y.1⟩⟩).toList == s.toList))], by kernel_rfl, by kernel_rfl, ⟨cellOk1 (T := 33) (id := 0) (cs := [.pv (.int .i64 pp.job), .pv (.int .i64 pp.done), .pv (.str pp.sum.n), .pv (.sl none x.1.length (trmsC x.1)), .pv (.sl none y.1.length (prrsC y.1))]) ⟨_, Tryz.underlying33, rfl⟩ sz33 (by kernel_rfl) (by kernel_rfl) rfl, trivial⟩, ⟨pp.job, pp.done, ⟨pp.sum.n, x.1, y.1⟩⟩, (by rw [← hV]; rfl), fun _ => hpe.symm⟩
end Go.Proofs.YtopjkdddicgajaaGreatDoor
namespace Go.Proofs.YtopjkdddicgajaaGreatDoor
open Go.RowKit Go.Shelf
attribute [local go_sem] Oper.semAt_some
/-- The next line of a text, with its end; what is behind it. -/
def nlI (s : ByteArray) : Int := Lib.indexByte s.data.toList 10
def lineL (s : ByteArray) : ByteArray := if 0 ≤ nlI s then s.extract 0 ((nlI s).toNat + 1) else s
def restL (s : ByteArray) : ByteArray := if 0 ≤ nlI s then s.extract ((nlI s).toNat + 1) s.size else ⟨#[]⟩
noncomputable def boxSize (b : Nat) (w : World) : Nat := match w.cell? ⟨b, 0, none⟩ with | some (.string s) => s.size | _ => 0
theorem boxed_size {W : World} {b : Nat} {s : ByteArray} {t : TypeId} (h : Boxed W b t (.string s)) : boxSize b W = s.size := by
  unfold boxSize; rw [h.cell]
theorem calls_wide {n : Nat} {P : Program} {f : FuncId} {args : Array Value} {w : World} {R : Ending → World → Prop} (h : Calls P f args w R) : CallsIn Fence.wide n P f args w R := callsIn_wide.2 h
set_option maxRecDepth 100000 in
set_option maxHeartbeats 4000000 in
theorem lines_in (l bB Bn : Nat) (hBn : Bn ≤ 4611686018427387904) (J : ByteArray → World → Prop) (Jx : World → Prop)
    (hset : ∀ s v W u, Boxed W bB 9 u → J s W → J s (W.setCell ⟨bB, 0, none⟩ v)) (hdrew : ∀ s W, J s W → J s { W with drawn := W.drawn + 1 })
    (hY : ∀ s W, 0 < s.size → s.size ≤ Bn → Boxed W bB 9 (.string (restL s)) → J s W → YieldAt Fence.wide 0 Tryz.prog l #[.string (lineL s)] W fun e W' =>
      (e = .returned (.bool true) ∧ J (restL s) W' ∧ Boxed W' bB 9 (.string (restL s))) ∨ (e = .returned (.bool false) ∧ Jx W'))
    (s : ByteArray) (hsB : s.size ≤ Bn) (W : World) (hB : Boxed W bB 9 (.string s)) (h0 : J s W) :
    CallsIn Fence.wide 1 Tryz.prog 53 #[.func (.yield l) #[] #[], .pointer (some ⟨bB, 0, none⟩)] W fun e W' => (∃ v, e = .returned v) ∧ (J ByteArray.empty W' ∨ Jx W') := by
  refine callsIn_of_wp Tryz.func53 rfl trivial ?_ rfl
  simp only [Tryz.ntmps53, List.size_toArray, List.length_cons, List.length_nil, Nat.reduceAdd, Nat.reduceSub, Array.replicate_succ, Array.replicate_zero, List.push_toArray, List.append_toArray, List.nil_append, List.cons_append]
  gi_wp2
  gi_loopw [] (fun wr => ∃ s : ByteArray, s.size ≤ Bn ∧ Boxed wr bB 9 (.string s) ∧ J s wr) (fun wr => boxSize bB wr)
  case atStart => exact ⟨s, hsB, hB, h0⟩
  case round =>
    obtain ⟨s, hsn, hb, hJ⟩ := hrel
    have hc := hb.cell
    have hf := hb.frozen
    have hcs : ∀ v, wr.setCell ⟨bB, 0, none⟩ v = wr.setCell ⟨bB, 0, none⟩ v := fun _ => rfl
    by_cases hz : s.size = 0
    · have hlt : ¬ ((s.size : Int) > 0) := by omega
      have hs0 : s = ByteArray.empty := ByteArray.size_eq_zero_iff.1 hz
      gi_wp2
      go_end0
      exact ⟨⟨_, rfl⟩, .inl (by rw [← hs0]; exact hJ)⟩
    · have hlt : ((s.size : Int) > 0) := by omega
      by_cases hn : 0 ≤ nlI s
      · obtain ⟨i, hix⟩ : ∃ i : Nat, Lib.indexByte s.data.toList 10 = (i : Int) := ⟨(nlI s).toNat, (Int.toNat_of_nonneg hn).symm⟩
        have hil : i < s.size := by have h1 := (Lib.indexByte_some hix).1; rw [Lib.size_eq]; exact (List.getElem?_eq_some_iff.1 h1).1
        have hil2 : (i : Int) + 1 ≤ s.size := by omega
        have hwr : wrap64 ((i : Int) + 1) = (i : Int) + 1 := by unfold wrap64; omega
        have hil3 : i + 1 ≤ s.size := hil
        have hcall : Calls Tryz.prog 54 #[.string s, .int .u8 10] wr fun e w' => e = .returned (.int .i64 (i : Int)) ∧ w' = wr := by
          have := Tryz.strings_IndexByte s 10 wr
          rw [show (10 : Int).toNat.toUInt8 = 10 from rfl, hix] at this
          exact this
        have hln : lineL s = s.extract 0 (i + 1) := by unfold lineL nlI; rw [hix, if_pos (by omega)]; rfl
        have hre : restL s = s.extract (i + 1) s.size := by unfold restL nlI; rw [hix, if_pos (by omega)]; rfl
        gi_wp2_with (fail)
        refine ⟨trivial, ?_⟩
        refine (calls_wide hcall).mono ?_
        rintro e w' ⟨rfl, hww⟩
        subst hww
        have hcd := hc
        have hb2 : Boxed (w'.setCell ⟨bB, 0, none⟩ (.string (s.extract (i + 1) s.size))).drew bB 9 (.string (restL s)) := by rw [hre]; exact hb.set _
        have hJ2 : J s (w'.setCell ⟨bB, 0, none⟩ (.string (s.extract (i + 1) s.size))).drew := hdrew _ _ (hset _ _ _ _ hb hJ)
        obtain ⟨fn, tmps, assign, body, hy, hR⟩ := hY s _ (by omega) hsn hb2 hJ2
        rw [hln] at hy
        have hrs : (restL s).size < s.size := by rw [hre]; simp; omega
        gi_wp2
        gi_region
        gi_wp2
        refine hR.mono ?_
        rintro e W3 (⟨rfl, hJ3, hb3⟩ | ⟨rfl, hJx3⟩)
        · gi_wp2
          go_roundw
          case rel => exact ⟨restL s, by omega, hb3, hJ3⟩
          case measure => rw [boxed_size hb3, boxed_size hb]; exact hrs
        · gi_wp2
          refine bodyPost_ret (results_none rfl _ _ _) rfl ?_
          exact ⟨⟨_, rfl⟩, .inr hJx3⟩
      · have hn2 : ¬ (0 ≤ Lib.indexByte s.data.toList 10) := hn
        have hln : lineL s = s := by unfold lineL; rw [if_neg hn]
        have hre : restL s = ⟨#[]⟩ := by unfold restL; rw [if_neg hn]
        gi_wp2_with (fail)
        refine ⟨trivial, ?_⟩
        refine (calls_wide (Tryz.strings_IndexByte s 10 wr)).mono ?_
        rintro e w' ⟨rfl, hww⟩
        subst hww
        have hb2 : Boxed (w'.setCell ⟨bB, 0, none⟩ (.string ⟨#[]⟩)) bB 9 (.string (restL s)) := by rw [hre]; exact hb.set _
        have hJ2 : J s (w'.setCell ⟨bB, 0, none⟩ (.string ⟨#[]⟩)) := hset _ _ _ _ hb hJ
        obtain ⟨fn, tmps, assign, body, hy, hR⟩ := hY s _ (by omega) hsn hb2 hJ2
        rw [hln] at hy
        have hrs : (restL s).size < s.size := by rw [hre]; show 0 < s.size; omega
        gi_wp2
        refine hR.mono ?_
        rintro e W3 (⟨rfl, hJ3, hb3⟩ | ⟨rfl, hJx3⟩)
        · gi_wp2
          go_roundw
          case rel => exact ⟨restL s, by omega, hb3, hJ3⟩
          case measure => rw [boxed_size hb3, boxed_size hb]; exact hrs
        · gi_wp2
          refine bodyPost_ret (results_none rfl _ _ _) rfl ?_
          exact ⟨⟨_, rfl⟩, .inr hJx3⟩
end Go.Proofs.YtopjkdddicgajaaGreatDoor
namespace Go.Proofs.YtopjkdddicgajaaGreatDoor
open Go.RowKit
abbrev rnd (l : Nat) : Fence := Fence.wide.inRound l
theorem calls_rnd {l k : Nat} {P : Program} {f : FuncId} {args : Array Value} {w : World} {R : Ending → World → Prop} (h : Calls P f args w R) : CallsIn (rnd l) k P f args w R :=
  (callsIn_wide.2 h).inRound l
theorem rows_rnd {l k : Nat} {P : Program} {row : String} {args : Array Value} {w : World} {R : Value → World → Prop} (h : Rows P row args w R) : RowsIn (rnd l) k P row args w R := by
  intro c cs _
  obtain ⟨v, w', r, s⟩ := h c cs
  exact ⟨v, w', r, stepsIn_wide.2 s⟩
theorem oper_rnd {l k : Nat} {P : Program} {o : Oper} {a : Act} {w : World} {K : Act → World → Prop} {Q : Exit → Act → World → Prop} (hd : ∀ c, o.op ≠ .defer c) (h : o.wp P a w K Q) : o.wpIn (rnd l) k P a w K Q := by
  refine ⟨fun _ _ => trivial, ?_⟩
  have e : o.semAt (rnd l).round a.eval = execOp a.eval o := by
    unfold Oper.semAt
    split
    · rename_i hc; exact absurd hc (hd _)
    · rfl
  rw [e]
  unfold Oper.wp Oper.upon at h
  unfold Oper.uponIn
  cases hr : (execOp a.eval o).run P w with
  | ok x w1 =>
    rw [hr] at h
    cases x <;> first | exact h | exact ⟨fun h0 => absurd (show false = true from h0) (by decide), calls_rnd h⟩ | exact ⟨fun h0 => absurd (show false = true from h0) (by decide), rows_rnd h⟩ | exact h.elim
  | halt x w1 =>
    rw [hr] at h
    cases x <;> first | exact h | exact h.elim
/-- As AW, inside a round. -/
structure AWR (C : Ctx) (n : Nat) (c : Code) (Q : Exit → St → Prop) (σ : St) : Prop where
  go : ∀ l a w, SJ C n σ a w → c.wpIn (rnd l) 0 C.P (fun ex a' w' => ∃ σ', Q ex σ' ∧ SJ C n σ' a' w') a w
section
variable {C : Ctx} {n : Nat} {Q : Exit → St → Prop} {σ τ : St}
theorem AWR.skip (h : Q .normal σ) : AWR C n .skip Q σ := ⟨fun _ _ _ hs => wpIn_skip ⟨σ, h, hs⟩⟩
theorem AWR.exit {id : Nat} (h : Q (.exit id) σ) : AWR C n (.exit id) Q σ := ⟨fun _ _ _ hs => wpIn_exit ⟨σ, h, hs⟩⟩
theorem AWR.seq {x y : Code} (h : AWR C n x (thenQ (AWR C n y Q) Q) σ) : AWR C n (.seq x y) Q σ := by
  refine ⟨fun l a w hs => ?_⟩
  refine wpIn_seq (wpIn_mono (h.go l a w hs) ?_)
  rintro e a' w' ⟨s, q, r⟩
  cases e <;> first | exact AWR.go q l a' w' r | exact ⟨s, q, r⟩
theorem AWR.block {id : Nat} {c : Code} (h : AWR C n c (blockQ id Q) σ) : AWR C n (.block id c) Q σ := by
  refine ⟨fun l a w hs => ?_⟩
  refine wpIn_block (wpIn_mono (h.go l a w hs) ?_)
  rintro e a' w' ⟨s, q, r⟩
  cases e with
  | exit id' =>
    simp only [blockQ] at q
    simp only [Exit.inBlock]
    split
    · rename_i hid; rw [if_pos hid] at q; exact ⟨s, q, r⟩
    · rename_i hid; rw [if_neg hid] at q; exact ⟨s, q, r⟩
  | _ => exact ⟨s, q, r⟩
theorem AWR.condP {c : Operand} {x y : Code} {p : Prop} [Decidable p] (hc : σ.ev n c = .pv (.bool (decide p))) (ht : p → AWR C n x Q σ) (hf : ¬ p → AWR C n y Q σ) : AWR C n (.cond c x y) Q σ := by
  refine ⟨fun l a w hs => ?_⟩
  obtain ⟨m, R, hw⟩ := hs
  have he := hw.ev c
  rw [hc] at he
  simp only [Rel, RelP] at he
  exact wpIn_cond_split he (fun e => (ht (of_decide_eq_true e)).go l a w ⟨m, R, hw⟩) (fun e => (hf (of_decide_eq_false e)).go l a w ⟨m, R, hw⟩)
theorem AWR.cond {c : Operand} {x y : Code} {b : Bool} (hc : σ.ev n c = .pv (.bool b)) (ht : b = true → AWR C n x Q σ) (hf : b = false → AWR C n y Q σ) : AWR C n (.cond c x y) Q σ := by
  refine ⟨fun l a w hs => ?_⟩
  obtain ⟨m, R, hw⟩ := hs
  have he := hw.ev c
  rw [hc] at he
  simp only [Rel, RelP] at he
  exact wpIn_cond_split he (fun e => (ht e).go l a w ⟨m, R, hw⟩) (fun e => (hf e).go l a w ⟨m, R, hw⟩)
theorem AWR.weaken {c : Code} (hl : σ.le τ) (h : AWR C n c Q τ) : AWR C n c Q σ := ⟨fun l a w hs => h.go l a w (hl C n a w hs)⟩
variable {ops : Array Oper}
theorem RL.soundR (hdf : ∀ o ∈ ops.toList, ∀ c, o.op ≠ .defer c) (l : Nat) (K : St → Prop) : ∀ (os : List Oper) (k : Nat) (σ : St), ops.toList.drop k = os → RL C n ops os K σ → ∀ a w, SJ C n σ a w → ∀ Q : Exit → Act → World → Prop,
    (∀ a w, (∃ s, K s ∧ SJ C n s a w) → Q .normal a w) → wpOpsIn (rnd l) 0 C.P ops Q (List.range' k (ops.size - k)) a w := by
  intro os
  induction os with
  | nil =>
    intro k σ hd h a w hs Q hQ
    have : ops.size - k = 0 := by
      have := congrArg List.length hd
      simpa using this
    rw [this]
    simp only [List.range'_zero, wpOpsIn]
    exact hQ a w ⟨σ, h, hs⟩
  | cons o os ih =>
    intro k σ hd h a w hs Q hQ
    have hlt : k < ops.size := by
      have := congrArg List.length hd
      simp at this
      omega
    have ho : ops[k]? = some o := by
      have := congrArg (·[0]?) hd
      simpa using this
    have hmem : o ∈ ops.toList := by
      obtain ⟨_, e⟩ := Array.getElem?_eq_some_iff.1 ho
      rw [← e]; exact Array.getElem_mem_toList _
    have hd' : ops.toList.drop (k + 1) = os := by
      have := congrArg (List.drop 1) hd
      simpa [Nat.add_comm] using this
    have e : ops.size - k = (ops.size - (k + 1)) + 1 := by omega
    rw [e, List.range'_succ]
    have next : ∀ a' w', (∃ s, RL C n ops os K s ∧ SJ C n s a' w') → wpOpsIn (rnd l) 0 C.P ops Q (List.range' (k + 1) (ops.size - (k + 1))) a' w' := by
      rintro a' w' ⟨s, hs', hr⟩
      exact ih (k + 1) s hd' hs' a' w' hr Q hQ
    simp only [wpOpsIn, ho]
    simp only [RL] at h
    cases hg : o.guard with
    | none =>
      rw [hg] at h
      simp only [Region.wanted, hg, if_true]
      exact oper_rnd (hdf o hmem) (Oper.wp_mono next (h a w Q hs))
    | some jw =>
      obtain ⟨j, want⟩ := jw
      rw [hg] at h
      obtain ⟨b, hb, h1, h2⟩ := h
      have hy := hb a w hs
      simp only [Region.wanted, hg, hy]
      by_cases hbw : b = some want
      · subst hbw
        simp only [beq_self_eq_true, if_true]
        exact oper_rnd (hdf o hmem) (Oper.wp_mono next (h1 rfl a w Q hs))
      · have : (b == some want) = false := by simpa using hbw
        simp only [this, Bool.false_eq_true, if_false]
        exact ⟨fun _ _ => trivial, next _ _ (h2 hbw a w hs)⟩
/-- No deferred calls among operations. -/
def noDef (ops : Array Oper) : Bool := ops.toList.all fun o => match o.op with | .defer _ => false | _ => true
theorem AWR.region {id : Nat} (hn : noDef ops = true) (h : RL C n ops ops.toList (Q .normal) σ) : AWR C n (.region id ops false) Q σ := by
  refine ⟨fun l a w hs => ?_⟩
  refine wpIn_region ?_
  have hdf : ∀ o ∈ ops.toList, ∀ c, o.op ≠ .defer c := fun o ho c e => by
    have := List.all_eq_true.1 hn o ho
    rw [e] at this
    cases this
  have := RL.soundR hdf l (Q .normal) ops.toList 0 σ (by simp) h a w hs (fun ex a' w' => ∃ σ', Q ex σ' ∧ SJ C n σ' a' w') (fun _ _ x => x)
  rw [List.range_eq_range']
  simpa using this
end
end Go.Proofs.YtopjkdddicgajaaGreatDoor
namespace Go.Proofs.YtopjkdddicgajaaGreatDoor
open Go.RowKit
/-- What stands between two rounds: the objects os, those handed over (big, big + 1 ..) in the blocks bs; the blocks X are others' (the iterator's variable, the loop's record). -/
structure Btw (P : Program) (w0 : World) (R0 : Nat → Prop) (bs X : List Nat) (os : List (Nat × Ob)) (k : Nat) (W : World) : Prop where
  ex : ∃ (m : Gm) (rt : RT W (OwnB m)), HR ⟨P, m, W, OwnB m, rt⟩ m rt.p (lookO os) (avK k) W ∧ (∀ j b, bs[j]? = some b → ∃ N, m (big + j) = some (b, N)) ∧
    (∀ id b N, m id = some (b, N) → w0.heap.size ≤ b ∧ b ∉ X) ∧ (∀ b, R0 b → rt.p b) ∧ (∀ b, rt.p b → (R0 b ∨ w0.heap.size ≤ b) ∧ b ∉ X)
  bel : Below w0.heap.size w0 W
  xs : ∀ x ∈ X, x < W.heap.size ∧ w0.heap.size ≤ x
section
variable {P : Program} {w0 : World} {R0 : Nat → Prop} {bs X X' : List Nat} {os os' : List (Nat × Ob)} {k k' : Nat} {W W' : World}
theorem Btw.other (h : Btw P w0 R0 bs X os k W) (hs : W.heap.size ≤ W'.heap.size) (hb : ∀ q, q < W.heap.size → q ∉ X → W'.heap[q]? = W.heap[q]?) (hbel : Below w0.heap.size w0 W')
    (hX : ∀ x ∈ X', x ∈ X ∨ (W.heap.size ≤ x ∧ x < W'.heap.size)) : Btw P w0 R0 bs X' os k W' := by
  obtain ⟨m, rt, hr, h1, h2, h3, h4⟩ := h.ex
  have hRk : ∀ b, rt.p b → rt.p b ∧ W'.heap[b]? = W.heap[b]? := fun b hb' => ⟨hb', hb b (rt.d b hb').1 (h4 b hb').2⟩
  have hX2 : ∀ b, b < W.heap.size → b ∉ X → b ∉ X' := fun b hlt hn hm => by
    rcases hX b hm with e | e
    · exact hn e
    · omega
  have hown := hr.own
  refine ⟨⟨m, ⟨rt.p, rt.g.mono hRk, fun b hb' => ⟨Nat.lt_of_lt_of_le (rt.d b hb').1 hs, (rt.d b hb').2⟩⟩, ?_, h1, fun id b N e => ⟨(h2 id b N e).1, hX2 b (hown id b N e).1 (h2 id b N e).2⟩, h3, fun b hb' => ⟨(h4 b hb').1, hX2 b (rt.d b hb').1 (h4 b hb').2⟩⟩, hbel, fun x hx => ?_⟩
  · exact ⟨hr.dom, hr.free, fun id o b N h5 h6 => ORel.mono hRk (fun _ _ _ e => e) (fun _ e => e) (hb b (hown id b N h6).1 (h2 id b N h6).2) (hr.obj id o b N h5 h6), hr.inj,
      fun id b N e => ⟨Nat.lt_of_lt_of_le (hown id b N e).1 hs, (hown id b N e).2.1, .inl ⟨id, N, e⟩⟩, fun b hb' => Nat.lt_of_lt_of_le (hr.rsz b hb') hs, fun b hb' => .inl hb', fun b hb' => hb', Fr.refl _ _, fun _ _ _ e => e, hr.res⟩
  · rcases hX x hx with e | e
    · exact ⟨Nat.lt_of_lt_of_le (h.xs x e).1 hs, (h.xs x e).2⟩
    · exact ⟨e.2, Nat.le_trans h.bel.size e.1⟩
/-- Into a round and out of it. -/
theorem Btw.round {n l : Nat} {body : Code} {slots : List (Nat × V)} {Q : Exit → St → Prop} {G : Exit → List (Nat × Ob) → Nat → Prop} (hA : ∀ m0 w0 F R0, AWR ⟨P, m0, w0, F, R0⟩ n body Q (mkS slots os k))
    (hQ : ∀ ex τ, Q ex τ → ∃ os' k', τ.le (mkS [] os' k') ∧ (∀ j, j < bs.length → liveO (lookO os' (big + j)) = true) ∧ G ex os' k')
    (h : Btw P w0 R0 bs X os k W) (a : Act) (hdf : a.defers = []) (hsz : a.tmps.size = n)
    (hsl : ∀ (m : Gm) (R : Nat → Prop), (∀ j b, bs[j]? = some b → ∃ N, m (big + j) = some (b, N)) → ∀ t, t < n → Rel W m (avK k) R (look slots t) (a.eval (.tmp t))) :
    body.wpIn (rnd l) 0 P (fun ex _ W' => (∃ os' k', G ex os' k' ∧ Btw P w0 R0 bs X os' k' W') ∧ (∀ x ∈ X, W'.heap[x]? = W.heap[x]?) ∧ W.heap.size ≤ W'.heap.size) a W := by
  obtain ⟨m, rt, hr, h1, h2, h3, h4⟩ := h.ex
  refine wpIn_mono ((hA m W (OwnB m) rt).go l a W ⟨m, rt.p, hr, hdf, hsz, hsl m rt.p h1⟩) ?_
  rintro ex a' W' ⟨τ, hq, hsj⟩
  obtain ⟨os', k', hle, hlive, hG⟩ := hQ ex τ hq
  obtain ⟨m', R', hw⟩ := hle _ _ _ _ hsj
  have hr' : HR ⟨P, m, W, OwnB m, rt⟩ m' R' (lookO os') (avK k') W' := hw.hr
  have hfr : Fr (OwnB m) W W' := hr'.frame
  have hXm : ∀ x ∈ X, ¬ OwnB m x := fun x hx ⟨id, N, e⟩ => (h2 id x N e).2 hx
  have hXR : ∀ x ∈ X, ¬ R' x := fun x hx hR => by
    rcases hr'.rfr x hR with e | e | e
    · exact (h4 x e).2 hx
    · have := (h.xs x hx).1; exact absurd e (Nat.not_le.2 this)
    · exact hXm x hx e
  have hbel : Below w0.heap.size w0 W' := by
    have hb2 : Below w0.heap.size W W' := ⟨hfr.os, hfr.tape, hfr.output, hfr.size, fun q hq' => hfr.block q (Nat.lt_of_lt_of_le hq' h.bel.size) fun ⟨id, N, e⟩ => by have := (h2 id q N e).1; omega⟩
    exact h.bel.trans hb2
  refine ⟨⟨os', k', hG, ⟨⟨m', ⟨R', hr'.gi, fun b hb => ⟨hr'.rsz b hb, fun ⟨id, N, e⟩ => (hr'.own id b N e).2.1 hb⟩⟩, ?_, ?_, ?_, fun b hb => hr'.r0 b (h3 b hb), ?_⟩, hbel, fun x hx => ⟨Nat.lt_of_lt_of_le (h.xs x hx).1 hfr.size, (h.xs x hx).2⟩⟩⟩, fun x hx => hfr.block x (h.xs x hx).1 (hXm x hx), hfr.size⟩
  · exact ⟨hr'.dom, hr'.free, hr'.obj, hr'.inj, fun id b N e => ⟨(hr'.own id b N e).1, (hr'.own id b N e).2.1, .inl ⟨id, N, e⟩⟩, hr'.rsz, fun b hb => .inl hb, fun b hb => hb, Fr.refl _ _, fun _ _ _ e => e, hr'.res⟩
  · intro j b hj
    obtain ⟨N, hN⟩ := h1 j b hj
    have hd := hr'.dom (big + j)
    rw [hlive j (List.getElem?_eq_some_iff.1 hj).1] at hd
    obtain ⟨y, hy⟩ := Option.isSome_iff_exists.1 hd
    have := hr'.keep (big + j) y (Nat.le_add_right _ _) hy
    have e : m (big + j) = some y := this
    rw [hN] at e
    exact ⟨N, by rw [hy, ← e]⟩
  · intro id b N e
    rcases (hr'.own id b N e).2.2 with ⟨id2, N2, e2⟩ | e2
    · exact h2 id2 b N2 e2
    · have e3 : W.heap.size ≤ b := e2
      exact ⟨Nat.le_trans h.bel.size e3, fun hx => by have := (h.xs b hx).1; omega⟩
  · intro b hb
    refine ⟨?_, fun hx => hXR b hx hb⟩
    rcases hr'.rfr b hb with e | e | ⟨id, N, e⟩
    · exact (h4 b e).1
    · exact .inr (Nat.le_trans h.bel.size e)
    · exact .inr (h2 id b N e).1
end
end Go.Proofs.YtopjkdddicgajaaGreatDoor
namespace Go.Proofs.YtopjkdddicgajaaGreatDoor
open Go.RowKit Mk
set_option maxRecDepth 100000
set_option maxHeartbeats 4000000
/-- The cells of progresses. -/
def pgssC (l : List Pgs) : List PV := l.flatMap pgsC
theorem pgssC_len (l : List Pgs) : (pgssC l).length = l.length * 5 := flat_len _ 5 (fun _ => rfl) l
theorem pgssC_snoc (l : List Pgs) (t : Pgs) : pgssC l ++ pgsC t = pgssC (l ++ [t]) := by simp [pgssC]
abbrev rdO (qs : List Pgs) (k : Int) : List (Nat × Ob) := [(big, .mix 39 [.gsl 0 5 qs.length]), (1000001, .mix 3 [.pv (.int .i64 k)]), (0, .gro 33 (pgssC qs))]
abbrev rdS (x : ByteArray) : List (Nat × V) := [(4, .ptr big 0), (5, .ptr 1000001 0), (6, .pv (.str x))]
noncomputable def rdBody : Code := match Tryz.f13.body with
  | some (.seq _ (.seq _ (.seq _ (.seq (.seq _ (.block _ (.rangeFunc _ _ _ b))) _)))) => b
  | _ => .skip
theorem round_spec (x : ByteArray) (hx : x.size < 4294967281) (hl : LnOk (lineW x)) (qs : List Pgs) (k : Int) (hk : 0 ≤ k ∧ k ≤ 1000000000) (hq : qs.length ≤ 100000000) :
    ∀ m0 w0 F R0, AWR ⟨Tryz.prog, m0, w0, F, R0⟩ Tryz.f13.ntmps rdBody (fun ex τ => (parseOk x = true ∧ ex = .normal ∧ τ.le (mkS [] (rdO (qs ++ [parseP (lineW x)]) (k + x.size)) 1)) ∨ (parseOk x = false ∧ ex = .exit 0 ∧ τ.le (mkS [] (rdO qs k) 1))) (mkS (rdS x) (rdO qs k) 1) := by
  intro m0 w0 F R0
  have hp := parse_spec x hx hl
  have hgl := pgssC_len qs
  repeat refine AWR.seq ?_
  refine AWR.block ?_
  repeat refine AWR.seq ?_
  refine AWR.region rfl ?_
  refine A1 rfl ?_
  refine RL.call rfl (oj_call Tryz.call27 hp rfl ?_)
  rintro _ ⟨q, rfl, hq2⟩
  iterate 6 refine A1 rfl ?_
  repeat refine AWR.seq ?_
  refine AWR.region rfl ?_
  iterate 2 refine A1 rfl ?_
  repeat refine AWR.seq ?_
  refine AWR.cond rfl (fun hc18 => ?_) (fun hc18 => ?_)
  · have hpo : parseOk x = false := by simpa using hc18
    repeat refine AWR.seq ?_
    refine AWR.exit ?_
    exact .inr ⟨hpo, rfl, St.le_mk trivial ⟨by kernel_rfl, by kernel_rfl, by kernel_rfl, trivial⟩ rfl rfl⟩
  · have hpo : parseOk x = true := by simpa using hc18
    obtain rfl : q = parseP (lineW x) := hq2 hpo
    generalize parseP (lineW x) = q at *
    refine AWR.skip ?_
    repeat refine AWR.seq ?_
    refine AWR.region rfl ?_
    iterate 5 refine A1 rfl ?_
    repeat refine AWR.seq ?_
    refine AWR.region rfl ?_
    iterate 5 refine A1 rfl ?_
    exact .inl ⟨hpo, rfl, St.le_mkB [3] trivial ⟨Eq.trans (b := some (.mix 39 [.gsl 3 5 (qs.length + 1)])) (by kernel_rfl) (congrArg (fun n => some (Ob.mix 39 [.gsl 3 5 n])) (len_snoc qs _)), by kernel_rfl, Eq.trans (b := some (.gro 33 (pgssC qs ++ pgsC q))) (by kernel_rfl) (congrArg (fun c => some (Ob.gro 33 c)) (pgssC_snoc qs _)), trivial⟩ rfl rfl (by decide) rfl⟩
end Go.Proofs.YtopjkdddicgajaaGreatDoor
