/-
  slices.Sort of at most 12 numbers, in our step logic. No statement of the program is proved here.
-/
import Derived.Test.YtkalgjnhaicabaaO2
namespace Go.Proofs.Ytkalgjnhaicabaa
open Go.RowKit Mk
set_option maxRecDepth 100000
set_option maxHeartbeats 1000000

/-- The numbers of a list, ascending. -/
def sortI (l : List Int) : List Int := l.mergeSort (fun a b => decide (a ≤ b))
theorem sortI_perm (l : List Int) : (sortI l).Perm l := List.mergeSort_perm l _
theorem sortI_sorted (l : List Int) : (sortI l).Pairwise (· ≤ ·) := by
  have := List.pairwise_mergeSort (le := fun a b : Int => decide (a ≤ b)) (by intro a b c; simp; omega) (by intro a b; simp; omega) l
  exact this.imp (by simp)
theorem sorted_eq {l r : List Int} (hp : l.Perm r) (hl : l.Pairwise (· ≤ ·)) (hr : r.Pairwise (· ≤ ·)) : l = r :=
  hp.eq_of_pairwise (fun a b _ _ h1 h2 => Int.le_antisymm h1 h2) hl hr
theorem sortI_eq {l r : List Int} (hp : l.Perm r) (hl : l.Pairwise (· ≤ ·)) : l = sortI r := sorted_eq (hp.trans (sortI_perm r).symm) hl (sortI_sorted r)
theorem swapL_len (q : List Int) (i k : Nat) : (swapL q i k).length = q.length := by simp [swapL]
theorem swapL_getD {q : List Int} {i k p : Nat} (hi : i < q.length) (hk : k < q.length) : (swapL q i k).getD p 0 = if p = k then q.getD i 0 else if p = i then q.getD k 0 else q.getD p 0 := by
  have e1 : q.getD i 0 = q[i] := by simp [List.getD, hi]
  have e2 : q.getD k 0 = q[k] := by simp [List.getD, hk]
  unfold swapL
  rw [e1, e2]
  by_cases h1 : p = k
  · subst h1; simp [List.getD, hk]
  · rw [if_neg h1]
    by_cases h2 : p = i
    · subst h2; simp only [List.getD, if_pos]; rw [List.getElem?_set_ne (fun e => h1 e.symm)]; simp [hi]
    · rw [if_neg h2]; simp only [List.getD]; rw [List.getElem?_set_ne (fun e => h1 e.symm), List.getElem?_set_ne (fun e => h2 e.symm)]
/-- The numbers up to i are ascending, but for the one at j, which is at most what follows. -/
def Ins (l : List Int) (i j : Nat) : Prop := ∀ p q, p < q → q ≤ i → (p ≠ j → q ≠ j → l.getD p 0 ≤ l.getD q 0) ∧ (p = j → l.getD p 0 ≤ l.getD q 0)
def Asc (l : List Int) (i : Nat) : Prop := ∀ p q, p < q → q < i → l.getD p 0 ≤ l.getD q 0
theorem Ins.first {l : List Int} {i : Nat} (h : Asc l i) : Ins l i i := fun p q h1 h2 => ⟨fun _ h4 => h p q h1 (by omega), fun e => by omega⟩
theorem Ins.swap {l : List Int} {i j : Nat} (h : Ins l i j) (hj : 0 < j) (hji : j ≤ i) (hi : i < l.length) (hlt : l.getD j 0 < l.getD (j - 1) 0) : Ins (swapL l j (j - 1)) i (j - 1) := by
  intro p q h1 h2
  rw [swapL_getD (by omega) (by omega), swapL_getD (by omega) (by omega)]
  have a1 := h p q h1 h2
  have a2 := h (j - 1) q
  have a3 := h p (j - 1)
  have a4 := h j q
  have a5 := h p j
  by_cases e1 : p = j - 1
  · rw [if_pos e1]
    refine ⟨fun h => absurd e1 h, fun _ => ?_⟩
    by_cases e2 : q = j - 1
    · omega
    · rw [if_neg e2]
      by_cases e3 : q = j
      · rw [if_pos e3]; omega
      · rw [if_neg e3]; exact (a4 (by omega) h2).2 rfl
  · rw [if_neg e1]
    refine ⟨fun _ h4 => ?_, fun h => absurd h e1⟩
    rw [if_neg h4]
    by_cases e3 : q = j
    · rw [if_pos e3, if_neg (by omega)]
      exact (a3 (by omega) (by omega)).1 (by omega) (by omega)
    · rw [if_neg e3]
      by_cases e5 : p = j
      · rw [if_pos e5]; exact (a2 (by omega) h2).1 (by omega) e3
      · rw [if_neg e5]; exact a1.1 e5 e3
theorem Ins.last {l : List Int} {i j : Nat} (h : Ins l i j) (hji : j ≤ i) (hs : j = 0 ∨ l.getD (j - 1) 0 ≤ l.getD j 0) : Asc l (i + 1) := by
  intro p q h1 h2
  have a1 := h p q h1 (by omega)
  have a3 := h p (j - 1)
  by_cases e1 : p = j
  · exact a1.2 e1
  · by_cases e2 : q = j
    · subst e2
      rcases hs with hs | hs
      · omega
      · by_cases e3 : p = q - 1
        · rw [e3]; exact hs
        · exact Int.le_trans ((a3 (by omega) (by omega)).1 e1 (by omega)) hs
    · exact a1.1 e1 e2
theorem Asc.pw {l : List Int} {i : Nat} (h : Asc l i) (hi : l.length ≤ i) : l.Pairwise (· ≤ ·) := by
  rw [List.pairwise_iff_getElem]
  intro p q hp hq hpq
  have := h p q hpq (by omega)
  simpa [List.getD, hp, hq] using this

theorem nan_spec (a : Int) : FnP Try.prog 98 [.int .i64 a] (· = .bool false) := by
  refine FnP.of Try.func98 rfl Try.ntmps98 (by simp) fun m0 w0 F R0 => ?_
  repeat refine AW.seq ?_
  refine AW.region ?_
  refine RL.step (d := some 2) rfl rfl (xj_assignE rfl) ?_
  repeat refine AW.seq ?_
  refine AW.region ?_
  refine RL.step (d := some 3) rfl rfl (xj_moveE rfl) ?_
  refine RL.step (d := some 4) rfl rfl (xj_moveE rfl) ?_
  refine RL.step (d := some 5) rfl rfl (xj_bin rfl rfl rfl) ?_
  refine RL.step (d := some 2) rfl rfl (xj_assignE rfl) ?_
  repeat refine AW.seq ?_
  refine AW.ret ?_
  exact ⟨_, _, rfl, rfl, congrArg PV.bool (by simp)⟩
theorem less_spec (a b : Int) : FnP Try.prog 85 [.int .i64 a, .int .i64 b] (· = .bool (decide (a < b))) := by
  refine FnP.of Try.func85 rfl Try.ntmps85 (by simp) fun m0 w0 F R0 => ?_
  repeat refine AW.seq ?_
  refine AW.region ?_
  refine RL.step (d := some 4) rfl rfl (xj_assignE rfl) ?_
  repeat refine AW.seq ?_
  refine AW.region ?_
  refine RL.step (d := some 5) rfl rfl (xj_moveE rfl) ?_
  refine RL.step (d := some 6) rfl rfl (xj_call Try.call98 (nan_spec a) rfl) ?_
  refine RL.step (d := some 7) rfl rfl (xj_moveE rfl) ?_
  apply RL.andB 4 7 11 [8, 9, 10] rfl (by first | exact MonoK.le | exact MonoK.aw | exact MonoK.back)
  · intro hb2
    refine RL.stepG (d := some 8) rfl rfl rfl (xj_moveE rfl) ?_
    refine RL.stepG (d := some 9) rfl rfl rfl (xj_call Try.call98 (nan_spec b) rfl) ?_
    refine RL.stepG (d := some 10) rfl rfl rfl (xj_not rfl) ?_
    refine RL.step (d := some 11) rfl rfl (xj_pick rfl) ?_
    exact St.le_fg (fEq.upd (fEq.upd (fEq.upd (fEq.upd (fEq.upd (fEq.refl) rfl) rfl) rfl) rfl) rfl) rfl rfl rfl
  · intro hb2
    refine RL.skipG rfl rfl rfl ?_
    refine RL.skipG rfl rfl rfl ?_
    refine RL.skipG rfl rfl rfl ?_
    refine RL.step (d := some 11) rfl rfl (xj_pick rfl) ?_
    exact St.le_fg (fEq.upd (fEq.upd (fEq.upd (fEq.upd (fEq.upd (fEq.refl) rfl) rfl) rfl) rfl) rfl) rfl rfl rfl
  refine RL.step (d := some 12) rfl rfl (xj_moveE rfl) ?_
  apply RL.orB 4 12 16 [13, 14, 15] rfl (by first | exact MonoK.le | exact MonoK.aw | exact MonoK.back)
  · intro hb7
    refine RL.skipG rfl rfl rfl ?_
    refine RL.skipG rfl rfl rfl ?_
    refine RL.skipG rfl rfl rfl ?_
    refine RL.step (d := some 16) rfl rfl (xj_pick rfl) ?_
    exact St.le_fg (fEq.upd (fEq.upd (fEq.upd (fEq.upd (fEq.upd (fEq.refl) rfl) rfl) rfl) rfl) rfl) rfl rfl rfl
  · intro hb7
    refine RL.stepG (d := some 13) rfl rfl rfl (xj_moveE rfl) ?_
    refine RL.stepG (d := some 14) rfl rfl rfl (xj_moveE rfl) ?_
    refine RL.stepG (d := some 15) rfl rfl rfl (xj_bin rfl rfl rfl) ?_
    refine RL.step (d := some 16) rfl rfl (xj_pick rfl) ?_
    exact St.le_fg (fEq.upd (fEq.upd (fEq.upd (fEq.upd (fEq.upd (fEq.refl) rfl) rfl) rfl) rfl) rfl) rfl rfl rfl
  refine RL.step (d := some 4) rfl rfl (xj_assignE rfl) ?_
  repeat refine AW.seq ?_
  refine AW.ret ?_
  exact ⟨_, _, rfl, rfl, congrArg PV.bool (by simp)⟩
theorem len64_spec (k : Nat) (hk : k ≤ 12) : FnP Try.prog 89 [.int .u64 k] (fun v => ∃ i, v = .int .i64 i) := by
  refine FnP.of Try.func89 rfl Try.ntmps89 (by simp) fun m0 w0 F R0 => ?_
  have hw : IntKind.u8.wrap (k : Int) = (k : Int) := by
    have : k < 256 := by omega
    show ((k : Int) % 256) = k
    omega
  repeat refine AW.seq ?_
  refine AW.region ?_
  refine RL.step (d := some 2) rfl rfl (xj_assignE rfl) ?_
  repeat refine AW.seq ?_
  refine AW.region ?_
  refine RL.step (d := some 3) rfl rfl (xj_moveE rfl) ?_
  refine RL.step (d := some 4) rfl rfl (xj_bin rfl rfl rfl) ?_
  repeat refine AW.seq ?_
  refine AW.condP rfl (fun hc4 => absurd hc4 (by omega)) (fun hc4 => ?_)
  refine AW.skip ?_
  repeat refine AW.seq ?_
  refine AW.region ?_
  refine RL.step (d := some 7) rfl rfl (xj_moveE rfl) ?_
  refine RL.step (d := some 8) rfl rfl (xj_bin rfl rfl rfl) ?_
  repeat refine AW.seq ?_
  refine AW.condP rfl (fun hc8 => absurd hc8 (by omega)) (fun hc8 => ?_)
  refine AW.skip ?_
  repeat refine AW.seq ?_
  refine AW.region ?_
  refine RL.step (d := some 13) rfl rfl (xj_moveE rfl) ?_
  refine RL.step (d := some 14) rfl rfl (xj_bin rfl rfl rfl) ?_
  repeat refine AW.seq ?_
  refine AW.condP rfl (fun hc14 => absurd hc14 (by omega)) (fun hc14 => ?_)
  refine AW.skip ?_
  repeat refine AW.seq ?_
  refine AW.region ?_
  refine RL.step (d := some 19) rfl rfl (xj_moveE rfl) ?_
  refine RL.step (d := some 20) rfl rfl (xj_moveE rfl) ?_
  refine RL.step (d := some 21) rfl rfl ((xj_conv Try.underlying125 Try.underlying5 rfl).cast (v' := .pv (.int .u8 k)) (by rw [hw])) ?_
  refine RL.step (d := some 22) rfl rfl (xj_indexS k Try.underlying9 rfl rfl rfl (by show k < 256; omega)) ?_
  refine RL.step (d := some 23) rfl rfl (xj_conv Try.underlying5 Try.underlying3 rfl) ?_
  refine RL.step (d := some 24) rfl rfl (xj_bin rfl rfl rfl) ?_
  refine RL.step (d := some 2) rfl rfl (xj_assignE rfl) ?_
  repeat refine AW.seq ?_
  refine AW.ret ?_
  exact ⟨_, _, rfl, rfl, _, rfl⟩
theorem len_spec (k : Nat) (hk : k ≤ 12) : FnP Try.prog 71 [.int .u64 k] (fun v => ∃ i, v = .int .i64 i) := by
  refine FnP.of Try.func71 rfl Try.ntmps71 (by simp) fun m0 w0 F R0 => ?_
  repeat refine AW.seq ?_
  refine AW.region ?_
  refine RL.step (d := some 2) rfl rfl (xj_assignE rfl) ?_
  repeat refine AW.seq ?_
  refine AW.cond rfl (fun hcK => absurd hcK (Bool.false_ne_true)) (fun hcK => ?_)
  refine AW.skip ?_
  repeat refine AW.seq ?_
  refine AW.region ?_
  refine RL.step (d := some 6) rfl rfl (xj_moveE rfl) ?_
  refine RL.call rfl (oj_call Try.call89 (len64_spec k hk) rfl ?_)
  rintro _ ⟨i, rfl⟩
  refine RL.step (d := some 2) rfl rfl (xj_assignE rfl) ?_
  repeat refine AW.seq ?_
  refine AW.ret ?_
  exact ⟨_, _, rfl, rfl, _, rfl⟩

section
variable {C : Ctx} {n : Nat} {σ : St} {dst : Option Tmp} {ty : TypeId} {ts : Array TypeId} {pos : String} {after : Array Edge} {gd : Option (Nat × Bool)}
/-- oj_callO with the contract first. -/
theorem oj_callF1 {f : FuncId} {xs : Array Operand} {args : List V} {os : List (Nat × Ob)} {k' : Nat} {Q : V → (Nat → Option Ob) → Prop} {K : St → Prop} (ids : List Nat) (base : Nat) (hc : CallOk C.P f) (hf : FnO C.P f ids.length k' args os Q) (hargs : xs.toList.map (σ.ev n) = V.renL (renI ids base) args)
    (ha : V.allL (okR ids.length 0) args = true) (hos : os.map (·.1) = (List.range ids.length).map (big + ·)) (hob : os.all (fun p => p.2.all (okR ids.length 0)) = true) (hobs : allObR σ (renI ids base) os)
    (hnd : ids.Nodup) (hav : (nwO base k').all σ.av = true)
    (hk : ∀ v ob', Q v ob' → K (σ.app dst ⟨v.ren (renI ids base), wrO ids base k' ob', nwO base k'⟩)) :
    OJ C n ⟨dst, .call { callee := .value (.func f), args := xs, argTypes := ts }, ty, pos, after, gd⟩ K σ := oj_callO ids base hc hargs ha hos hob hobs hnd hav hf hk
end
abbrev intsO (l : List Int) : Ob := .cells 3 (intsP l)
theorem ins_spec (l : List Int) (n : Nat) (hl : l.length = n) (hn : n ≤ 1000) : FnO Try.prog 79 1 0 [.osl big 1 n, .pv (.int .i64 0), .pv (.int .i64 n)] [(big, intsO l)] (fun v ob' => v = .tup [] ∧ ob' = lookO [(big, intsO (sortI l))]) := by
  refine FnO.of Try.func79 rfl Try.ntmps79 (by simp) fun m0 w0 F R0 => ?_
  repeat refine AW.seq ?_
  refine AW.region ?_
  refine RL.step (d := some 8) rfl rfl (xj_moveE rfl) ?_
  refine RL.step (d := some 9) rfl rfl (xj_add rfl rfl (by omega)) ?_
  refine RL.step (d := some 6) rfl rfl (xj_assignE rfl) ?_
  repeat refine AW.seq ?_
  refine AW.block ?_
  repeat refine AW.seq ?_
  refine AW.loop (st := fun x_0 : Nat × List Int => mkS [(0, .osl big 1 n), (1, .pv (.int .i64 0)), (2, .pv (.int .i64 n)), (6, .pv (.int .i64 x_0.1))] [(big, intsO x_0.2)] 0)
    (I := fun x_0 => 1 ≤ x_0.1 ∧ x_0.2.Perm l ∧ Asc x_0.2 x_0.1 ∧ x_0.1 ≤ n + 1) (μ := fun x_0 => n + 1 - x_0.1) (x0 := (1, l)) (St.le_mk ⟨rfl, rfl, rfl, rfl, trivial⟩ ⟨rfl, trivial⟩ rfl rfl) (⟨Nat.le_refl _, List.Perm.refl _, fun p q h1 h2 => by simp at h2; omega, by simp⟩) ?_
  rintro ⟨i, q⟩ ⟨hi, hq, ha, hin⟩
  try simp only at hi hq ha hin ⊢
  repeat refine AW.seq ?_
  refine AW.region ?_
  refine RL.step (d := some 10) rfl rfl (xj_moveE rfl) ?_
  refine RL.step (d := some 11) rfl rfl (xj_moveE rfl) ?_
  refine RL.step (d := some 12) rfl rfl (xj_bin rfl rfl rfl) ?_
  repeat refine AW.seq ?_
  refine AW.condP rfl (fun hc12 => ?_) (fun hc12 => ?_)
  · have hql : q.length = n := by rw [hq.length_eq, hl]
    have hlt : i < n := by omega
    refine AW.skip ?_
    repeat refine AW.seq ?_
    refine AW.block ?_
    repeat refine AW.seq ?_
    refine AW.region ?_
    refine RL.step (d := some 15) rfl rfl (xj_moveE rfl) ?_
    refine RL.step (d := some 7) rfl rfl (xj_assignE rfl) ?_
    repeat refine AW.seq ?_
    refine AW.block ?_
    repeat refine AW.seq ?_
    refine AW.loop (st := fun x_1 : Nat × List Int => mkS [(0, .osl big 1 n), (1, .pv (.int .i64 0)), (2, .pv (.int .i64 n)), (6, .pv (.int .i64 i)), (7, .pv (.int .i64 x_1.1))] [(big, intsO x_1.2)] 0)
      (I := fun x_1 => x_1.1 ≤ i ∧ x_1.2.Perm l ∧ Ins x_1.2 i x_1.1) (μ := fun x_1 => x_1.1) (x0 := (i, q)) (St.le_mk ⟨rfl, rfl, rfl, rfl, rfl, trivial⟩ ⟨rfl, trivial⟩ rfl rfl) (⟨Nat.le_refl _, hq, Ins.first ha⟩) ?_
    rintro ⟨j, s⟩ ⟨hj, hs, hI⟩
    try simp only at hj hs hI ⊢
    have hsl : s.length = n := by rw [hs.length_eq, hl]
    have hjl : j < s.length := by omega
    have hv0 := pints_at hjl
    by_cases h : 0 < j
    · have hjl1 : j - 1 < s.length := by omega
      have hv1 := pints_at hjl1
      have hd1 : s.getD j 0 = s[j] := by simp [List.getD, hjl]
      have hd2 : s.getD (j - 1) 0 = s[j - 1] := by simp [List.getD, hjl1]
      repeat refine AW.seq ?_
      refine AW.draw follows [[], [], [1, 0], [2, 1, 0], [3, 2, 1, 0], [3, 2, 1, 0], [5, 4, 3, 2, 1, 0], [6, 5, 4, 3, 2, 1, 0], [3, 2, 1, 0], [3, 2, 1, 0], [9, 3, 2, 1, 0], [10, 8, 3, 2, 1, 0, 9], [11, 10, 8, 3, 2, 1, 0, 9], [12, 7, 6, 5, 4, 3, 2, 1, 0, 11, 10, 8, 9], [13, 3, 2, 1, 0, 12, 7, 6, 5, 4, 11, 10, 8, 9]] [0, 1, 2, 3, 4, 5, 6, 7, 8, 9, 10, 11, 12, 13, 14] (by kernel_rfl) (by kernel_rfl) ?_
      refine DL.step (d := some 16) [] rfl rfl rfl (fun τ h => xj_moveE ((h.e 0 _ rfl).trans rfl)) rfl (by kernel_rfl) ?_
      refine DL.step (d := some 17) [] rfl rfl rfl (fun τ h => xj_moveE ((h.e 0 _ rfl).trans rfl)) rfl (by kernel_rfl) ?_
      refine DL.step (d := some 18) [] rfl rfl rfl (fun τ h => (xj_bin ((h.e 0 _ rfl).trans rfl) ((h.e 1 _ rfl).trans rfl) rfl).cast (v' := .pv (.bool true)) (by simp; omega)) rfl (by kernel_rfl) ?_
      refine DL.step (d := some 19) [] rfl rfl rfl (fun τ h => xj_moveE ((h.e 0 _ rfl).trans rfl)) rfl (by kernel_rfl) ?_
      refine DL.stepG (d := some 20) [] rfl rfl rfl rfl (fun τ h => xj_moveE ((h.e 0 _ rfl).trans rfl)) rfl (by kernel_rfl) ?_
      refine DL.stepG (d := some 21) [] rfl rfl rfl rfl (fun τ h => xj_moveE ((h.e 0 _ rfl).trans rfl)) rfl (by kernel_rfl) ?_
      refine DL.stepG (d := some 22) [_] rfl rfl rfl rfl (fun τ h => xj_indexAddrO j Try.underlying22 sz3 ((h.e 0 _ rfl).trans rfl) ((h.o 0 _ rfl).trans rfl) ((h.e 1 _ rfl).trans rfl) rfl (by omega)) rfl (by kernel_rfl) ?_
      refine DL.stepG (d := some 23) [_] rfl rfl rfl rfl (fun τ h => xj_load1P ⟨_, Try.underlying3, rfl⟩ ((h.e 0 _ rfl).trans rfl) ((h.o 0 _ rfl).trans rfl) hv0) rfl (by kernel_rfl) ?_
      refine DL.stepG (d := some 24) [] rfl rfl rfl rfl (fun τ h => xj_moveE ((h.e 0 _ rfl).trans rfl)) rfl (by kernel_rfl) ?_
      refine DL.stepG (d := some 25) [] rfl rfl rfl rfl (fun τ h => xj_moveE ((h.e 0 _ rfl).trans rfl)) rfl (by kernel_rfl) ?_
      refine DL.stepG (d := some 26) [] rfl rfl rfl rfl (fun τ h => xj_sub ((h.e 0 _ rfl).trans rfl) ((h.e 1 _ rfl).trans rfl) (by omega)) rfl (by kernel_rfl) ?_
      refine DL.stepG (d := some 27) [_] rfl rfl rfl rfl (fun τ h => xj_indexAddrO (j - 1) Try.underlying22 sz3 ((h.e 0 _ rfl).trans rfl) ((h.o 0 _ rfl).trans rfl) ((h.e 1 _ rfl).trans rfl) (by omega) (by omega)) rfl (by kernel_rfl) ?_
      refine DL.stepG (d := some 28) [_] rfl rfl rfl rfl (fun τ h => xj_load1P ⟨_, Try.underlying3, rfl⟩ ((h.e 0 _ rfl).trans rfl) ((h.o 0 _ rfl).trans rfl) hv1) rfl (by kernel_rfl) ?_
      refine DL.stepG (d := some 29) [] rfl rfl rfl rfl (fun τ h => xj_call Try.call85 (less_spec s[j] s[j - 1]) (h.argsP rfl)) rfl (by kernel_rfl) ?_
      refine DL.step (d := some 30) [] rfl rfl rfl (fun τ h => xj_pickT ((h.e 0 _ rfl).trans rfl) ((h.e 1 _ rfl).trans rfl)) rfl (by kernel_rfl) ?_
      refine ⟨by kernel_rfl, ?_⟩
      repeat refine AW.seq ?_
      refine AW.cond rfl (fun hc30 => ?_) (fun hc30 => ?_)
      · have hsw : s.getD j 0 < s.getD (j - 1) 0 := by rw [hd1, hd2]; exact of_decide_eq_true hc30
        have hsp := swap_perm hjl hjl1
        have hse := swapL_eq hjl hjl1
        refine AW.skip ?_
        repeat refine AW.seq ?_
        refine AW.block ?_
        repeat refine AW.seq ?_
        refine AW.draw follows [[], [], [], [], [3], [], [], [6], [7, 5, 6], [8, 7, 5, 6], [], [], [11, 10], [12, 11, 10], [13, 9, 8, 7, 6, 5, 1, 0, 12, 11, 10], [14, 13, 9, 8, 7, 6, 5, 1, 0, 12, 11, 10], [15, 14, 13, 12, 11, 10, 9, 8, 7, 6, 5, 1, 0, 4, 2, 3], [16, 15, 14, 13, 12, 11, 10, 9, 8, 7, 6, 5, 1, 0, 4, 2, 3]] [0, 1, 2, 3, 4, 5, 6, 7, 8, 9, 10, 11, 12, 13, 14, 15, 16, 17] (by kernel_rfl) (by kernel_rfl) ?_
        refine DL.step (d := some 33) [] rfl rfl rfl (fun τ h => xj_moveE ((h.e 0 _ rfl).trans rfl)) rfl (by kernel_rfl) ?_
        refine DL.step (d := some 34) [] rfl rfl rfl (fun τ h => xj_moveE ((h.e 0 _ rfl).trans rfl)) rfl (by kernel_rfl) ?_
        refine DL.step (d := some 35) [] rfl rfl rfl (fun τ h => xj_moveE ((h.e 0 _ rfl).trans rfl)) rfl (by kernel_rfl) ?_
        refine DL.step (d := some 36) [] rfl rfl rfl (fun τ h => xj_moveE ((h.e 0 _ rfl).trans rfl)) rfl (by kernel_rfl) ?_
        refine DL.step (d := some 37) [] rfl rfl rfl (fun τ h => xj_sub ((h.e 0 _ rfl).trans rfl) ((h.e 1 _ rfl).trans rfl) (by omega)) rfl (by kernel_rfl) ?_
        refine DL.step (d := some 38) [] rfl rfl rfl (fun τ h => xj_moveE ((h.e 0 _ rfl).trans rfl)) rfl (by kernel_rfl) ?_
        refine DL.step (d := some 39) [] rfl rfl rfl (fun τ h => xj_moveE ((h.e 0 _ rfl).trans rfl)) rfl (by kernel_rfl) ?_
        refine DL.step (d := some 40) [] rfl rfl rfl (fun τ h => xj_sub ((h.e 0 _ rfl).trans rfl) ((h.e 1 _ rfl).trans rfl) (by omega)) rfl (by kernel_rfl) ?_
        refine DL.step (d := some 41) [_] rfl rfl rfl (fun τ h => xj_indexAddrO (j - 1) Try.underlying22 sz3 ((h.e 0 _ rfl).trans rfl) ((h.o 0 _ rfl).trans rfl) ((h.e 1 _ rfl).trans rfl) (by omega) (by omega)) rfl (by kernel_rfl) ?_
        refine DL.step (d := some 42) [_] rfl rfl rfl (fun τ h => xj_load1P ⟨_, Try.underlying3, rfl⟩ ((h.e 0 _ rfl).trans rfl) ((h.o 0 _ rfl).trans rfl) hv1) rfl (by kernel_rfl) ?_
        refine DL.step (d := some 43) [] rfl rfl rfl (fun τ h => xj_moveE ((h.e 0 _ rfl).trans rfl)) rfl (by kernel_rfl) ?_
        refine DL.step (d := some 44) [] rfl rfl rfl (fun τ h => xj_moveE ((h.e 0 _ rfl).trans rfl)) rfl (by kernel_rfl) ?_
        refine DL.step (d := some 45) [_] rfl rfl rfl (fun τ h => xj_indexAddrO j Try.underlying22 sz3 ((h.e 0 _ rfl).trans rfl) ((h.o 0 _ rfl).trans rfl) ((h.e 1 _ rfl).trans rfl) rfl (by omega)) rfl (by kernel_rfl) ?_
        refine DL.step (d := some 46) [_] rfl rfl rfl (fun τ h => xj_load1P ⟨_, Try.underlying3, rfl⟩ ((h.e 0 _ rfl).trans rfl) ((h.o 0 _ rfl).trans rfl) hv0) rfl (by kernel_rfl) ?_
        refine DL.step (d := some 47) [_] rfl rfl rfl (fun τ h => xj_indexAddrO j Try.underlying22 sz3 ((h.e 0 _ rfl).trans rfl) ((h.o 0 _ rfl).trans rfl) ((h.e 1 _ rfl).trans rfl) rfl (by omega)) rfl (by kernel_rfl) ?_
        refine DL.step (d := none) [_] rfl rfl rfl (fun τ h => xj_storeP sz3 ((h.e 0 _ rfl).trans rfl) ((h.o 0 _ rfl).trans rfl) ((h.e 1 _ rfl).trans rfl) rfl (by simp; omega)) rfl (by kernel_rfl) ?_
        refine DL.step (d := some 48) [_] rfl rfl rfl (fun τ h => xj_indexAddrO (j - 1) Try.underlying22 sz3 ((h.e 0 _ rfl).trans rfl) ((h.o 0 _ rfl).trans rfl) ((h.e 1 _ rfl).trans rfl) (by omega) (by omega)) rfl (by kernel_rfl) ?_
        refine DL.step (d := none) [_] rfl rfl rfl (fun τ h => xj_storeP sz3 ((h.e 0 _ rfl).trans rfl) ((h.o 0 _ rfl).trans rfl) ((h.e 1 _ rfl).trans rfl) rfl (by simp; omega)) rfl (by kernel_rfl) ?_
        refine ⟨by kernel_rfl, ?_⟩
        repeat refine AW.seq ?_
        refine AW.region ?_
        refine RL.step (d := some 31) rfl rfl (xj_moveE rfl) ?_
        refine RL.step (d := some 32) rfl rfl (xj_sub rfl rfl (by omega)) ?_
        refine RL.step (d := some 7) rfl rfl (xj_assignE rfl) ?_
        exact ⟨(j - 1, swapL s j (j - 1)), St.le_mk ⟨rfl, rfl, rfl, rfl, congrArg (fun i => V.pv (PV.int .i64 i)) (by omega), trivial⟩ ⟨congrArg (fun c => some (Ob.cells 3 c)) (by rw [← hse]; simp), trivial⟩ rfl rfl, ⟨by simp only; omega, hsp.trans hs, hI.swap h hj (by omega) hsw⟩, by simp only; omega⟩
      · have hst : j = 0 ∨ s.getD (j - 1) 0 ≤ s.getD j 0 := .inr (by rw [hd1, hd2]; have := of_decide_eq_false hc30; omega)
        repeat refine AW.seq ?_
        refine AW.exit ?_
        repeat refine AW.seq ?_
        refine AW.region ?_
        refine RL.step (d := some 13) rfl rfl (xj_moveE rfl) ?_
        refine RL.step (d := some 14) rfl rfl (xj_add rfl rfl (by omega)) ?_
        refine RL.step (d := some 6) rfl rfl (xj_assignE rfl) ?_
        exact ⟨(i + 1, s), St.le_mk ⟨rfl, rfl, rfl, rfl, trivial⟩ ⟨rfl, trivial⟩ rfl rfl, ⟨by simp only; omega, hs, hI.last hj hst, by simp only; omega⟩, by simp only; omega⟩
    · repeat refine AW.seq ?_
      refine AW.draw follows [[], [], [1, 0], [2, 1, 0], [3, 2, 1, 0], [3, 2, 1, 0], [5, 4, 3, 2, 1, 0], [6, 5, 4, 3, 2, 1, 0], [3, 2, 1, 0], [3, 2, 1, 0], [9, 3, 2, 1, 0], [10, 8, 3, 2, 1, 0, 9], [11, 10, 8, 3, 2, 1, 0, 9], [12, 7, 6, 5, 4, 3, 2, 1, 0, 11, 10, 8, 9], [13, 3, 2, 1, 0, 12, 7, 6, 5, 4, 11, 10, 8, 9]] [0, 1, 2, 3, 4, 5, 6, 7, 8, 9, 10, 11, 12, 13, 14] (by kernel_rfl) (by kernel_rfl) ?_
      refine DL.step (d := some 16) [] rfl rfl rfl (fun τ h => xj_moveE ((h.e 0 _ rfl).trans rfl)) rfl (by kernel_rfl) ?_
      refine DL.step (d := some 17) [] rfl rfl rfl (fun τ h => xj_moveE ((h.e 0 _ rfl).trans rfl)) rfl (by kernel_rfl) ?_
      refine DL.step (d := some 18) [] rfl rfl rfl (fun τ h => (xj_bin ((h.e 0 _ rfl).trans rfl) ((h.e 1 _ rfl).trans rfl) rfl).cast (v' := .pv (.bool false)) (by simp; omega)) rfl (by kernel_rfl) ?_
      refine DL.step (d := some 19) [] rfl rfl rfl (fun τ h => xj_moveE ((h.e 0 _ rfl).trans rfl)) rfl (by kernel_rfl) ?_
      refine DL.skipG rfl rfl rfl rfl (by kernel_rfl) ?_
      refine DL.skipG rfl rfl rfl rfl (by kernel_rfl) ?_
      refine DL.skipG rfl rfl rfl rfl (by kernel_rfl) ?_
      refine DL.skipG rfl rfl rfl rfl (by kernel_rfl) ?_
      refine DL.skipG rfl rfl rfl rfl (by kernel_rfl) ?_
      refine DL.skipG rfl rfl rfl rfl (by kernel_rfl) ?_
      refine DL.skipG rfl rfl rfl rfl (by kernel_rfl) ?_
      refine DL.skipG rfl rfl rfl rfl (by kernel_rfl) ?_
      refine DL.skipG rfl rfl rfl rfl (by kernel_rfl) ?_
      refine DL.skipG rfl rfl rfl rfl (by kernel_rfl) ?_
      refine DL.step (d := some 30) [] rfl rfl rfl (fun τ h => xj_pickF ((h.e 0 _ rfl).trans rfl) ((h.e 2 _ rfl).trans rfl)) rfl (by kernel_rfl) ?_
      refine ⟨by kernel_rfl, ?_⟩
      repeat refine AW.seq ?_
      refine AW.cond rfl (fun hc30 => absurd hc30 (Bool.false_ne_true)) (fun hc30 => ?_)
      have hst : j = 0 ∨ s.getD (j - 1) 0 ≤ s.getD j 0 := .inl (by omega)
      repeat refine AW.seq ?_
      refine AW.exit ?_
      repeat refine AW.seq ?_
      refine AW.region ?_
      refine RL.step (d := some 13) rfl rfl (xj_moveE rfl) ?_
      refine RL.step (d := some 14) rfl rfl (xj_add rfl rfl (by omega)) ?_
      refine RL.step (d := some 6) rfl rfl (xj_assignE rfl) ?_
      exact ⟨(i + 1, s), St.le_mk ⟨rfl, rfl, rfl, rfl, trivial⟩ ⟨rfl, trivial⟩ rfl rfl, ⟨by simp only; omega, hs, hI.last hj hst, by simp only; omega⟩, by simp only; omega⟩
  · repeat refine AW.seq ?_
    refine AW.exit ?_
    exact ⟨[], [(big, intsO (sortI l))], [], St.le_mk trivial ⟨congrArg (fun c => some (Ob.cells 3 (intsP c))) (sortI_eq hq (ha.pw (by rw [hq.length_eq, hl]; omega))), trivial⟩ rfl rfl, rfl, rfl, rfl, rfl, rfl⟩

theorem pdq_spec (l : List Int) (n : Nat) (e : Int) (hl : l.length = n) (hn : n ≤ 12) : FnO Try.prog 70 1 0 [.osl big 1 n, .pv (.int .i64 0), .pv (.int .i64 n), .pv (.int .i64 e)] [(big, intsO l)] (fun v ob' => v = .tup [] ∧ ob' = lookO [(big, intsO (sortI l))]) := by
  refine FnO.of Try.func70 rfl Try.ntmps70 (by simp) fun m0 w0 F R0 => ?_
  repeat refine AW.seq ?_
  refine AW.region ?_
  refine RL.step (d := some 8) rfl rfl (xj_assignE rfl) ?_
  repeat refine AW.seq ?_
  refine AW.region ?_
  refine RL.step (d := some 9) rfl rfl (xj_assignE rfl) ?_
  repeat refine AW.seq ?_
  refine AW.block ?_
  repeat refine AW.seq ?_
  refine AW.loop (st := fun x_0 : Unit => mkS [(0, .osl big 1 n), (1, .pv (.int .i64 0)), (2, .pv (.int .i64 n)), (3, .pv (.int .i64 e)), (8, .pv (.bool true)), (9, .pv (.bool true))] [(big, intsO l)] 0)
    (I := fun x_0 => True) (μ := fun x_0 => 0) (x0 := (())) (St.le_mk ⟨rfl, rfl, rfl, rfl, rfl, rfl, trivial⟩ ⟨rfl, trivial⟩ rfl rfl) (trivial) ?_
  rintro u hI
  repeat refine AW.seq ?_
  refine AW.block ?_
  repeat refine AW.seq ?_
  refine AW.region ?_
  refine RL.step (d := some 19) rfl rfl (xj_moveE rfl) ?_
  refine RL.step (d := some 20) rfl rfl (xj_moveE rfl) ?_
  refine RL.step (d := some 21) rfl rfl (xj_sub rfl rfl (by omega)) ?_
  refine RL.step (d := some 10) rfl rfl (xj_assignE rfl) ?_
  repeat refine AW.seq ?_
  refine AW.region ?_
  refine RL.step (d := some 22) rfl rfl (xj_moveE rfl) ?_
  refine RL.step (d := some 23) rfl rfl (xj_bin rfl rfl rfl) ?_
  repeat refine AW.seq ?_
  refine AW.condP rfl (fun hc23 => ?_) (fun hc23 => absurd hc23 (fun h => h (by omega)))
  repeat refine AW.seq ?_
  refine AW.region ?_
  refine RL.step (d := some 24) rfl rfl (xj_moveE rfl) ?_
  refine RL.step (d := some 25) rfl rfl (xj_moveE rfl) ?_
  refine RL.step (d := some 26) rfl rfl (xj_moveE rfl) ?_
  refine RL.call rfl (oj_callF1 [big] 0 Try.call79 (ins_spec l n hl (by omega)) rfl rfl rfl rfl ⟨rfl, trivial⟩ (by decide) rfl ?_)
  rintro _ _ ⟨rfl, rfl⟩
  repeat refine AW.seq ?_
  refine AW.ret ?_
  exact ⟨[], [(big, intsO (sortI l))], [], St.le_mk trivial ⟨rfl, trivial⟩ rfl rfl, rfl, rfl, rfl, rfl, rfl⟩
theorem sort_spec (l : List Int) (n : Nat) (hl : l.length = n) (hn : n ≤ 12) : FnO Try.prog 58 1 0 [.osl big 1 n] [(big, intsO l)] (fun v ob' => v = .tup [] ∧ ob' = lookO [(big, intsO (sortI l))]) := by
  refine FnO.of Try.func58 rfl Try.ntmps58 (by simp) fun m0 w0 F R0 => ?_
  have hw : IntKind.u64.wrap (n : Int) = (n : Int) := by
    show ((n : Int) % 18446744073709551616) = n
    omega
  repeat refine AW.seq ?_
  refine AW.region ?_
  refine RL.step (d := some 3) rfl rfl (xj_moveE rfl) ?_
  first | refine RL.step (d := some 4) rfl rfl (xj_len Try.underlying22 rfl) ?_ | refine RL.step (d := some 4) rfl rfl (xj_lenO Try.underlying22 rfl rfl) ?_ | refine RL.step (d := some 4) rfl rfl (xj_lenG Try.underlying22 rfl) ?_
  refine RL.step (d := some 2) rfl rfl (xj_assignE rfl) ?_
  repeat refine AW.seq ?_
  refine AW.region ?_
  refine RL.step (d := some 5) rfl rfl (xj_moveE rfl) ?_
  refine RL.step (d := some 6) rfl rfl (xj_moveE rfl) ?_
  refine RL.step (d := some 7) rfl rfl (xj_moveE rfl) ?_
  refine RL.step (d := some 8) rfl rfl ((xj_conv Try.underlying3 Try.underlying83 rfl).cast (v' := .pv (.int .u64 n)) (by rw [hw])) ?_
  refine RL.call rfl (oj_call Try.call71 (len_spec n hn) rfl ?_)
  rintro _ ⟨e, rfl⟩
  refine RL.call rfl (oj_callF1 [big] 0 Try.call70 (pdq_spec l n e hl hn) rfl rfl rfl rfl ⟨rfl, trivial⟩ (by decide) rfl ?_)
  rintro _ _ ⟨rfl, rfl⟩
  exact ⟨[], [(big, intsO (sortI l))], [], St.le_mk trivial ⟨rfl, trivial⟩ rfl rfl, rfl, rfl, rfl, rfl, rfl⟩

end Go.Proofs.Ytkalgjnhaicabaa
