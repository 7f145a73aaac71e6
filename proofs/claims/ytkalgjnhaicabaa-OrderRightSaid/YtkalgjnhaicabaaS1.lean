/-
  Names and attributes of a schema (schema.Word, named, attributes), in our step logic. No statement of the program is proved here.
-/
import Derived.Test.YtkalgjnhaicabaaO1
namespace Go.Proofs.Ytkalgjnhaicabaa
open Go.RowKit Mk
set_option maxRecDepth 100000
set_option maxHeartbeats 1000000

abbrev strsP (l : List ByteArray) : List PV := l.map .str
abbrev pstrs (l : List ByteArray) : PV := .sl none l.length (strsP l)
theorem pstrs_at {l : List ByteArray} {k : Nat} (h : k < l.length) : (strsP l)[k * 1]? = some (.str l[k]) := by simp [h]
theorem pstrs_ne {l : List ByteArray} {k : Nat} (h : k < l.length) : strsP l ≠ [] := by intro e; simp at e; subst e; simp at h
theorem take_succ_no {α : Type} {l : List α} {k : Nat} {x : α} (hk : k < l.length) (h : ¬ x ∈ l.take k) (hne : ¬ l[k] = x) : ¬ x ∈ l.take (k + 1) := by
  rw [List.take_succ_eq_append_getElem hk]
  simp only [List.mem_append, List.mem_singleton]
  rintro (h' | h')
  · exact h h'
  · exact hne h'.symm
theorem bytes_inj {a b : ByteArray} (h : a.toList = b.toList) : a = b := by
  rw [ByteArray.toList_eq, ByteArray.toList_eq] at h
  exact ByteArray.ext (Array.toList_inj.1 h)
theorem baT {a b : ByteArray} (h : (a.toList == b.toList) = true) : a = b := bytes_inj (beq_iff_eq.1 h)
theorem baF {a b : ByteArray} (h : (a.toList == b.toList) = false) : ¬ a = b := by
  rintro rfl
  simp at h

theorem idxS_spec (l : List ByteArray) (x : ByteArray) (hl : l.length ≤ 1000000000) : FnP Try.prog 92 [pstrs l, .str x] (fun v => ∃ i : Int, v = .int .i64 i ∧ (0 ≤ i ↔ x ∈ l) ∧ -1 ≤ i ∧ i < 1000000001) := by
  refine FnP.of Try.func92 rfl Try.ntmps92 (by simp) fun m0 w0 F R0 => ?_
  repeat refine AW.seq ?_
  refine AW.region ?_
  refine RL.step (d := some 4) rfl rfl (xj_assignE rfl) ?_
  repeat refine AW.seq ?_
  refine AW.region ?_
  refine RL.step (d := some 6) rfl rfl (xj_moveE rfl) ?_
  first | refine RL.step (d := some 7) rfl rfl (xj_len Try.underlying98 rfl) ?_ | refine RL.step (d := some 7) rfl rfl (xj_lenO Try.underlying98 rfl rfl) ?_ | refine RL.step (d := some 7) rfl rfl (xj_lenG Try.underlying98 rfl) ?_
  refine RL.step (d := some 8) rfl rfl (xj_moveE rfl) ?_
  repeat refine AW.seq ?_
  refine AW.block ?_
  repeat refine AW.seq ?_
  refine AW.loop (st := fun x_0 : Nat => mkS [(0, .pv (pstrs l)), (1, .pv (.str x)), (7, .pv (.int .i64 l.length)), (8, .pv (.int .i64 x_0))] [] 0)
    (I := fun x_0 => x_0 ≤ l.length ∧ ¬ x ∈ l.take x_0) (μ := fun x_0 => l.length - x_0) (x0 := (0)) (St.le_mk ⟨rfl, rfl, rfl, rfl, trivial⟩ trivial rfl rfl) (by simp) ?_
  rintro k ⟨hk, hno⟩
  repeat refine AW.seq ?_
  refine AW.region ?_
  refine RL.step (d := some 9) rfl rfl (xj_bin rfl rfl rfl) ?_
  repeat refine AW.seq ?_
  refine AW.condP rfl (fun hc9 => ?_) (fun hc9 => ?_)
  · have hlt : k < l.length := by omega
    have hv := pstrs_at hlt
    have hne := pstrs_ne hlt
    refine AW.skip ?_
    repeat refine AW.seq ?_
    refine AW.block ?_
    repeat refine AW.seq ?_
    refine AW.region ?_
    refine RL.step (d := some 10) rfl rfl (xj_moveE rfl) ?_
    refine RL.step (d := some 5) rfl rfl (xj_assignE rfl) ?_
    repeat refine AW.seq ?_
    refine AW.region ?_
    refine RL.step (d := some 11) rfl rfl (xj_moveE rfl) ?_
    refine RL.step (d := some 12) rfl rfl (xj_moveE rfl) ?_
    refine RL.step (d := some 13) rfl rfl (xj_moveE rfl) ?_
    first | refine RL.step (d := some 14) rfl rfl (xj_indexAddr _ Try.underlying98 sz9 rfl rfl rfl (by omega) (by assumption)) ?_ | refine RL.step (d := some 14) rfl rfl (xj_indexAddrO _ Try.underlying98 sz9 rfl rfl rfl rfl (by omega)) ?_
    first | refine RL.step (d := some 15) rfl rfl (xj_load1 ⟨_, Try.underlying9, rfl⟩ rfl rfl rfl) ?_ | refine RL.step (d := some 15) rfl rfl (xj_load1P ⟨_, Try.underlying9, rfl⟩ rfl rfl (by first | rfl | assumption)) ?_ | refine RL.step (d := some 15) rfl rfl (xj_loadR ⟨_, Try.underlying9, rfl⟩ rfl (by first | rfl | assumption)) ?_
    refine RL.step (d := some 16) rfl rfl (xj_binS rfl rfl rfl) ?_
    repeat refine AW.seq ?_
    refine AW.cond rfl (fun hc16 => ?_) (fun hc16 => ?_)
    · have hx : l[k] = x := (baT hc16).symm
      repeat refine AW.seq ?_
      refine AW.region ?_
      refine RL.step (d := some 17) rfl rfl (xj_moveE rfl) ?_
      refine RL.step (d := some 4) rfl rfl (xj_assignE rfl) ?_
      repeat refine AW.seq ?_
      refine AW.ret ?_
      exact ⟨_, _, rfl, rfl, _, rfl, ⟨fun _ => hx ▸ List.getElem_mem hlt, fun _ => by omega⟩, by omega, by omega⟩
    · refine AW.skip ?_
      repeat refine AW.seq ?_
      refine AW.region ?_
      refine RL.step (d := some 18) rfl rfl (xj_add rfl rfl (by omega)) ?_
      refine RL.step (d := some 8) rfl rfl (xj_moveE rfl) ?_
      exact ⟨(k + 1), St.le_mk ⟨rfl, rfl, rfl, rfl, trivial⟩ trivial rfl rfl, ⟨by omega, take_succ_no hlt hno (fun e => baF hc16 e.symm)⟩, by omega⟩
  · repeat refine AW.seq ?_
    refine AW.exit ?_
    repeat refine AW.seq ?_
    refine AW.region ?_
    refine RL.step (d := some 4) rfl rfl (xj_assignE rfl) ?_
    repeat refine AW.seq ?_
    refine AW.ret ?_
    exact ⟨_, _, rfl, rfl, _, rfl, ⟨fun h => absurd h (by decide), fun h => absurd (by rwa [List.take_of_length_le (by omega)]) hno⟩, by omega, by omega⟩
theorem containsS_spec (l : List ByteArray) (x : ByteArray) (hl : l.length ≤ 1000000000) : FnP Try.prog 76 [pstrs l, .str x] (· = .bool (hasB l x)) := by
  refine FnP.of Try.func76 rfl Try.ntmps76 (by simp) fun m0 w0 F R0 => ?_
  repeat refine AW.seq ?_
  refine AW.region ?_
  refine RL.step (d := some 4) rfl rfl (xj_assignE rfl) ?_
  repeat refine AW.seq ?_
  refine AW.region ?_
  refine RL.step (d := some 5) rfl rfl (xj_moveE rfl) ?_
  refine RL.step (d := some 6) rfl rfl (xj_moveE rfl) ?_
  refine RL.call rfl (oj_call Try.call92 (idxS_spec l x hl) rfl ?_)
  rintro _ ⟨i, rfl, hi, _, _⟩
  refine RL.step (d := some 8) rfl rfl (xj_bin rfl rfl rfl) ?_
  refine RL.step (d := some 4) rfl rfl (xj_assignE rfl) ?_
  repeat refine AW.seq ?_
  refine AW.ret ?_
  exact ⟨_, _, rfl, rfl, congrArg PV.bool (decide_eq_decide.2 hi)⟩
abbrev boolsP (l : List Bool) : List PV := l.map .bool
abbrev pbools (l : List Bool) : PV := .sl none l.length (boolsP l)
theorem pbools_at {l : List Bool} {k : Nat} (h : k < l.length) : (boolsP l)[k * 1]? = some (.bool l[k]) := by simp [h]
theorem pbools_ne {l : List Bool} {k : Nat} (h : k < l.length) : boolsP l ≠ [] := by intro e; simp at e; subst e; simp at h
theorem idxB_spec (l : List Bool) (x : Bool) (hl : l.length ≤ 1000000000) : FnP Try.prog 77 [pbools l, .bool x] (fun v => ∃ i : Int, v = .int .i64 i ∧ (0 ≤ i ↔ x ∈ l) ∧ -1 ≤ i ∧ i < 1000000001) := by
  refine FnP.of Try.func77 rfl Try.ntmps77 (by simp) fun m0 w0 F R0 => ?_
  repeat refine AW.seq ?_
  refine AW.region ?_
  refine RL.step (d := some 4) rfl rfl (xj_assignE rfl) ?_
  repeat refine AW.seq ?_
  refine AW.region ?_
  refine RL.step (d := some 6) rfl rfl (xj_moveE rfl) ?_
  first | refine RL.step (d := some 7) rfl rfl (xj_len Try.underlying100 rfl) ?_ | refine RL.step (d := some 7) rfl rfl (xj_lenO Try.underlying100 rfl rfl) ?_ | refine RL.step (d := some 7) rfl rfl (xj_lenG Try.underlying100 rfl) ?_
  refine RL.step (d := some 8) rfl rfl (xj_moveE rfl) ?_
  repeat refine AW.seq ?_
  refine AW.block ?_
  repeat refine AW.seq ?_
  refine AW.loop (st := fun x_0 : Nat => mkS [(0, .pv (pbools l)), (1, .pv (.bool x)), (7, .pv (.int .i64 l.length)), (8, .pv (.int .i64 x_0))] [] 0)
    (I := fun x_0 => x_0 ≤ l.length ∧ ¬ x ∈ l.take x_0) (μ := fun x_0 => l.length - x_0) (x0 := (0)) (St.le_mk ⟨rfl, rfl, rfl, rfl, trivial⟩ trivial rfl rfl) (by simp) ?_
  rintro k ⟨hk, hno⟩
  repeat refine AW.seq ?_
  refine AW.region ?_
  refine RL.step (d := some 9) rfl rfl (xj_bin rfl rfl rfl) ?_
  repeat refine AW.seq ?_
  refine AW.condP rfl (fun hc9 => ?_) (fun hc9 => ?_)
  · have hlt : k < l.length := by omega
    have hv := pbools_at hlt
    have hne := pbools_ne hlt
    refine AW.skip ?_
    repeat refine AW.seq ?_
    refine AW.block ?_
    repeat refine AW.seq ?_
    refine AW.region ?_
    refine RL.step (d := some 10) rfl rfl (xj_moveE rfl) ?_
    refine RL.step (d := some 5) rfl rfl (xj_assignE rfl) ?_
    repeat refine AW.seq ?_
    refine AW.region ?_
    refine RL.step (d := some 11) rfl rfl (xj_moveE rfl) ?_
    refine RL.step (d := some 12) rfl rfl (xj_moveE rfl) ?_
    refine RL.step (d := some 13) rfl rfl (xj_moveE rfl) ?_
    first | refine RL.step (d := some 14) rfl rfl (xj_indexAddr _ Try.underlying100 sz4 rfl rfl rfl (by omega) (by assumption)) ?_ | refine RL.step (d := some 14) rfl rfl (xj_indexAddrO _ Try.underlying100 sz4 rfl rfl rfl rfl (by omega)) ?_
    first | refine RL.step (d := some 15) rfl rfl (xj_load1 ⟨_, Try.underlying4, rfl⟩ rfl rfl rfl) ?_ | refine RL.step (d := some 15) rfl rfl (xj_load1P ⟨_, Try.underlying4, rfl⟩ rfl rfl (by first | rfl | assumption)) ?_ | refine RL.step (d := some 15) rfl rfl (xj_loadR ⟨_, Try.underlying4, rfl⟩ rfl (by first | rfl | assumption)) ?_
    refine RL.step (d := some 16) rfl rfl (xj_eqlB Try.underlying4 rfl rfl) ?_
    repeat refine AW.seq ?_
    refine AW.cond rfl (fun hc16 => ?_) (fun hc16 => ?_)
    · have hx : l[k] = x := (beq_iff_eq.1 hc16).symm
      repeat refine AW.seq ?_
      refine AW.region ?_
      refine RL.step (d := some 17) rfl rfl (xj_moveE rfl) ?_
      refine RL.step (d := some 4) rfl rfl (xj_assignE rfl) ?_
      repeat refine AW.seq ?_
      refine AW.ret ?_
      exact ⟨_, _, rfl, rfl, _, rfl, ⟨fun _ => hx ▸ List.getElem_mem hlt, fun _ => by omega⟩, by omega, by omega⟩
    · refine AW.skip ?_
      repeat refine AW.seq ?_
      refine AW.region ?_
      refine RL.step (d := some 18) rfl rfl (xj_add rfl rfl (by omega)) ?_
      refine RL.step (d := some 8) rfl rfl (xj_moveE rfl) ?_
      exact ⟨(k + 1), St.le_mk ⟨rfl, rfl, rfl, rfl, trivial⟩ trivial rfl rfl, ⟨by omega, take_succ_no hlt hno (fun e => beq_eq_false_iff_ne.1 hc16 e.symm)⟩, by omega⟩
  · repeat refine AW.seq ?_
    refine AW.exit ?_
    repeat refine AW.seq ?_
    refine AW.region ?_
    refine RL.step (d := some 4) rfl rfl (xj_assignE rfl) ?_
    repeat refine AW.seq ?_
    refine AW.ret ?_
    exact ⟨_, _, rfl, rfl, _, rfl, ⟨fun h => absurd h (by decide), fun h => absurd (by rwa [List.take_of_length_le (by omega)]) hno⟩, by omega, by omega⟩
theorem containsB_spec (l : List Bool) (x : Bool) (hl : l.length ≤ 1000000000) : FnP Try.prog 64 [pbools l, .bool x] (· = .bool (decide (x ∈ l))) := by
  refine FnP.of Try.func64 rfl Try.ntmps64 (by simp) fun m0 w0 F R0 => ?_
  repeat refine AW.seq ?_
  refine AW.region ?_
  refine RL.step (d := some 4) rfl rfl (xj_assignE rfl) ?_
  repeat refine AW.seq ?_
  refine AW.region ?_
  refine RL.step (d := some 5) rfl rfl (xj_moveE rfl) ?_
  refine RL.step (d := some 6) rfl rfl (xj_moveE rfl) ?_
  refine RL.call rfl (oj_call Try.call77 (idxB_spec l x hl) rfl ?_)
  rintro _ ⟨i, rfl, hi, _, _⟩
  refine RL.step (d := some 8) rfl rfl (xj_bin rfl rfl rfl) ?_
  refine RL.step (d := some 4) rfl rfl (xj_assignE rfl) ?_
  repeat refine AW.seq ?_
  refine AW.ret ?_
  exact ⟨_, _, rfl, rfl, congrArg PV.bool (decide_eq_decide.2 hi)⟩

theorem bytesP_at {l : List UInt8} {k : Nat} (h : k < l.length) : (bytesP l)[k * 1]? = some (.int .u8 (l[k].toNat : Int)) := by simp [bytesP, h]
theorem bytesP_ne {l : List UInt8} {k : Nat} (h : k < l.length) : bytesP l ≠ [] := by intro e; simp [bytesP] at e; subst e; simp at h
/-- What the loop of Word tests. -/
def wtest (k : Nat) (c : UInt8) : Bool := !(decide ((97 : Int) ≤ c.toNat) && decide ((c.toNat : Int) ≤ 122)) && (((k : Int) == 0) || (((c.toNat : Int) != 45) && (decide ((c.toNat : Int) < 48) || decide ((57 : Int) < c.toNat))))
theorem wtest_eq (k : Nat) (c : UInt8) : wtest k c = !okAt k c.toNat := by
  unfold wtest okAt
  generalize c.toNat = n
  have h1 : ((k : Int) == 0) = !decide (k ≠ 0) := by
    by_cases h : k = 0
    · subst h; rfl
    · have : ((k : Int) == 0) = false := by rw [beq_eq_false_iff_ne]; omega
      rw [this]; simp [h]
  have h2 : ((n : Int) != 45) = !(n == 45) := by
    by_cases h : n = 45
    · subst h; rfl
    · have h3 : (n : Int) ≠ 45 := by omega
      rw [bne_iff_ne.2 h3, beq_eq_false_iff_ne.2 h]; rfl
  have h3 : (decide ((97 : Int) ≤ n) && decide ((n : Int) ≤ 122)) = decide (97 ≤ n ∧ n ≤ 122) := by
    rw [Bool.eq_iff_iff]; simp; omega
  have h4 : (decide ((n : Int) < 48) || decide ((57 : Int) < n)) = !decide (48 ≤ n ∧ n ≤ 57) := by
    rw [Bool.eq_iff_iff]; simp; omega
  rw [h1, h2, h3, h4]
  cases decide (97 ≤ n ∧ n ≤ 122) <;> cases decide (k ≠ 0) <;> cases (n == 45) <;> cases decide (48 ≤ n ∧ n ≤ 57) <;> rfl

theorem word_spec (s : ByteArray) (hs : s.size ≤ 1000000000) : FnP Try.prog 75 [.str s] (· = .bool (wordB s)) := by
  refine FnP.of Try.func75 rfl Try.ntmps75 (by simp) fun m0 w0 F R0 => ?_
  have hsz : s.data.toList.length = s.size := Array.length_toList
  repeat refine AW.seq ?_
  refine AW.region ?_
  refine RL.step (d := some 2) rfl rfl (xj_assignE rfl) ?_
  repeat refine AW.seq ?_
  refine AW.region ?_
  refine RL.step (d := some 6) rfl rfl (xj_moveE rfl) ?_
  refine RL.step (d := some 7) rfl rfl (xj_toB Try.underlying9 Try.underlying76 Try.underlying5 rfl (by omega)) ?_
  first | refine RL.step (d := some 8) rfl rfl (xj_len Try.underlying76 rfl) ?_ | refine RL.step (d := some 8) rfl rfl (xj_lenO Try.underlying76 rfl rfl) ?_ | refine RL.step (d := some 8) rfl rfl (xj_lenG Try.underlying76 rfl) ?_
  refine RL.step (d := some 9) rfl rfl (xj_moveE rfl) ?_
  repeat refine AW.seq ?_
  refine AW.block ?_
  repeat refine AW.seq ?_
  refine AW.loop (st := fun x_0 : Nat => mkS [(0, .pv (.str s)), (7, .pv (.sl (some false) s.data.toList.length (bytesP s.data.toList))), (8, .pv (.int .i64 s.data.toList.length)), (9, .pv (.int .i64 x_0))] [] 0)
    (I := fun x_0 => x_0 ≤ s.data.toList.length ∧ ∀ j, j < x_0 → okAt j (s.data.toList.getD j 0).toNat = true) (μ := fun x_0 => s.data.toList.length - x_0) (x0 := (0)) (St.le_mk ⟨rfl, rfl, rfl, rfl, trivial⟩ trivial rfl rfl) (⟨Nat.zero_le _, fun j hj => absurd hj (Nat.not_lt_zero _)⟩) ?_
  rintro k ⟨hk, hall⟩
  repeat refine AW.seq ?_
  refine AW.region ?_
  refine RL.step (d := some 10) rfl rfl (xj_bin rfl rfl rfl) ?_
  repeat refine AW.seq ?_
  refine AW.condP rfl (fun hc10 => ?_) (fun hc10 => ?_)
  · have hlt : k < s.data.toList.length := by omega
    have hv := bytesP_at hlt
    have hne := bytesP_ne hlt
    have hgd : s.data.toList.getD k 0 = s.data.toList[k] := by rw [List.getD_eq_getElem?_getD, List.getElem?_eq_getElem hlt]; rfl
    refine AW.skip ?_
    repeat refine AW.seq ?_
    refine AW.block ?_
    repeat refine AW.seq ?_
    refine AW.region ?_
    refine RL.step (d := some 11) rfl rfl (xj_moveE rfl) ?_
    first | refine RL.step (d := some 12) rfl rfl (xj_indexAddr _ Try.underlying76 sz5 rfl rfl rfl (by omega) (by assumption)) ?_ | refine RL.step (d := some 12) rfl rfl (xj_indexAddrO _ Try.underlying76 sz5 rfl rfl rfl rfl (by omega)) ?_
    first | refine RL.step (d := some 13) rfl rfl (xj_load1 ⟨_, Try.underlying5, rfl⟩ rfl rfl rfl) ?_ | refine RL.step (d := some 13) rfl rfl (xj_load1P ⟨_, Try.underlying5, rfl⟩ rfl rfl (by first | rfl | assumption)) ?_ | refine RL.step (d := some 13) rfl rfl (xj_loadR ⟨_, Try.underlying5, rfl⟩ rfl (by first | rfl | assumption)) ?_
    refine RL.step (d := some 3) rfl rfl (xj_assignE rfl) ?_
    refine RL.step (d := some 4) rfl rfl (xj_assignE rfl) ?_
    generalize s.data.toList[k] = c at hgd ⊢
    repeat refine AW.seq ?_
    refine AW.region ?_
    refine RL.step (d := some 14) rfl rfl (xj_moveE rfl) ?_
    refine RL.step (d := some 15) rfl rfl (xj_bin rfl rfl rfl) ?_
    refine RL.step (d := some 16) rfl rfl (xj_moveE rfl) ?_
    apply RL.andB 3 16 19 [17, 18] rfl (by first | exact MonoK.le | exact MonoK.aw | exact MonoK.back)
    · intro hb2
      refine RL.stepG (d := some 17) rfl rfl rfl (xj_moveE rfl) ?_
      refine RL.stepG (d := some 18) rfl rfl rfl (xj_bin rfl rfl rfl) ?_
      refine RL.step (d := some 19) rfl rfl (xj_pick rfl) ?_
      exact St.le_fg (fEq.upd (fEq.upd (fEq.upd (fEq.upd (fEq.refl) rfl) rfl) rfl) rfl) rfl rfl rfl
    · intro hb2
      refine RL.skipG rfl rfl rfl ?_
      refine RL.skipG rfl rfl rfl ?_
      refine RL.step (d := some 19) rfl rfl (xj_pick rfl) ?_
      exact St.le_fg (fEq.upd (fEq.upd (fEq.upd (fEq.upd (fEq.refl) rfl) rfl) rfl) rfl) rfl rfl rfl
    refine RL.step (d := some 5) rfl rfl (xj_assignE rfl) ?_
    repeat refine AW.seq ?_
    refine AW.region ?_
    refine RL.step (d := some 20) rfl rfl (xj_moveE rfl) ?_
    refine RL.step (d := some 21) rfl rfl (xj_not rfl) ?_
    refine RL.step (d := some 22) rfl rfl (xj_moveE rfl) ?_
    apply RL.andB 15 22 37 [23, 24, 25, 26, 27, 28, 29, 30, 31, 32, 33, 34, 35, 36] rfl (by first | exact MonoK.le | exact MonoK.aw | exact MonoK.back)
    · intro hb2
      refine RL.stepG (d := some 23) rfl rfl rfl (xj_moveE rfl) ?_
      refine RL.stepG (d := some 24) rfl rfl rfl (xj_bin rfl rfl rfl) ?_
      refine RL.stepG (d := some 25) rfl rfl rfl (xj_moveE rfl) ?_
      apply RL.orB 11 25 36 [26, 27, 28, 29, 30, 31, 32, 33, 34, 35] rfl (by first | exact MonoK.le | exact MonoK.aw | exact MonoK.back)
      · intro hb5
        refine RL.skipG rfl rfl rfl ?_
        refine RL.skipG rfl rfl rfl ?_
        refine RL.skipG rfl rfl rfl ?_
        refine RL.skipU rfl rfl rfl ?_
        refine RL.skipU rfl rfl rfl ?_
        refine RL.skipU rfl rfl rfl ?_
        refine RL.skipU rfl rfl rfl ?_
        refine RL.skipU rfl rfl rfl ?_
        refine RL.skipU rfl rfl rfl ?_
        refine RL.skipG rfl rfl rfl ?_
        refine RL.stepG (d := some 36) rfl rfl rfl (xj_pick rfl) ?_
        exact St.le_fg (fEq.upd (fEq.upd (fEq.upd (fEq.upd (fEq.upd (fEq.upd (fEq.upd (fEq.upd (fEq.upd (fEq.upd (fEq.upd (fEq.upd (fEq.refl) rfl) rfl) rfl) rfl) rfl) rfl) rfl) rfl) rfl) rfl) rfl) rfl) rfl rfl rfl
      · intro hb5
        refine RL.stepG (d := some 26) rfl rfl rfl (xj_moveE rfl) ?_
        refine RL.stepG (d := some 27) rfl rfl rfl (xj_bin rfl rfl rfl) ?_
        refine RL.stepG (d := some 28) rfl rfl rfl (xj_moveE rfl) ?_
        apply RL.andB 7 28 35 [29, 30, 31, 32, 33, 34] rfl (by first | exact MonoK.le | exact MonoK.aw | exact MonoK.back)
        · intro hb8
          refine RL.stepG (d := some 29) rfl rfl rfl (xj_moveE rfl) ?_
          refine RL.stepG (d := some 30) rfl rfl rfl (xj_bin rfl rfl rfl) ?_
          refine RL.stepG (d := some 31) rfl rfl rfl (xj_moveE rfl) ?_
          apply RL.orB 3 31 34 [32, 33] rfl (by first | exact MonoK.le | exact MonoK.aw | exact MonoK.back)
          · intro hb11
            refine RL.skipG rfl rfl rfl ?_
            refine RL.skipG rfl rfl rfl ?_
            refine RL.stepG (d := some 34) rfl rfl rfl (xj_pick rfl) ?_
            exact St.le_fg (fEq.upd (fEq.upd (fEq.upd (fEq.upd (fEq.refl) rfl) rfl) rfl) rfl) rfl rfl rfl
          · intro hb11
            refine RL.stepG (d := some 32) rfl rfl rfl (xj_moveE rfl) ?_
            refine RL.stepG (d := some 33) rfl rfl rfl (xj_bin rfl rfl rfl) ?_
            refine RL.stepG (d := some 34) rfl rfl rfl (xj_pick rfl) ?_
            exact St.le_fg (fEq.upd (fEq.upd (fEq.upd (fEq.upd (fEq.refl) rfl) rfl) rfl) rfl) rfl rfl rfl
          refine RL.stepG (d := some 35) rfl rfl rfl (xj_pick rfl) ?_
          exact St.le_fg (fEq.upd (fEq.upd (fEq.upd (fEq.upd (fEq.upd (fEq.upd (fEq.upd (fEq.upd (fEq.upd (fEq.refl) rfl) rfl) rfl) rfl) rfl) rfl) rfl) rfl) rfl) rfl rfl rfl
        · intro hb8
          refine RL.skipG rfl rfl rfl ?_
          refine RL.skipG rfl rfl rfl ?_
          refine RL.skipG rfl rfl rfl ?_
          refine RL.skipU rfl rfl rfl ?_
          refine RL.skipU rfl rfl rfl ?_
          refine RL.skipG rfl rfl rfl ?_
          refine RL.stepG (d := some 35) rfl rfl rfl (xj_pick rfl) ?_
          exact St.le_fg (fEq.upd (fEq.upd (fEq.upd (fEq.upd (fEq.upd (fEq.upd (fEq.upd (fEq.upd (fEq.refl) rfl) rfl) rfl) rfl) rfl) rfl) rfl) rfl) rfl rfl rfl
        refine RL.stepG (d := some 36) rfl rfl rfl (xj_pick rfl) ?_
        exact St.le_fg (fEq.upd (fEq.upd (fEq.upd (fEq.upd (fEq.upd (fEq.upd (fEq.upd (fEq.upd (fEq.upd (fEq.upd (fEq.upd (fEq.upd (fEq.upd (fEq.refl) rfl) rfl) rfl) rfl) rfl) rfl) rfl) rfl) rfl) rfl) rfl) rfl) rfl) rfl rfl rfl
      refine RL.step (d := some 37) rfl rfl (xj_pick rfl) ?_
      exact St.le_fg (fEq.upd (fEq.upd (fEq.upd (fEq.upd (fEq.upd (fEq.upd (fEq.upd (fEq.upd (fEq.upd (fEq.upd (fEq.upd (fEq.upd (fEq.upd (fEq.upd (fEq.upd (fEq.upd (fEq.upd (fEq.refl) rfl) rfl) rfl) rfl) rfl) rfl) rfl) rfl) rfl) rfl) rfl) rfl) rfl) rfl) rfl) rfl) rfl) rfl rfl rfl
    · intro hb2
      refine RL.skipG rfl rfl rfl ?_
      refine RL.skipG rfl rfl rfl ?_
      refine RL.skipG rfl rfl rfl ?_
      refine RL.skipU rfl rfl rfl ?_
      refine RL.skipU rfl rfl rfl ?_
      refine RL.skipU rfl rfl rfl ?_
      refine RL.skipU rfl rfl rfl ?_
      refine RL.skipU rfl rfl rfl ?_
      refine RL.skipU rfl rfl rfl ?_
      refine RL.skipU rfl rfl rfl ?_
      refine RL.skipU rfl rfl rfl ?_
      refine RL.skipU rfl rfl rfl ?_
      refine RL.skipU rfl rfl rfl ?_
      refine RL.skipG rfl rfl rfl ?_
      refine RL.step (d := some 37) rfl rfl (xj_pick rfl) ?_
      exact St.le_fg (fEq.upd (fEq.upd (fEq.upd (fEq.upd (fEq.upd (fEq.upd (fEq.upd (fEq.upd (fEq.upd (fEq.upd (fEq.upd (fEq.upd (fEq.upd (fEq.upd (fEq.upd (fEq.upd (fEq.refl) rfl) rfl) rfl) rfl) rfl) rfl) rfl) rfl) rfl) rfl) rfl) rfl) rfl) rfl) rfl) rfl) rfl rfl rfl
    have hw : _ = true ∨ _ = false := Bool.eq_false_or_eq_true (wtest k c)
    repeat refine AW.seq ?_
    refine AW.cond rfl (fun hc37 => ?_) (fun hc37 => ?_)
    · have hc : wtest k c = true := hc37
      repeat refine AW.seq ?_
      refine AW.region ?_
      refine RL.step (d := some 2) rfl rfl (xj_assignE rfl) ?_
      repeat refine AW.seq ?_
      refine AW.ret ?_
      exact ⟨_, _, rfl, rfl, congrArg PV.bool (word_no s k (by omega) (by rw [hgd]; rw [wtest_eq] at hc; simpa using hc)).symm⟩
    · have hc : wtest k c = false := hc37
      refine AW.skip ?_
      repeat refine AW.seq ?_
      refine AW.region ?_
      refine RL.step (d := some 38) rfl rfl (xj_add rfl rfl (by omega)) ?_
      refine RL.step (d := some 9) rfl rfl (xj_moveE rfl) ?_
      exact ⟨(k + 1), St.le_mk ⟨rfl, rfl, rfl, rfl, trivial⟩ trivial rfl rfl, ⟨by omega, fun j hj => by rcases Nat.lt_succ_iff_lt_or_eq.1 hj with h | rfl; exact hall j h; rw [hgd]; rw [wtest_eq] at hc; simpa using hc⟩, by omega⟩
  · repeat refine AW.seq ?_
    refine AW.exit ?_
    repeat refine AW.seq ?_
    refine AW.region ?_
    refine RL.step (d := some 39) rfl rfl (xj_moveE rfl) ?_
    refine RL.step (d := some 40) rfl rfl (xj_lenS Try.underlying9 rfl) ?_
    refine RL.step (d := some 41) rfl rfl (xj_bin rfl rfl rfl) ?_
    refine RL.step (d := some 42) rfl rfl (xj_moveE rfl) ?_
    apply RL.andB 4 42 46 [43, 44, 45] rfl (by first | exact MonoK.le | exact MonoK.aw | exact MonoK.back)
    · intro hb3
      refine RL.stepG (d := some 43) rfl rfl rfl (xj_moveE rfl) ?_
      refine RL.stepG (d := some 44) rfl rfl rfl (xj_lenS Try.underlying9 rfl) ?_
      refine RL.stepG (d := some 45) rfl rfl rfl (xj_bin rfl rfl rfl) ?_
      refine RL.step (d := some 46) rfl rfl (xj_pick rfl) ?_
      exact St.le_fg (fEq.upd (fEq.upd (fEq.upd (fEq.upd (fEq.upd (fEq.refl) rfl) rfl) rfl) rfl) rfl) rfl rfl rfl
    · intro hb3
      refine RL.skipG rfl rfl rfl ?_
      refine RL.skipG rfl rfl rfl ?_
      refine RL.skipG rfl rfl rfl ?_
      refine RL.step (d := some 46) rfl rfl (xj_pick rfl) ?_
      exact St.le_fg (fEq.upd (fEq.upd (fEq.upd (fEq.upd (fEq.upd (fEq.refl) rfl) rfl) rfl) rfl) rfl) rfl rfl rfl
    refine RL.step (d := some 2) rfl rfl (xj_assignE rfl) ?_
    repeat refine AW.seq ?_
    refine AW.ret ?_
    exact ⟨_, _, rfl, rfl, congrArg PV.bool (by rw [word_yes s (fun j hj => hall j (by omega))]; rw [Bool.eq_iff_iff]; simp; omega)⟩

end Go.Proofs.Ytkalgjnhaicabaa
