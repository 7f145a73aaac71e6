/-
  Walks of small functions that only read.
-/
import Derived.Test.YtopblgabadljdaaWords
import Derived.Test.YtopblgabadljdaaSpec
namespace Go.Proofs.Ytopblgabadljdaa
open Go.RowKit

/-- joinlearnref05.In: does a list have a number? -/
theorem in_any (A : Option Addr) (c : Nat) (l : List Int) (x : Int) (w : World) {R : Nat → Prop} (h : Row w R A (ints l)) (hl : l.length ≤ 1000000) :
    Calls Try.prog 36 #[.slice A l.length c, .int .i64 x] w fun e w' => e = .returned (.bool (inB l x)) ∧ w = w' := by
  go_enter Try.func36, Try.ntmps36
  go_wp2
  go_loop [9] (fun i => ∃ k : Nat, k ≤ l.length ∧ i = .int .i64 k ∧ inB (l.take k) x = false) (fun i => l.length - (intOf i).toNat)
  case atStart => exact ⟨0, Nat.zero_le _, rfl, by simp [inB]⟩
  case round =>
    obtain ⟨k, hk, rfl, hno⟩ := hrel
    have HN := Lib.hid hno
    clear hno
    by_cases hlt : k < l.length
    · obtain ⟨b, off, rfl, hb, hck⟩ := h.int_at hlt
      clear h
      go_wp2
      · go_ret
        have he : (l[k] == x) = true := by assumption
        exact ⟨ret_bool (by simp at he; simp [inB, ← he]), rfl⟩
      · have he : (l[k] == x) = false := by assumption
        refine ⟨⟨k + 1, by omega, by go_num, ?_⟩, by simp [intOf]; omega⟩
        have hn := HN.out
        unfold inB at hn ⊢
        rw [List.take_succ_eq_append_getElem hlt]
        rw [List.contains_append, hn]
        simp at he ⊢
        exact fun h => he h.symm
    · go_wp2
      go_ret
      have hn := HN.out
      rw [List.take_of_length_le (by omega)] at hn
      exact ⟨ret_bool hn.symm, rfl⟩

/-- joinlearnmake.In. -/
theorem mkin_any (A : Option Addr) (c : Nat) (l : List Int) (x : Int) (w : World) {R : Nat → Prop} (h : Row w R A (ints l)) (hl : l.length ≤ 1000000) :
    Calls Try.prog 13 #[.slice A l.length c, .int .i64 x] w fun e w' => e = .returned (.bool (inB l x)) ∧ w = w' := by
  go_enter Try.func13, Try.ntmps13
  go_wp2_with (go_at_call 36; refine (in_any A c l x w h hl).mono ?_; rintro e w' ⟨rfl, rfl⟩)
  go_ret
  exact ⟨rfl, rfl⟩

theorem mod_eq (x n : Int) (h1 : 1 ≤ n) (h2 : n ≤ 1000000) : (wrap64 (x.tmod n + n)).tmod n = x % n := by
  have hlt : x.tmod n < n := Int.tmod_lt_of_pos x (by omega)
  have hgt : -n < x.tmod n := by
    have := Int.lt_tmod_of_pos x (show 0 < n by omega)
    omega
  rw [IntWalk.wrap64_in _ ⟨by omega, by omega⟩, Int.tmod_eq_emod_of_nonneg (by omega), Int.add_emod_right]
  rcases Int.lt_or_le x 0 with hx | hx
  · rw [Int.tmod_eq_emod]
    split
    · simp
    · rw [show ((n.natAbs : Nat) : Int) = n by omega]; simp
  · rw [Int.tmod_eq_emod_of_nonneg hx, Int.emod_emod]

/-- joinlearnmake.Mod. -/
theorem mod_any (x n : Int) (w : World) (h1 : 1 ≤ n) (h2 : n ≤ 1000000) :
    Calls Try.prog 48 #[.int .i64 x, .int .i64 n] w fun e w' => e = .returned (.int .i64 (x % n)) ∧ w = w' := by
  go_enter Try.func48, Try.ntmps48
  go_wp2
  go_ret
  refine ⟨ret_int ?_, rfl⟩
  exact mod_eq x n h1 h2

/-- joinlearnref05.Ints: are two lists equal? -/
theorem ints_any (A B : Option Addr) (c d : Nat) (l m : List Int) (w : World) {R : Nat → Prop} (h : Row w R A (ints l)) {R' : Nat → Prop} (h' : Row w R' B (ints m)) (hl : l.length ≤ 1000000) (hm : m.length ≤ 1000000) :
    Calls Try.prog 28 #[.slice A l.length c, .slice B m.length d] w fun e w' => e = .returned (.bool (eqB l m)) ∧ ∃ n, w' = w.drewN n := by
  by_cases hlm : l.length = m.length
  · have hb : ((l.length : Int) != (m.length : Int)) = false := by simp [hlm]
    have HL := Lib.hid hlm
    clear hlm
    go_enter Try.func28, Try.ntmps28
    go_wp2
    clear hb
    go_loopw [13] (fun i wr => ∃ k n : Nat, k ≤ l.length ∧ i = .int .i64 k ∧ l.take k = m.take k ∧ wr = w.drewN n) (fun i _ => l.length - (intOf i).toNat)
    case atStart => exact ⟨0, 0, Nat.zero_le _, rfl, by simp, rfl⟩
    case round =>
      obtain ⟨k, n, hk, rfl, hno, rfl⟩ := hrel
      have HN := Lib.hid hno
      clear hno
      by_cases hlt : k < l.length
      · obtain ⟨b, off, rfl, hb, hck⟩ := h.int_at hlt
        have hlt' : k < m.length := by rw [← HL.out]; exact hlt
        obtain ⟨b', off', rfl, hb', hck'⟩ := h'.int_at hlt'
        clear h h'
        have b1 : (0 : Int) ≤ (k : Int) := by omega
        have b2 : (k : Int) < (l.length : Int) := by omega
        have b3 : (k : Int) < (m.length : Int) := by omega
        go_wp2
        go_quiet (fail)
        go_wp2
        · have he : (l[k] != m[k]) = true := by assumption
          go_ret
          refine ⟨ret_bool ?_, _, World.drewN_drewN _ _ _⟩
          simp [eqB]
          rintro rfl
          simp at he
        · have he : (l[k] != m[k]) = false := by assumption
          refine ⟨⟨k + 1, _, by omega, by go_num, ?_, rfl⟩, by simp [intOf]; omega⟩
          simp at he
          rw [List.take_succ_eq_append_getElem hlt, List.take_succ_eq_append_getElem hlt', HN.out, he]
      · go_wp2
        go_ret
        have hn := HN.out
        have hl2 := HL.out
        rw [List.take_of_length_le (by omega), List.take_of_length_le (by omega)] at hn
        exact ⟨ret_bool (by simp [eqB, hn]), _, rfl⟩
  · have hb : ((l.length : Int) != (m.length : Int)) = true := by simp; omega
    go_enter Try.func28, Try.ntmps28
    go_wp2
    go_ret
    refine ⟨ret_bool ?_, 0, rfl⟩
    simp [eqB]
    intro h; rw [h] at hlm; exact hlm rfl


/-- slices.Equal at []int. -/
theorem equal_any (A B : Option Addr) (c d : Nat) (l m : List Int) (w : World) {R : Nat → Prop} (h : Row w R A (ints l)) {R' : Nat → Prop} (h' : Row w R' B (ints m)) (hl : l.length ≤ 1000000) (hm : m.length ≤ 1000000) :
    Calls Try.prog 42 #[.slice A l.length c, .slice B m.length d] w fun e w' => e = .returned (.bool (eqB l m)) ∧ ∃ n, w' = w.drewN n := by
  by_cases hlm : l.length = m.length
  · have hb : ((l.length : Int) != (m.length : Int)) = false := by simp [hlm]
    have HL := Lib.hid hlm
    clear hlm
    go_enter Try.func42, Try.ntmps42
    go_wp2
    clear hb
    go_loopw [13] (fun i wr => ∃ k n : Nat, k ≤ l.length ∧ i = .int .i64 k ∧ l.take k = m.take k ∧ wr = w.drewN n) (fun i _ => l.length - (intOf i).toNat)
    case atStart => exact ⟨0, 0, Nat.zero_le _, rfl, by simp, rfl⟩
    case round =>
      obtain ⟨k, n, hk, rfl, hno, rfl⟩ := hrel
      have HN := Lib.hid hno
      clear hno
      by_cases hlt : k < l.length
      · obtain ⟨b, off, rfl, hb, hck⟩ := h.int_at hlt
        have hlt' : k < m.length := by rw [← HL.out]; exact hlt
        obtain ⟨b', off', rfl, hb', hck'⟩ := h'.int_at hlt'
        clear h h'
        have b1 : (0 : Int) ≤ (k : Int) := by omega
        have b2 : (k : Int) < (l.length : Int) := by omega
        have b3 : (k : Int) < (m.length : Int) := by omega
        go_wp2
        go_quiet (fail)
        go_wp2
        · have he : (l[k] != m[k]) = true := by assumption
          go_ret
          refine ⟨ret_bool ?_, _, World.drewN_drewN _ _ _⟩
          simp [eqB]
          rintro rfl
          simp at he
        · have he : (l[k] != m[k]) = false := by assumption
          refine ⟨⟨k + 1, _, by omega, by go_num, ?_, rfl⟩, by simp [intOf]; omega⟩
          simp at he
          rw [List.take_succ_eq_append_getElem hlt, List.take_succ_eq_append_getElem hlt', HN.out, he]
      · go_wp2
        go_ret
        have hn := HN.out
        have hl2 := HL.out
        rw [List.take_of_length_le (by omega), List.take_of_length_le (by omega)] at hn
        exact ⟨ret_bool (by simp [eqB, hn]), _, rfl⟩
  · have hb : ((l.length : Int) != (m.length : Int)) = true := by simp; omega
    go_enter Try.func42, Try.ntmps42
    go_wp2
    go_ret
    refine ⟨ret_bool ?_, 0, rfl⟩
    simp [eqB]
    intro h; rw [h] at hlm; exact hlm rfl

section
variable {α : Type} [DecidableEq α] {l : List α} {x : α}
theorem idxI_snoc {k : Nat} (hk : k < l.length) (hn : hasB (l.take k) x = false) (he : l[k] = x) : idxI l x = k := by
  unfold idxI
  have : l.findIdx? (fun y => decide (y = x)) = some k := by
    rw [List.findIdx?_eq_some_iff_getElem]
    refine ⟨hk, by simp [he], fun j hj => ?_⟩
    simp [hasB] at hn
    have hjl : j < l.length := by omega
    simp
    intro hx
    exact hn (by rw [← hx]; exact List.mem_take_iff_getElem.2 ⟨j, by omega, rfl⟩)
  rw [this]
theorem idxI_none (hn : hasB l x = false) : idxI l x = -1 := by
  unfold idxI
  have : l.findIdx? (fun y => decide (y = x)) = none := by
    rw [List.findIdx?_eq_none_iff]
    intro y hy
    simp [hasB] at hn
    simp
    rintro rfl
    exact hn hy
  rw [this]
theorem idxI_bd (l : List α) (x : α) : (0 ≤ idxI l x ↔ hasB l x = true) ∧ -1 ≤ idxI l x ∧ idxI l x < l.length + 1 := by
  by_cases h : hasB l x = true
  · have hx : x ∈ l := by simpa [hasB] using h
    unfold idxI
    cases e : l.findIdx? (fun y => decide (y = x)) with
    | none =>
      rw [List.findIdx?_eq_none_iff] at e
      have := e x hx
      simp at this
    | some k =>
      rw [List.findIdx?_eq_some_iff_getElem] at e
      obtain ⟨hk, _⟩ := e
      simp [h]; omega
  · have h' : hasB l x = false := by simpa using h
    rw [idxI_none h', h']; simp; omega
theorem hasB_succ {k : Nat} (hk : k < l.length) (hn : hasB (l.take k) x = false) (he : ¬ l[k] = x) : hasB (l.take (k + 1)) x = false := by
  unfold hasB at hn ⊢
  simp only [decide_eq_false_iff_not] at hn ⊢
  rw [List.take_succ_eq_append_getElem hk, List.mem_append]
  rintro (h | h)
  · exact hn h
  · simp at h; exact he h.symm
end

/-- slices.Index at []int. -/
theorem index_int (A : Option Addr) (c : Nat) (l : List Int) (x : Int) (w : World) {R : Nat → Prop} (h : Row w R A (ints l)) (hl : l.length ≤ 1000000) :
    Calls Try.prog 57 #[.slice A l.length c, .int .i64 x] w fun e w' => e = .returned (.int .i64 (idxI l x)) ∧ w = w' := by
  go_enter Try.func57, Try.ntmps57
  go_wp2
  go_loop [8] (fun i => ∃ k : Nat, k ≤ l.length ∧ i = .int .i64 k ∧ hasB (l.take k) x = false) (fun i => l.length - (intOf i).toNat)
  case atStart => exact ⟨0, Nat.zero_le _, rfl, by simp [hasB]⟩
  case round =>
    obtain ⟨k, hk, rfl, hno⟩ := hrel
    have HN := Lib.hid hno
    clear hno
    by_cases hlt : k < l.length
    · obtain ⟨b, off, rfl, hb, hck⟩ := h.int_at hlt
      clear h
      go_wp2
      · go_ret
        have he : (x == l[k]) = true := by assumption
        exact ⟨ret_int (idxI_snoc hlt HN.out (by simpa using (beq_iff_eq.1 he).symm)).symm, rfl⟩
      · have he : (x == l[k]) = false := by assumption
        refine ⟨⟨k + 1, by omega, by go_num, hasB_succ hlt HN.out ?_⟩, by simp [intOf]; omega⟩
        simp at he
        exact fun h => he h.symm
    · go_wp2
      go_ret
      have hn := HN.out
      rw [List.take_of_length_le (by omega)] at hn
      exact ⟨ret_int (idxI_none hn).symm, rfl⟩

/-- slices.Contains at []int. -/
theorem contains_int (A : Option Addr) (c : Nat) (l : List Int) (x : Int) (w : World) {R : Nat → Prop} (h : Row w R A (ints l)) (hl : l.length ≤ 1000000) :
    Calls Try.prog 40 #[.slice A l.length c, .int .i64 x] w fun e w' => e = .returned (.bool (hasB l x)) ∧ w = w' := by
  go_enter Try.func40, Try.ntmps40
  go_wp2_with (go_at_call 57; refine (index_int A c l x w h hl).mono ?_; rintro e w' ⟨rfl, rfl⟩)
  go_ret
  exact ⟨ret_bool (by rw [Bool.eq_iff_iff]; simpa using (idxI_bd l x).1), rfl⟩

end Go.Proofs.Ytopblgabadljdaa
