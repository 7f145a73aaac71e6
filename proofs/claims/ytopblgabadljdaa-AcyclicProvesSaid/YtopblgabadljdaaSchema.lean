/-
  Walks of the package schema: Word, named, attributes, relations, features, Check.
-/
import Derived.Test.YtopblgabadljdaaSch
import Derived.Lib.ConvBytes
namespace Go.Proofs.Ytopblgabadljdaa
open Go.RowKit

/-- May byte number i of a name be n? -/
def okAt (i n : Nat) : Bool := decide (97 ≤ n ∧ n ≤ 122) || (decide (i ≠ 0) && (n == 45 || decide (48 ≤ n ∧ n ≤ 57)))
theorem okAt_zero (c : UInt8) : okAt 0 c.toNat = letterB c := by
  rw [Bool.eq_iff_iff]; simp [okAt, letterB, UInt8.le_iff_toNat_le]
theorem okAt_succ (k : Nat) (c : UInt8) : okAt (k + 1) c.toNat = tailB c := by
  rw [Bool.eq_iff_iff]
  have e : c = 45 ↔ c.toNat = 45 := by
    constructor
    · rintro rfl; rfl
    · intro h; exact UInt8.toNat_inj.1 h
  simp [okAt, tailB, letterB, UInt8.le_iff_toNat_le, e]
  omega
theorem word_all (l : List UInt8) : wordL l = (((List.range l.length).all fun k => okAt k (l.getD k 0).toNat) && decide (1 ≤ l.length) && decide (l.length ≤ 12)) := by
  cases l with
  | nil => simp [wordL]
  | cons c r =>
    rw [Bool.eq_iff_iff]
    simp only [wordL, Bool.and_eq_true, List.all_eq_true, decide_eq_true_eq, List.mem_range, List.length_cons]
    constructor
    · rintro ⟨⟨h1, h2⟩, h3⟩
      refine ⟨⟨fun k hk => ?_, by omega⟩, by omega⟩
      cases k with
      | zero => rw [List.getD_cons_zero, okAt_zero]; exact h1
      | succ k =>
        rw [List.getD_cons_succ, okAt_succ]
        have hk' : k < r.length := by omega
        rw [List.getD, List.getElem?_eq_getElem hk']
        exact h2 _ (List.getElem_mem hk')
    · rintro ⟨⟨h1, _⟩, h3⟩
      refine ⟨⟨?_, fun x hx => ?_⟩, by omega⟩
      · have := h1 0 (by omega); rwa [List.getD_cons_zero, okAt_zero] at this
      · obtain ⟨k, hk, rfl⟩ := List.getElem_of_mem hx
        have := h1 (k + 1) (by omega)
        rwa [List.getD_cons_succ, okAt_succ, List.getD, List.getElem?_eq_getElem hk] at this
theorem word_no (s : ByteArray) (k : Nat) (hk : k < s.size) (h : okAt k (s.data.toList.getD k 0).toNat = false) : wordB s = false := by
  unfold wordB
  rw [word_all]
  have : ((List.range s.data.toList.length).all fun k => okAt k (s.data.toList.getD k 0).toNat) = false := by
    rw [List.all_eq_false]
    exact ⟨k, by simp; exact hk, by rw [h]; simp⟩
  rw [this]; rfl
theorem word_yes (s : ByteArray) (h : ∀ k, k < s.size → okAt k (s.data.toList.getD k 0).toNat = true) : wordB s = (decide (1 ≤ s.size) && decide (s.size ≤ 12)) := by
  unfold wordB
  rw [word_all]
  have : ((List.range s.data.toList.length).all fun k => okAt k (s.data.toList.getD k 0).toNat) = true := by
    rw [List.all_eq_true]
    intro k hk
    exact h k (by simpa using hk)
  rw [this]
  simp

theorem bytes_below (w : World) (e : TypeId) (s : ByteArray) : Below w.heap.size w (Lib.bytesWorld w e s) :=
  ⟨rfl, rfl, rfl, by rw [Lib.bytesWorld_size]; omega, fun k hk => Lib.bytesWorld_at_old w e s k hk⟩

set_option maxHeartbeats 1000000 in
theorem word_any (s : ByteArray) (w : World) (hs : s.size ≤ 9223372036854775807) :
    Calls Try.prog 66 #[.string s] w fun e w' => e = .returned (.bool (wordB s)) ∧ Below w.heap.size w w' := by
  have hcv := Lib.run_convert_string_bytes (P := Try.prog) w 9 86 5 s Try.underlying9 Try.underlying86 Try.underlying5
  have hcell := fun j hj => Lib.bytesWorld_cell w 5 s j hj
  have hbel := bytes_below w 5 s
  generalize Lib.bytesWorld w 5 s = W at *
  have HC := Lib.hid hcell
  clear hcell
  go_enter Try.func66, Try.ntmps66
  go_wp2
  clear hcv
  go_loop [9] (fun i => ∃ k : Nat, k ≤ s.size ∧ i = .int .i64 k ∧ ∀ j, j < k → okAt j (s.data.toList.getD j 0).toNat = true) (fun i => s.size - (intOf i).toNat)
  case atStart => exact ⟨0, by omega, rfl, fun j hj => absurd hj (by omega)⟩
  case round =>
    obtain ⟨k, hk, rfl, hall⟩ := hrel
    have HA := Lib.hid hall
    clear hall
    by_cases hlt : k < s.size
    · have hc := HC.out k hlt
      have hok : okAt k (s.data.toList.getD k 0).toNat = true → ∀ j, j < k + 1 → okAt j (s.data.toList.getD j 0).toNat = true := fun h j hj => by
        by_cases e : j < k
        · exact HA.out j e
        · obtain rfl : j = k := by omega
          exact h
      have HNO := Lib.hid (word_no s k hlt)
      have HOK := Lib.hid hok
      have hb := (s.data.toList.getD k 0).toNat_lt
      generalize (s.data.toList.getD k 0).toNat = n at *
      clear hok
      have hcase : (97 ≤ n ∧ n ≤ 122) ∨ ((n < 97 ∨ 122 < n) ∧ k < 1) ∨ ((n < 97 ∨ 122 < n) ∧ 1 ≤ k ∧ (45 ≤ n ∧ n ≤ 45)) ∨ ((n < 97 ∨ 122 < n) ∧ 1 ≤ k ∧ (48 ≤ n ∧ n ≤ 57)) ∨ ((n < 97 ∨ 122 < n) ∧ 1 ≤ k ∧ n ≠ 45 ∧ (n < 48 ∨ 57 < n)) := by omega
      rcases hcase with h1 | ⟨h1, h2⟩ | ⟨h1, h2, h3⟩ | ⟨h1, h2, h3⟩ | ⟨h1, h2, h3, h4⟩
      · go_wp2
        exact ⟨⟨k + 1, by omega, by go_num, HOK.out (by simp [okAt]; omega)⟩, by simp [intOf]; omega⟩
      · have b0 : ((k : Int) == 0) = true := by simp; omega
        rcases h1 with h1 | h1
        · go_wp2
          go_ret
          exact ⟨ret_bool (HNO.out (by simp [okAt]; omega)).symm, hbel⟩
        · have bl : decide ((n : Int) ≤ 122) = false := by simp; omega
          go_wp2
          go_ret
          exact ⟨ret_bool (HNO.out (by simp [okAt]; omega)).symm, hbel⟩
      · have b0 : ((k : Int) == 0) = false := by simp; omega
        have b45 : ((n : Int) != 45) = false := by simp; omega
        rcases h1 with h1 | h1
        · go_wp2
          exact ⟨⟨k + 1, by omega, by go_num, HOK.out (by simp [okAt]; omega)⟩, by simp [intOf]; omega⟩
        · omega
      · have b0 : ((k : Int) == 0) = false := by simp; omega
        have b45 : ((n : Int) != 45) = true := by simp; omega
        rcases h1 with h1 | h1
        · go_wp2
          exact ⟨⟨k + 1, by omega, by go_num, HOK.out (by simp [okAt]; omega)⟩, by simp [intOf]; omega⟩
        · omega
      · have b0 : ((k : Int) == 0) = false := by simp; omega
        have b45 : ((n : Int) != 45) = true := by simp; omega
        have hno := HNO.out (by simp [okAt]; omega)
        clear h3 HNO HOK
        have HNO := Lib.hid hno
        clear hno
        rcases h1 with h1 | h1
        · rcases h4 with h4 | h4
          all_goals
            go_wp2
            go_ret
            exact ⟨ret_bool HNO.out.symm, hbel⟩
        · rcases h4 with h4 | h4
          · omega
          · have bl : decide ((n : Int) ≤ 122) = false := by simp; omega
            go_wp2
            go_ret
            exact ⟨ret_bool HNO.out.symm, hbel⟩
    · have hy := word_yes s (fun j hj => HA.out j (by omega))
      have HY := Lib.hid hy
      clear hy
      by_cases h1 : 1 ≤ s.size
      · by_cases h2 : s.size ≤ 12
        all_goals
          go_wp2
          go_ret
          exact ⟨ret_bool (by rw [HY.out, Bool.eq_iff_iff, Bool.and_eq_true, decide_eq_true_eq, decide_eq_true_eq, decide_eq_true_eq]; omega), hbel⟩
      · go_wp2
        go_ret
        exact ⟨ret_bool (by rw [HY.out]; simp; omega), hbel⟩

theorem str_eq (x y : ByteArray) : (x.toList == y.toList) = decide (x = y) := by
  rw [Bool.eq_iff_iff, beq_iff_eq, decide_eq_true_eq, ByteArray.toList_eq, ByteArray.toList_eq]
  constructor
  · intro h
    exact ByteArray.ext (Array.toList_inj.1 h)
  · rintro rfl; rfl

/-- slices.Index at []string. -/
theorem index_str (A : Option Addr) (c : Nat) (l : List ByteArray) (x : ByteArray) (w : World) {R : Nat → Prop} (h : Row w R A (strs l)) (hl : l.length ≤ 1000000) :
    Calls Try.prog 72 #[.slice A l.length c, .string x] w fun e w' => e = .returned (.int .i64 (idxI l x)) ∧ w = w' := by
  go_enter Try.func72, Try.ntmps72
  go_wp2
  go_loop [8] (fun i => ∃ k : Nat, k ≤ l.length ∧ i = .int .i64 k ∧ hasB (l.take k) x = false) (fun i => l.length - (intOf i).toNat)
  case atStart => exact ⟨0, Nat.zero_le _, rfl, by simp [hasB]⟩
  case round =>
    obtain ⟨k, hk, rfl, hno⟩ := hrel
    have HN := Lib.hid hno
    clear hno
    by_cases hlt : k < l.length
    · obtain ⟨b, off, rfl, hb, hck⟩ := h.str_at hlt
      clear h
      by_cases he : x = l[k]
      · have hb1 : (x.toList == l[k].toList) = true := by rw [str_eq]; simp [he]
        have HE := Lib.hid he
        clear he
        go_wp2
        go_ret
        exact ⟨ret_int (idxI_snoc hlt HN.out HE.out.symm).symm, rfl⟩
      · have hb1 : (x.toList == l[k].toList) = false := by rw [str_eq]; simp [he]
        have HE := Lib.hid he
        clear he
        go_wp2
        exact ⟨⟨k + 1, by omega, by go_num, hasB_succ hlt HN.out fun h => HE.out h.symm⟩, by simp [intOf]; omega⟩
    · go_wp2
      go_ret
      have hn := HN.out
      rw [List.take_of_length_le (by omega)] at hn
      exact ⟨ret_int (idxI_none hn).symm, rfl⟩

/-- slices.Contains at []string. -/
theorem contains_str (A : Option Addr) (c : Nat) (l : List ByteArray) (x : ByteArray) (w : World) {R : Nat → Prop} (h : Row w R A (strs l)) (hl : l.length ≤ 1000000) :
    Calls Try.prog 67 #[.slice A l.length c, .string x] w fun e w' => e = .returned (.bool (hasB l x)) ∧ w = w' := by
  go_enter Try.func67, Try.ntmps67
  go_wp2_with (go_at_call 72; refine (index_str A c l x w h hl).mono ?_; rintro e w' ⟨rfl, rfl⟩)
  go_ret
  exact ⟨ret_bool (by rw [Bool.eq_iff_iff]; simpa using (idxI_bd l x).1), rfl⟩

/-- slices.Index at []bool. -/
theorem index_bool (A : Option Addr) (c : Nat) (l : List Bool) (x : Bool) (w : World) {R : Nat → Prop} (h : Row w R A (bools l)) (hl : l.length ≤ 1000000) :
    Calls Try.prog 68 #[.slice A l.length c, .bool x] w fun e w' => e = .returned (.int .i64 (idxI l x)) ∧ w = w' := by
  go_enter Try.func68, Try.ntmps68
  go_wp2
  go_loop [8] (fun i => ∃ k : Nat, k ≤ l.length ∧ i = .int .i64 k ∧ hasB (l.take k) x = false) (fun i => l.length - (intOf i).toNat)
  case atStart => exact ⟨0, Nat.zero_le _, rfl, by simp [hasB]⟩
  case round =>
    obtain ⟨k, hk, rfl, hno⟩ := hrel
    have HN := Lib.hid hno
    clear hno
    by_cases hlt : k < l.length
    · obtain ⟨b, off, rfl, hb, hck⟩ := h.bool_at hlt
      clear h
      by_cases he : x = l[k]
      · have hb1 : (x == l[k]) = true := by simp [he]
        have HE := Lib.hid he
        clear he
        go_wp2
        go_ret
        exact ⟨ret_int (idxI_snoc hlt HN.out HE.out.symm).symm, rfl⟩
      · have hb1 : (x == l[k]) = false := by simp [he]
        have HE := Lib.hid he
        clear he
        go_wp2
        exact ⟨⟨k + 1, by omega, by go_num, hasB_succ hlt HN.out fun h => HE.out h.symm⟩, by simp [intOf]; omega⟩
    · go_wp2
      go_ret
      have hn := HN.out
      rw [List.take_of_length_le (by omega)] at hn
      exact ⟨ret_int (idxI_none hn).symm, rfl⟩

/-- slices.Contains at []bool. -/
theorem contains_bool (A : Option Addr) (c : Nat) (l : List Bool) (x : Bool) (w : World) {R : Nat → Prop} (h : Row w R A (bools l)) (hl : l.length ≤ 1000000) :
    Calls Try.prog 62 #[.slice A l.length c, .bool x] w fun e w' => e = .returned (.bool (hasB l x)) ∧ w = w' := by
  go_enter Try.func62, Try.ntmps62
  go_wp2_with (go_at_call 68; refine (index_bool A c l x w h hl).mono ?_; rintro e w' ⟨rfl, rfl⟩)
  go_ret
  exact ⟨ret_bool (by rw [Bool.eq_iff_iff]; simpa using (idxI_bd l x).1), rfl⟩

set_option maxHeartbeats 400000 in
theorem named_any (A : Option Addr) (c : Nat) (l : List ByteArray) (k : Nat) (w : World) {R : Nat → Prop} (h : Row w R A (strs l)) (hl : l.length ≤ 1000000) (hc : l.length ≤ c) (hk : k < l.length) (hs : l[k].size ≤ 9223372036854775807) :
    Calls Try.prog 61 #[.slice A l.length c, .int .i64 k] w fun e w' => e = .returned (.int .i64 (namedE l k)) ∧ Below w.heap.size w w' := by
  obtain ⟨b, off, rfl, hb, hck⟩ := h.str_at hk
  have hgd : l.getD k default = l[k] := by simp [List.getD, hk]
  have hE : namedE l k = if wordB l[k] = false then 14 else if hasB (l.take k) l[k] = true then 9 else 0 := by unfold namedE; rw [hgd]
  have HE := Lib.hid hE
  have htl : (l.take k).length = k := by simp; omega
  have hrt : Row w R (some ⟨b, off, none⟩) (strs (l.take k)) := by
    have := h.take k
    rwa [← List.map_take] at this
  have HTL := Lib.hid htl
  clear hE hgd htl
  cases hwd : wordB l[k]
  · go_enter Try.func61, Try.ntmps61
    go_wp2_with (go_at_call 66; refine (word_any l[k] _ hs).mono ?_; rintro e w1 ⟨rfl, hb1⟩)
    go_ret
    exact ⟨ret_int (by rw [HE.out, if_pos hwd]), hb1⟩
  · go_enter Try.func61, Try.ntmps61
    go_wp2_with (
      go_at_call 66
      go_must (
        refine (word_any l[k] _ hs).mono ?_
        rintro e w1 ⟨rfl, hb1⟩
        have hck1 : w1.cell? ⟨b, off + k, none⟩ = some (.string l[k]) := by rw [hb1.cell (p := ⟨b, off + k, none⟩) hb]; exact hck
        have hrt1 := hrt.ext hb1
        clear hck))
    have hct : ∀ n, Calls Try.prog 67 #[.slice (some ⟨b, off, none⟩) k c, .string l[k]] (w1.drewN n) fun e w' => e = .returned (.bool (hasB (l.take k) l[k])) ∧ w1.drewN n = w' := fun n => by
      have := contains_str (some ⟨b, off, none⟩) c (l.take k) l[k] (w1.drewN n) (hrt1.drewN n) (by rw [HTL.out]; omega)
      rw [HTL.out] at this
      exact this
    have HCT := Lib.hid hct
    have i1 : (0 : Int) ≤ (k : Int) := by omega
    have i2 : (k : Int) < (l.length : Int) := by omega
    have i3 : (k : Int) ≤ (c : Int) := by omega
    clear hct hrt1 h hrt
    go_quiet ((go_at_call 67; exact quiet_left (HCT.out _)))
    cases hh : hasB (l.take k) l[k]
    · go_wp2
      go_ret
      exact ⟨ret_int (by rw [HE.out, if_neg (by simp [hwd]), if_neg (by simp [hh])]), below_drewN hb1 _⟩
    · go_wp2
      go_ret
      exact ⟨ret_int (by rw [HE.out, if_neg (by simp [hwd]), if_pos hh]), below_drewN hb1 _⟩

end Go.Proofs.Ytopblgabadljdaa
