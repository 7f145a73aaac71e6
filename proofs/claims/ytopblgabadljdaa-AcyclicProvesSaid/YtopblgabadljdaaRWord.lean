/-
  The walk of the reference's Word.
-/
import Derived.Test.YtopblgabadljdaaSchema
namespace Go.Proofs.Ytopblgabadljdaa
open Go.RowKit

theorem word_at (s : ByteArray) (k : Nat) (hk : k < s.size) : s.data.toList.getD k 0 = s[k] := by
  simp only [List.getD]
  rw [List.getElem?_eq_getElem (by simpa using hk)]
  rfl
theorem word_first {s : ByteArray} (h1 : 1 ≤ s.size) (h : letterB (s.data.toList.getD 0 0) = false) : wordB s = false := word_no s 0 (by omega) (by rw [okAt_zero]; exact h)
theorem tail_ok {k : Nat} {c : UInt8} (h0 : k = 0 → letterB c = true) (h : tailB c = true) : okAt k c.toNat = true := by
  cases k with
  | zero => rw [okAt_zero]; exact h0 rfl
  | succ k => rw [okAt_succ]; exact h
theorem tail_no {k : Nat} {c : UInt8} (h : tailB c = false) : okAt k c.toNat = false := by
  cases k with
  | zero => rw [okAt_zero]; cases e : letterB c
            · rfl
            · simp [tailB, e] at h
  | succ k => rw [okAt_succ]; exact h

set_option maxHeartbeats 1000000 in
theorem word5_any (s : ByteArray) (w : World) (hs : s.size ≤ 9223372036854775807) :
    Calls Try.prog 60 #[.string s] w fun e w' => e = .returned (.bool (wordB s)) ∧ w = w' := by
  by_cases h1 : s.size < 1
  · have b0 : ((s.size : Int) == 0) = true := by rw [beq_iff_eq]; omega
    have HE : Hid (wordB s = false) := Lib.hid (by unfold wordB; rw [word_all]; simp; omega)
    go_enter Try.func60, Try.ntmps60
    go_wp2
    go_ret
    exact ⟨ret_bool HE.out.symm, rfl⟩
  · have b0 : ((s.size : Int) == 0) = false := by rw [beq_eq_false_iff_ne]; omega
    by_cases h2 : 12 < s.size
    · have HE : Hid (wordB s = false) := Lib.hid (by unfold wordB; rw [word_all]; simp; omega)
      go_enter Try.func60, Try.ntmps60
      go_wp2
      go_ret
      exact ⟨ret_bool HE.out.symm, rfl⟩
    · have hz : 0 < s.size := by omega
      have HW0 := Lib.hid (word_at s 0 hz)
      have HLF := Lib.hid (fun (h : letterB s[0] = false) => word_first (s := s) (by omega) (by rw [word_at s 0 hz]; exact h))
      by_cases h3 : 97 ≤ s[0].toNat ∧ s[0].toNat ≤ 122
      · have HL0 : Hid (letterB s[0] = true) := Lib.hid (by simp [letterB, UInt8.le_iff_toNat_le]; exact h3)
        obtain ⟨h3a, h3b⟩ := h3
        go_enter Try.func60, Try.ntmps60
        go_wp2
        go_loop [3] (fun i => ∃ k : Nat, k ≤ s.size ∧ i = .int .i64 k ∧ Hid (∀ j, j < k → okAt j (s.data.toList.getD j 0).toNat = true)) (fun i => s.size - (intOf i).toNat)
        case atStart => exact ⟨0, by omega, rfl, Lib.hid fun j hj => absurd hj (by omega)⟩
        case round =>
          obtain ⟨k, hk, rfl, HA⟩ := hrel
          by_cases hlt : k < s.size
          · have HNO := Lib.hid (fun (h : tailB s[k] = false) => word_no s k hlt (by rw [word_at s k hlt]; exact tail_no h))
            have HOK := Lib.hid (fun (h : tailB s[k] = true) (j : Nat) (hj : j < k + 1) => show okAt j (s.data.toList.getD j 0).toNat = true by
              by_cases e : j < k
              · exact HA.out j e
              · obtain rfl : j = k := by omega
                rw [word_at s j hlt]
                exact tail_ok (fun e => by subst e; exact HL0.out) h)
            have htb : tailB s[k] = (decide (97 ≤ s[k].toNat ∧ s[k].toNat ≤ 122) || decide (48 ≤ s[k].toNat ∧ s[k].toNat ≤ 57) || decide (s[k].toNat = 45)) := by
              rw [← okAt_succ 0]
              rw [Bool.eq_iff_iff]
              simp [okAt]
              omega
            have HTB := Lib.hid htb
            clear htb
            have hcase : (97 ≤ s[k].toNat ∧ s[k].toNat ≤ 122) ∨ (48 ≤ s[k].toNat ∧ s[k].toNat ≤ 57) ∨ (s[k].toNat < 48 ∧ ((s[k].toNat : Int) == 45) = true) ∨ (122 < s[k].toNat ∧ ((s[k].toNat : Int) == 45) = false) ∨ (57 < s[k].toNat ∧ s[k].toNat < 97 ∧ ((s[k].toNat : Int) == 45) = false) ∨ (s[k].toNat < 48 ∧ ((s[k].toNat : Int) == 45) = false) := by
              rw [beq_iff_eq, beq_eq_false_iff_ne]; omega
            rcases hcase with ⟨g1, g2⟩ | ⟨g1, g2⟩ | ⟨g1, g2⟩ | ⟨g1, g2⟩ | ⟨g1, g2, g3⟩ | ⟨g1, g2⟩
            · go_wp2
              exact ⟨⟨k + 1, by omega, by go_num, Lib.hid (HOK.out (by rw [HTB.out]; simp; omega))⟩, by simp [intOf]; omega⟩
            · go_wp2
              exact ⟨⟨k + 1, by omega, by go_num, Lib.hid (HOK.out (by rw [HTB.out]; simp; omega))⟩, by simp [intOf]; omega⟩
            · go_wp2
              exact ⟨⟨k + 1, by omega, by go_num, Lib.hid (HOK.out (by rw [HTB.out]; rw [beq_iff_eq] at g2; simp; omega))⟩, by simp [intOf]; omega⟩
            · have bl1 : decide ((s[k].toNat : Int) ≤ 122) = false := by simp; omega
              have bl2 : decide ((s[k].toNat : Int) ≤ 57) = false := by simp; omega
              go_wp2
              go_ret
              exact ⟨ret_bool (HNO.out (by rw [HTB.out]; rw [beq_eq_false_iff_ne] at g2; simp; omega)).symm, rfl⟩
            · have bl1 : decide ((97 : Int) ≤ s[k].toNat) = false := by simp; omega
              have bl2 : decide ((s[k].toNat : Int) ≤ 57) = false := by simp; omega
              go_wp2
              go_ret
              exact ⟨ret_bool (HNO.out (by rw [HTB.out]; rw [beq_eq_false_iff_ne] at g3; simp; omega)).symm, rfl⟩
            · have bl1 : decide ((97 : Int) ≤ s[k].toNat) = false := by simp; omega
              have bl2 : decide ((48 : Int) ≤ s[k].toNat) = false := by simp; omega
              go_wp2
              go_ret
              exact ⟨ret_bool (HNO.out (by rw [HTB.out]; rw [beq_eq_false_iff_ne] at g2; simp; omega)).symm, rfl⟩
          · obtain rfl : k = s.size := by omega
            have HE : Hid (wordB s = true) := Lib.hid (by rw [word_yes s HA.out]; simp; omega)
            have hd1 : decide (s.size < s.size) = false := by simp
            go_wp2
            go_ret
            exact ⟨ret_bool HE.out.symm, rfl⟩
      · have HE : Hid (wordB s = false) := Lib.hid (HLF.out (by rw [← Bool.not_eq_true]; simp [letterB, UInt8.le_iff_toNat_le]; omega))
        by_cases h4 : s[0].toNat < 97
        · go_enter Try.func60, Try.ntmps60
          go_wp2
          go_ret
          exact ⟨ret_bool HE.out.symm, rfl⟩
        · have h5 : 122 < s[0].toNat := by omega
          go_enter Try.func60, Try.ntmps60
          go_wp2
          go_ret
          exact ⟨ret_bool HE.out.symm, rfl⟩

end Go.Proofs.Ytopblgabadljdaa
