/-
  Walks of the package acyclic: of, within, witness, Ear.
-/
import Derived.Test.YtopblgabadljdaaCheckS
namespace Go.Proofs.Ytopblgabadljdaa
open Go.RowKit

theorem maskN_snoc (l : List Int) (a : Nat) : maskN (l ++ [(a : Int)]) = maskN l ||| 2 ^ a := by simp [maskN]
theorem maskN_lt (l : List Int) (h : ∀ a ∈ l, 0 ≤ a ∧ a < 12) : maskN l < 4096 := by
  unfold maskN
  have : ∀ (l : List Int) (m : Nat), m < 4096 → (∀ a ∈ l, 0 ≤ a ∧ a < 12) → l.foldl (fun m a => m ||| 2 ^ a.toNat) m < 4096 := by
    intro l
    induction l with
    | nil => intro m hm _; exact hm
    | cons a l ih =>
      intro m hm hl
      have ha := hl a (by simp)
      refine ih _ ?_ (fun b hb => hl b (by simp [hb]))
      exact Nat.or_lt_two_pow (n := 12) hm (Nat.pow_lt_pow_right (by decide) (by omega))
  exact this l 0 (by decide) h
theorem or_pow (m a : Nat) (hm : m < 4096) (ha : a < 12) : bits .or .u64 (m : Int) (IntKind.u64.wrap (2 ^ a)) = ((m ||| 2 ^ a : Nat) : Int) := by
  have h1 : 2 ^ a < 4096 := (Nat.pow_lt_pow_right (by decide) ha : 2 ^ a < 2 ^ 12)
  have h2 : IntKind.u64.wrap (2 ^ a) = ((2 ^ a : Nat) : Int) := by
    have e : ((2 : Int) ^ a) = ((2 ^ a : Nat) : Int) := by norm_cast
    rw [e]
    generalize (2 ^ a : Nat) = p at h1 ⊢
    simp only [IntKind.wrap, IntKind.bits, IntKind.signed]
    simp
    omega
  rw [h2]
  exact u64_or_nat m (2 ^ a) (by omega) (by omega)

set_option maxHeartbeats 400000 in
theorem of_any (nm0 : ByteArray) (A : Option Addr) (c : Nat) (l : List Int) (w : World) {R : Nat → Prop} (h : Row w R A (ints l)) (hl : l.length ≤ 1000) (hr : ∀ a ∈ l, 0 ≤ a ∧ a < 12) :
    Calls Try.prog 54 #[.agg #[.string nm0, .slice A l.length c]] w fun e w' => e = .returned (.int .u64 (maskN l)) ∧ Below w.heap.size w w' := by
  go_enter Try.func54, Try.ntmps54
  go_wp2
  have hbel : Below w.heap.size w (w.alloc (Obj.cells #[Value.string nm0, Value.slice A l.length c] 33)) := (Below.refl _ _).alloc (Nat.le_refl _) _
  have hrow := h.ext hbel
  generalize (w.alloc (Obj.cells #[Value.string nm0, Value.slice A l.length c] 33)) = W at *
  go_loop [3, 9] (fun m i => ∃ k : Nat, k ≤ l.length ∧ i = .int .i64 k ∧ m = .int .u64 (maskN (l.take k))) (fun _ i => l.length - (intOf i).toNat)
  case atStart => exact ⟨0, Nat.zero_le _, rfl, rfl⟩
  case round =>
    obtain ⟨k, hk, rfl, rfl⟩ := hrel
    by_cases hlt : k < l.length
    · obtain ⟨b, off, rfl, hb, hck⟩ := hrow.int_at hlt
      have hrk := hr l[k] (List.getElem_mem hlt)
      obtain ⟨a, ha⟩ := Int.eq_ofNat_of_zero_le hrk.1
      rw [ha] at hck
      have ha12 : a < 12 := by omega
      have hm := maskN_lt (l.take k) (fun a ha => hr a (List.mem_of_mem_take ha))
      have htk : l.take (k + 1) = l.take k ++ [(a : Int)] := by rw [List.take_succ_eq_append_getElem hlt, ha]
      have HTK := Lib.hid htk
      clear hr ha hrk htk
      go_wp2
      refine ⟨⟨k + 1, by omega, by go_num, ?_⟩, by simp [intOf]; omega⟩
      rw [or_pow _ _ hm ha12, HTK.out, maskN_snoc]
    · go_wp2
      go_ret
      rw [List.take_of_length_le (by omega)]
      exact ⟨rfl, hbel⟩

/-- Are all bits of x in y? -/
def subN (x y : Nat) : Bool := (x &&& (18446744073709551615 - y)) == 0
theorem within_eq (x y : Nat) (hx : x < 4096) (hy : y < 4096) : (bits .andNot .u64 (x : Int) (y : Int) == 0) = subN x y := by
  rw [u64_andNot_nat x y (by omega) (by omega), Bool.eq_iff_iff]
  unfold subN
  generalize x &&& (18446744073709551615 - y) = z
  simp

theorem within_any (x y : Nat) (hx : x < 4096) (hy : y < 4096) (w : World) :
    Calls Try.prog 55 #[.int .u64 x, .int .u64 y] w fun e w' => e = .returned (.bool (subN x y)) ∧ w = w' := by
  have HW := Lib.hid (within_eq x y hx hy)
  go_enter Try.func55, Try.ntmps55
  go_wp2
  go_ret
  exact ⟨ret_bool HW.out, rfl⟩

/-- The attributes of the other relations of a set, up to the k-th. -/
def othN (rs : List (ByteArray × List Int)) (inn : List Bool) (r : Nat) : Nat → Nat
  | 0 => 0
  | k + 1 => if (inn.getD k false && decide (k ≠ r)) = true then othN rs inn r k ||| maskN (rs.getD k default).2 else othN rs inn r k
/-- Is the i-th relation a witness of the r-th? -/
def witAt (rs : List (ByteArray × List Int)) (inn : List Bool) (r i : Nat) : Bool :=
  inn.getD i false && decide (i ≠ r) && subN (maskN (rs.getD r default).2 &&& othN rs inn r rs.length) (maskN (rs.getD i default).2)
/-- The least witness, as it is searched. -/
def witI (rs : List (ByteArray × List Int)) (inn : List Bool) (r : Nat) : Option Nat := (List.range rs.length).find? (witAt rs inn r)
def optI : Option Nat → Int | some k => k | none => -1

theorem find_range {n k : Nat} {p : Nat → Bool} (hk : k < n) (hp : p k = true) (hno : ∀ j, j < k → p j = false) : (List.range n).find? p = some k := by
  rw [List.find?_range_eq_some]
  exact ⟨hp, by simpa using hk, fun j hj => by simp [hno j hj]⟩
theorem find_range_none {n : Nat} {p : Nat → Bool} (hno : ∀ j, j < n → p j = false) : (List.range n).find? p = none := by
  rw [List.find?_eq_none]
  intro j hj
  rw [hno j (by simpa using hj)]; simp

def RelOk (rs : List (ByteArray × List Int)) : Prop := rs.length ≤ 1000 ∧ ∀ x ∈ rs, x.2.length ≤ 1000 ∧ ∀ a ∈ x.2, 0 ≤ a ∧ a < 12
theorem othN_lt (rs : List (ByteArray × List Int)) (inn : List Bool) (r : Nat) (h : RelOk rs) : ∀ k, k ≤ rs.length → othN rs inn r k < 4096 := by
  intro k
  induction k with
  | zero => intro _; simp [othN]
  | succ k ih =>
    intro hk
    have h1 := ih (by omega)
    have hk' : k < rs.length := by omega
    simp only [othN]
    split
    · have h2 : maskN (rs.getD k default).2 < 4096 := by
        have e : rs.getD k default = rs[k] := by simp [List.getD, hk']
        rw [e]; exact maskN_lt _ (h.2 _ (List.getElem_mem hk')).2
      exact Nat.or_lt_two_pow (n := 12) h1 h2
    · exact h1

set_option maxRecDepth 100000 in
set_option maxHeartbeats 1000000 in
theorem witness_any (v : Value) (S : Sch) (Ai : Option Addr) (ci : Nat) (inn : List Bool) (r : Nat) (w : World) {R R' : Nat → Prop} (h : SchAt w R v S) (hi : Row w R' Ai (bools inn)) (hn : inn.length = S.rels.length) (hr : r < S.rels.length) (hok : RelOk S.rels) :
    Calls Try.prog 35 #[v, .slice Ai inn.length ci, .int .i64 r] w fun e w' =>
      e = .returned (.tuple #[.int .i64 (optI (witI S.rels inn r)), .bool (witI S.rels inn r).isSome]) ∧ Below w.heap.size w w' := by
  obtain ⟨A1, c1, A2, c2, A3, c3, rfl, l1, l2, l3, h1, h2, h3⟩ := h
  clear h1 h3 l1 l2 l3
  have hlen := hok.1
  have HOK := Lib.hid hok
  have HN := Lib.hid hn
  clear hok hn
  obtain ⟨b, off, A', c', rfl, _, hbb, hc1, hc2, hrow⟩ := h2.at_ hr
  have hmr := HOK.out.2 _ (List.getElem_mem hr)
  have hml := maskN_lt _ hmr.2
  have hgr : (S.rels.getD r default).2 = S.rels[r].2 := by simp [List.getD, hr]
  have HGR := Lib.hid hgr
  clear hgr
  obtain ⟨bi, offi, rfl, _, _⟩ := hi.bool_at (k := r) (by rw [HN.out]; exact hr)
  go_enter Try.func35, Try.ntmps35
  go_wp2_with (
    go_at_call 54
    go_must (
      refine (of_any S.rels[r].1 A' c' S.rels[r].2 _ (hrow.alloc _) hmr.1 hmr.2).mono ?_
      rintro e w1 ⟨rfl, hb1⟩
      have hbx := (Blk.new w 28 #[Value.slice A1 S.attrs.length c1, Value.slice (some ⟨b, off, none⟩) S.rels.length c2, Value.slice A3 S.feats.length c3, Value.int IntKind.i64 S.label]).ext hb1
      have x1 := hbx.cell 1
      simp at x1
      have hbel1 : Below w.heap.size w w1 := ext_trans ((Below.refl _ _).alloc (Nat.le_refl _) _) hb1
      have HBX := Lib.hid hbx
      generalize hOwn : maskN S.rels[r].2 = own at *
      have HOWN := Lib.hid hOwn
      clear hOwn
      clear hbx hc1 hc2 hb1))
  go_loopw [9, 23] (fun o i wr => ∃ k : Nat, k ≤ S.rels.length ∧ i = .int .i64 k ∧ o = .int .u64 (othN S.rels inn r k) ∧
    Blk wr w.heap.size 28 #[Value.slice A1 S.attrs.length c1, Value.slice (some ⟨b, off, none⟩) S.rels.length c2, Value.slice A3 S.feats.length c3, Value.int IntKind.i64 S.label] ∧ Below w.heap.size w wr) (fun _ i _ => S.rels.length - (intOf i).toNat)
  case atStart => exact ⟨0, Nat.zero_le _, rfl, rfl, HBX.out, hbel1⟩
  case round =>
    clear HBX x1 hbel1
    obtain ⟨k, hk, rfl, rfl, hbx, hbel⟩ := hrel
    have HBX := Lib.hid hbx
    have x1 := hbx.cell 1
    have xlt := hbx.lt
    simp at x1
    clear hbx
    have hol := othN_lt S.rels inn r HOK.out k hk
    by_cases hlt : k < S.rels.length
    · have hos : othN S.rels inn r (k + 1) = if (inn.getD k false && decide (k ≠ r)) = true then othN S.rels inn r k ||| maskN (S.rels.getD k default).2 else othN S.rels inn r k := rfl
      obtain ⟨b2, off2, A2', c2', e2, _, hbb2, hk1, hk2, hrow2⟩ := h2.at_ hlt
      simp at e2
      obtain ⟨rfl, rfl⟩ := e2
      have hk1' : wr.cell? ⟨b, off + k * 2, none⟩ = some (.string S.rels[k].1) := by rw [hbel.cell (p := ⟨b, off + k * 2, none⟩) hbb2]; exact hk1
      have hk2' : wr.cell? ⟨b, off + k * 2 + 1, none⟩ = some (.slice A2' S.rels[k].2.length c2') := by rw [hbel.cell (p := ⟨b, off + k * 2 + 1, none⟩) hbb2]; exact hk2
      have hmk := HOK.out.2 _ (List.getElem_mem hlt)
      have hmkl := maskN_lt _ hmk.2
      have hki : k < inn.length := by rw [HN.out]; exact hlt
      obtain ⟨b3, off3, e3, _, hci⟩ := (hi.ext hbel).bool_at hki
      simp at e3
      obtain ⟨rfl, rfl⟩ := e3
      have hrw := hrow2.ext hbel
      have hgi : inn.getD k false = inn[k] := by simp [List.getD, hki]
      have hgk : (S.rels.getD k default).2 = S.rels[k].2 := by simp [List.getD, hlt]
      rw [hgi, hgk] at hos
      generalize othN S.rels inn r k = oth at *
      generalize inn[k] = ik at *
      have HOS := Lib.hid hos
      clear hos hgi hgk hk1 hk2
      cases ik
      · go_wp2_with fail
        exact ⟨⟨k + 1, by omega, by go_num, by rw [HOS.out]; rfl, HBX.out.alloc _, hbel.alloc hbel.size _⟩, by simp [intOf]; omega⟩
      · cases hkr : ((k : Int) != (r : Int))
        · have hkr2 : k = r := by simp at hkr; omega
          have HKR := Lib.hid hkr2
          clear hkr2
          go_wp2_with fail
          exact ⟨⟨k + 1, by omega, by go_num, by rw [HOS.out, if_neg (by simp [HKR.out])], HBX.out.alloc _, hbel.alloc hbel.size _⟩, by simp [intOf]; omega⟩
        · have hkr2 : k ≠ r := by simp at hkr; omega
          have HKR := Lib.hid hkr2
          have hor := u64_or_nat oth (maskN S.rels[k].2) (by omega) (by omega)
          have HOR := Lib.hid hor
          clear hkr2 hor
          go_wp2_with (
            go_at_call 54
            go_must (
              refine (of_any S.rels[k].1 A2' c2' S.rels[k].2 _ (hrw.alloc _) hmk.1 hmk.2).mono ?_
              rintro e w2 ⟨rfl, hb2⟩))
          refine ⟨⟨k + 1, by omega, by go_num, ?_, (HBX.out.alloc _).ext hb2, ext_trans (ext_alloc hbel _) hb2⟩, by simp [intOf]; omega⟩
          rw [HOS.out, if_pos (by simp [HKR.out]), HOR.out]
    · have hkn : k = S.rels.length := by omega
      have hwit : ∀ j, witAt S.rels inn r j = (inn.getD j false && decide (j ≠ r) && subN (own &&& othN S.rels inn r k) (maskN (S.rels.getD j default).2)) := fun j => by unfold witAt; rw [HGR.out, HOWN.out, hkn]
      generalize othN S.rels inn r k = oth at *
      have hand := u64_and_nat own oth (by omega) (by omega)
      have hboth : own &&& oth < 4096 := Nat.and_lt_two_pow (n := 12) _ hol
      generalize own &&& oth = both at *
      have HW := Lib.hid hwit
      have HAND := Lib.hid hand
      obtain ⟨wo, rfl⟩ : ∃ wo : World, wo = wr := ⟨_, rfl⟩
      have hd1 : decide (k < S.rels.length) = false := by simp; omega
      clear hwit hkn hand
      go_wp2
      clear hd1
      go_loopw [45] (fun i wr => ∃ k : Nat, k ≤ S.rels.length ∧ i = .int .i64 k ∧ (∀ j, j < k → witAt S.rels inn r j = false) ∧ Below w.heap.size w wr) (fun i _ => S.rels.length - (intOf i).toNat)
      case atStart => exact ⟨0, Nat.zero_le _, rfl, fun j hj => absurd hj (by omega), hbel⟩
      case round =>
        clear hbel x1 HBX hlt
        obtain ⟨k, hk, rfl, hno, hbel⟩ := hrel
        have HNO := Lib.hid hno
        clear hno
        by_cases hlt : k < S.rels.length
        · have hwk := HW.out k
          obtain ⟨b2, off2, A2', c2', e2, _, hbb2, hk1, hk2, hrow2⟩ := h2.at_ hlt
          simp at e2
          obtain ⟨rfl, rfl⟩ := e2
          have hk1' : wr.cell? ⟨b, off + k * 2, none⟩ = some (.string S.rels[k].1) := by rw [hbel.cell (p := ⟨b, off + k * 2, none⟩) hbb2]; exact hk1
          have hk2' : wr.cell? ⟨b, off + k * 2 + 1, none⟩ = some (.slice A2' S.rels[k].2.length c2') := by rw [hbel.cell (p := ⟨b, off + k * 2 + 1, none⟩) hbb2]; exact hk2
          have hmk := HOK.out.2 _ (List.getElem_mem hlt)
          have hmkl := maskN_lt _ hmk.2
          have hki : k < inn.length := by rw [HN.out]; exact hlt
          obtain ⟨b3, off3, e3, _, hci⟩ := (hi.ext hbel).bool_at hki
          simp at e3
          obtain ⟨rfl, rfl⟩ := e3
          have hrw := hrow2.ext hbel
          have hgi : inn.getD k false = inn[k] := by simp [List.getD, hki]
          have hgk : (S.rels.getD k default).2 = S.rels[k].2 := by simp [List.getD, hlt]
          rw [hgi, hgk] at hwk
          generalize inn[k] = ik at *
          have HWK := Lib.hid hwk
          clear hwk hgi hgk hk1 hk2
          have hstep : witAt S.rels inn r k = false → ∀ j, j < k + 1 → witAt S.rels inn r j = false := fun h j hj => by
            by_cases e : j < k
            · exact HNO.out j e
            · obtain rfl : j = k := by omega
              exact h
          have HST := Lib.hid hstep
          clear hstep
          cases ik
          · go_wp2_with fail
            exact ⟨⟨k + 1, by omega, by go_num, HST.out (by rw [HWK.out]; rfl), hbel.alloc hbel.size _⟩, by simp [intOf]; omega⟩
          · cases hkr : ((k : Int) != (r : Int))
            · have hkr2 : k = r := by simp at hkr; omega
              have HKR := Lib.hid hkr2
              clear hkr2
              go_wp2_with fail
              exact ⟨⟨k + 1, by omega, by go_num, HST.out (by rw [HWK.out]; simp [HKR.out]), hbel.alloc hbel.size _⟩, by simp [intOf]; omega⟩
            · have hkr2 : k ≠ r := by simp at hkr; omega
              have HKR := Lib.hid hkr2
              have hand := HAND.out
              clear hkr2
              cases hsub : subN both (maskN S.rels[k].2)
              all_goals
                go_wp2_with (first
                  | (go_at_call 54
                     go_must (
                      refine (of_any S.rels[k].1 A2' c2' S.rels[k].2 _ (hrw.alloc _) hmk.1 hmk.2).mono ?_
                      rintro e w2 ⟨rfl, hb2⟩))
                  | (go_at_call 55
                     go_must (
                      refine (within_any both (maskN S.rels[k].2) hboth hmkl _).mono ?_
                      rintro e w3 ⟨rfl, rfl⟩)))
              · exact ⟨⟨k + 1, by omega, by go_num, HST.out (by rw [HWK.out, hsub]; simp), ext_trans (ext_alloc hbel _) hb2⟩, by simp [intOf]; omega⟩
              · go_ret2
                have hw : witI S.rels inn r = some k := by
                  unfold witI
                  exact find_range hlt (by rw [HWK.out, hsub]; simp [HKR.out]) HNO.out
                exact ⟨by rw [hw]; rfl, ext_trans (ext_alloc hbel _) hb2⟩
        · go_wp2_with fail
          go_ret2
          have hw : witI S.rels inn r = none := by
            unfold witI
            exact find_range_none fun j hj => HNO.out j (by omega)
          exact ⟨by rw [hw]; rfl, hbel⟩

end Go.Proofs.Ytopblgabadljdaa
