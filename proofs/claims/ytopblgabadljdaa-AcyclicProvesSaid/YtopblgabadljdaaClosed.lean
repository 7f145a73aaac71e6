/-
  The walk of acyclic.Closed.
-/
import Derived.Test.YtopblgabadljdaaAcy2
namespace Go.Proofs.Ytopblgabadljdaa
open Go.RowKit

/-- Which relations are left behind the first k of an order of removals, if each was an ear. -/
def clTo (S : Sch) (ord : List Int) : Nat → Option (List Bool)
  | 0 => some (List.replicate S.rels.length true)
  | k + 1 => match clTo S ord k with
    | none => none
    | some inn => if (earO S inn (ord.getD k 0)).isSome then some (inn.set (ord.getD k 0).toNat false) else none
def isEar (S : Sch) (inn : List Bool) (r : Int) : Bool := (witI S.rels inn r.toNat).isSome
def closedB (S : Sch) (ord core : List Int) : Bool :=
  if checkE S ≠ 0 then false else match clTo S ord ord.length with
  | none => false
  | some inn => decide (2 ≤ core.length) && eqB core (coreTo inn S.rels.length) && !(core.any (isEar S inn))

theorem clTo_len {S : Sch} {ord : List Int} : ∀ {k : Nat} {inn : List Bool}, clTo S ord k = some inn → inn.length = S.rels.length := by
  intro k
  induction k with
  | zero => intro inn h; simp [clTo] at h; rw [← h]; simp
  | succ k ih =>
    intro inn h
    simp only [clTo] at h
    split at h
    · cases h
    · rename_i inn' h'
      split at h
      · simp at h; rw [← h]; simpa using ih h'
      · cases h
theorem clTo_none {S : Sch} {ord : List Int} {k : Nat} (h : clTo S ord k = none) : ∀ n, k ≤ n → clTo S ord n = none := by
  intro n
  induction n with
  | zero => intro hk; obtain rfl : k = 0 := by omega
            exact h
  | succ n ih =>
    intro hk
    by_cases e : k = n + 1
    · rw [← e]; exact h
    · simp only [clTo, ih (by omega)]
theorem earO_range {S : Sch} {inn : List Bool} {r : Int} (h : (earO S inn r).isSome = true) : 0 ≤ r ∧ r < inn.length ∧ inn.length = S.rels.length ∧ inn.getD r.toNat false = true := by
  unfold earO at h
  split at h
  · simp at h
  · rename_i h1
    refine ⟨by omega, by omega, by omega, ?_⟩
    cases e : inn.getD r.toNat false
    · exact absurd (.inr (.inr (.inr (.inr e)))) h1
    · rfl

/-- The index of the first number with a property, -1 if there is none. -/
def idxP (p : Int → Bool) (l : List Int) : Int := match l.findIdx? p with | some k => (k : Int) | none => -1
theorem idxP_at {p : Int → Bool} {l : List Int} {k : Nat} (hk : k < l.length) (hn : (l.take k).any p = false) (he : p l[k] = true) : idxP p l = k := by
  unfold idxP
  have : l.findIdx? p = some k := by
    rw [List.findIdx?_eq_some_iff_getElem]
    refine ⟨hk, he, fun j hj => ?_⟩
    rw [List.any_eq_false] at hn
    exact hn l[j] (List.mem_take_iff_getElem.2 ⟨j, by omega, rfl⟩)
  rw [this]
theorem idxP_none {p : Int → Bool} {l : List Int} (hn : l.any p = false) : idxP p l = -1 := by
  unfold idxP
  have : l.findIdx? p = none := by
    rw [List.findIdx?_eq_none_iff]
    intro x hx
    rw [List.any_eq_false] at hn
    simpa using hn x hx
  rw [this]
theorem idxP_bd (p : Int → Bool) (l : List Int) : 0 ≤ idxP p l ↔ l.any p = true := by
  unfold idxP
  cases e : l.findIdx? p with
  | none =>
    rw [List.findIdx?_eq_none_iff] at e
    have : l.any p = false := by rw [List.any_eq_false]; intro x hx; simp [e x hx]
    simp [this]
  | some k =>
    rw [List.findIdx?_eq_some_iff_getElem] at e
    obtain ⟨hk, h1, _⟩ := e
    have : l.any p = true := by rw [List.any_eq_true]; exact ⟨l[k], List.getElem_mem hk, h1⟩
    simp [this]
theorem any_succ {p : Int → Bool} {l : List Int} {k : Nat} (hk : k < l.length) (hn : (l.take k).any p = false) (he : p l[k] = false) : (l.take (k + 1)).any p = false := by
  rw [List.take_succ_eq_append_getElem hk, List.any_append, hn]
  simp [he]

/-- How the closure of Closed finds what it has captured. -/
def CapAt (w : World) (bx by' : Nat) (S : Sch) (inn : List Bool) : Prop :=
  ∃ (A1 : Option Addr) (c1 : Nat) (A2 : Option Addr) (c2 : Nat) (A3 : Option Addr) (c3 : Nat) (Ai : Option Addr) (ci : Nat),
    Blk w bx 28 #[.slice A1 S.attrs.length c1, .slice A2 S.rels.length c2, .slice A3 S.feats.length c3, .int .i64 S.label] ∧ Blk w by' 36 #[.slice Ai inn.length ci] ∧
    SchAt w Any (.agg #[.slice A1 S.attrs.length c1, .slice A2 S.rels.length c2, .slice A3 S.feats.length c3, .int .i64 S.label]) S ∧ Row w Any Ai (bools inn)
theorem CapAt.ext {w w' : World} {bx by' : Nat} {S : Sch} {inn : List Bool} (h : CapAt w bx by' S inn) (hb : Below w.heap.size w w') : CapAt w' bx by' S inn := by
  obtain ⟨A1, c1, A2, c2, A3, c3, Ai, ci, h1, h2, h3, h4⟩ := h
  exact ⟨A1, c1, A2, c2, A3, c3, Ai, ci, h1.ext hb, h2.ext hb, h3.ext hb, h4.ext hb⟩

set_option maxHeartbeats 400000 in
theorem closed1_any (S : Sch) (inn : List Bool) (bx by' : Nat) (r : Nat) (w : World) (h : CapAt w bx by' S inn) (hn : inn.length = S.rels.length) (hr : r < S.rels.length) (hok : RelOk S.rels) :
    Calls Try.prog 44 #[.int .i64 r, .pointer (some ⟨bx, 0, none⟩), .pointer (some ⟨by', 0, none⟩)] w fun e w' => e = .returned (.bool (isEar S inn r)) ∧ Below w.heap.size w w' := by
  obtain ⟨A1, c1, A2, c2, A3, c3, Ai, ci, h1, h2, h3, h4⟩ := h
  have x0 := h1.cell 0
  have x1 := h1.cell 1
  have x2 := h1.cell 2
  have x3 := h1.cell 3
  have y0 := h2.cell 0
  simp at x0 x1 x2 x3 y0
  have ct := witness_any _ S Ai ci inn r w h3 h4 hn hr hok
  have CT := Lib.hid ct
  clear h1 h2 h3 h4 ct hn
  go_enter Try.func44, Try.ntmps44
  go_wp2_with (
    go_at_call 35
    go_must (
      refine CT.out.mono ?_
      rintro e w1 ⟨rfl, hb1⟩))
  go_ret
  exact ⟨by rfl, hb1⟩

set_option maxHeartbeats 400000 in
theorem indexC_any (A : Option Addr) (c : Nat) (l : List Int) (S : Sch) (inn : List Bool) (bx by' : Nat) (w : World) {R : Nat → Prop} (hl : Row w R A (ints l)) (hll : l.length ≤ 1000) (h : CapAt w bx by' S inn) (hn : inn.length = S.rels.length)
    (hr : ∀ a ∈ l, 0 ≤ a ∧ a < S.rels.length) (hok : RelOk S.rels) :
    Calls Try.prog 59 #[.slice A l.length c, .func (.func 44) #[] #[.pointer (some ⟨bx, 0, none⟩), .pointer (some ⟨by', 0, none⟩)]] w fun e w' => e = .returned (.int .i64 (idxP (isEar S inn) l)) ∧ Below w.heap.size w w' := by
  have HR := Lib.hid hr
  have HN := Lib.hid hn
  clear hr hn
  generalize hP : isEar S inn = p at *
  have HP := Lib.hid hP
  clear hP
  go_enter Try.func59, Try.ntmps59
  go_wp2
  go_loopw [8] (fun i wr => ∃ k : Nat, k ≤ l.length ∧ i = .int .i64 k ∧ (l.take k).any p = false ∧ Below w.heap.size w wr) (fun i _ => l.length - (intOf i).toNat)
  case atStart => exact ⟨0, Nat.zero_le _, rfl, by simp, Below.refl _ _⟩
  case round =>
    obtain ⟨k, hk, rfl, hno, hbel⟩ := hrel
    have HNO := Lib.hid hno
    clear hno
    by_cases hlt : k < l.length
    · obtain ⟨b, off, rfl, hbb, hck⟩ := (hl.ext hbel).int_at hlt
      have hrk := HR.out _ (List.getElem_mem hlt)
      obtain ⟨rn, hrn⟩ := Int.eq_ofNat_of_zero_le hrk.1
      have ct := closed1_any S inn bx by' rn wr (h.ext hbel) HN.out (by omega) hok
      rw [HP.out] at ct
      have hpk : p l[k] = p (rn : Int) := by rw [hrn]
      rw [hrn] at hck
      have CT := Lib.hid ct
      have HPK := Lib.hid hpk
      have HAT := Lib.hid (idxP_at (p := p) hlt HNO.out)
      have HSU := Lib.hid (any_succ (p := p) hlt HNO.out)
      clear ct hpk hrk hrn
      cases hb : p (rn : Int)
      · rw [hb] at CT
        go_wp2_with (go_at_call 44; go_must (refine CT.out.mono ?_; rintro e w1 ⟨rfl, hb1⟩))
        exact ⟨⟨k + 1, by omega, by go_num, HSU.out (by rw [HPK.out, hb]), ext_trans hbel hb1⟩, by simp [intOf]; omega⟩
      · rw [hb] at CT
        go_wp2_with (go_at_call 44; go_must (refine CT.out.mono ?_; rintro e w1 ⟨rfl, hb1⟩))
        go_ret
        exact ⟨ret_int (HAT.out (by rw [HPK.out, hb])).symm, ext_trans hbel hb1⟩
    · go_wp2
      go_ret
      have hn := HNO.out
      rw [List.take_of_length_le (by omega)] at hn
      exact ⟨ret_int (idxP_none hn).symm, hbel⟩

theorem containsC_any (A : Option Addr) (c : Nat) (l : List Int) (S : Sch) (inn : List Bool) (bx by' : Nat) (w : World) {R : Nat → Prop} (hl : Row w R A (ints l)) (hll : l.length ≤ 1000) (h : CapAt w bx by' S inn) (hn : inn.length = S.rels.length)
    (hr : ∀ a ∈ l, 0 ≤ a ∧ a < S.rels.length) (hok : RelOk S.rels) :
    Calls Try.prog 43 #[.slice A l.length c, .func (.func 44) #[] #[.pointer (some ⟨bx, 0, none⟩), .pointer (some ⟨by', 0, none⟩)]] w fun e w' => e = .returned (.bool (l.any (isEar S inn))) ∧ Below w.heap.size w w' := by
  have ct := indexC_any A c l S inn bx by' w hl hll h hn hr hok
  have hb := idxP_bd (isEar S inn) l
  generalize isEar S inn = p at *
  generalize l.any p = q at *
  have HB := Lib.hid hb
  have CT := Lib.hid ct
  clear hb ct hr
  go_enter Try.func43, Try.ntmps43
  go_wp2_with (go_at_call 59; go_must (refine CT.out.mono ?_; rintro e w1 ⟨rfl, hb1⟩))
  go_ret
  exact ⟨ret_bool (by rw [Bool.eq_iff_iff]; simpa using HB.out), hb1⟩

theorem clTo_succ_yes {S : Sch} {ord : List Int} {k : Nat} {inn : List Bool} (h : clTo S ord k = some inn) (he : (earO S inn (ord.getD k 0)).isSome = true) : clTo S ord (k + 1) = some (inn.set (ord.getD k 0).toNat false) := by
  simp only [clTo, h, he, if_true]
theorem clTo_succ_no {S : Sch} {ord : List Int} {k : Nat} {inn : List Bool} (h : clTo S ord k = some inn) (he : (earO S inn (ord.getD k 0)).isSome = false) : clTo S ord (k + 1) = none := by
  simp only [clTo, h, he]
  rfl
theorem coreTo_mem {inn : List Bool} {k : Nat} {a : Int} (h : a ∈ coreTo inn k) : 0 ≤ a ∧ a < k ∧ inn.getD a.toNat false = true := by
  unfold coreTo at h
  obtain ⟨i, hi, rfl⟩ := List.mem_map.1 h
  obtain ⟨h1, h2⟩ := List.mem_filter.1 hi
  simp at h1
  refine ⟨by simp, by simpa using h1, by simpa using h2⟩

set_option maxRecDepth 100000 in
set_option maxHeartbeats 1000000 in
theorem closed_any (v : Value) (S : Sch) (Ao : Option Addr) (co : Nat) (ord : List Int) (Ac : Option Addr) (cc : Nat) (core : List Int) (w : World) {R R1 R2 : Nat → Prop} (h : SchAt w R v S) (hb : SBd S)
    (ho : Row w R1 Ao (ints ord)) (hol : ord.length ≤ 1000) (hc : Row w R2 Ac (ints core)) (hcl : core.length ≤ 1000) :
    Calls Try.prog 20 #[v, .slice Ao ord.length co, .slice Ac core.length cc] w fun e w' => e = .returned (.bool (closedB S ord core)) ∧ Below w.heap.size w w' := by
  have h0 := h
  obtain ⟨A1, c1, A2, c2, A3, c3, rfl, l1, l2, l3, h1, h2, h3⟩ := h
  clear h1 h2 h3 l1 l2 l3
  have ct1 := fun (W : World) (hW : Below w.heap.size w W) => check_any _ S W (h0.ext hW) hb
  by_cases hce : checkE S = 0
  · have hcb := eq_b hce
    have hn1 := (check_zero hce).2.2.1
    have hok := check_relOk hce
    have hn := hok.1
    have hE : closedB S ord core = match clTo S ord ord.length with | none => false | some inn => decide (2 ≤ core.length) && eqB core (coreTo inn S.rels.length) && !(core.any (isEar S inn)) := by
      unfold closedB; rw [if_neg (by simp [hce])]
    generalize closedB S ord core = cb at *
    generalize checkE S = ce at *
    have HE := Lib.hid hE
    have CT1 := Lib.hid ct1
    clear ct1 hce hE
    go_enter Try.func20, Try.ntmps20
    go_wp2_with (first
      | (go_at_call 33
         go_must (
          refine (CT1.out _ ((Below.refl _ _).alloc (Nat.le_refl _) _)).mono ?_
          rintro e w1 ⟨rfl, hb1⟩
          have hbx := (Blk.new w 28 #[Value.slice A1 S.attrs.length c1, Value.slice A2 S.rels.length c2, Value.slice A3 S.feats.length c3, Value.int IntKind.i64 S.label]).ext hb1
          have x0 := hbx.cell 0
          have x1 := hbx.cell 1
          have x2 := hbx.cell 2
          have x3 := hbx.cell 3
          have HBX := Lib.hid hbx
          simp at x0 x1 x2 x3
          have hbel1 : Below w.heap.size w w1 := ext_trans ((Below.refl _ _).alloc (Nat.le_refl _) _) hb1
          clear hbx hb1))
      | (go_at_call 41
         go_must (
          refine (all_any _ S _ (h0.ext hbel1) hn).mono ?_
          rintro e w2 ⟨v2, rfl, hown2, hb2⟩
          obtain ⟨A5, c5, rfl, hc5, _⟩ := own_slice hown2
          obtain ⟨g5, rfl, hg5, hg5'⟩ := own_addr hown2 hn1
          have HB2 := Lib.hid (HBX.out.ext hb2)
          have hbel2 := ext_trans hbel1 hb2
          have hlt1 := HBX.out.lt
          clear x0 x1 x2 x3)))
    have hsz2 := hb2.size
    have hown3 := own_mono (hown2.alloc (.cells #[Value.slice (some ⟨g5, 0, none⟩) S.rels.length c5] 36)) (base' := w.heap.size + 1) (by omega)
    go_loopw [21] (fun i wr => ∃ (k : Nat) (inn : List Bool), k ≤ ord.length ∧ i = .int .i64 k ∧ clTo S ord k = some inn ∧ wr.ownsRow (w.heap.size + 1) 4 1 (.slice (some ⟨g5, 0, none⟩) S.rels.length c5) S.rels.length (bools inn) ∧
      Blk wr w.heap.size 28 #[Value.slice A1 S.attrs.length c1, Value.slice A2 S.rels.length c2, Value.slice A3 S.feats.length c3, Value.int IntKind.i64 S.label] ∧
      Blk wr w2.heap.size 36 #[Value.slice (some ⟨g5, 0, none⟩) S.rels.length c5] ∧ Below w.heap.size w wr) (fun i _ => ord.length - (intOf i).toNat)
    case atStart => exact ⟨0, _, Nat.zero_le _, rfl, rfl, hown3, HB2.out.alloc _, Blk.new _ _ _, ext_alloc hbel2 _⟩
    case round =>
      clear hown3 hown2 HB2 HBX
      obtain ⟨k, inn, hk, rfl, hcl2, hown, hbx, hby, hbel⟩ := hrel
      have x0 := hbx.cell 0
      have x1 := hbx.cell 1
      have x2 := hbx.cell 2
      have x3 := hbx.cell 3
      have y0 := hby.cell 0
      simp at x0 x1 x2 x3 y0
      have hil := clTo_len hcl2
      have HIL := Lib.hid hil
      have HCL := Lib.hid hcl2
      have HBX := Lib.hid hbx
      have HBY := Lib.hid hby
      have hbxl := hbx.lt
      have hbyl := hby.lt
      clear hil hcl2 hbx hby
      by_cases hlt : k < ord.length
      · obtain ⟨b, off, rfl, hbb, hck⟩ := (ho.ext hbel).int_at hlt
        have ct := ear_any _ S (some ⟨g5, 0, none⟩) c5 inn ord[k] wr (h0.ext hbel) hb (Row.of_own hown)
        rw [HIL.out] at ct
        have hgd : ord.getD k 0 = ord[k] := by simp [List.getD, hlt]
        have HGD := Lib.hid hgd
        cases hes : (earO S inn ord[k]).isSome
        · rw [hes] at ct
          have hnone : clTo S ord ord.length = none := clTo_none (clTo_succ_no HCL.out (by rw [HGD.out]; exact hes)) _ hlt
          have HNONE := Lib.hid hnone
          have CT := Lib.hid ct
          clear ct hnone hgd
          go_wp2_with (go_at_call 12; go_must (refine CT.out.mono ?_; rintro e w3 ⟨rfl, hb3⟩))
          go_ret
          exact ⟨ret_bool (by rw [HE.out, HNONE.out]), ext_trans hbel hb3⟩
        · have hrg := earO_range hes
          obtain ⟨rn, hrn⟩ := Int.eq_ofNat_of_zero_le hrg.1
          have hrl : rn < S.rels.length := by omega
          have hstep := clTo_succ_yes HCL.out (by rw [HGD.out]; exact hes)
          rw [HGD.out, hrn, Int.toNat_natCast] at hstep
          rw [hes, hrn] at ct
          rw [hrn] at hck
          have CT := Lib.hid ct
          have HSTEP := Lib.hid hstep
          have HRN := Lib.hid hrn
          clear ct hstep hgd hrg hes hrn
          generalize optI (earO S inn rn) = ow at *
          go_wp2_with (
            go_at_call 12
            go_must (
              refine CT.out.mono ?_
              rintro e w3 ⟨rfl, hb3⟩
              have hown3 := hown.kept (grown_of_ext hb3 none) (by simp [Value.ownBlock])
              have hil3 : rn < inn.length := by rw [HIL.out]; exact hrl
              have hci : w3.cell? ⟨g5, rn, none⟩ = some (.bool inn[rn]) := by rw [hown3.cellAt rn (by omega), List.getElem?_map, List.getElem?_eq_getElem hil3]; rfl
              have hfi := hown3.frozenAt rn
              have hst := hown3.stored rn (.bool false)
              have y0' := (HBY.out.ext hb3).cell 0
              simp at y0'))
          refine ⟨⟨k + 1, inn.set rn false, by omega, by go_num, HSTEP.out, ?_, (HBX.out.ext hb3).far (by simp; omega) _, (HBY.out.ext hb3).far (by simp; omega) _, (ext_trans hbel hb3).setCell (by show w.heap.size ≤ g5; omega) _⟩, by simp [intOf]; omega⟩
          simpa [bools, List.map_set] using hst.1
      · obtain rfl : k = ord.length := by omega
        have hfin := HE.out
        rw [HCL.out] at hfin
        simp only at hfin
        clear HE
        have HE := Lib.hid hfin
        clear hfin
        obtain ⟨wp, rfl⟩ : ∃ wp : World, wp = wr := ⟨_, rfl⟩
        have hd1 : decide (ord.length < ord.length) = false := by simp
        clear x0 x1 x2 x3
        go_wp2
        clear hd1
        go_loopw [12, 40] (fun cv i wq => ∃ k : Nat, k ≤ S.rels.length ∧ i = .int .i64 k ∧ wq.ownsRow wp.heap.size 3 1 cv (coreTo inn k).length (ints (coreTo inn k)) ∧ Below wp.heap.size wp wq) (fun _ i _ => S.rels.length - (intOf i).toNat)
        case atStart => exact ⟨0, Nat.zero_le _, rfl, World.ownsRow_nil _ _ _ _, Below.refl _ _⟩
        case round =>
          obtain ⟨k, hk, rfl, hcv, hbq⟩ := hrel
          have hcvl := coreTo_len inn k
          by_cases hlt : k < S.rels.length
          · have hin2 := hown.kept (grown_of_ext hbq none) (by simp [Value.ownBlock])
            have hki : k < inn.length := by rw [HIL.out]; exact hlt
            have hci : wr.cell? ⟨g5, k, none⟩ = some (.bool inn[k]) := by rw [hin2.cellAt k (by omega), List.getElem?_map, List.getElem?_eq_getElem hki]; rfl
            have y0' := (HBY.out.ext hbq).cell 0
            simp at y0'
            have hcs := coreTo_succ inn k
            rw [show inn.getD k false = inn[k] by simp [List.getD, hki]] at hcs
            have HCS := Lib.hid hcs
            clear hcs
            cases hik : inn[k]
            · rw [hik] at hci HCS
              go_wp2
              exact ⟨⟨k + 1, by omega, by go_num, by rw [HCS.out]; exact hcv, hbq⟩, by simp [intOf]; omega⟩
            · rw [hik] at hci HCS
              go_wp2_with (
                at_builtin
                go_must (
                  refine wpList_app (W := wr) rfl _ _ 22 rfl wp.heap.size 3 (.int .i64 0) 1 8 Try.underlying22 Try.infoInt rfl (by decide) (by decide) u12 (coreTo inn k).length 1 (ints (coreTo inn k)) rfl rfl rfl hcv rfl (by simp; rfl) (by omega) hbq.size ?_
                  intro A6 c6 w6 hown6 hg6 hat6))
              refine ⟨⟨k + 1, by omega, by go_num, ?_, hbq.grown hg6 hbq.size (fun g e => (hcv.lt g e).1)⟩, by simp [intOf]; omega⟩
              rw [HCS.out]; simpa [ints] using hown6
          · obtain rfl : k = S.rels.length := by omega
            obtain ⟨Al, cl, rfl, _, _⟩ := own_slice hcv
            have hd1 : decide (S.rels.length < S.rels.length) = false := by simp
            have hbw := ext_trans hbel hbq
            have hcore := hc.ext hbw
            have hleft := Row.of_own hcv
            have hcap : CapAt wr w.heap.size w2.heap.size S inn := by
              refine ⟨A1, c1, A2, c2, A3, c3, some ⟨g5, 0, none⟩, c5, HBX.out.ext hbq, ?_, (h0.ext hbw).mono fun _ _ _ => trivial, (Row.of_own (hown.kept (grown_of_ext hbq none) (by simp [Value.ownBlock]))).any⟩
              rw [HIL.out]; exact HBY.out.ext hbq
            by_cases h2 : 2 ≤ core.length
            · cases heq : eqB core (coreTo inn S.rels.length)
              · rw [heq] at HE
                have cte := equal_any Ac Al cc cl core (coreTo inn S.rels.length) wr hcore hleft (by omega) (by omega)
                rw [heq] at cte
                have CTE := Lib.hid cte
                clear cte hcore hleft hcap
                go_wp2_with (
                  go_at_call 42
                  go_must (
                    refine CTE.out.mono ?_
                    rintro e w4 ⟨rfl, nd, rfl⟩))
                go_ret
                exact ⟨ret_bool (by rw [HE.out]; simp), below_drewN hbw _⟩
              · have heq2 : core = coreTo inn S.rels.length := by simpa [eqB] using heq
                have hmem : ∀ a ∈ core, 0 ≤ a ∧ a < S.rels.length := fun a ha => by rw [heq2] at ha; have := coreTo_mem ha; omega
                have ctc := fun nd => containsC_any Ac cc core S inn w.heap.size w2.heap.size (wr.drewN nd) (hcore.drewN nd) hcl hcap HIL.out hmem hok
                rw [heq] at HE
                have cte := equal_any Ac Al cc cl core (coreTo inn S.rels.length) wr hcore hleft (by omega) (by omega)
                rw [heq] at cte
                generalize core.any (isEar S inn) = qa at *
                have CTE := Lib.hid cte
                have CTC := Lib.hid ctc
                clear cte ctc hcore hleft hcap heq2 hmem
                go_wp2_with (first
                  | (go_at_call 42
                     go_must (
                      refine CTE.out.mono ?_
                      rintro e w4 ⟨rfl, nd, rfl⟩))
                  | (go_at_call 43
                     go_must (
                      refine (CTC.out nd).mono ?_
                      rintro e w5 ⟨rfl, hb5⟩)))
                go_ret
                exact ⟨ret_bool (by rw [HE.out]; simp [h2]), ext_trans (below_drewN hbw nd) hb5⟩
            · clear hcore hleft hcap
              go_wp2_with fail
              go_ret
              exact ⟨ret_bool (by rw [HE.out]; simp [h2]), hbw⟩
  · have hcb := ne_b hce
    have hE : closedB S ord core = false := by unfold closedB; rw [if_pos hce]
    rw [hE]
    generalize checkE S = ce at *
    have CT1 := Lib.hid ct1
    clear ct1 hce hE
    go_enter Try.func20, Try.ntmps20
    go_wp2_with (
      go_at_call 33
      go_must (
        refine (CT1.out _ ((Below.refl _ _).alloc (Nat.le_refl _) _)).mono ?_
        rintro e w1 ⟨rfl, hb1⟩))
    go_ret
    exact ⟨rfl, ext_trans ((Below.refl _ _).alloc (Nat.le_refl _) _) hb1⟩

end Go.Proofs.Ytopblgabadljdaa
