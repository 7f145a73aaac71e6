/-
  The walk of the reference's Ear: it answers as the program's.
-/
import Derived.Test.YtopblgabadljdaaRChk
import Derived.Test.YtopblgabadljdaaLink
namespace Go.Proofs.Ytopblgabadljdaa
open Go.RowKit

/-- Is an attribute in one of the first j relations of a set, other than the r-th? -/
def shTo (rs : List (ByteArray × List Int)) (inn : List Bool) (r : Nat) (a : Int) (j : Nat) : Bool := (List.range j).any fun k => inn.getD k false && decide (k ≠ r) && inB (rs.getD k default).2 a
theorem shTo_succ (rs : List (ByteArray × List Int)) (inn : List Bool) (r : Nat) (a : Int) (j : Nat) : shTo rs inn r a (j + 1) = (shTo rs inn r a j || (inn.getD j false && decide (j ≠ r) && inB (rs.getD j default).2 a)) := by
  unfold shTo
  rw [List.range_succ, List.any_append]
  simp only [List.any_cons, List.any_nil, Bool.or_false]
/-- Has the k-th relation all of the first p attributes of the r-th that others share? -/
def okTo (rs : List (ByteArray × List Int)) (inn : List Bool) (r k p : Nat) : Bool := ((rs.getD r default).2.take p).all fun a => !shTo rs inn r a rs.length || inB (rs.getD k default).2 a
theorem okTo_succ (rs : List (ByteArray × List Int)) (inn : List Bool) (r k p : Nat) (hr : r < rs.length) (hp : p < rs[r].2.length) : okTo rs inn r k (p + 1) = (okTo rs inn r k p && (!shTo rs inn r rs[r].2[p] rs.length || inB (rs.getD k default).2 rs[r].2[p])) := by
  unfold okTo
  have e : rs.getD r default = rs[r] := by simp [List.getD, hr]
  rw [e, List.take_succ_eq_append_getElem hp, List.all_append]
  simp only [List.all_cons, List.all_nil, Bool.and_true]
def rwAt (rs : List (ByteArray × List Int)) (inn : List Bool) (r k : Nat) : Bool := inn.getD k false && decide (k ≠ r) && okTo rs inn r k (rs.getD r default).2.length
theorem sh_iff {rs : List (ByteArray × List Int)} {inn : List Bool} {r : Nat} {a : Int} : shTo rs inn r a rs.length = true ↔ ∃ k, k ∈ idx inn rs.length ∧ k ≠ r ∧ a ∈ (rs.getD k default).2 := by
  unfold shTo
  rw [List.any_eq_true]
  constructor
  · rintro ⟨k, hk, h⟩
    simp only [Bool.and_eq_true, decide_eq_true_eq, inB, List.contains_iff_mem] at h
    exact ⟨k, mem_idx.2 ⟨by simpa using hk, h.1.1⟩, h.1.2, h.2⟩
  · rintro ⟨k, hk, h1, h2⟩
    obtain ⟨h3, h4⟩ := mem_idx.1 hk
    exact ⟨k, by simpa using h3, by simp only [Bool.and_eq_true, decide_eq_true_eq, inB, List.contains_iff_mem]; exact ⟨⟨h4, h1⟩, h2⟩⟩
theorem rw_wit {rs : List (ByteArray × List Int)} (hok : RelOk rs) (inn : List Bool) (r k : Nat) (hk : k < rs.length) : rwAt rs inn r k = witAt rs inn r k := by
  rw [Bool.eq_iff_iff, wit_iff rs inn r k hok hk]
  unfold rwAt okTo
  rw [List.take_length]
  simp only [Bool.and_eq_true, decide_eq_true_eq, List.all_eq_true, Bool.or_eq_true, Bool.not_eq_true', ← Bool.not_eq_true, sh_iff, inB, List.contains_iff_mem]
  constructor
  · rintro ⟨⟨h1, h2⟩, h3⟩
    refine ⟨mem_idx.2 ⟨hk, h1⟩, h2, fun i hi hir a ha hia => ?_⟩
    rcases h3 (a : Int) ha with h | h
    · exact absurd ⟨i, hi, hir, hia⟩ h
    · exact h
  · rintro ⟨h1, h2, h3⟩
    refine ⟨⟨(mem_idx.1 h1).2, h2⟩, fun a ha => ?_⟩
    rcases Classical.em (∃ i, i ∈ idx inn rs.length ∧ i ≠ r ∧ a ∈ (rs.getD i default).2) with h | h
    · obtain ⟨i, hi, hir, hia⟩ := h
      obtain ⟨n, rfl⟩ := Int.eq_ofNat_of_zero_le (getD_ok hok r a ha).1
      exact .inr (h3 i hi hir n ha hia)
    · exact .inl h
theorem rw_find {rs : List (ByteArray × List Int)} (hok : RelOk rs) {inn : List Bool} {r : Nat} : witI rs inn r = (List.range rs.length).find? (rwAt rs inn r) := by
  unfold witI
  have : ∀ l : List Nat, (∀ x ∈ l, x < rs.length) → l.find? (witAt rs inn r) = l.find? (rwAt rs inn r) := by
    intro l
    induction l with
    | nil => intro _; rfl
    | cons x t ih =>
      intro h
      rw [List.find?_cons, List.find?_cons, rw_wit hok inn r x (h x (by simp)), ih fun y hy => h y (by simp [hy])]
  exact this _ fun x hx => by simpa using hx
theorem sch_relsE {w : World} {R : Nat → Prop} {S : Sch} {A1 : Option Addr} {c1 : Nat} {A2 : Option Addr} {c2 : Nat} {A3 : Option Addr} {c3 : Nat}
    (h : SchAt w R (.agg #[.slice A1 S.attrs.length c1, .slice A2 S.rels.length c2, .slice A3 S.feats.length c3, .int .i64 S.label]) S) : RelsAt w R A2 S.rels := by
  obtain ⟨B1, d1, B2, d2, B3, d3, e, _, _, _, h1, h2, h3⟩ := h
  simp at e
  obtain ⟨⟨rfl, rfl⟩, ⟨rfl, rfl⟩, rfl, rfl⟩ := e
  exact h2

set_option maxRecDepth 100000 in
set_option maxHeartbeats 1000000 in
theorem ear7_any (v : Value) (S : Sch) (Ai : Option Addr) (ci : Nat) (inn : List Bool) (r : Int) (w : World) {R R' : Nat → Prop} (h : SchAt w R v S) (hb : SBd S) (hi : Row w R' Ai (bools inn)) :
    Calls Try.prog 26 #[v, .slice Ai inn.length ci, .int .i64 r] w fun e w' =>
      e = .returned (.tuple #[.int .i64 (optI (earO S inn r)), .bool (earO S inn r).isSome]) ∧ Below w.heap.size w w' := by
  have h0 := h
  obtain ⟨A1, c1, A2, c2, A3, c3, rfl, l1, l2, l3, h1, h2, h3⟩ := h
  clear h1 h2 h3 l1 l2 l3
  have ct1 := fun (W : World) (hW : Below w.heap.size w W) => check5_any _ S W (h0.ext hW) hb
  have hbr := hb.r
  by_cases hc : checkE S = 0
  · have hcb := eq_b hc
    by_cases hln : inn.length = S.rels.length
    · have hlb : ((inn.length : Int) != (S.rels.length : Int)) = false := by simp [hln]
      by_cases hr0 : r < 0
      · have hE : earO S inn r = none := by unfold earO; rw [if_pos (.inr (.inr (.inl hr0)))]
        rw [hE]
        generalize checkE S = ce at *
        have CT1 := Lib.hid ct1
        clear ct1 hc hE hln
        go_enter Try.func26, Try.ntmps26
        go_wp2_with (
          go_at_call 49
          go_must (
            refine (CT1.out _ ((Below.refl _ _).alloc (Nat.le_refl _) _)).mono ?_
            rintro e w1 ⟨rfl, hb1⟩
            have hbx := (Blk.new w 28 #[Value.slice A1 S.attrs.length c1, Value.slice A2 S.rels.length c2, Value.slice A3 S.feats.length c3, Value.int IntKind.i64 S.label]).ext hb1
            have x0 := hbx.cell 0
            have x1 := hbx.cell 1
            have x2 := hbx.cell 2
            have x3 := hbx.cell 3
            simp at x0 x1 x2 x3
            clear hbx))
        go_ret2
        exact ⟨rfl, ext_trans ((Below.refl _ _).alloc (Nat.le_refl _) _) hb1⟩
      · by_cases hr1 : (inn.length : Int) ≤ r
        · have hE : earO S inn r = none := by unfold earO; rw [if_pos (.inr (.inr (.inr (.inl hr1))))]
          rw [hE]
          generalize checkE S = ce at *
          have CT1 := Lib.hid ct1
          clear ct1 hc hE hln
          go_enter Try.func26, Try.ntmps26
          go_wp2_with (
            go_at_call 49
            go_must (
              refine (CT1.out _ ((Below.refl _ _).alloc (Nat.le_refl _) _)).mono ?_
              rintro e w1 ⟨rfl, hb1⟩
              have hbx := (Blk.new w 28 #[Value.slice A1 S.attrs.length c1, Value.slice A2 S.rels.length c2, Value.slice A3 S.feats.length c3, Value.int IntKind.i64 S.label]).ext hb1
              have x0 := hbx.cell 0
              have x1 := hbx.cell 1
              have x2 := hbx.cell 2
              have x3 := hbx.cell 3
              simp at x0 x1 x2 x3
              clear hbx))
          go_ret2
          exact ⟨rfl, ext_trans ((Below.refl _ _).alloc (Nat.le_refl _) _) hb1⟩
        · obtain ⟨rn, rfl⟩ := Int.eq_ofNat_of_zero_le (show 0 ≤ r by omega)
          have hrn : rn < inn.length := by omega
          have hrs : rn < S.rels.length := by omega
          obtain ⟨b, off, rfl, hbb, hck⟩ := hi.bool_at hrn
          have hgi : inn.getD rn false = inn[rn] := by simp [List.getD, hrn]
          cases hik : inn[rn]
          · have hE : earO S inn rn = none := by unfold earO; rw [if_pos (.inr (.inr (.inr (.inr (by rw [Int.toNat_natCast, hgi, hik])))))]
            rw [hik] at hck
            rw [hE]
            generalize checkE S = ce at *
            have CT1 := Lib.hid ct1
            clear ct1 hc hE hln hgi hik
            go_enter Try.func26, Try.ntmps26
            go_wp2_with (
              go_at_call 49
              go_must (
                refine (CT1.out _ ((Below.refl _ _).alloc (Nat.le_refl _) _)).mono ?_
                rintro e w1 ⟨rfl, hb1⟩
                have hbx := (Blk.new w 28 #[Value.slice A1 S.attrs.length c1, Value.slice A2 S.rels.length c2, Value.slice A3 S.feats.length c3, Value.int IntKind.i64 S.label]).ext hb1
                have x0 := hbx.cell 0
                have x1 := hbx.cell 1
                have x2 := hbx.cell 2
                have x3 := hbx.cell 3
                simp at x0 x1 x2 x3
                clear hbx
                have hck1 : w1.cell? ⟨b, off + rn, none⟩ = some (.bool false) := by rw [hb1.cell (p := ⟨b, off + rn, none⟩) (by show b < _; simp; omega), World.cell?_alloc_lt _ _ _ hbb]; exact hck
                clear hck))
            go_ret2
            exact ⟨rfl, ext_trans ((Below.refl _ _).alloc (Nat.le_refl _) _) hb1⟩
          · have hE : earO S inn rn = witI S.rels inn rn := by
              unfold earO
              rw [if_neg, Int.toNat_natCast]
              rw [Int.toNat_natCast, hgi, hik]
              simp [hc, hln]
              omega
            rw [hik] at hck
            have hok := check_relOk hc
            have hE2 : earO S inn rn = (List.range S.rels.length).find? (rwAt S.rels inn rn) := by rw [hE]; exact rw_find hok
            rw [hE2]
            have HLN := Lib.hid hln
            have hrl := hb.rl _ (List.getElem_mem hrs)
            have HRL := Lib.hid (fun (k : Nat) (hk : k < S.rels.length) => hb.rl _ (List.getElem_mem hk))
            have HRS := Lib.hid (fun (W : World) (hW : Below w.heap.size w W) => sch_relsE (h0.ext hW))
            have HGR : Hid (S.rels.getD rn default = S.rels[rn]) := Lib.hid (by simp [List.getD, hrs])
            generalize checkE S = ce at *
            have CT1 := Lib.hid ct1
            clear ct1 hc hE hE2 hln hgi hik hok
            have hdr2 : decide (inn.length ≤ rn) = false := by rw [decide_eq_false_iff_not]; omega
            have hdr : decide ((rn : Int) < 0) = false := by rw [decide_eq_false_iff_not]; omega
            go_enter Try.func26, Try.ntmps26
            go_wp2_with (
              go_at_call 49
              go_must (
                refine (CT1.out _ ((Below.refl _ _).alloc (Nat.le_refl _) _)).mono ?_
                rintro e w1 ⟨rfl, hb1⟩
                have hbx := (Blk.new w 28 #[Value.slice A1 S.attrs.length c1, Value.slice A2 S.rels.length c2, Value.slice A3 S.feats.length c3, Value.int IntKind.i64 S.label]).ext hb1
                have x1 := hbx.cell 1
                simp at x1
                clear hbx
                have hck1 : w1.cell? ⟨b, off + rn, none⟩ = some (.bool true) := by rw [hb1.cell (p := ⟨b, off + rn, none⟩) (by show b < _; simp; omega), World.cell?_alloc_lt _ _ _ hbb]; exact hck
                have hbel1 : Below w.heap.size w w1 := ext_trans ((Below.refl _ _).alloc (Nat.le_refl _) _) hb1
                clear hck))
            have hi1 := hi.ext hbel1
            have hr1' := HRS.out w1 hbel1
            clear hck1 HRS CT1
            obtain ⟨br, offr, Ar, cr, rfl, _, hbbr, _, hkr2, hrowr⟩ := hr1'.at_ hrs
            generalize hPP : rwAt S.rels inn rn = P at *
            have HPP := Lib.hid hPP
            clear hPP
            go_loop [44] (fun i => ∃ k : Nat, k ≤ inn.length ∧ i = .int .i64 k ∧ Hid (∀ j, j < k → P j = false)) (fun i => inn.length - (intOf i).toNat)
            case atStart => exact ⟨0, Nat.zero_le _, rfl, Lib.hid fun j hj => absurd hj (by omega)⟩
            case round =>
              obtain ⟨k, hk, rfl, HNO⟩ := hrel
              by_cases hlt : k < inn.length
              · obtain ⟨b', off', e', hb', hcik⟩ := hi1.bool_at hlt
                simp at e'
                obtain ⟨rfl, rfl⟩ := e'
                have hks : k < S.rels.length := by rw [← HLN.out]; exact hlt
                have HP : Hid (P k = (inn[k] && decide (k ≠ rn) && okTo S.rels inn rn k S.rels[rn].2.length)) := Lib.hid (by rw [← HPP.out]; unfold rwAt; rw [HGR.out]; simp [List.getD, hlt])
                have HST := Lib.hid (fun (h : P k = false) (j : Nat) (hj : j < k + 1) => show P j = false by
                  by_cases e : j < k
                  · exact HNO.out j e
                  · obtain rfl : j = k := by omega
                    exact h)
                cases hik : inn[k]
                · rw [hik] at hcik HP
                  go_wp2
                  exact ⟨⟨k + 1, by omega, by go_num, Lib.hid (HST.out (by rw [HP.out]; rfl))⟩, by simp [intOf]; omega⟩
                · rw [hik] at hcik HP
                  by_cases hkr : k = rn
                  · have hkb : ((k : Int) == (rn : Int)) = true := by rw [beq_iff_eq]; omega
                    have HF : Hid (P k = false) := Lib.hid (by rw [HP.out]; simp [hkr])
                    clear hkr
                    go_wp2
                    exact ⟨⟨k + 1, by omega, by go_num, Lib.hid (HST.out HF.out)⟩, by simp [intOf]; omega⟩
                  · have hkb : ((k : Int) == (rn : Int)) = false := by rw [beq_eq_false_iff_ne]; omega
                    have HP2 : Hid (P k = okTo S.rels inn rn k S.rels[rn].2.length) := Lib.hid (by rw [HP.out]; simp [hkr])
                    have HOS := Lib.hid (fun (p : Nat) (hp : p < S.rels[rn].2.length) => okTo_succ S.rels inn rn k p hrs hp)
                    have HO0 : Hid (okTo S.rels inn rn k 0 = true) := Lib.hid (by simp [okTo])
                    obtain ⟨bk, offk, Ak, ck, ek, _, hbbk, _, hkk2, hrowk⟩ := hr1'.at_ hks
                    simp at ek
                    obtain ⟨rfl, rfl⟩ := ek
                    have hrlk := HRL.out k hks
                    have HGK : Hid (S.rels.getD k default = S.rels[k]) := Lib.hid (by simp [List.getD, hks])
                    generalize hOK : okTo S.rels inn rn k = okf at *
                    clear hOK hkr hik
                    go_wp2
                    go_loop [9, 64] (fun o i => ∃ p : Nat, p ≤ S.rels[rn].2.length ∧ i = .int .i64 p ∧ o = .bool (okf p)) (fun _ i => S.rels[rn].2.length - (intOf i).toNat)
                    case atStart => exact ⟨0, Nat.zero_le _, rfl, by rw [HO0.out]⟩
                    case round =>
                      obtain ⟨p, hp, rfl, rfl⟩ := hrel
                      by_cases hpl : p < S.rels[rn].2.length
                      · obtain ⟨bp, offp, rfl, hbp, hcp⟩ := hrowr.int_at hpl
                        have HOP := Lib.hid (HOS.out p hpl)
                        have HSS := Lib.hid (fun (j : Nat) => shTo_succ S.rels inn rn S.rels[rn].2[p] j)
                        have HS0 : Hid (shTo S.rels inn rn S.rels[rn].2[p] 0 = false) := Lib.hid rfl
                        have CIK := Lib.hid (in_any Ak ck S.rels[k].2 S.rels[rn].2[p] w1 hrowk (by omega))
                        generalize S.rels[rn].2[p] = at0 at *
                        generalize hSH : shTo S.rels inn rn at0 = shf at *
                        clear hSH
                        go_wp2
                        go_loop [12, 70] (fun sh i => ∃ j : Nat, j ≤ inn.length ∧ i = .int .i64 j ∧ sh = .bool (shf j)) (fun _ i => inn.length - (intOf i).toNat)
                        case atStart => exact ⟨0, Nat.zero_le _, rfl, by rw [HS0.out]⟩
                        case round =>
                          obtain ⟨j, hj, rfl, rfl⟩ := hrel
                          by_cases hjl : j < inn.length
                          · have hjs : j < S.rels.length := by rw [← HLN.out]; exact hjl
                            obtain ⟨b2, off2, e2, _, hcj⟩ := hi1.bool_at hjl
                            simp at e2
                            obtain ⟨rfl, rfl⟩ := e2
                            obtain ⟨bj, offj, Aj, cj, ej, _, hbbj, _, hkj2, hrowj⟩ := hr1'.at_ hjs
                            simp at ej
                            obtain ⟨rfl, rfl⟩ := ej
                            have hrlj := HRL.out j hjs
                            have HSJ : Hid (shf (j + 1) = (shf j || (inn[j] && decide (j ≠ rn) && inB S.rels[j].2 at0))) := Lib.hid (by rw [HSS.out]; simp [List.getD, hjl, hjs])
                            have cij := in_any Aj cj S.rels[j].2 at0 w1 hrowj (by omega)
                            generalize S.rels[j].2 = Lj at *
                            cases hs : shf j
                            · rw [hs] at HSJ
                              cases hij : inn[j]
                              · rw [hij] at hcj HSJ
                                go_wp2_with fail
                                exact ⟨⟨j + 1, by omega, by go_num, by rw [HSJ.out]; rfl⟩, by simp [intOf]; omega⟩
                              · rw [hij] at hcj HSJ
                                by_cases hjr : j = rn
                                · have hjb : ((j : Int) != (rn : Int)) = false := by simp; omega
                                  have HJR := Lib.hid hjr
                                  clear hjr
                                  go_wp2_with fail
                                  exact ⟨⟨j + 1, by omega, by go_num, by rw [HSJ.out]; simp [HJR.out]⟩, by simp [intOf]; omega⟩
                                · have hjb : ((j : Int) != (rn : Int)) = true := by simp; omega
                                  have HJR := Lib.hid hjr
                                  have CIJ := Lib.hid cij
                                  clear hjr cij
                                  go_wp2_with (go_at_call 36; go_must (refine CIJ.out.mono ?_; rintro e w3 ⟨rfl, rfl⟩))
                                  exact ⟨⟨j + 1, by omega, by go_num, by rw [HSJ.out]; simp [HJR.out]⟩, by simp [intOf]; omega⟩
                            · rw [hs] at HSJ
                              go_wp2_with fail
                              exact ⟨⟨j + 1, by omega, by go_num, by rw [HSJ.out]; rfl⟩, by simp [intOf]; omega⟩
                          · obtain rfl : j = inn.length := by omega
                            have hd1 : decide (inn.length < inn.length) = false := by simp
                            have HOP2 : Hid (okf (p + 1) = (okf p && (!shf inn.length || inB S.rels[k].2 at0))) := Lib.hid (by rw [HOP.out, HGK.out, HLN.out])
                            cases ho : okf p
                            · rw [ho] at HOP2
                              go_wp2_with fail
                              exact ⟨⟨p + 1, by omega, by go_num, by rw [HOP2.out]; rfl⟩, by simp [intOf]; omega⟩
                            · rw [ho] at HOP2
                              cases hs : shf inn.length
                              · rw [hs] at HOP2
                                go_wp2_with fail
                                exact ⟨⟨p + 1, by omega, by go_num, by rw [HOP2.out]; rfl⟩, by simp [intOf]; omega⟩
                              · rw [hs] at HOP2
                                go_wp2_with (go_at_call 36; go_must (refine CIK.out.mono ?_; rintro e w3 ⟨rfl, rfl⟩))
                                exact ⟨⟨p + 1, by omega, by go_num, by rw [HOP2.out]; simp⟩, by simp [intOf]; omega⟩
                      · obtain rfl : p = S.rels[rn].2.length := by omega
                        have hd1 : decide (S.rels[rn].2.length < S.rels[rn].2.length) = false := by simp
                        cases ho : okf S.rels[rn].2.length
                        · rw [ho] at HP2
                          go_wp2_with fail
                          exact ⟨⟨k + 1, by omega, by go_num, Lib.hid (HST.out HP2.out)⟩, by simp [intOf]; omega⟩
                        · rw [ho] at HP2
                          have HFD : Hid ((List.range S.rels.length).find? P = some k) := Lib.hid (find_range hks HP2.out HNO.out)
                          go_wp2_with fail
                          go_ret2
                          exact ⟨by rw [HPP.out, HFD.out]; rfl, hbel1⟩
              · obtain rfl : k = inn.length := by omega
                have hd1 : decide (inn.length < inn.length) = false := by simp
                have HFD : Hid ((List.range S.rels.length).find? P = none) := Lib.hid (find_range_none (by rw [← HLN.out]; exact HNO.out))
                go_wp2_with fail
                go_ret2
                exact ⟨by rw [HPP.out, HFD.out]; rfl, hbel1⟩
    · have hlb : ((inn.length : Int) != (S.rels.length : Int)) = true := by simp; omega
      have hE : earO S inn r = none := by unfold earO; rw [if_pos (.inr (.inl hln))]
      rw [hE]
      generalize checkE S = ce at *
      have CT1 := Lib.hid ct1
      clear ct1 hc hE hln
      go_enter Try.func26, Try.ntmps26
      go_wp2_with (
        go_at_call 49
        go_must (
          refine (CT1.out _ ((Below.refl _ _).alloc (Nat.le_refl _) _)).mono ?_
          rintro e w1 ⟨rfl, hb1⟩
          have hbx := (Blk.new w 28 #[Value.slice A1 S.attrs.length c1, Value.slice A2 S.rels.length c2, Value.slice A3 S.feats.length c3, Value.int IntKind.i64 S.label]).ext hb1
          have x0 := hbx.cell 0
          have x1 := hbx.cell 1
          have x2 := hbx.cell 2
          have x3 := hbx.cell 3
          simp at x0 x1 x2 x3
          clear hbx))
      go_ret2
      exact ⟨rfl, ext_trans ((Below.refl _ _).alloc (Nat.le_refl _) _) hb1⟩
  · have hcb := ne_b hc
    have hE : earO S inn r = none := by unfold earO; rw [if_pos (.inl hc)]
    rw [hE]
    generalize checkE S = ce at *
    have CT1 := Lib.hid ct1
    clear ct1 hc hE
    go_enter Try.func26, Try.ntmps26
    go_wp2_with (
      go_at_call 49
      go_must (
        refine (CT1.out _ ((Below.refl _ _).alloc (Nat.le_refl _) _)).mono ?_
        rintro e w1 ⟨rfl, hb1⟩))
    go_ret2
    exact ⟨rfl, ext_trans ((Below.refl _ _).alloc (Nat.le_refl _) _) hb1⟩

end Go.Proofs.Ytopblgabadljdaa
