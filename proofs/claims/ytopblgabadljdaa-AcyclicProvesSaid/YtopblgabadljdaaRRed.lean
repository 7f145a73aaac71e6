/-
  The walks of the reference's reduce, Reduce, Tree and Acyclic: they answer as the program's.
-/
import Derived.Test.YtopblgabadljdaaREar
import Derived.Test.YtopblgabadljdaaAcy2
import Derived.Deep.DeepCutAuto
namespace Go.Proofs.Ytopblgabadljdaa
open Go.RowKit

theorem rep_at {x z : Value} {n k : Nat} (h : k < n) : (repL x z n k)[k]? = some z := by
  unfold repL
  rw [List.getElem?_append_right (by simp)]
  simp [List.getElem?_replicate]; omega
theorem rep_set {x z : Value} {n k : Nat} (h : k < n) : (repL x z n k).set k x = repL x z n (k + 1) := by
  unfold repL
  rw [List.set_append_right _ _ (by simp), List.length_replicate, Nat.sub_self]
  obtain ⟨m, hm⟩ : ∃ m, n - k = m + 1 := ⟨n - k - 1, by omega⟩
  rw [hm, show n - (k + 1) = m by omega, List.replicate_succ, List.set_cons_zero, List.replicate_succ', List.append_assoc]
  rfl
theorem rep_full {x z : Value} {n : Nat} : repL x z n n = List.replicate n x := by simp [repL]
def wit7 (S : Sch) : List Int := if checkE S = 0 then (redS S.rels).wit else []
theorem ear_at {S : Sch} (hc : checkE S = 0) {inn : List Bool} (hl : inn.length = S.rels.length) {k : Nat} (hk : k < S.rels.length) : (earO S inn (k : Int)).isSome = earAt S.rels inn k ∧ (earAt S.rels inn k = true → earO S inn (k : Int) = witI S.rels inn k) := by
  unfold earO earAt
  rw [Int.toNat_natCast]
  cases h : inn.getD k false
  · rw [if_pos (by simp)]; simp
  · rw [if_neg (by simp [hc, hl]; omega)]; simp

set_option maxRecDepth 100000 in
set_option maxHeartbeats 2000000 in
theorem reduce7_yes (v : Value) (S : Sch) (w : World) {R : Nat → Prop} (h : SchAt w R v S) (hb : SBd S) (hc : checkE S = 0) :
    Calls Try.prog 37 #[v] w fun e w' => ∃ (Ao : Option Addr) (co : Nat) (Ac : Option Addr) (cc : Nat) (Aw : Option Addr) (cw : Nat),
      e = .returned (.tuple #[.slice Ao (redS S.rels).ord.length co, .slice Ac (coreS S.rels).length cc, .slice Aw S.rels.length cw]) ∧
      Row w' (w.heap.size ≤ ·) Ao (ints (redS S.rels).ord) ∧ Row w' (w.heap.size ≤ ·) Ac (ints (coreS S.rels)) ∧ Row w' (w.heap.size ≤ ·) Aw (ints (redS S.rels).wit) ∧ Below w.heap.size w w' := by
  have h0 := h
  obtain ⟨A1, c1, A2, c2, A3, c3, rfl, l1, l2, l3, h1, h2, h3⟩ := h
  clear h1 h2 h3 l1 l2 l3
  have hok := check_relOk hc
  have hn1 := (check_zero hc).2.2.1
  have hn := hok.1
  have hcb := eq_b hc
  have CE := Lib.hid (fun (W : World) (Ai : Option Addr) (ci : Nat) (inn : List Bool) (k : Int) (R' : Nat → Prop) (hW : Below w.heap.size w W) (hi : Row W R' Ai (bools inn)) => ear7_any _ S Ai ci inn k W (h0.ext hW) hb hi)
  have HEA := Lib.hid (fun (inn : List Bool) (hl : inn.length = S.rels.length) (k : Nat) (hk : k < S.rels.length) => ear_at hc hl hk)
  have CK := Lib.hid (check5_any _ S _ (h0.ext ((Below.refl _ w).alloc (Nat.le_refl _) (.cells #[Value.slice A1 S.attrs.length c1, Value.slice A2 S.rels.length c2, Value.slice A3 S.feats.length c3, Value.int IntKind.i64 S.label] 28))) hb)
  generalize hce' : checkE S = ce at *
  clear hc hce'
  obtain ⟨ib, hib, hz0, hz1, hz2⟩ := info_parts Try.infoBool
  obtain ⟨ii, hii, hy0, hy1, hy2⟩ := info_parts Try.infoInt
  go_enter Try.func37, Try.ntmps37
  go_upto_region 4 with (first
    | (go_at_call 49
       go_must (
        refine CK.out.mono ?_
        rintro e w1 ⟨rfl, hb1⟩
        have hbx := (Blk.new w 28 #[Value.slice A1 S.attrs.length c1, Value.slice A2 S.rels.length c2, Value.slice A3 S.feats.length c3, Value.int IntKind.i64 S.label]).ext hb1
        have hbel1 : Below w.heap.size w w1 := ext_trans ((Below.refl _ _).alloc (Nat.le_refl _) _) hb1
        have x1 := hbx.cell 1
        simp at x1
        have hxl := hbx.lt
        have HBX := Lib.hid hbx
        clear hbx hb1))
    | (at_make
       go_must (
        refine wpList_make_full _ rfl _ _ 36 rfl w1.heap.size 4 ib (.bool false) 1 Try.underlying36 hib hz0 hz1 _ _ _ _ S.rels.length rfl rfl rfl rfl (by rw [hz2]; omega) (by simp [maxLen]; omega) (by simp) ?_
        intro w2 hown2 hg2
        have hownb : w2.ownsRow w1.heap.size 4 1 (.slice (some ⟨w1.heap.size, 0, none⟩) S.rels.length S.rels.length) S.rels.length (repL (.bool true) (.bool false) S.rels.length 0) := by
          rw [made_one (.bool false) rfl] at hown2; exact hown2
        have hb2 := ext_of_grown hg2
        have hl2 := (hownb.lt _ rfl).2
        clear hown2 hg2 x1)))
  go_wp2_with (
    at_make
    go_must (
      refine wpList_make_full _ rfl _ _ 22 rfl w2.heap.size 3 ii (.int .i64 0) 1 Try.underlying22 hii hy0 hy1 _ _ _ _ S.rels.length rfl rfl rfl rfl (by rw [hy2]; omega) (by simp [maxLen]; omega) (by simp) ?_
      intro w3 hown3 hg3
      have howni : w3.ownsRow w2.heap.size 3 1 (.slice (some ⟨w2.heap.size, 0, none⟩) S.rels.length S.rels.length) S.rels.length (repL (.int .i64 (-1)) (.int .i64 0) S.rels.length 0) := by
        rw [made_one (.int .i64 0) rfl] at hown3; exact hown3
      have hb3 := ext_of_grown hg3
      have hownb3 := hownb.kept (grown_of_ext hb3 none) (by simp [Value.ownBlock])
      clear hown3 hg3 hownb))
  have hs2 := hb2.size
  have hs3 := hb3.size
  have hs1 := hbel1.size
  have hownb4 := own_mono hownb3 (base' := w.heap.size + 1) (by omega)
  have howni4 := own_mono howni (base' := w.heap.size + 1) (by omega)
  have HBX3 := Lib.hid ((HBX.out.ext hb2).ext hb3)
  have hb03 := ext_trans (ext_trans hbel1 hb2) hb3
  obtain ⟨g5, hg5⟩ : ∃ g5, g5 = w1.heap.size := ⟨_, rfl⟩
  obtain ⟨g4, hg4⟩ : ∃ g4, g4 = w2.heap.size := ⟨_, rfl⟩
  have hne54 : g5 ≠ g4 := by omega
  have hg5' : w.heap.size + 1 ≤ g5 := by omega
  have hg4' : w.heap.size + 1 ≤ g4 := by omega
  rw [← hg5] at hownb4 ⊢
  rw [← hg4] at howni4 ⊢
  clear hownb3 howni HBX hib hz0 hz1 hz2 hii hy0 hy1 hy2 hg4 hg5 CK
  go_loopw [24] (fun i wr => ∃ k : Nat, k ≤ S.rels.length ∧ i = .int .i64 k ∧ wr.ownsRow (w.heap.size + 1) 4 1 (.slice (some ⟨g5, 0, none⟩) S.rels.length S.rels.length) S.rels.length (repL (.bool true) (.bool false) S.rels.length k) ∧
    wr.ownsRow (w.heap.size + 1) 3 1 (.slice (some ⟨g4, 0, none⟩) S.rels.length S.rels.length) S.rels.length (repL (.int .i64 (-1)) (.int .i64 0) S.rels.length k) ∧
    Blk wr w.heap.size 28 #[Value.slice A1 S.attrs.length c1, Value.slice A2 S.rels.length c2, Value.slice A3 S.feats.length c3, Value.int IntKind.i64 S.label] ∧ Below w.heap.size w wr) (fun i _ => S.rels.length - (intOf i).toNat)
  case atStart => exact ⟨0, Nat.zero_le _, rfl, hownb4, howni4, HBX3.out, hb03⟩
  case round =>
    clear hownb4 howni4 HBX3 hb03
    obtain ⟨k, hk, rfl, hin, hwt, hbx, hbel⟩ := hrel
    by_cases hlt : k < S.rels.length
    · have hci : wr.cell? ⟨g5, k, none⟩ = some (.bool false) := by rw [hin.cellAt k (by omega)]; exact rep_at hlt
      have hfi := hin.frozenAt k
      have hsi := hin.stored k (.bool true)
      have hwt4 := hwt.kept hsi.2 (.inr (by simp [Value.ownBlock]; omega))
      have hcw4 : (wr.setCell ⟨g5, k, none⟩ (.bool true)).cell? ⟨g4, k, none⟩ = some (.int .i64 0) := by rw [hwt4.cellAt k (by omega)]; exact rep_at hlt
      have hfw4 := hwt4.frozenAt k
      have hsw := hwt4.stored k (.int .i64 (-1))
      have hin5 := hsi.1.kept hsw.2 (.inr (by simp [Value.ownBlock]; omega))
      have HRS1 := Lib.hid (rep_set (x := Value.bool true) (z := Value.bool false) hlt)
      have HRS2 := Lib.hid (rep_set (x := Value.int .i64 (-1)) (z := Value.int .i64 0) hlt)
      have HB5 := Lib.hid ((hbx.grown hsi.2 (by simp; omega)).grown hsw.2 (by simp; omega))
      clear hbx
      go_wp2
      refine ⟨⟨k + 1, by omega, by go_num, ?_, ?_, HB5.out, (hbel.setCell (by show w.heap.size ≤ g5; omega) _).setCell (by show w.heap.size ≤ g4; omega) _⟩, by simp [intOf]; omega⟩
      · rw [← HRS1.out]; exact hin5
      · rw [← HRS2.out]; exact hsw.1
    · obtain rfl : k = S.rels.length := by omega
      rw [rep_full] at hin hwt
      have hin0 : wr.ownsRow (w.heap.size + 1) 4 1 (.slice (some ⟨g5, 0, none⟩) S.rels.length S.rels.length) S.rels.length (bools (redTo S.rels 0).inn) := by rw [show (redTo S.rels 0).inn = List.replicate S.rels.length true from rfl, bools, List.map_replicate]; exact hin
      have hwt0 : wr.ownsRow (w.heap.size + 1) 3 1 (.slice (some ⟨g4, 0, none⟩) S.rels.length S.rels.length) S.rels.length (ints (redTo S.rels 0).wit) := by rw [show (redTo S.rels 0).wit = List.replicate S.rels.length (-1) from rfl, ints, List.map_replicate]; exact hwt
      have HBX2 := Lib.hid hbx
      obtain ⟨wz, rfl⟩ : ∃ wz : World, wz = wr := ⟨_, rfl⟩
      have hd0 : decide (S.rels.length < S.rels.length) = false := by simp
      clear hin hwt hbx
      go_wp2
      clear hd0
      go_loopw [2, 7] (fun o f wr => ∃ j : Nat, (∀ k, k < j → earI S.rels (redTo S.rels k).inn ≠ none) ∧ wr.ownsRow (w.heap.size + 1) 4 1 (.slice (some ⟨g5, 0, none⟩) S.rels.length S.rels.length) S.rels.length (bools (redTo S.rels j).inn) ∧
        wr.ownsRow (w.heap.size + 1) 3 1 (.slice (some ⟨g4, 0, none⟩) S.rels.length S.rels.length) S.rels.length (ints (redTo S.rels j).wit) ∧ wr.ownsRow (w.heap.size + 1) 3 1 o (redTo S.rels j).ord.length (ints (redTo S.rels j).ord) ∧
        (o.ownBlock = none ∨ o.ownBlock ≠ some g4) ∧ (f = .bool true ∨ (f = .bool false ∧ earI S.rels (redTo S.rels j).inn = none)) ∧
        Blk wr w.heap.size 28 #[Value.slice A1 S.attrs.length c1, Value.slice A2 S.rels.length c2, Value.slice A3 S.feats.length c3, Value.int IntKind.i64 S.label] ∧ Below w.heap.size w wr)
        (fun o f _ => if boolOf f then S.rels.length + 1 - sliceLen o else 0)
      case atStart => exact ⟨0, fun k hk => absurd hk (by omega), hin0, hwt0, World.ownsRow_nil _ _ _ _, .inl rfl, .inl rfl, HBX2.out, hbel⟩
      case round =>
        clear hin0 hwt0 HBX2 hbel
        obtain ⟨j, hall, hin, hwt, hor, hnb, hf, hbx, hbel⟩ := hrel
        have hol := redTo_ord S.rels j hall
        have hcn := redTo_count S.rels j
        have hjn : j ≤ S.rels.length := by omega
        have hil := (redTo_len S.rels j).1
        have hwl := (redTo_len S.rels j).2
        have HALL := Lib.hid hall
        have HOL := Lib.hid hol
        have HIL := Lib.hid hil
        have HWL := Lib.hid hwl
        have HBX := Lib.hid hbx
        have x0 := hbx.cell 0
        have x1 := hbx.cell 1
        have x2 := hbx.cell 2
        have x3 := hbx.cell 3
        have xlt := hbx.lt
        simp at x0 x1 x2 x3
        obtain ⟨Ao, co, rfl, hco, _⟩ := own_slice hor
        have hil2 := (hin.lt g5 rfl).2
        have hwl2 := (hwt.lt g4 rfl).2
        clear hall hol hcn hil hwl hbx
        rcases hf with rfl | ⟨rfl, hend⟩
        · obtain ⟨wp, rfl⟩ : ∃ wp : World, wp = wr := ⟨_, rfl⟩
          go_wp2
          go_loopw [2, 7, 37] (fun o f i wq => ∃ k : Nat, k ≤ S.rels.length ∧ i = .int .i64 k ∧ o = .slice Ao (redTo S.rels j).ord.length co ∧ f = .bool false ∧ (∀ i', i' < k → earAt S.rels (redTo S.rels j).inn i' = false) ∧ Below wp.heap.size wp wq) (fun _ _ i _ => S.rels.length - (intOf i).toNat)
          case atStart => exact ⟨0, Nat.zero_le _, rfl, rfl, rfl, fun i' h => absurd h (by omega), Below.refl _ _⟩
          case round =>
            obtain ⟨k, hk, rfl, rfl, rfl, hno, hbq⟩ := hrel
            have HNO := Lib.hid hno
            clear hno
            have hbw := ext_trans hbel hbq
            by_cases hlt : k < S.rels.length
            · have hin2 := hin.kept (grown_of_ext hbq none) (by simp [Value.ownBlock])
              have hki : k < (redTo S.rels j).inn.length := by rw [HIL.out]; exact hlt
              have hci : wr.cell? ⟨g5, k, none⟩ = some (.bool (redTo S.rels j).inn[k]) := by rw [hin2.cellAt k (by omega), List.getElem?_map, List.getElem?_eq_getElem hki]; rfl
              have x0' : wr.cell? ⟨w.heap.size, 0, none⟩ = some (Value.slice A1 S.attrs.length c1) := by rw [hbq.cell (p := ⟨w.heap.size, 0, none⟩) xlt]; exact x0
              have x1' : wr.cell? ⟨w.heap.size, 1, none⟩ = some (Value.slice A2 S.rels.length c2) := by rw [hbq.cell (p := ⟨w.heap.size, 1, none⟩) xlt]; exact x1
              have x2' : wr.cell? ⟨w.heap.size, 2, none⟩ = some (Value.slice A3 S.feats.length c3) := by rw [hbq.cell (p := ⟨w.heap.size, 2, none⟩) xlt]; exact x2
              have x3' : wr.cell? ⟨w.heap.size, 3, none⟩ = some (Value.int IntKind.i64 S.label) := by rw [hbq.cell (p := ⟨w.heap.size, 3, none⟩) xlt]; exact x3
              have hct := CE.out wr (some ⟨g5, 0, none⟩) S.rels.length (redTo S.rels j).inn (k : Int) _ hbw (Row.of_own hin2)
              rw [HIL.out] at hct
              obtain ⟨hge, hgw⟩ := HEA.out (redTo S.rels j).inn HIL.out k hlt
              have HGW := Lib.hid hgw
              have HST := Lib.hid (fun (h : earAt S.rels (redTo S.rels j).inn k = false) (i' : Nat) (hi' : i' < k + 1) => show earAt S.rels (redTo S.rels j).inn i' = false by
                by_cases e : i' < k
                · exact HNO.out i' e
                · obtain rfl : i' = k := by omega
                  exact h)
              rw [hge] at hct
              have HCT := Lib.hid hct
              clear hct hge hgw
              cases hea : earAt S.rels (redTo S.rels j).inn k
              · rw [hea] at HCT
                have HEAF := Lib.hid hea
                clear hea
                go_wp2_with (
                  go_at_call 26
                  go_must (
                    refine HCT.out.mono ?_
                    rintro e w4 ⟨rfl, hb4⟩
                    clear hci))
                exact ⟨⟨k + 1, by omega, by go_num, rfl, rfl, HST.out HEAF.out, ext_trans hbq hb4⟩, by simp [intOf]; omega⟩
              · rw [hea, HGW.out hea] at HCT
                have hei : earI S.rels (redTo S.rels j).inn = some k := earI_at hlt hea HNO.out
                have hik : (redTo S.rels j).inn[k] = true := by unfold earAt at hea; rw [Bool.and_eq_true] at hea; simpa [List.getD, hki] using hea.1
                rw [hik] at hci
                have HNX := Lib.hid (redTo_next hei)
                have HEI := Lib.hid hei
                clear hei hea hik
                go_wp2_with (first
                  | (go_at_call 26
                     go_must (
                      refine HCT.out.mono ?_
                      rintro e w3 ⟨rfl, hb3⟩
                      have hbp := ext_trans hbq hb3
                      have hin3 := hin.kept (grown_of_ext hbp none) (by simp [Value.ownBlock])
                      have hwt3 := hwt.kept (grown_of_ext hbp none) (by simp [Value.ownBlock])
                      have hor3 := hor.kept (grown_of_ext hbp none) (by cases Ao <;> simp [Value.ownBlock])
                      have hci3 : w3.cell? ⟨g5, k, none⟩ = some (.bool true) := by rw [hb3.cell (p := ⟨g5, k, none⟩) (by show g5 < _; have := hbq.size; omega)]; exact hci
                      have hfi3 := hin3.frozenAt k
                      have hsi := hin3.stored k (.bool false)
                      have hwt4 := hwt3.kept hsi.2 (.inr (by simp [Value.ownBlock]; omega))
                      have hor4 := hor3.kept hsi.2 (own_ne_own hor3 hin3 (by decide))
                      have hkw : k < (redTo S.rels j).wit.length := by rw [HWL.out]; exact hlt
                      have hcw4 : (w3.setCell ⟨g5, k, none⟩ (.bool false)).cell? ⟨g4, k, none⟩ = some (.int .i64 (redTo S.rels j).wit[k]) := by rw [hwt4.cellAt k (by omega), List.getElem?_map, List.getElem?_eq_getElem hkw]; rfl
                      have hfw4 := hwt4.frozenAt k
                      generalize optI (witI S.rels (redTo S.rels j).inn k) = ow at *
                      have hsw := hwt4.stored k (.int .i64 ow)
                      have hin5 := hsi.1.kept hsw.2 (.inr (by simp [Value.ownBlock]; omega))
                      have hor5 := hor4.kept hsw.2 hnb
                      have HB5 := Lib.hid ((((HBX.out.ext hbp).grown hsi.2 (by simp; omega)).grown hsw.2 (by simp; omega)))
                      have hbel5 : Below w.heap.size w ((w3.setCell ⟨g5, k, none⟩ (.bool false)).setCell ⟨g4, k, none⟩ (.int .i64 ow)) := ((ext_trans hbel hbp).setCell (by show w.heap.size ≤ g5; omega) _).setCell (by show w.heap.size ≤ g4; omega) _
                      have hsz5 : wp.heap.size ≤ w3.heap.size := hbp.size
                      clear hci hin3 hwt3 hor3 hor4 hwt4))
                  | (at_builtin
                     go_must (
                      refine wpList_app rfl _ _ 22 rfl (w.heap.size + 1) 3 (.int .i64 0) 1 8 Try.underlying22 Try.infoInt rfl (by decide) (by decide) (.slice Ao (redTo S.rels j).ord.length co) (redTo S.rels j).ord.length 1 (ints (redTo S.rels j).ord) rfl rfl (by simp) hor5 rfl (by simp; rfl) (by rw [HOL.out]; omega) (by simp; omega) ?_
                      intro A6 c6 w6 hown6 hg6 hat6)))
                have hoK : ∀ g, (Value.slice Ao (redTo S.rels j).ord.length co).ownBlock = some g → w.heap.size + 1 ≤ g ∧ g < wp.heap.size := fun g e => hor.lt g e
                have hnb' : some g4 ≠ (Value.slice Ao (redTo S.rels j).ord.length co).ownBlock := own_ne_own' hnb
                refine ⟨⟨j + 1, ?_, ?_, ?_, ?_, ?_, .inl rfl, ?_, ?_⟩, ?_⟩
                · intro q hq
                  by_cases e : q < j
                  · exact HALL.out q e
                  · obtain rfl : q = j := by omega
                    rw [HEI.out]; simp
                · rw [HNX.out]
                  have := hin5.kept hg6 (own_ne_own hin5 hor5 (by decide))
                  simpa [bools, List.map_set] using this
                · rw [HNX.out]
                  have := hsw.1.kept hg6 (.inr hnb')
                  simpa [ints, List.map_set] using this
                · rw [HNX.out]
                  simpa [ints] using hown6
                · rcases hat6 with e | ⟨g, e, hge⟩
                  · rw [e]; exact hnb
                  · rw [e]; right; simp at hge; simp; omega
                · exact HB5.out.grown hg6 (fun e => by have := (hoK _ e.symm).1; omega)
                · exact hbel5.grown hg6 (by have := hbel5.size; exact this) (fun g e => by have := (hoK g e).1; omega)
                · simp [boolOf, sliceLen]; rw [HOL.out]; omega
            · have hend : earI S.rels (redTo S.rels j).inn = none := earI_no fun i' hi' => HNO.out i' (by omega)
              have HEND := Lib.hid hend
              have hd1 : decide (k < S.rels.length) = false := by simp; omega
              clear hend
              go_wp2
              refine ⟨⟨j, HALL.out, hin.kept (grown_of_ext hbq none) (by simp [Value.ownBlock]), hwt.kept (grown_of_ext hbq none) (by simp [Value.ownBlock]), hor.kept (grown_of_ext hbq none) (by cases Ao <;> simp [Value.ownBlock]), hnb, .inr ⟨rfl, HEND.out⟩, HBX.out.ext hbq, hbw⟩, ?_⟩
              simp [boolOf, sliceLen]; rw [HOL.out]; omega
        · have hfin : redS S.rels = redTo S.rels j := redTo_stop S.rels j hend S.rels.length hjn
          have HFIN := Lib.hid hfin
          obtain ⟨wp, rfl⟩ : ∃ wp : World, wp = wr := ⟨_, rfl⟩
          clear hfin hend HALL
          generalize redTo S.rels j = st at *
          obtain ⟨inn, wit, ord⟩ := st
          simp only at hin hwt hor hco
          have hil3 : inn.length = S.rels.length := HIL.out
          have HIL3 := Lib.hid hil3
          clear hil3 HIL HOL HWL
          go_wp2
          go_loopw [3, 62] (fun cv i wq => ∃ k : Nat, k ≤ S.rels.length ∧ i = .int .i64 k ∧ wq.ownsRow wp.heap.size 3 1 cv (coreTo inn k).length (ints (coreTo inn k)) ∧ Below wp.heap.size wp wq) (fun _ i _ => S.rels.length - (intOf i).toNat)
          case atStart => exact ⟨0, Nat.zero_le _, rfl, World.ownsRow_nil _ _ _ _, Below.refl _ _⟩
          case round =>
            obtain ⟨k, hk, rfl, hcv, hbq⟩ := hrel
            have hcl := coreTo_len inn k
            by_cases hlt : k < S.rels.length
            · have hin2 := hin.kept (grown_of_ext hbq none) (by simp [Value.ownBlock])
              have hki : k < inn.length := by rw [HIL3.out]; exact hlt
              have hci : wr.cell? ⟨g5, k, none⟩ = some (.bool inn[k]) := by rw [hin2.cellAt k (by omega), List.getElem?_map, List.getElem?_eq_getElem hki]; rfl
              have hcs := coreTo_succ inn k
              rw [show inn.getD k false = inn[k] by simp [List.getD, hki]] at hcs
              have HCS := Lib.hid hcs
              clear hcs
              cases hik : inn[k]
              · rw [hik] at hci HCS
                go_wp2
                exact ⟨⟨k + 1, by omega, by go_num, by rw [HCS.out]; exact hcv, hbq⟩, by simp [intOf]; omega⟩
              · rw [hik] at hci HCS
                go_wp2_with (
                  at_builtin
                  go_must (
                    refine wpList_app (W := wr) rfl _ _ 22 rfl wp.heap.size 3 (.int .i64 0) 1 8 Try.underlying22 Try.infoInt rfl (by decide) (by decide) u3 (coreTo inn k).length 1 (ints (coreTo inn k)) rfl rfl rfl hcv rfl (by simp; rfl) (by omega) hbq.size ?_
                    intro A6 c6 w6 hown6 hg6 hat6))
                refine ⟨⟨k + 1, by omega, by go_num, ?_, hbq.grown hg6 hbq.size (fun g e => (hcv.lt g e).1)⟩, by simp [intOf]; omega⟩
                rw [HCS.out]; simpa [ints] using hown6
            · obtain rfl : k = S.rels.length := by omega
              obtain ⟨Ac, cc, rfl, _, _⟩ := own_slice hcv
              have hd1 : decide (S.rels.length < S.rels.length) = false := by simp
              go_wp2
              go_ret3
              have hf := HFIN.out
              have hb0 := ext_trans hbel hbq
              have e1 : (redS S.rels).ord = ord := by rw [hf]
              have e2 : (redS S.rels).wit = wit := by rw [hf]
              have e3 : coreS S.rels = coreTo inn S.rels.length := by unfold coreS; rw [hf]
              rw [e1, e2, e3]
              refine ⟨Ao, co, Ac, cc, some ⟨g4, 0, none⟩, S.rels.length, rfl, ?_, ?_, ?_, hb0⟩
              · exact (Row.of_own (hor.kept (grown_of_ext hbq none) (by cases Ao <;> simp [Value.ownBlock]))).mono fun b _ hb => by omega
              · exact (Row.of_own hcv).mono fun b _ hb => by omega
              · exact (Row.of_own (hwt.kept (grown_of_ext hbq none) (by simp [Value.ownBlock]))).mono fun b _ hb => by omega

end Go.Proofs.Ytopblgabadljdaa
