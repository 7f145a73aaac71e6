/-
  The walk of AcyclicProves.
-/
import Derived.Test.YtopblgabadljdaaDec
import Derived.Test.YtopblgabadljdaaRTree
namespace Go.Proofs.Ytopblgabadljdaa
open Go.RowKit

theorem prv_yes {S : Sch} (hc : checkE S = 0) (h1 : (coreS S.rels).length = 1) : treB S = true ∧ chkB S (witS S) = true ∧ ∀ o c, closedB S o c = false := by
  obtain ⟨h2, h3, _, _⟩ := dec_yes hc h1
  refine ⟨h2, h3, fun o c => ?_⟩
  cases h : closedB S o c
  · rfl
  · exact (no_both hc h3 h).elim
theorem prv_no {S : Sch} (hc : checkE S = 0) (h1 : (coreS S.rels).length ≠ 1) : treB S = false ∧ (∀ p, chkB S p = false) ∧ closedB S (ordS S) (corS S) = true := by
  obtain ⟨h2, h3, _⟩ := dec_no hc h1
  refine ⟨h2, fun p => ?_, h3⟩
  cases h : chkB S p
  · rfl
  · exact (no_both hc h h3).elim

set_option maxRecDepth 100000 in
set_option maxHeartbeats 2000000 in
theorem proves_any (A : Option Addr) (c : Nat) (l : List Int) (Aod : Option Addr) (cod : Nat) (od : List Int) (Aco : Option Addr) (cco : Nat) (co0 : List Int) (Apa : Option Addr) (cpa : Nat) (pa : List Int) (w : World) {R R1 R2 R3 : Nat → Prop}
    (h : Row w R A (ints l)) (hl : l.length ≤ 9223372036854775807) (hc : l.length ≤ c) (hod : Row w R1 Aod (ints od)) (hodl : od.length ≤ 9223372036854775807) (hco : Row w R2 Aco (ints co0)) (hcol : co0.length ≤ 9223372036854775807) (hpa : Row w R3 Apa (ints pa)) (hpal : pa.length ≤ 9223372036854775807) :
    Calls Try.prog 5 #[.slice A l.length c, .slice Aod od.length cod, .slice Aco co0.length cco, .slice Apa pa.length cpa] w fun e w' => e = .returned (.bool true) ∧ Below w.heap.size w w' := by
  by_cases hsm : l.length ≤ 300 ∧ od.length ≤ 8 ∧ co0.length ≤ 8 ∧ pa.length ≤ 8
  · obtain ⟨s1, s2, s3, s4⟩ := hsm
    have d1 : decide (300 < (l.length : Int)) = false := by simp; omega
    have d2 : decide (8 < (od.length : Int)) = false := by simp; omega
    have d3 : decide (8 < (co0.length : Int)) = false := by simp; omega
    have d4 : decide (8 < (pa.length : Int)) = false := by simp; omega
    go_enter Try.func5, Try.ntmps5
    go_upto_region 5 with (first
      | (go_at_call 10
         go_must (
          refine (new_any A c l w h (by omega) hc).mono ?_
          rintro e w1 ⟨bs, rfl, hsrc, hbs, hb1⟩))
      | (go_at_call 9
         go_must (
          refine (relations_any bs l w1 hsrc).mono ?_
          rintro e w2 ⟨v, ls, r', rfl, hgood, hsch, hsrc2, hg2⟩
          have hb2 : Below w.heap.size w w2 := hb1.grown hg2 hb1.size (fun g e => by injection e with e; omega)
          have hsch0 := hsch
          have hbl := hsrc2.lt
          obtain ⟨A1, c1, A2, c2, A3, c3, rfl, l1, l2, l3, h1, h2, h3⟩ := hsch
          clear h1 h2 h3 l1 l2 l3 hsrc hg2 hb1)))
    have hn1 : 1 ≤ (schOf ls).rels.length := by rw [rels_len]; exact hgood.1
    have hn5 : (schOf ls).rels.length ≤ 5 := by rw [rels_len]; exact hgood.2.1
    have hsb := good_bd hgood
    have hck := good_check hgood
    generalize hS : schOf ls = S at *
    have hsum := dec_sum hck
    have hwl := wit_len S
    have hbx := Blk.new w2 28 #[Value.slice A1 S.attrs.length c1, Value.slice A2 S.rels.length c2, Value.slice A3 S.feats.length c3, Value.int IntKind.i64 S.label]
    have hb3 : Below w2.heap.size w2 (w2.alloc (.cells #[Value.slice A1 S.attrs.length c1, Value.slice A2 S.rels.length c2, Value.slice A3 S.feats.length c3, Value.int IntKind.i64 S.label] 28)) := (Below.refl _ _).alloc (Nat.le_refl _) _
    have hsz3 : (w2.alloc (.cells #[Value.slice A1 S.attrs.length c1, Value.slice A2 S.rels.length c2, Value.slice A3 S.feats.length c3, Value.int IntKind.i64 S.label] 28)).heap.size = w2.heap.size + 1 := by simp
    generalize (w2.alloc (Obj.cells #[Value.slice A1 S.attrs.length c1, Value.slice A2 S.rels.length c2, Value.slice A3 S.feats.length c3, Value.int IntKind.i64 S.label] 28)) = w3 at *
    have hs3 := (hsch0.mono (R' := fun b => b < w2.heap.size ∧ b ≠ bs) fun b hlt hb => ⟨hlt, hb⟩).ext hb3
    have hsrc3 := hsrc2.keep (grown_of_ext hb3 none) (fun g e => by cases e)
    have hb03 := ext_trans hb2 hb3
    have hws := hb2.size
    have x1 := hbx.cell 1
    simp at x1
    have HBX := Lib.hid hbx
    clear d1 d2 d3 d4 hS hsch0 hbx h hsrc2
    go_wp2_with fail
    clear x1
    go_loopw [12, 13] (fun pv i wr => ∃ (k : Nat) (Ap : Option Addr) (cp : Nat) (ps r : List Int), k ≤ S.rels.length ∧ i = .int .i64 k ∧ pv = .slice Ap k cp ∧ Hid (ps.length = k) ∧ wr.ownsRow w3.heap.size 3 1 (.slice Ap k cp) k (ints ps) ∧ SrcAt wr bs r ∧ w3.grownBy wr (some bs)) (fun _ i _ => S.rels.length - (intOf i).toNat)
    case atStart => exact ⟨0, none, 0, [], r', Nat.zero_le _, rfl, rfl, Lib.hid rfl, World.ownsRow_nil _ _ _ _, hsrc3, World.grownBy.refl _ _⟩
    case round =>
      obtain ⟨k, Ap, cp, ps, r, hk, rfl, rfl, HPL, hown, hsrc, hg⟩ := hrel
      have hgs := hg.size
      by_cases hlt : k < S.rels.length
      · have CR := Lib.hid (range_any bs r (-1) (S.rels.length - 1 : Int) wr hsrc (by omega) (by omega) (by omega))
        go_wp2_with (first
          | (go_at_call 16
             go_must (
              refine CR.out.mono ?_
              rintro e w4 ⟨rfl, hsrc4, hg4⟩
              have hown4 := hown.kept hg4 (.inr fun e => by have := (hown.lt _ e).1; omega)
              have hs4 := hg4.size
              generalize (-1 + nxt r ((S.rels.length : Int) - 1 - -1 + 1)) = nx at *))
          | (at_builtin
             go_must (
              refine wpList_app (W := w4) rfl _ _ 22 rfl w3.heap.size 3 (.int .i64 0) 1 8 Try.underlying22 Try.infoInt rfl (by decide) (by decide) (.slice Ap k cp) k 1 (ints ps) rfl rfl rfl hown4 rfl (by simp; rfl) (by omega) (by omega) ?_
              intro A6 c6 w6 hown6 hg6 hat6)))
        have hne : ∀ g, (Value.slice Ap k cp).ownBlock = some g → w3.heap.size ≤ g := fun g e => (hown.lt g e).1
        refine ⟨⟨k + 1, A6, c6, ps ++ [nx], r.tail, by omega, by go_num, rfl, Lib.hid (by simp [HPL.out]), by simpa [ints] using hown6, hsrc4.keep hg6 (fun g e => by have := hne g e; omega), ?_⟩, by simp [intOf]; omega⟩
        exact grown_trans (grown_trans hg hg4 (fun g e _ => e)) hg6 (fun g e hlt => by have := hne g e; omega)
      · obtain rfl : k = S.rels.length := by omega
        obtain ⟨w4, rfl⟩ : ∃ w4 : World, w4 = wr := ⟨_, rfl⟩
        have hd0 : decide (S.rels.length < S.rels.length) = false := by simp
        have hs4 := hs3.keep hg.size fun b hb hlt => hg.block b hlt (by simp; exact hb.2)
        have hbx4 := HBX.out.grown hg (by simp; omega)
        have hb04 : Below w.heap.size w w4 := hb03.grown hg hb03.size (fun g e => by injection e with e; omega)
        have hrowp := Row.of_own hown
        have hod4 := hod.ext hb04
        have hco4 := hco.ext hb04
        have hpa4 := hpa.ext hb04
        have XS := Lib.hid (fun (W : World) (hW : Below w4.heap.size w4 W) => hbx4.ext hW)
        have x0 := hbx4.cell 0
        have x1 := hbx4.cell 1
        have x2 := hbx4.cell 2
        have x3 := hbx4.cell 3
        simp at x0 x1 x2 x3
        have CRD := Lib.hid (fun (W : World) (hW : Below w4.heap.size w4 W) => reduceR_any _ S W (hs4.ext hW) hsb)
        have CTR := Lib.hid (fun (W : World) (hW : Below w4.heap.size w4 W) => treeR_any _ S W (hs4.ext hW) hsb)
        have cac := fun (W : World) (hW : Below w4.heap.size w4 W) => acyclicR_any _ S W (hs4.ext hW) hsb
        have ck1 := fun (W : World) (hW : Below w4.heap.size w4 W) => chk_any _ S Ap cp ps W (hs4.ext hW) hsb (hrowp.ext hW) (by rw [HPL.out]; omega)
        rw [HPL.out] at ck1
        have ck2 := fun (W : World) (hW : Below w4.heap.size w4 W) => chk_any _ S Apa cpa pa W (hs4.ext hW) hsb (hpa4.ext hW) (by omega)
        have ck3 := fun (W : World) (Aw : Option Addr) (cw : Nat) (R' : Nat → Prop) (hW : Below w4.heap.size w4 W) (hp : Row W R' Aw (ints (witS S))) => chk_any _ S Aw cw (witS S) W (hs4.ext hW) hsb hp (by omega)
        have cc1 := fun (W : World) (hW : Below w4.heap.size w4 W) => closed_any _ S Aod cod od Aco cco co0 W (hs4.ext hW) hsb (hod4.ext hW) (by omega) (hco4.ext hW) (by omega)
        have cc2 := fun (W : World) (Ao : Option Addr) (co : Nat) (Ac : Option Addr) (cc : Nat) (R1 R2 : Nat → Prop) (hW : Below w4.heap.size w4 W) (ho : Row W R1 Ao (ints (ordS S))) (hc : Row W R2 Ac (ints (corS S))) => closed_any _ S Ao co (ordS S) Ac cc (corS S) W (hs4.ext hW) hsb ho (by omega) hc (by omega)
        clear hown hsrc hg hs3 HBX hsrc3 hod hco hpa hod4 hco4 hpa4 hrowp hbx4
        by_cases hone : (coreS S.rels).length = 1
        · obtain ⟨e1, e2, e3⟩ := prv_yes hck hone
          rw [e1] at cac
          simp only [e2] at ck3
          simp only [e3] at cc1 cc2
          clear e1 e2 e3 hone hck
          go_upto_region 13 with (first
            | (go_at_call 17
               go_must (
                refine (CRD.out w4 (Below.refl _ _)).mono ?_
                rintro e w5 ⟨Ao, co, Ac, cc, rfl, hro, hrc, hb5⟩
                have hxa := XS.out w5 hb5
                have x0a := hxa.cell 0
                have x1a := hxa.cell 1
                have x2a := hxa.cell 2
                have x3a := hxa.cell 3
                simp at x0a x1a x2a x3a
                clear hxa x0 x1 x2 x3
                clear CRD))
            | (go_at_call 18
               go_must (
                refine (CTR.out w5 hb5).mono ?_
                rintro e w6 ⟨Aw, cw, rfl, hrw, hb6⟩
                have hb6' := ext_alloc (ext_trans hb5 hb6) (.cells #[Value.slice Aw (witS S).length cw] 46)
                have hbt := Blk.new w6 46 #[Value.slice Aw (witS S).length cw]
                have hrw6 := hrw.alloc (.cells #[Value.slice Aw (witS S).length cw] 46)
                have hro6 := (hro.ext hb6).alloc (.cells #[Value.slice Aw (witS S).length cw] 46)
                have hrc6 := (hrc.ext hb6).alloc (.cells #[Value.slice Aw (witS S).length cw] 46)
                have XB := Lib.hid (XS.out _ hb6')
                have HBT := Lib.hid hbt
                have htl := hbt.lt
                clear CTR hro hrc hrw hb6 hbt x0a x1a x2a x3a)))
          have hb7 : Below w4.heap.size w4 (w6.alloc (.cells #[Value.slice Aw (witS S).length cw] 46)) := hb6'
          generalize (w6.alloc (.cells #[Value.slice Aw (witS S).length cw] 46)) = w7 at *
          have x0 := XB.out.cell 0
          have x1 := XB.out.cell 1
          have x2 := XB.out.cell 2
          have x3 := XB.out.cell 3
          have t0 := HBT.out.cell 0
          simp at x0 x1 x2 x3 t0
          clear XB hd0 hb5 hb6'

          generalize hq1 : chkB S ps = q1 at *
          generalize hq2 : chkB S pa = q2 at *
          clear hq1 hq2
          have CK3 := Lib.hid ck3
          have CC1 := Lib.hid cc1
          have CC2 := Lib.hid cc2
          clear ck3 cc1 cc2
          go_cut [18] (fun tv wx => tv = .bool true ∧ Below w7.heap.size w7 wx)
          case first =>
            cases q1
            · cases q2
              · have CK1 := Lib.hid ck1
                have CK2 := Lib.hid ck2
                clear ck1 ck2
                go_wp2_with (first
                  | (go_at_call 19
                     with_reducible refine (CK1.out w7 hb7).mono ?_
                     rintro e w8 ⟨rfl, hb8⟩
                     have hb8' := ext_trans hb7 hb8
                     have hxb := XS.out w8 hb8'
                     have x0b := hxb.cell 0
                     have x1b := hxb.cell 1
                     have x2b := hxb.cell 2
                     have x3b := hxb.cell 3
                     simp at x0b x1b x2b x3b
                     clear hxb x0 x1 x2 x3)
                  | (go_at_call 19
                     with_reducible refine (CK2.out w8 hb8').mono ?_
                     rintro e w9 ⟨rfl, hb9⟩
                     have hb9' := ext_trans hb8' hb9
                     have hbt9 := HBT.out.ext (ext_trans hb8 hb9)
                     have t0c := hbt9.cell 0
                     simp at t0c
                     clear hbt9 t0
                     have hxc := XS.out w9 hb9'
                     have x0c := hxc.cell 0
                     have x1c := hxc.cell 1
                     have x2c := hxc.cell 2
                     have x3c := hxc.cell 3
                     simp at x0c x1c x2c x3c
                     clear hxc x0b x1b x2b x3b)
                  | (go_at_call 19
                     go_must (
                      with_reducible refine (CK3.out w9 Aw cw _ hb9' ((hrw6.ext hb8).ext hb9)).mono ?_
                      rintro e w10 ⟨rfl, hb10⟩
                      have hb10' := ext_trans hb9' hb10)))
                go_meet
                exact ⟨rfl, ext_trans (ext_trans hb8 hb9) hb10⟩
              · have CK1 := Lib.hid ck1
                have CK2 := Lib.hid ck2
                clear ck1 ck2
                go_wp2_with (first
                  | (go_at_call 19
                     with_reducible refine (CK1.out w7 hb7).mono ?_
                     rintro e w8 ⟨rfl, hb8⟩
                     have hb8' := ext_trans hb7 hb8
                     have hxb := XS.out w8 hb8'
                     have x0b := hxb.cell 0
                     have x1b := hxb.cell 1
                     have x2b := hxb.cell 2
                     have x3b := hxb.cell 3
                     simp at x0b x1b x2b x3b
                     clear hxb x0 x1 x2 x3)
                  | (go_at_call 19
                     with_reducible refine (CK2.out w8 hb8').mono ?_
                     rintro e w9 ⟨rfl, hb9⟩
                     have hb9' := ext_trans hb8' hb9
                     have hbt9 := HBT.out.ext (ext_trans hb8 hb9)
                     have t0c := hbt9.cell 0
                     simp at t0c
                     clear hbt9 t0
                     have hxc := XS.out w9 hb9'
                     have x0c := hxc.cell 0
                     have x1c := hxc.cell 1
                     have x2c := hxc.cell 2
                     have x3c := hxc.cell 3
                     simp at x0c x1c x2c x3c
                     clear hxc x0b x1b x2b x3b))
                go_meet
                exact ⟨rfl, ext_trans hb8 hb9⟩
            · have CK1 := Lib.hid ck1
              clear ck1 ck2
              go_wp2_with (first
                | (go_at_call 19
                   with_reducible refine (CK1.out w7 hb7).mono ?_
                   rintro e w8 ⟨rfl, hb8⟩
                   have hb8' := ext_trans hb7 hb8
                   have hxb := XS.out w8 hb8'
                   have x0b := hxb.cell 0
                   have x1b := hxb.cell 1
                   have x2b := hxb.cell 2
                   have x3b := hxb.cell 3
                   simp at x0b x1b x2b x3b
                   clear hxb x0 x1 x2 x3))
              go_meet
              exact ⟨rfl, hb8⟩
          case rest =>
            obtain ⟨rfl, hb11⟩ := hcut
            have hb11' := ext_trans hb7 hb11
            have hro11 := hro6.ext hb11
            have hrc11 := hrc6.ext hb11
            clear x0 x1 x2 x3 t0 ck1 ck2 CK3 HBT hrw6 hro6 hrc6
            have hxd := XS.out _ hb11'
            have x0d := hxd.cell 0
            have x1d := hxd.cell 1
            have x2d := hxd.cell 2
            have x3d := hxd.cell 3
            simp at x0d x1d x2d x3d
            clear hxd
            go_wp2_with (first
              | (go_at_call 20
                 with_reducible refine (CC1.out wc hb11').mono ?_
                 rintro e w12 ⟨rfl, hb12⟩
                 have hb12' := ext_trans hb11' hb12
                 have hro12 := hro11.ext hb12
                 have hrc12 := hrc11.ext hb12
                 have hxe := XS.out w12 hb12'
                 have x0e := hxe.cell 0
                 have x1e := hxe.cell 1
                 have x2e := hxe.cell 2
                 have x3e := hxe.cell 3
                 simp at x0e x1e x2e x3e
                 clear hxe x0d x1d x2d x3d)
              | (go_at_call 20
                 go_must (
                  with_reducible refine (CC2.out w12 Ao co Ac cc _ _ hb12' hro12 hrc12).mono ?_
                  rintro e w13 ⟨rfl, hb13⟩
                  have hb13' := ext_trans hb12' hb13))
              | (go_at_call 8
                 go_must (
                  refine (sane_any _).mono ?_
                  rintro e w14 ⟨rfl, hb14⟩)))
            go_ret
            exact ⟨rfl, ext_trans (ext_trans hb04 hb13') hb14⟩
        · obtain ⟨e1, e2, e3⟩ := prv_no hck hone
          rw [e1] at cac
          simp only [e2] at ck1 ck2 ck3
          simp only [e3] at cc2
          clear e1 e2 e3 hone hck
          go_upto_region 13 with (first
            | (go_at_call 17
               go_must (
                refine (CRD.out w4 (Below.refl _ _)).mono ?_
                rintro e w5 ⟨Ao, co, Ac, cc, rfl, hro, hrc, hb5⟩
                have hxa := XS.out w5 hb5
                have x0a := hxa.cell 0
                have x1a := hxa.cell 1
                have x2a := hxa.cell 2
                have x3a := hxa.cell 3
                simp at x0a x1a x2a x3a
                clear hxa x0 x1 x2 x3
                clear CRD))
            | (go_at_call 18
               go_must (
                refine (CTR.out w5 hb5).mono ?_
                rintro e w6 ⟨Aw, cw, rfl, hrw, hb6⟩
                have hb6' := ext_alloc (ext_trans hb5 hb6) (.cells #[Value.slice Aw (witS S).length cw] 46)
                have hbt := Blk.new w6 46 #[Value.slice Aw (witS S).length cw]
                have hrw6 := hrw.alloc (.cells #[Value.slice Aw (witS S).length cw] 46)
                have hro6 := (hro.ext hb6).alloc (.cells #[Value.slice Aw (witS S).length cw] 46)
                have hrc6 := (hrc.ext hb6).alloc (.cells #[Value.slice Aw (witS S).length cw] 46)
                have XB := Lib.hid (XS.out _ hb6')
                have HBT := Lib.hid hbt
                have htl := hbt.lt
                clear CTR hro hrc hrw hb6 hbt x0a x1a x2a x3a)))
          have hb7 : Below w4.heap.size w4 (w6.alloc (.cells #[Value.slice Aw (witS S).length cw] 46)) := hb6'
          generalize (w6.alloc (.cells #[Value.slice Aw (witS S).length cw] 46)) = w7 at *
          have x0 := XB.out.cell 0
          have x1 := XB.out.cell 1
          have x2 := XB.out.cell 2
          have x3 := XB.out.cell 3
          have t0 := HBT.out.cell 0
          simp at x0 x1 x2 x3 t0
          clear XB hd0 hb5 hb6'

          generalize hq1 : closedB S od co0 = q1 at *
          clear hq1
          have CK1 := Lib.hid ck1
          have CK2 := Lib.hid ck2
          have CK3 := Lib.hid ck3
          have CC2 := Lib.hid cc2
          have CAC := Lib.hid cac
          clear ck1 ck2 ck3 cc2 cac
          go_cut [18] (fun tv wx => tv = .bool false ∧ Below w7.heap.size w7 wx)
          case first =>
            go_wp2_with (first
              | (go_at_call 19
                 with_reducible refine (CK1.out w7 hb7).mono ?_
                 rintro e w8 ⟨rfl, hb8⟩
                 have hb8' := ext_trans hb7 hb8
                 have hxb := XS.out w8 hb8'
                 have x0b := hxb.cell 0
                 have x1b := hxb.cell 1
                 have x2b := hxb.cell 2
                 have x3b := hxb.cell 3
                 simp at x0b x1b x2b x3b
                 clear hxb x0 x1 x2 x3)
              | (go_at_call 19
                 with_reducible refine (CK2.out w8 hb8').mono ?_
                 rintro e w9 ⟨rfl, hb9⟩
                 have hb9' := ext_trans hb8' hb9
                 have hbt9 := HBT.out.ext (ext_trans hb8 hb9)
                 have t0c := hbt9.cell 0
                 simp at t0c
                 clear hbt9 t0
                 have hxc := XS.out w9 hb9'
                 have x0c := hxc.cell 0
                 have x1c := hxc.cell 1
                 have x2c := hxc.cell 2
                 have x3c := hxc.cell 3
                 simp at x0c x1c x2c x3c
                 clear hxc x0b x1b x2b x3b)
              | (go_at_call 19
                 go_must (
                  with_reducible refine (CK3.out w9 Aw cw _ hb9' ((hrw6.ext hb8).ext hb9)).mono ?_
                  rintro e w10 ⟨rfl, hb10⟩
                  have hb10' := ext_trans hb9' hb10)))
            go_meet
            exact ⟨rfl, ext_trans (ext_trans hb8 hb9) hb10⟩
          case rest =>
            obtain ⟨rfl, hb11⟩ := hcut
            have hb11' := ext_trans hb7 hb11
            have hro11 := hro6.ext hb11
            have hrc11 := hrc6.ext hb11
            clear x0 x1 x2 x3 t0 CK1 CK2 CK3 HBT hrw6 hro6 hrc6
            have hxd := XS.out _ hb11'
            have x0d := hxd.cell 0
            have x1d := hxd.cell 1
            have x2d := hxd.cell 2
            have x3d := hxd.cell 3
            simp at x0d x1d x2d x3d
            clear hxd
            cases q1
            · have CC1 := Lib.hid cc1
              clear cc1
              go_wp2_with (first
                | (go_at_call 20
                   with_reducible refine (CC1.out wc hb11').mono ?_
                   rintro e w12 ⟨rfl, hb12⟩
                   have hb12' := ext_trans hb11' hb12
                   have hro12 := hro11.ext hb12
                   have hrc12 := hrc11.ext hb12
                   have hxe := XS.out w12 hb12'
                   have x0e := hxe.cell 0
                   have x1e := hxe.cell 1
                   have x2e := hxe.cell 2
                   have x3e := hxe.cell 3
                   simp at x0e x1e x2e x3e
                   clear hxe x0d x1d x2d x3d)
                | (go_at_call 20
                   go_must (
                    with_reducible refine (CC2.out w12 Ao co Ac cc _ _ hb12' hro12 hrc12).mono ?_
                    rintro e w13 ⟨rfl, hb13⟩
                    have hb13' := ext_trans hb12' hb13
                    have hxf := XS.out w13 hb13'
                    have x0f := hxf.cell 0
                    have x1f := hxf.cell 1
                    have x2f := hxf.cell 2
                    have x3f := hxf.cell 3
                    simp at x0f x1f x2f x3f
                    clear hxf x0e x1e x2e x3e))
                | (go_at_call 21
                   go_must (
                    refine (CAC.out _ hb13').mono ?_
                    rintro e w15 ⟨rfl, hb15⟩))
                | (go_at_call 8
                   go_must (
                    refine (sane_any _).mono ?_
                    rintro e w14 ⟨rfl, hb14⟩)))
              go_ret
              exact ⟨rfl, ext_trans (ext_trans (ext_trans hb04 hb13') hb15) hb14⟩
            · have CC1 := Lib.hid cc1
              clear cc1
              go_wp2_with (first
                | (go_at_call 20
                   with_reducible refine (CC1.out wc hb11').mono ?_
                   rintro e w12 ⟨rfl, hb12⟩
                   have hb12' := ext_trans hb11' hb12
                   have hxe := XS.out w12 hb12'
                   have x0e := hxe.cell 0
                   have x1e := hxe.cell 1
                   have x2e := hxe.cell 2
                   have x3e := hxe.cell 3
                   simp at x0e x1e x2e x3e
                   clear hxe x0d x1d x2d x3d)
                | (go_at_call 21
                   go_must (
                    refine (CAC.out _ hb12').mono ?_
                    rintro e w15 ⟨rfl, hb15⟩))
                | (go_at_call 8
                   go_must (
                    refine (sane_any _).mono ?_
                    rintro e w14 ⟨rfl, hb14⟩)))
              go_ret
              exact ⟨rfl, ext_trans (ext_trans (ext_trans hb04 hb12') hb15) hb14⟩
  · have hcase : 300 < l.length ∨ (decide (300 < (l.length : Int)) = false ∧ 8 < od.length) ∨ (decide (300 < (l.length : Int)) = false ∧ decide (8 < (od.length : Int)) = false ∧ 8 < co0.length) ∨ (decide (300 < (l.length : Int)) = false ∧ decide (8 < (od.length : Int)) = false ∧ decide (8 < (co0.length : Int)) = false ∧ 8 < pa.length) := by
      simp only [decide_eq_false_iff_not]
      omega
    clear hsm h hod hco hpa
    rcases hcase with q1 | ⟨q1, q2⟩ | ⟨q1, q2, q3⟩ | ⟨q1, q2, q3, q4⟩
    all_goals
      go_enter Try.func5, Try.ntmps5
      go_wp2_with (
        go_at_call 8
        go_must (
          refine (sane_any _).mono ?_
          rintro e w1 ⟨rfl, hb1⟩))
      go_ret
      exact ⟨rfl, hb1⟩

end Go.Proofs.Ytopblgabadljdaa
