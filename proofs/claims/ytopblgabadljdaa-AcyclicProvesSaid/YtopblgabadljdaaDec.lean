/-
  The walk of AcyclicDecides.
-/
import Derived.Test.YtopblgabadljdaaDecP
namespace Go.Proofs.Ytopblgabadljdaa
open Go.RowKit

/-- What AcyclicDecides asks of a schema, where there is a tree. -/
theorem dec_yes {S : Sch} (hc : checkE S = 0) (h1 : (coreS S.rels).length = 1) : treB S = true ∧ chkB S (witS S) = true ∧ closedB S (ordS S) (corS S) = false ∧ (corS S).length = 1 := by
  have e1 : corS S = coreS S.rels := by unfold corS; rw [if_pos hc]
  have e2 : witS S = (redS S.rels).wit := by unfold witS; rw [if_pos ⟨hc, by omega⟩]
  refine ⟨by unfold treB; simp [hc, h1], by rw [e2]; exact wit_tree hc h1, closed_small (by rw [e1]; omega), by rw [e1]; exact h1⟩
theorem dec_no {S : Sch} (hc : checkE S = 0) (h1 : (coreS S.rels).length ≠ 1) : treB S = false ∧ closedB S (ordS S) (corS S) = true ∧ (corS S).length ≠ 1 := by
  have e1 : corS S = coreS S.rels := by unfold corS; rw [if_pos hc]
  have e2 : ordS S = (redS S.rels).ord := by unfold ordS; rw [if_pos hc]
  have hp := core_pos (check_relOk hc) (check_zero hc).2.2.1
  refine ⟨by unfold treB; simp [hc]; omega, by rw [e1, e2]; exact closed_red hc (by omega), by rw [e1]; exact h1⟩
theorem dec_sum {S : Sch} (hc : checkE S = 0) : (ordS S).length + (corS S).length = S.rels.length := by
  unfold ordS corS
  rw [if_pos hc, if_pos hc]
  exact ord_core S.rels
theorem wit_len (S : Sch) : (witS S).length ≤ S.rels.length := by
  unfold witS
  split
  · rw [show (redS S.rels).wit.length = S.rels.length from (redTo_len S.rels S.rels.length).2]; exact Nat.le_refl _
  · simp

set_option maxRecDepth 100000 in
set_option maxHeartbeats 1000000 in
theorem decides_any (A : Option Addr) (c : Nat) (l : List Int) (w : World) {R : Nat → Prop} (h : Row w R A (ints l)) (hl : l.length ≤ 9223372036854775807) (hc : l.length ≤ c) :
    Calls Try.prog 7 #[.slice A l.length c] w fun e w' => e = .returned (.bool true) ∧ Below w.heap.size w w' := by
  by_cases hbig : 300 < l.length
  · go_enter Try.func7, Try.ntmps7
    go_wp2_with (
      go_at_call 8
      go_must (
        refine (sane_any _).mono ?_
        rintro e w1 ⟨rfl, hb1⟩))
    go_ret
    exact ⟨rfl, hb1⟩
  · have hd1 : decide (300 < (l.length : Int)) = false := by simp; omega
    go_enter Try.func7, Try.ntmps7
    go_upto_region 4 with (first
      | (go_at_call 10
         go_must (
          refine (new_any A c l w h (by omega) hc).mono ?_
          rintro e w1 ⟨bs, rfl, hsrc, hbs, hb1⟩))
      | (go_at_call 9
         go_must (
          refine (relations_any bs l w1 hsrc).mono ?_
          rintro e w2 ⟨v, ls, r', rfl, hgood, hsch, hsrc2, hg2⟩
          have hb2 : Below w.heap.size w w2 := hb1.grown hg2 hb1.size (fun g e => by injection e with e; omega)
          have hsch0 := hsch
          obtain ⟨A1, c1, A2, c2, A3, c3, rfl, l1, l2, l3, h1, h2, h3⟩ := hsch
          clear h1 h2 h3 l1 l2 l3 hsrc hg2 hb1 hsrc2)))
    have hn1 : 1 ≤ (schOf ls).rels.length := by rw [rels_len]; exact hgood.1
    have hn5 : (schOf ls).rels.length ≤ 5 := by rw [rels_len]; exact hgood.2.1
    have hsb := good_bd hgood
    have hck := good_check hgood
    generalize hS : schOf ls = S at *
    have hsum := dec_sum hck
    have hwl := wit_len S
    have hbx := Blk.new w2 28 #[Value.slice A1 S.attrs.length c1, Value.slice A2 S.rels.length c2, Value.slice A3 S.feats.length c3, Value.int IntKind.i64 S.label]
    have hb3 : Below w2.heap.size w2 (w2.alloc (.cells #[Value.slice A1 S.attrs.length c1, Value.slice A2 S.rels.length c2, Value.slice A3 S.feats.length c3, Value.int IntKind.i64 S.label] 28)) := (Below.refl _ _).alloc (Nat.le_refl _) _
    generalize (w2.alloc (Obj.cells #[Value.slice A1 S.attrs.length c1, Value.slice A2 S.rels.length c2, Value.slice A3 S.feats.length c3, Value.int IntKind.i64 S.label] 28)) = w3 at *
    have hs3 := hsch0.ext hb3
    have hb03 := ext_trans hb2 hb3
    have hsb2 : (((ordS S).length : Int) + ((corS S).length : Int) != (S.rels.length : Int)) = false := by simp; omega
    have XS := Lib.hid (fun (W : World) (hW : Below w3.heap.size w3 W) => hbx.ext hW)
    have x0 := hbx.cell 0
    have x1 := hbx.cell 1
    have x2 := hbx.cell 2
    have x3 := hbx.cell 3
    simp at x0 x1 x2 x3
    have CT := Lib.hid (fun (W : World) (hW : Below w3.heap.size w3 W) => tree_any _ S W (hs3.ext hW) hsb)
    have CR := Lib.hid (fun (W : World) (hW : Below w3.heap.size w3 W) => reduceE_any _ S W (hs3.ext hW) hsb)
    have CA := Lib.hid (fun (W : World) (hW : Below w3.heap.size w3 W) => acyclic_any _ S W (hs3.ext hW) hsb)
    have hs3' := hs3
    clear hd1 hS hsch0 hs3 hbx h
    by_cases hone : (coreS S.rels).length = 1
    · obtain ⟨e1, e2, e3, e4⟩ := dec_yes hck hone
      have hcb : (((corS S).length : Int) == 1) = true := by rw [e4]; rfl
      rw [e1] at CT CA
      have CK := Lib.hid (fun (W : World) (Ap : Option Addr) (cp : Nat) (R' : Nat → Prop) (hW : Below w3.heap.size w3 W) (hp : Row W R' Ap (ints (witS S))) => e2 ▸ chk_any _ S Ap cp (witS S) W (hs3'.ext hW) hsb hp (by omega))
      have CC := Lib.hid (fun (W : World) (Ao : Option Addr) (co : Nat) (Ac : Option Addr) (cc : Nat) (R1 R2 : Nat → Prop) (hW : Below w3.heap.size w3 W) (ho : Row W R1 Ao (ints (ordS S))) (hc : Row W R2 Ac (ints (corS S))) => e3 ▸ closed_any _ S Ao co (ordS S) Ac cc (corS S) W (hs3'.ext hW) hsb ho (by omega) hc (by omega))
      clear e1 e2 e3 e4 hone hck hs3'
      go_wp2_with (first
        | (go_at_call 27
           go_must (
            refine (CT.out w3 (Below.refl _ _)).mono ?_
            rintro e w4 ⟨Aw, cw, rfl, hroww, hb4⟩
            have hb4' := ext_alloc hb4 (.cells #[Value.slice Aw (witS S).length cw] 46)
            have hx4 := XS.out _ hb4'
            have t0 := (Blk.new w4 46 #[Value.slice Aw (witS S).length cw])
            have hrow4 := hroww.alloc (.cells #[Value.slice Aw (witS S).length cw] 46)
            have x0' := hx4.cell 0
            have x1' := hx4.cell 1
            have x2' := hx4.cell 2
            have x3' := hx4.cell 3
            simp at x0' x1' x2' x3'
            have HT0 := Lib.hid t0
            clear t0 hx4 x0 x1 x2 x3 hroww CT))
        | (go_at_call 11
           go_must (
            refine (CR.out _ hb4').mono ?_
            rintro e w5 ⟨Ao, co, Ac, cc, rfl, hro, hrc, hb5⟩
            have hb5' := ext_trans hb4' hb5
            have hx5 := XS.out _ hb5'
            have HT5 := Lib.hid (HT0.out.ext hb5)
            have hrow5 := hrow4.ext hb5
            have x0 := hx5.cell 0
            have x1 := hx5.cell 1
            have x2 := hx5.cell 2
            have x3 := hx5.cell 3
            simp at x0 x1 x2 x3
            clear hx5 x0' x1' x2' x3' HT0 hrow4 CR))
        | (go_at_call 15
           go_must (
            refine (CA.out _ hb5').mono ?_
            rintro e w6 ⟨rfl, hb6⟩
            have hb6' := ext_trans hb5' hb6
            have hx6 := XS.out _ hb6'
            have HT6 := Lib.hid (HT5.out.ext hb6)
            have hrow6 := hrow5.ext hb6
            have hro6 := hro.ext hb6
            have hrc6 := hrc.ext hb6
            have x0' := hx6.cell 0
            have x1' := hx6.cell 1
            have x2' := hx6.cell 2
            have x3' := hx6.cell 3
            have t0 := HT6.out.cell 0
            simp at x0' x1' x2' x3' t0
            clear hx6 x0 x1 x2 x3 HT5 hrow5 CA hro hrc))
        | (go_at_call 19
           go_must (
            refine (CK.out _ Aw cw _ hb6' hrow6).mono ?_
            rintro e w7 ⟨rfl, hb7⟩
            have hb7' := ext_trans hb6' hb7
            have hx7 := XS.out _ hb7'
            have hro7 := hro6.ext hb7
            have hrc7 := hrc6.ext hb7
            have x0 := hx7.cell 0
            have x1 := hx7.cell 1
            have x2 := hx7.cell 2
            have x3 := hx7.cell 3
            simp at x0 x1 x2 x3
            clear hx7 x0' x1' x2' x3' t0 CK HT6 hrow6 hro6 hrc6))
        | (go_at_call 20
           go_must (
            refine (CC.out _ Ao co Ac cc _ _ hb7' hro7 hrc7).mono ?_
            rintro e w8 ⟨rfl, hb8⟩
            clear CC x0 x1 x2 x3))
        | (go_at_call 8
           go_must (
            refine (sane_any _).mono ?_
            rintro e w9 ⟨rfl, hb9⟩)))
      go_ret
      exact ⟨rfl, ext_trans (ext_trans (ext_trans hb03 hb7') hb8) hb9⟩
    · obtain ⟨e1, e3, e4⟩ := dec_no hck hone
      have hcb : (((corS S).length : Int) == 1) = false := by simp; omega
      rw [e1] at CT CA
      have CC := Lib.hid (fun (W : World) (Ao : Option Addr) (co : Nat) (Ac : Option Addr) (cc : Nat) (R1 R2 : Nat → Prop) (hW : Below w3.heap.size w3 W) (ho : Row W R1 Ao (ints (ordS S))) (hc : Row W R2 Ac (ints (corS S))) => e3 ▸ closed_any _ S Ao co (ordS S) Ac cc (corS S) W (hs3'.ext hW) hsb ho (by omega) hc (by omega))
      clear e1 e3 e4 hone hck hs3'
      go_wp2_with (first
        | (go_at_call 27
           go_must (
            refine (CT.out w3 (Below.refl _ _)).mono ?_
            rintro e w4 ⟨Aw, cw, rfl, hroww, hb4⟩
            have hb4' := ext_alloc hb4 (.cells #[Value.slice Aw (witS S).length cw] 46)
            have hx4 := XS.out _ hb4'
            have x0' := hx4.cell 0
            have x1' := hx4.cell 1
            have x2' := hx4.cell 2
            have x3' := hx4.cell 3
            simp at x0' x1' x2' x3'
            clear hx4 x0 x1 x2 x3 hroww CT))
        | (go_at_call 11
           go_must (
            refine (CR.out _ hb4').mono ?_
            rintro e w5 ⟨Ao, co, Ac, cc, rfl, hro, hrc, hb5⟩
            have hb5' := ext_trans hb4' hb5
            have hx5 := XS.out _ hb5'
            have x0 := hx5.cell 0
            have x1 := hx5.cell 1
            have x2 := hx5.cell 2
            have x3 := hx5.cell 3
            simp at x0 x1 x2 x3
            clear hx5 x0' x1' x2' x3' CR))
        | (go_at_call 15
           go_must (
            refine (CA.out _ hb5').mono ?_
            rintro e w6 ⟨rfl, hb6⟩
            have hb6' := ext_trans hb5' hb6
            have hx6 := XS.out _ hb6'
            have hro6 := hro.ext hb6
            have hrc6 := hrc.ext hb6
            have x0' := hx6.cell 0
            have x1' := hx6.cell 1
            have x2' := hx6.cell 2
            have x3' := hx6.cell 3
            simp at x0' x1' x2' x3'
            clear hx6 x0 x1 x2 x3 CA hro hrc))
        | (go_at_call 20
           go_must (
            refine (CC.out _ Ao co Ac cc _ _ hb6' hro6 hrc6).mono ?_
            rintro e w8 ⟨rfl, hb8⟩
            clear CC x0' x1' x2' x3'))
        | (go_at_call 8
           go_must (
            refine (sane_any _).mono ?_
            rintro e w9 ⟨rfl, hb9⟩)))
      go_ret
      exact ⟨rfl, ext_trans (ext_trans (ext_trans hb03 hb6') hb8) hb9⟩

end Go.Proofs.Ytopblgabadljdaa
