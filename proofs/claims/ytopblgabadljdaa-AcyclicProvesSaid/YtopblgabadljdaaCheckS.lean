/-
  The walk of schema.Check: it answers checkE.
-/
import Derived.Test.YtopblgabadljdaaCheckF
namespace Go.Proofs.Ytopblgabadljdaa
open Go.RowKit

theorem beq0t {n : Nat} (h : n < 1) : ((n : Int) == 0) = true := by simp; omega
theorem beq0f {n : Nat} (h : 1 ≤ n) : ((n : Int) == 0) = false := by simp; omega

set_option maxRecDepth 100000 in
set_option maxHeartbeats 1000000 in
theorem check_any (v : Value) (S : Sch) (w : World) {R : Nat → Prop} (h : SchAt w R v S) (hb : SBd S) :
    Calls Try.prog 33 #[v] w fun e w' => e = .returned (.int .i64 (checkE S)) ∧ Below w.heap.size w w' := by
  have h0 := h
  obtain ⟨A1, c1, A2, c2, A3, c3, rfl, l1, l2, l3, h1, h2, h3⟩ := h
  have hba := hb.a
  have hbr := hb.r
  have hbf := hb.f
  clear h2 h3
  by_cases hlim : S.attrs.length = 0 ∨ 12 < S.attrs.length ∨ S.rels.length = 0 ∨ 6 < S.rels.length ∨ 8 < S.feats.length
  · have hE : checkE S = 3 := by unfold checkE; rw [if_pos hlim]
    have HE := Lib.hid hE
    clear hE
    have hcase : (S.attrs.length < 1) ∨ (12 < S.attrs.length) ∨ (1 ≤ S.attrs.length ∧ S.attrs.length ≤ 12 ∧ S.rels.length < 1) ∨ (1 ≤ S.attrs.length ∧ S.attrs.length ≤ 12 ∧ 6 < S.rels.length) ∨ (1 ≤ S.attrs.length ∧ S.attrs.length ≤ 12 ∧ 1 ≤ S.rels.length ∧ S.rels.length ≤ 6 ∧ 8 < S.feats.length) := by omega
    clear hlim
    rcases hcase with hc | hc | ⟨hc1, hc2, hc⟩ | ⟨hc1, hc2, hc⟩ | ⟨hc1, hc2, hc3, hc4, hc⟩
    · have b1 : ((S.attrs.length : Int) == 0) = true := beq0t (by omega)
      go_enter Try.func33, Try.ntmps33
      go_wp2_with fail
      go_ret
      exact ⟨ret_int HE.out.symm, (Below.refl _ _).alloc (Nat.le_refl _) _⟩
    · have b1 : ((S.attrs.length : Int) == 0) = false := beq0f (by omega)
      go_enter Try.func33, Try.ntmps33
      go_wp2_with fail
      go_ret
      exact ⟨ret_int HE.out.symm, (Below.refl _ _).alloc (Nat.le_refl _) _⟩
    · have b1 : ((S.attrs.length : Int) == 0) = false := beq0f (by omega)
      have b2 : ((S.rels.length : Int) == 0) = true := beq0t (by omega)
      go_enter Try.func33, Try.ntmps33
      go_wp2_with fail
      go_ret
      exact ⟨ret_int HE.out.symm, (Below.refl _ _).alloc (Nat.le_refl _) _⟩
    · have b1 : ((S.attrs.length : Int) == 0) = false := beq0f (by omega)
      have b2 : ((S.rels.length : Int) == 0) = false := beq0f (by omega)
      go_enter Try.func33, Try.ntmps33
      go_wp2_with fail
      go_ret
      exact ⟨ret_int HE.out.symm, (Below.refl _ _).alloc (Nat.le_refl _) _⟩
    · have b1 : ((S.attrs.length : Int) == 0) = false := beq0f (by omega)
      have b2 : ((S.rels.length : Int) == 0) = false := beq0f (by omega)
      go_enter Try.func33, Try.ntmps33
      go_wp2_with fail
      go_ret
      exact ⟨ret_int HE.out.symm, (Below.refl _ _).alloc (Nat.le_refl _) _⟩
  · have hcase : 1 ≤ S.attrs.length ∧ S.attrs.length ≤ 12 ∧ 1 ≤ S.rels.length ∧ S.rels.length ≤ 6 ∧ S.feats.length ≤ 8 := by omega
    obtain ⟨d1, d2, d3, d4, d5⟩ := hcase
    have b1 : ((S.attrs.length : Int) == 0) = false := beq0f (by omega)
    have b2 : ((S.rels.length : Int) == 0) = false := beq0f (by omega)
    have hE : checkE S = if scanE (attrE S) S.attrs.length ≠ 0 then scanE (attrE S) S.attrs.length else if relsE S ≠ 0 then relsE S else if scanE (featE S) S.feats.length ≠ 0 then scanE (featE S) S.feats.length
        else if S.label < -1 ∨ (S.attrs.length : Int) ≤ S.label then 2 else if 0 ≤ S.label ∧ (S.attrs.getD S.label.toNat default).2 ≠ 2 then 7 else 0 := by unfold checkE; rw [if_neg hlim]
    have ctA := fun (W : World) (hW : Below w.heap.size w W) => attributes_any _ S W (h0.ext hW) hb
    have ctR := fun (W : World) (hW : Below w.heap.size w W) => srelations_any _ S W (h0.ext hW) hb
    have ctF := fun (W : World) (hW : Below w.heap.size w W) => features_any _ S W (h0.ext hW) hb
    generalize scanE (attrE S) S.attrs.length = EA at *
    generalize relsE S = ER at *
    generalize scanE (featE S) S.feats.length = EF at *
    have HE := Lib.hid hE
    have CA := Lib.hid ctA
    have CR := Lib.hid ctR
    have CF := Lib.hid ctF
    clear hE ctA ctR ctF hlim h0
    have b3 : decide (12 < (S.attrs.length : Int)) = false := by simp; omega
    have b4 : decide (6 < (S.rels.length : Int)) = false := by simp; omega
    have b5 : decide (8 < (S.feats.length : Int)) = false := by simp; omega
    go_enter Try.func33, Try.ntmps33
    go_wp2
    clear b1 b2 b3 b4 b5
    go_loopw [36] (fun i wr => (i = .int .i64 0 ∨ (i = .int .i64 1 ∧ EA = 0) ∨ (i = .int .i64 2 ∧ EA = 0 ∧ ER = 0) ∨ (i = .int .i64 3 ∧ EA = 0 ∧ ER = 0 ∧ EF = 0)) ∧
      Blk wr w.heap.size 28 #[Value.slice A1 S.attrs.length c1, Value.slice A2 S.rels.length c2, Value.slice A3 S.feats.length c3, Value.int IntKind.i64 S.label] ∧
      Blk wr (w.heap.size + 1) 68 #[Value.func (Fn.func 50) #[] #[], Value.func (Fn.func 51) #[] #[], Value.func (Fn.func 52) #[] #[]] ∧ Below w.heap.size w wr) (fun i _ => 3 - (intOf i).toNat)
    case atStart =>
      refine ⟨.inl rfl, (Blk.new _ _ _).alloc _, ?_, ((Below.refl _ _).alloc (Nat.le_refl _) _).alloc (by simp) _⟩
      have := Blk.new (w.alloc (Obj.cells #[Value.slice A1 S.attrs.length c1, Value.slice A2 S.rels.length c2, Value.slice A3 S.feats.length c3, Value.int IntKind.i64 S.label] 28)) 68 #[Value.func (Fn.func 50) #[] #[], Value.func (Fn.func 51) #[] #[], Value.func (Fn.func 52) #[] #[]]
      simpa using this
    case round =>
     obtain ⟨hi, hbx, htb, hbel⟩ := hrel
     have HBX := Lib.hid hbx
     have HTB := Lib.hid htb
     have x0 := hbx.cell 0
     have x1 := hbx.cell 1
     have x2 := hbx.cell 2
     have x3 := hbx.cell 3
     simp at x0 x1 x2 x3
     clear hbx
     rcases hi with rfl | ⟨rfl, hp1⟩ | ⟨rfl, hp1, hp2⟩ | ⟨rfl, hp1, hp2, hp3⟩
     · skip
       have t := htb.cell 0
       simp at t
       cases hz : (EA != 0)
       · have hz0 : EA = 0 := by simpa using hz
         have HZ := Lib.hid hz0
         clear hz0
         go_wp2_with (
           go_at_call 50
           go_must (
             refine (CA.out wr hbel).mono ?_
             rintro e w1 ⟨rfl, hb1⟩))
         exact ⟨⟨.inr (.inl ⟨by go_num, HZ.out⟩), HBX.out.ext hb1, HTB.out.ext hb1, ext_trans hbel hb1⟩, by simp [intOf]⟩
       · have hz0 : EA ≠ 0 := by simpa using hz
         have HZ := Lib.hid hz0
         clear hz0
         go_wp2_with (
           go_at_call 50
           go_must (
             refine (CA.out wr hbel).mono ?_
             rintro e w1 ⟨rfl, hb1⟩))
         go_ret
         exact ⟨ret_int (by rw [HE.out]; rw [if_pos HZ.out]), ext_trans hbel hb1⟩
     · skip
       have HP1 := Lib.hid hp1
       clear hp1
       have t := htb.cell 1
       simp at t
       cases hz : (ER != 0)
       · have hz0 : ER = 0 := by simpa using hz
         have HZ := Lib.hid hz0
         clear hz0
         go_wp2_with (
           go_at_call 51
           go_must (
             refine (CR.out wr hbel).mono ?_
             rintro e w1 ⟨rfl, hb1⟩))
         exact ⟨⟨.inr (.inr (.inl ⟨by go_num, HP1.out, HZ.out⟩)), HBX.out.ext hb1, HTB.out.ext hb1, ext_trans hbel hb1⟩, by simp [intOf]⟩
       · have hz0 : ER ≠ 0 := by simpa using hz
         have HZ := Lib.hid hz0
         clear hz0
         go_wp2_with (
           go_at_call 51
           go_must (
             refine (CR.out wr hbel).mono ?_
             rintro e w1 ⟨rfl, hb1⟩))
         go_ret
         exact ⟨ret_int (by rw [HE.out]; rw [if_neg (by simp [HP1.out])]; rw [if_pos HZ.out]), ext_trans hbel hb1⟩
     · skip
       have HP1 := Lib.hid hp1
       clear hp1
       have HP2 := Lib.hid hp2
       clear hp2
       have t := htb.cell 2
       simp at t
       cases hz : (EF != 0)
       · have hz0 : EF = 0 := by simpa using hz
         have HZ := Lib.hid hz0
         clear hz0
         go_wp2_with (
           go_at_call 52
           go_must (
             refine (CF.out wr hbel).mono ?_
             rintro e w1 ⟨rfl, hb1⟩))
         exact ⟨⟨.inr (.inr (.inr ⟨by go_num, HP1.out, HP2.out, HZ.out⟩)), HBX.out.ext hb1, HTB.out.ext hb1, ext_trans hbel hb1⟩, by simp [intOf]⟩
       · have hz0 : EF ≠ 0 := by simpa using hz
         have HZ := Lib.hid hz0
         clear hz0
         go_wp2_with (
           go_at_call 52
           go_must (
             refine (CF.out wr hbel).mono ?_
             rintro e w1 ⟨rfl, hb1⟩))
         go_ret
         exact ⟨ret_int (by rw [HE.out]; rw [if_neg (by simp [HP1.out]), if_neg (by simp [HP2.out])]; rw [if_pos HZ.out]), ext_trans hbel hb1⟩
     · have HP1 := Lib.hid hp1
       have HP2 := Lib.hid hp2
       have HP3 := Lib.hid hp3
       have hE2 := HE.out
       rw [if_neg (by simp [hp1]), if_neg (by simp [hp2]), if_neg (by simp [hp3])] at hE2
       clear HE hp1 hp2 hp3 CA CR CF htb HTB
       have HE := Lib.hid hE2
       clear hE2
       have hlab : S.label < -1 ∨ (-1 ≤ S.label ∧ (S.attrs.length : Int) ≤ S.label) ∨ (-1 ≤ S.label ∧ S.label < 0) ∨ (0 ≤ S.label ∧ S.label < S.attrs.length) := by omega
       rcases hlab with hl | ⟨hl1, hl2⟩ | ⟨hl1, hl2⟩ | ⟨hl1, hl2⟩
       · go_wp2
         go_ret
         exact ⟨ret_int (by rw [HE.out, if_pos (.inl hl)]), hbel⟩
       · go_wp2
         go_ret
         exact ⟨ret_int (by rw [HE.out, if_pos (.inr hl2)]), hbel⟩
       · go_wp2
         go_ret
         exact ⟨ret_int (by rw [HE.out, if_neg (by omega), if_neg (by omega)]), hbel⟩
       · have hln : S.label.toNat < S.attrs.length := by omega
         have hlc : S.label = (S.label.toNat : Int) := by omega
         have hgd : (S.attrs.getD S.label.toNat default).2 = (S.attrs[S.label.toNat]).2 := by simp [List.getD, hln]
         have hE3 := HE.out
         rw [if_neg (by omega), hgd] at hE3
         obtain ⟨b', off', hA1, hbb', ha1, ha2⟩ := attr_at (h1.ext hbel) hln
         subst hA1
         clear hgd HE ha1
         generalize S.attrs[S.label.toNat].2 = D at *
         generalize S.label.toNat = ln at *
         generalize S.label = lb at *
         subst hlc
         have HE := Lib.hid hE3
         clear hE3
         cases hd : (D != 2)
         · go_wp2
           go_ret
           exact ⟨ret_int (by rw [HE.out, if_neg (by simp at hd; simp [hd])]), hbel⟩
         · go_wp2
           go_ret
           exact ⟨ret_int (by rw [HE.out, if_pos ⟨hl1, by simpa using hd⟩]), hbel⟩

end Go.Proofs.Ytopblgabadljdaa
