/-
  The walks of the reference's reduce for any schema, Reduce, Tree and Acyclic.
-/
import Derived.Test.YtopblgabadljdaaRRed
import Derived.Test.YtopblgabadljdaaDecP
namespace Go.Proofs.Ytopblgabadljdaa
open Go.RowKit

set_option maxRecDepth 100000 in
set_option maxHeartbeats 400000 in
theorem reduce7_any (v : Value) (S : Sch) (w : World) {R : Nat → Prop} (h : SchAt w R v S) (hb : SBd S) :
    Calls Try.prog 37 #[v] w fun e w' => ∃ (Ao : Option Addr) (co : Nat) (Ac : Option Addr) (cc : Nat) (Aw : Option Addr) (cw : Nat),
      e = .returned (.tuple #[.slice Ao (ordS S).length co, .slice Ac (corS S).length cc, .slice Aw (wit7 S).length cw]) ∧
      Row w' (w.heap.size ≤ ·) Ao (ints (ordS S)) ∧ Row w' (w.heap.size ≤ ·) Ac (ints (corS S)) ∧ Row w' (w.heap.size ≤ ·) Aw (ints (wit7 S)) ∧ Below w.heap.size w w' := by
  by_cases hc : checkE S = 0
  · have e1 : ordS S = (redS S.rels).ord := by unfold ordS; rw [if_pos hc]
    have e2 : corS S = coreS S.rels := by unfold corS; rw [if_pos hc]
    have e3 : wit7 S = (redS S.rels).wit := by unfold wit7; rw [if_pos hc]
    have e4 : (redS S.rels).wit.length = S.rels.length := (redTo_len S.rels _).2
    rw [e1, e2, e3, e4]
    exact reduce7_yes v S w h hb hc
  · have hcb := ne_b hc
    have e1 : ordS S = [] := by unfold ordS; rw [if_neg hc]
    have e2 : corS S = [] := by unfold corS; rw [if_neg hc]
    have e3 : wit7 S = [] := by unfold wit7; rw [if_neg hc]
    rw [e1, e2, e3]
    have h0 := h
    obtain ⟨A1, c1, A2, c2, A3, c3, rfl, l1, l2, l3, h1, h2, h3⟩ := h
    have CK := Lib.hid (check5_any _ S _ (h0.ext ((Below.refl _ w).alloc (Nat.le_refl _) (.cells #[Value.slice A1 S.attrs.length c1, Value.slice A2 S.rels.length c2, Value.slice A3 S.feats.length c3, Value.int IntKind.i64 S.label] 28))) hb)
    clear h1 h2 h3 l1 l2 l3
    generalize checkE S = ce at *
    clear hc e1 e2 e3
    go_enter Try.func37, Try.ntmps37
    go_wp2_with (go_at_call 49; go_must (refine CK.out.mono ?_; rintro e w1 ⟨rfl, hb1⟩))
    go_ret3
    exact ⟨none, 0, none, 0, none, 0, rfl, Row.nil, Row.nil, Row.nil, ext_trans ((Below.refl _ _).alloc (Nat.le_refl _) _) hb1⟩

set_option maxRecDepth 100000 in
set_option maxHeartbeats 400000 in
theorem reduceR_any (v : Value) (S : Sch) (w : World) {R : Nat → Prop} (h : SchAt w R v S) (hb : SBd S) :
    Calls Try.prog 17 #[v] w fun e w' => ∃ (Ao : Option Addr) (co : Nat) (Ac : Option Addr) (cc : Nat),
      e = .returned (.tuple #[.slice Ao (ordS S).length co, .slice Ac (corS S).length cc]) ∧
      Row w' (w.heap.size ≤ ·) Ao (ints (ordS S)) ∧ Row w' (w.heap.size ≤ ·) Ac (ints (corS S)) ∧ Below w.heap.size w w' := by
  have h0 := h
  obtain ⟨A1, c1, A2, c2, A3, c3, rfl, l1, l2, l3, h1, h2, h3⟩ := h
  have CK := Lib.hid (reduce7_any _ S _ (h0.ext ((Below.refl _ w).alloc (Nat.le_refl _) (.cells #[Value.slice A1 S.attrs.length c1, Value.slice A2 S.rels.length c2, Value.slice A3 S.feats.length c3, Value.int IntKind.i64 S.label] 28))) hb)
  clear h1 h2 h3 l1 l2 l3
  generalize ordS S = od at *
  generalize corS S = cr at *
  generalize wit7 S = wt at *
  go_enter Try.func17, Try.ntmps17
  go_wp2_with (go_at_call 37; go_must (refine CK.out.mono ?_; rintro e w2 ⟨Ao, co, Ac, cc, Aw, cw, rfl, hr1, hr2, hr3, hb2⟩))
  go_ret2
  exact ⟨Ao, co, Ac, cc, rfl, hr1.mono fun b _ hb => by simp at hb; omega, hr2.mono fun b _ hb => by simp at hb; omega, ext_trans ((Below.refl _ _).alloc (Nat.le_refl _) _) hb2⟩

set_option maxRecDepth 100000 in
set_option maxHeartbeats 400000 in
theorem treeR_any (v : Value) (S : Sch) (w : World) {R : Nat → Prop} (h : SchAt w R v S) (hb : SBd S) :
    Calls Try.prog 18 #[v] w fun e w' => ∃ (Aw : Option Addr) (cw : Nat),
      e = .returned (.tuple #[.agg #[.slice Aw (witS S).length cw], .bool (treB S)]) ∧ Row w' (w.heap.size ≤ ·) Aw (ints (witS S)) ∧ Below w.heap.size w w' := by
  have h0 := h
  obtain ⟨A1, c1, A2, c2, A3, c3, rfl, l1, l2, l3, h1, h2, h3⟩ := h
  have hbb : Below w.heap.size w ((w.alloc (.cells #[Value.slice A1 S.attrs.length c1, Value.slice A2 S.rels.length c2, Value.slice A3 S.feats.length c3, Value.int IntKind.i64 S.label] 28)).alloc (.cells #[Value.slice none 0 0] 46)) := ext_alloc ((Below.refl _ _).alloc (Nat.le_refl _) _) _
  have ct := reduce7_any _ S _ (h0.ext hbb) hb
  clear h1 h2 h3 l1 l2 l3
  have hcases : (treB S = true ∧ (corS S).length = 1 ∧ witS S = wit7 S) ∨ (treB S = false ∧ (corS S).length ≠ 1 ∧ witS S = []) := by
    by_cases hc : checkE S = 0
    · have e2 : corS S = coreS S.rels := by unfold corS; rw [if_pos hc]
      have hp := core_pos (check_relOk hc) (check_zero hc).2.2.1
      by_cases h1 : (coreS S.rels).length = 1
      · exact .inl ⟨by unfold treB; simp [hc, h1], by rw [e2]; exact h1, by unfold witS wit7; rw [if_pos ⟨hc, by omega⟩, if_pos hc]⟩
      · exact .inr ⟨by unfold treB; simp [hc]; omega, by rw [e2]; exact h1, by unfold witS; rw [if_neg (by omega)]⟩
    · exact .inr ⟨by unfold treB; simp [hc], by unfold corS; rw [if_neg hc]; decide, by unfold witS; rw [if_neg (fun h => hc h.1)]⟩
  rcases hcases with ⟨e1, e2, e3⟩ | ⟨e1, e2, e3⟩
  · rw [← e3] at ct
    have hcb : (((corS S).length : Int) != 1) = false := by rw [e2]; rfl
    rw [e1]
    have CK := Lib.hid ct
    clear e1 e2 e3 ct
    generalize ordS S = od at *
    generalize corS S = cr at *
    generalize witS S = wt at *
    go_enter Try.func18, Try.ntmps18
    go_wp2_with (
      go_at_call 37
      go_must (
        refine CK.out.mono ?_; rintro e w2 ⟨Ao, co, Ac, cc, Aw, cw, rfl, hr1, hr2, hr3, hb2⟩
        have hby := (Blk.new (w.alloc (Obj.cells #[Value.slice A1 S.attrs.length c1, Value.slice A2 S.rels.length c2, Value.slice A3 S.feats.length c3, Value.int IntKind.i64 S.label] 28)) 46 #[.slice none 0 0]).ext hb2
        rw [World.size_alloc] at hby
        have y0 := hby.cell 0
        have z0 := hby.frozen 0
        simp at y0
        clear hby))
    refine bodyPost_ret (v := .tuple #[.agg #[.slice Aw wt.length cw], .bool true]) (by simp [results, Try.results18, go_sem, y0]) rfl ?_
    refine ⟨Aw, cw, rfl, ?_, (ext_trans hbb hb2).setCell (by simp) _⟩
    exact (hr3.mono (R' := fun b => w.heap.size + 2 ≤ b) (fun b _ hb => by simp at hb; omega)).setCell (fun b hb => by simp; omega) _ |>.mono fun b _ hb => by omega
  · have hcb : (((corS S).length : Int) != 1) = true := by simp; omega
    rw [e1, e3]
    have CK := Lib.hid ct
    clear e1 e2 e3 ct
    generalize ordS S = od at *
    generalize corS S = cr at *
    generalize wit7 S = wt at *
    go_enter Try.func18, Try.ntmps18
    go_wp2_with (
      go_at_call 37
      go_must (
        refine CK.out.mono ?_; rintro e w2 ⟨Ao, co, Ac, cc, Aw, cw, rfl, hr1, hr2, hr3, hb2⟩
        have hby := (Blk.new (w.alloc (Obj.cells #[Value.slice A1 S.attrs.length c1, Value.slice A2 S.rels.length c2, Value.slice A3 S.feats.length c3, Value.int IntKind.i64 S.label] 28)) 46 #[.slice none 0 0]).ext hb2
        rw [World.size_alloc] at hby
        have y0 := hby.cell 0
        have z0 := hby.frozen 0
        simp at y0
        clear hby))
    refine bodyPost_ret (v := .tuple #[.agg #[.slice none 0 0], .bool false]) (by simp [results, Try.results18, go_sem, y0]) rfl ?_
    exact ⟨none, 0, rfl, Row.nil, (ext_trans hbb hb2).setCell (by simp) _⟩

set_option maxRecDepth 100000 in
set_option maxHeartbeats 400000 in
theorem acyclicR_any (v : Value) (S : Sch) (w : World) {R : Nat → Prop} (h : SchAt w R v S) (hb : SBd S) :
    Calls Try.prog 21 #[v] w fun e w' => e = .returned (.bool (treB S)) ∧ Below w.heap.size w w' := by
  have ct1 := fun (W : World) (hW : Below w.heap.size w W) => treeR_any v S W (h.ext hW) hb
  have CT1 := Lib.hid ct1
  obtain ⟨A1, c1, A2, c2, A3, c3, rfl, l1, l2, l3, h1, h2, h3⟩ := h
  clear h1 h2 h3 l1 l2 l3 ct1
  go_enter Try.func21, Try.ntmps21
  go_wp2_with (
    go_at_call 18
    go_must (
      refine (CT1.out _ ((Below.refl _ _).alloc (Nat.le_refl _) _)).mono ?_
      rintro e w1 ⟨Aw, cw, rfl, hr, hb1⟩))
  go_ret
  exact ⟨rfl, ext_alloc (ext_trans ((Below.refl _ _).alloc (Nat.le_refl _) _) hb1) _⟩

end Go.Proofs.Ytopblgabadljdaa
