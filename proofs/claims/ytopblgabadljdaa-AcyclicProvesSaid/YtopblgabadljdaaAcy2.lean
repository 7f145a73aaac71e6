/-
  Walks of acyclic.Ear, Reduce, Tree, Acyclic.
-/
import Derived.Test.YtopblgabadljdaaRed
import Derived.Test.YtopblgabadljdaaRel
namespace Go.Proofs.Ytopblgabadljdaa
open Go.RowKit

def ordS (S : Sch) : List Int := if checkE S = 0 then (redS S.rels).ord else []
def corS (S : Sch) : List Int := if checkE S = 0 then coreS S.rels else []
def witS (S : Sch) : List Int := if checkE S = 0 ∧ (coreS S.rels).length ≤ 1 then (redS S.rels).wit else []
def treB (S : Sch) : Bool := decide (checkE S = 0 ∧ (coreS S.rels).length ≤ 1)
def earO (S : Sch) (inn : List Bool) (r : Int) : Option Nat :=
  if checkE S ≠ 0 ∨ inn.length ≠ S.rels.length ∨ r < 0 ∨ (inn.length : Int) ≤ r ∨ inn.getD r.toNat false = false then none else witI S.rels inn r.toNat

theorem check_zero {S : Sch} (h : checkE S = 0) : 1 ≤ S.attrs.length ∧ S.attrs.length ≤ 12 ∧ 1 ≤ S.rels.length ∧ S.rels.length ≤ 6 ∧ S.feats.length ≤ 8 ∧ (∀ k, k < S.rels.length → relE S k = 0) ∧ ∀ a, a < S.attrs.length → usedB S a = true := by
  unfold checkE at h
  by_cases hl : S.attrs.length = 0 ∨ 12 < S.attrs.length ∨ S.rels.length = 0 ∨ 6 < S.rels.length ∨ 8 < S.feats.length
  · rw [if_pos hl] at h; simp at h
  · rw [if_neg hl] at h
    by_cases h1 : scanE (attrE S) S.attrs.length ≠ 0
    · rw [if_pos h1] at h; exact absurd h h1
    · rw [if_neg h1] at h
      by_cases h2 : relsE S ≠ 0
      · rw [if_pos h2] at h; exact absurd h h2
      · have h3 : relsE S = 0 := by omega
        unfold relsE at h3
        by_cases h4 : scanE (relE S) S.rels.length ≠ 0
        · rw [if_pos h4] at h3; exact absurd h3 h4
        · rw [if_neg h4] at h3
          refine ⟨by omega, by omega, by omega, by omega, by omega, scanE_zero.1 (by omega), fun a ha => ?_⟩
          split at h3
          · simp at h3
          · rename_i h5
            rw [Bool.not_eq_false, List.all_eq_true] at h5
            exact h5 a (by simpa using ha)
theorem rel_zero {S : Sch} {k : Nat} (hk : k < S.rels.length) (h : relE S k = 0) : S.rels[k].2 ≠ [] ∧ (∀ a ∈ S.rels[k].2, 0 ≤ a ∧ a < S.attrs.length) ∧ ascB S.rels[k].2 = true := by
  rw [relE_eq S k hk _ rfl] at h
  split at h
  · rename_i h1; exact absurd h h1
  · split at h
    · simp at h
    · rename_i h2
      split at h
      · simp at h
      · rename_i h3
        split at h
        · simp at h
        · rename_i h4
          refine ⟨h2, ?_, by simpa using h4⟩
          rw [Bool.not_eq_false, List.all_eq_true] at h3
          intro a ha
          have := h3 a ha
          simp at this
          omega
theorem asc_pair {l : List Int} (h : ascB l = true) : l.Pairwise (· < ·) := by
  unfold ascB at h
  rw [List.all_eq_true] at h
  have h1 : ∀ p (hp : p + 1 < l.length), l[p] < l[p + 1] := fun p hp => by
    have := h p (by simp; omega)
    simpa [List.getD, hp, show p < l.length by omega] using this
  clear h
  induction l with
  | nil => exact List.Pairwise.nil
  | cons x t ih =>
    have ht := ih fun p hp => h1 (p + 1) (by simpa using hp)
    refine List.pairwise_cons.2 ⟨?_, ht⟩
    cases t with
    | nil => intro a ha; simp at ha
    | cons y t =>
      have hxy := h1 0 (by simp)
      simp at hxy
      intro a ha
      rcases List.mem_cons.1 ha with e | e
      · rw [e]; exact hxy
      · have := (List.pairwise_cons.1 ht).1 a e; omega
theorem check_relOk {S : Sch} (h : checkE S = 0) : RelOk S.rels := by
  obtain ⟨a1, a2, a3, a4, a5, a6, a7⟩ := check_zero h
  refine ⟨by omega, fun x hx => ?_⟩
  obtain ⟨k, hk, rfl⟩ := List.getElem_of_mem hx
  obtain ⟨b1, b2, b3⟩ := rel_zero hk (a6 k hk)
  have hlen := asc_len S.rels[k].2 0 11 (asc_pair b3) (fun a ha => by have := b2 a ha; omega)
  exact ⟨by omega, fun a ha => by have := b2 a ha; omega⟩

theorem ne_b {n : Int} (h : n ≠ 0) : (n != 0) = true := by simpa using h
theorem eq_b {n : Int} (h : n = 0) : (n != 0) = false := by simp [h]

set_option maxRecDepth 100000 in
set_option maxHeartbeats 400000 in
theorem reduceE_any (v : Value) (S : Sch) (w : World) {R : Nat → Prop} (h : SchAt w R v S) (hb : SBd S) :
    Calls Try.prog 11 #[v] w fun e w' => ∃ (Ao : Option Addr) (co : Nat) (Ac : Option Addr) (cc : Nat),
      e = .returned (.tuple #[.slice Ao (ordS S).length co, .slice Ac (corS S).length cc]) ∧
      Row w' (w.heap.size ≤ ·) Ao (ints (ordS S)) ∧ Row w' (w.heap.size ≤ ·) Ac (ints (corS S)) ∧ Below w.heap.size w w' := by
  have h0 := h
  obtain ⟨A1, c1, A2, c2, A3, c3, rfl, l1, l2, l3, h1, h2, h3⟩ := h
  clear h1 h2 h3 l1 l2 l3
  have ct1 := fun (W : World) (hW : Below w.heap.size w W) => check_any _ S W (h0.ext hW) hb
  by_cases hc : checkE S = 0
  · have hcb := eq_b hc
    have e1 : ordS S = (redS S.rels).ord := by unfold ordS; rw [if_pos hc]
    have e2 : corS S = coreS S.rels := by unfold corS; rw [if_pos hc]
    have ct2 := fun (W : World) (hW : Below w.heap.size w W) => reduce_any _ S W (h0.ext hW) (check_zero hc).2.2.1 (check_relOk hc)
    rw [← e1, ← e2] at ct2
    generalize checkE S = ce at *
    generalize ordS S = od at *
    generalize corS S = cr at *
    have CT1 := Lib.hid ct1
    have CT2 := Lib.hid ct2
    clear ct1 ct2 hc e1 e2
    go_enter Try.func11, Try.ntmps11
    go_wp2_with (first
      | (go_at_call 33
         go_must (
          refine (CT1.out _ ((Below.refl _ _).alloc (Nat.le_refl _) _)).mono ?_
          rintro e w1 ⟨rfl, hb1⟩
          have hbx := (Blk.new w 28 #[Value.slice A1 S.attrs.length c1, Value.slice A2 S.rels.length c2, Value.slice A3 S.feats.length c3, Value.int IntKind.i64 S.label]).ext hb1
          have x0 := hbx.cell 0
          have x1 := hbx.cell 1
          have x2 := hbx.cell 2
          have x3 := hbx.cell 3
          simp at x0 x1 x2 x3
          have hbel1 : Below w.heap.size w w1 := ext_trans ((Below.refl _ _).alloc (Nat.le_refl _) _) hb1
          clear hbx hb1))
      | (go_at_call 34
         go_must (
          refine (CT2.out _ hbel1).mono ?_
          rintro e w2 ⟨Ao, co, Ac, cc, Aw, cw, rfl, hr1, hr2, hr3, hb2⟩)))
    go_ret2
    exact ⟨Ao, co, Ac, cc, rfl, hr1.mono fun b _ hb => Nat.le_trans hbel1.size hb, hr2.mono fun b _ hb => Nat.le_trans hbel1.size hb, ext_trans hbel1 hb2⟩
  · have hcb := ne_b hc
    have e1 : ordS S = [] := by unfold ordS; rw [if_neg hc]
    have e2 : corS S = [] := by unfold corS; rw [if_neg hc]
    have E1 := Lib.hid e1
    have E2 := Lib.hid e2
    generalize checkE S = ce at *
    have CT1 := Lib.hid ct1
    clear ct1 hc e1 e2
    go_enter Try.func11, Try.ntmps11
    go_wp2_with (
      go_at_call 33
      go_must (
        refine (CT1.out _ ((Below.refl _ _).alloc (Nat.le_refl _) _)).mono ?_
        rintro e w1 ⟨rfl, hb1⟩))
    go_ret2
    rw [E1.out, E2.out]
    exact ⟨none, 0, none, 0, rfl, Row.nil, Row.nil, ext_trans ((Below.refl _ _).alloc (Nat.le_refl _) _) hb1⟩

set_option maxRecDepth 100000 in
set_option maxHeartbeats 400000 in
theorem tree_any (v : Value) (S : Sch) (w : World) {R : Nat → Prop} (h : SchAt w R v S) (hb : SBd S) :
    Calls Try.prog 27 #[v] w fun e w' => ∃ (Aw : Option Addr) (cw : Nat),
      e = .returned (.tuple #[.agg #[.slice Aw (witS S).length cw], .bool (treB S)]) ∧ Row w' (w.heap.size ≤ ·) Aw (ints (witS S)) ∧ Below w.heap.size w w' := by
  have h0 := h
  obtain ⟨A1, c1, A2, c2, A3, c3, rfl, l1, l2, l3, h1, h2, h3⟩ := h
  clear h1 h2 h3 l1 l2 l3
  have ct1 := fun (W : World) (hW : Below w.heap.size w W) => check_any _ S W (h0.ext hW) hb
  by_cases hc : checkE S = 0
  · have hcb := eq_b hc
    have ct2 := fun (W : World) (hW : Below w.heap.size w W) => reduce_any _ S W (h0.ext hW) (check_zero hc).2.2.1 (check_relOk hc)
    have hwl : (redS S.rels).wit.length = S.rels.length := (redTo_len S.rels _).2
    by_cases hle : (coreS S.rels).length ≤ 1
    · have e1 : witS S = (redS S.rels).wit := by unfold witS; rw [if_pos ⟨hc, hle⟩]
      have e2 : treB S = true := by unfold treB; simp [hc, hle]
      rw [← e1] at ct2 hwl
      generalize checkE S = ce at *
      generalize coreS S.rels = cr at *
      have E2 := Lib.hid e2
      have HWL := Lib.hid hwl
      have CT1 := Lib.hid ct1
      have CT2 := Lib.hid ct2
      clear ct1 ct2 hc e1 e2 hwl
      go_enter Try.func27, Try.ntmps27
      go_wp2_with (first
        | (go_at_call 33
           go_must (
            refine (CT1.out _ (((Below.refl _ _).alloc (Nat.le_refl _) _).alloc (by simp) _)).mono ?_
            rintro e w1 ⟨rfl, hb1⟩
            have hbx := ((Blk.new w 28 #[Value.slice A1 S.attrs.length c1, Value.slice A2 S.rels.length c2, Value.slice A3 S.feats.length c3, Value.int IntKind.i64 S.label]).alloc _).ext hb1
            have hby := (Blk.new (w.alloc (Obj.cells #[Value.slice A1 S.attrs.length c1, Value.slice A2 S.rels.length c2, Value.slice A3 S.feats.length c3, Value.int IntKind.i64 S.label] 28)) 46 #[.slice none 0 0]).ext hb1
            rw [World.size_alloc] at hby
            have x0 := hbx.cell 0
            have x1 := hbx.cell 1
            have x2 := hbx.cell 2
            have x3 := hbx.cell 3
            simp at x0 x1 x2 x3
            have hbel1 : Below w.heap.size w w1 := ext_trans (((Below.refl _ _).alloc (Nat.le_refl _) _).alloc (by simp) _) hb1
            have HBY := Lib.hid hby
            clear hbx hb1 hby))
        | (go_at_call 34
           go_must (
            refine (CT2.out _ hbel1).mono ?_
            rintro e w2 ⟨Ao, co, Ac, cc, Aw, cw, rfl, hr1, hr2, hr3, hb2⟩
            have hby2 := HBY.out.ext hb2
            have y0 := hby2.cell 0
            have z0 := hby2.frozen 0
            simp at y0
            clear hr1 hr2 hby2)))
      refine bodyPost_ret (v := .tuple #[.agg #[.slice Aw S.rels.length cw], .bool true]) (by simp [results, Try.results27, go_sem, y0]) rfl ?_
      refine ⟨Aw, cw, by rw [E2.out, HWL.out], ?_, (ext_trans hbel1 hb2).setCell (by simp) _⟩
      exact (hr3.mono (R' := fun b => w.heap.size + 2 ≤ b) (fun b _ hb => by have := HBY.out.lt; omega)).setCell (fun b hb => by simp; omega) _ |>.mono fun b _ hb => by omega
    · have e1 : witS S = [] := by unfold witS; rw [if_neg (fun h => hle h.2)]
      have e2 : treB S = false := by unfold treB; simp [hle]
      generalize checkE S = ce at *
      generalize coreS S.rels = cr at *
      have E1 := Lib.hid e1
      have E2 := Lib.hid e2
      have CT1 := Lib.hid ct1
      have CT2 := Lib.hid ct2
      clear ct1 ct2 hc e1 e2 hwl
      go_enter Try.func27, Try.ntmps27
      go_wp2_with (first
        | (go_at_call 33
           go_must (
            refine (CT1.out _ (((Below.refl _ _).alloc (Nat.le_refl _) _).alloc (by simp) _)).mono ?_
            rintro e w1 ⟨rfl, hb1⟩
            have hbx := ((Blk.new w 28 #[Value.slice A1 S.attrs.length c1, Value.slice A2 S.rels.length c2, Value.slice A3 S.feats.length c3, Value.int IntKind.i64 S.label]).alloc _).ext hb1
            have hby := (Blk.new (w.alloc (Obj.cells #[Value.slice A1 S.attrs.length c1, Value.slice A2 S.rels.length c2, Value.slice A3 S.feats.length c3, Value.int IntKind.i64 S.label] 28)) 46 #[.slice none 0 0]).ext hb1
            rw [World.size_alloc] at hby
            have x0 := hbx.cell 0
            have x1 := hbx.cell 1
            have x2 := hbx.cell 2
            have x3 := hbx.cell 3
            simp at x0 x1 x2 x3
            have hbel1 : Below w.heap.size w w1 := ext_trans (((Below.refl _ _).alloc (Nat.le_refl _) _).alloc (by simp) _) hb1
            have HBY := Lib.hid hby
            clear hbx hb1 hby))
        | (go_at_call 34
           go_must (
            refine (CT2.out _ hbel1).mono ?_
            rintro e w2 ⟨Ao, co, Ac, cc, Aw, cw, rfl, hr1, hr2, hr3, hb2⟩
            have hby2 := HBY.out.ext hb2
            have y0 := hby2.cell 0
            have z0 := hby2.frozen 0
            simp at y0
            clear hr1 hr2 hby2)))
      refine bodyPost_ret (v := .tuple #[.agg #[.slice none 0 0], .bool false]) (by simp [results, Try.results27, go_sem, y0]) rfl ?_
      exact ⟨none, 0, by rw [E1.out, E2.out]; rfl, by rw [E1.out]; exact Row.nil, (ext_trans hbel1 hb2).setCell (by simp) _⟩
  · have hcb := ne_b hc
    have e1 : witS S = [] := by unfold witS; rw [if_neg (fun h => hc h.1)]
    have e2 : treB S = false := by unfold treB; simp [hc]
    have E1 := Lib.hid e1
    have E2 := Lib.hid e2
    generalize checkE S = ce at *
    have CT1 := Lib.hid ct1
    clear ct1 hc e1 e2
    go_enter Try.func27, Try.ntmps27
    go_wp2_with (
      go_at_call 33
      go_must (
        refine (CT1.out _ (((Below.refl _ _).alloc (Nat.le_refl _) _).alloc (by simp) _)).mono ?_
        rintro e w1 ⟨rfl, hb1⟩
        have hby := (Blk.new (w.alloc (Obj.cells #[Value.slice A1 S.attrs.length c1, Value.slice A2 S.rels.length c2, Value.slice A3 S.feats.length c3, Value.int IntKind.i64 S.label] 28)) 46 #[.slice none 0 0]).ext hb1
        rw [World.size_alloc] at hby
        have y0 := hby.cell 0
        have z0 := hby.frozen 0
        simp at y0
        clear hby))
    refine bodyPost_ret (v := .tuple #[.agg #[.slice none 0 0], .bool false]) (by simp [results, Try.results27, go_sem, y0]) rfl ?_
    exact ⟨none, 0, by rw [E1.out, E2.out]; rfl, by rw [E1.out]; exact Row.nil, (ext_trans (((Below.refl _ _).alloc (Nat.le_refl _) _).alloc (by simp) _) hb1).setCell (by simp) _⟩

set_option maxRecDepth 100000 in
set_option maxHeartbeats 400000 in
theorem acyclic_any (v : Value) (S : Sch) (w : World) {R : Nat → Prop} (h : SchAt w R v S) (hb : SBd S) :
    Calls Try.prog 15 #[v] w fun e w' => e = .returned (.bool (treB S)) ∧ Below w.heap.size w w' := by
  have ct1 := fun (W : World) (hW : Below w.heap.size w W) => tree_any v S W (h.ext hW) hb
  have CT1 := Lib.hid ct1
  obtain ⟨A1, c1, A2, c2, A3, c3, rfl, l1, l2, l3, h1, h2, h3⟩ := h
  clear h1 h2 h3 l1 l2 l3 ct1
  go_enter Try.func15, Try.ntmps15
  go_wp2_with (
    go_at_call 27
    go_must (
      refine (CT1.out _ ((Below.refl _ _).alloc (Nat.le_refl _) _)).mono ?_
      rintro e w1 ⟨Aw, cw, rfl, hr, hb1⟩))
  go_ret
  exact ⟨rfl, ext_alloc (ext_trans ((Below.refl _ _).alloc (Nat.le_refl _) _) hb1) _⟩

set_option maxRecDepth 100000 in
set_option maxHeartbeats 1000000 in
theorem ear_any (v : Value) (S : Sch) (Ai : Option Addr) (ci : Nat) (inn : List Bool) (r : Int) (w : World) {R R' : Nat → Prop} (h : SchAt w R v S) (hb : SBd S) (hi : Row w R' Ai (bools inn)) :
    Calls Try.prog 12 #[v, .slice Ai inn.length ci, .int .i64 r] w fun e w' =>
      e = .returned (.tuple #[.int .i64 (optI (earO S inn r)), .bool (earO S inn r).isSome]) ∧ Below w.heap.size w w' := by
  have h0 := h
  obtain ⟨A1, c1, A2, c2, A3, c3, rfl, l1, l2, l3, h1, h2, h3⟩ := h
  clear h1 h2 h3 l1 l2 l3
  have ct1 := fun (W : World) (hW : Below w.heap.size w W) => check_any _ S W (h0.ext hW) hb
  have hbr := hb.r
  by_cases hc : checkE S = 0
  · have hcb := eq_b hc
    by_cases hln : inn.length = S.rels.length
    · have hlb : ((inn.length : Int) != (S.rels.length : Int)) = false := by simp [hln]
      by_cases hr0 : r < 0
      · have hE : earO S inn r = none := by unfold earO; rw [if_pos (.inr (.inr (.inl hr0)))]
        rw [hE]
        generalize checkE S = ce at *
        have CT1 := Lib.hid ct1
        clear ct1 hc hE hln
        go_enter Try.func12, Try.ntmps12
        go_wp2_with (
          go_at_call 33
          go_must (
            refine (CT1.out _ ((Below.refl _ _).alloc (Nat.le_refl _) _)).mono ?_
            rintro e w1 ⟨rfl, hb1⟩
            have hbx := (Blk.new w 28 #[Value.slice A1 S.attrs.length c1, Value.slice A2 S.rels.length c2, Value.slice A3 S.feats.length c3, Value.int IntKind.i64 S.label]).ext hb1
            have x0 := hbx.cell 0
            have x1 := hbx.cell 1
            have x2 := hbx.cell 2
            have x3 := hbx.cell 3
            simp at x0 x1 x2 x3
            clear hbx))
        go_ret2
        exact ⟨rfl, ext_trans ((Below.refl _ _).alloc (Nat.le_refl _) _) hb1⟩
      · by_cases hr1 : (inn.length : Int) ≤ r
        · have hE : earO S inn r = none := by unfold earO; rw [if_pos (.inr (.inr (.inr (.inl hr1))))]
          rw [hE]
          generalize checkE S = ce at *
          have CT1 := Lib.hid ct1
          clear ct1 hc hE hln
          go_enter Try.func12, Try.ntmps12
          go_wp2_with (
            go_at_call 33
            go_must (
              refine (CT1.out _ ((Below.refl _ _).alloc (Nat.le_refl _) _)).mono ?_
              rintro e w1 ⟨rfl, hb1⟩
              have hbx := (Blk.new w 28 #[Value.slice A1 S.attrs.length c1, Value.slice A2 S.rels.length c2, Value.slice A3 S.feats.length c3, Value.int IntKind.i64 S.label]).ext hb1
              have x0 := hbx.cell 0
              have x1 := hbx.cell 1
              have x2 := hbx.cell 2
              have x3 := hbx.cell 3
              simp at x0 x1 x2 x3
              clear hbx))
          go_ret2
          exact ⟨rfl, ext_trans ((Below.refl _ _).alloc (Nat.le_refl _) _) hb1⟩
        · obtain ⟨rn, rfl⟩ := Int.eq_ofNat_of_zero_le (show 0 ≤ r by omega)
          have hrn : rn < inn.length := by omega
          have hrs : rn < S.rels.length := by omega
          obtain ⟨b, off, rfl, hbb, hck⟩ := hi.bool_at hrn
          have hgi : inn.getD rn false = inn[rn] := by simp [List.getD, hrn]
          cases hik : inn[rn]
          · have hE : earO S inn rn = none := by unfold earO; rw [if_pos (.inr (.inr (.inr (.inr (by rw [Int.toNat_natCast, hgi, hik])))))]
            rw [hik] at hck
            rw [hE]
            generalize checkE S = ce at *
            have CT1 := Lib.hid ct1
            clear ct1 hc hE hln hgi hik
            go_enter Try.func12, Try.ntmps12
            go_wp2_with (
              go_at_call 33
              go_must (
                refine (CT1.out _ ((Below.refl _ _).alloc (Nat.le_refl _) _)).mono ?_
                rintro e w1 ⟨rfl, hb1⟩
                have hbx := (Blk.new w 28 #[Value.slice A1 S.attrs.length c1, Value.slice A2 S.rels.length c2, Value.slice A3 S.feats.length c3, Value.int IntKind.i64 S.label]).ext hb1
                have x0 := hbx.cell 0
                have x1 := hbx.cell 1
                have x2 := hbx.cell 2
                have x3 := hbx.cell 3
                simp at x0 x1 x2 x3
                clear hbx
                have hck1 : w1.cell? ⟨b, off + rn, none⟩ = some (.bool false) := by rw [hb1.cell (p := ⟨b, off + rn, none⟩) (by show b < _; simp; omega), World.cell?_alloc_lt _ _ _ hbb]; exact hck
                clear hck))
            go_ret2
            exact ⟨rfl, ext_trans ((Below.refl _ _).alloc (Nat.le_refl _) _) hb1⟩
          · have hE : earO S inn rn = witI S.rels inn rn := by
              unfold earO
              rw [if_neg, Int.toNat_natCast]
              rw [Int.toNat_natCast, hgi, hik]
              simp [hc, hln]
              omega
            rw [hik] at hck
            have ct2 := fun (W : World) (hW : Below w.heap.size w W) => witness_any _ S (some ⟨b, off, none⟩) ci inn rn W (h0.ext hW) (hi.ext hW) hln hrs (check_relOk hc)
            rw [hE]
            generalize checkE S = ce at *
            have CT1 := Lib.hid ct1
            have CT2 := Lib.hid ct2
            clear ct1 hc hE hln hgi hik ct2
            go_enter Try.func12, Try.ntmps12
            go_wp2_with (first
              | (go_at_call 33
                 go_must (
                  refine (CT1.out _ ((Below.refl _ _).alloc (Nat.le_refl _) _)).mono ?_
                  rintro e w1 ⟨rfl, hb1⟩
                  have hbx := (Blk.new w 28 #[Value.slice A1 S.attrs.length c1, Value.slice A2 S.rels.length c2, Value.slice A3 S.feats.length c3, Value.int IntKind.i64 S.label]).ext hb1
                  have x0 := hbx.cell 0
                  have x1 := hbx.cell 1
                  have x2 := hbx.cell 2
                  have x3 := hbx.cell 3
                  simp at x0 x1 x2 x3
                  clear hbx
                  have hck1 : w1.cell? ⟨b, off + rn, none⟩ = some (.bool true) := by rw [hb1.cell (p := ⟨b, off + rn, none⟩) (by show b < _; simp; omega), World.cell?_alloc_lt _ _ _ hbb]; exact hck
                  have hbel1 : Below w.heap.size w w1 := ext_trans ((Below.refl _ _).alloc (Nat.le_refl _) _) hb1
                  clear hck))
              | (go_at_call 35
                 go_must (
                  refine (CT2.out _ hbel1).mono ?_
                  rintro e w2 ⟨rfl, hb2⟩)))
            go_ret2
            exact ⟨rfl, ext_trans hbel1 hb2⟩
    · have hlb : ((inn.length : Int) != (S.rels.length : Int)) = true := by simp; omega
      have hE : earO S inn r = none := by unfold earO; rw [if_pos (.inr (.inl hln))]
      rw [hE]
      generalize checkE S = ce at *
      have CT1 := Lib.hid ct1
      clear ct1 hc hE hln
      go_enter Try.func12, Try.ntmps12
      go_wp2_with (
        go_at_call 33
        go_must (
          refine (CT1.out _ ((Below.refl _ _).alloc (Nat.le_refl _) _)).mono ?_
          rintro e w1 ⟨rfl, hb1⟩
          have hbx := (Blk.new w 28 #[Value.slice A1 S.attrs.length c1, Value.slice A2 S.rels.length c2, Value.slice A3 S.feats.length c3, Value.int IntKind.i64 S.label]).ext hb1
          have x0 := hbx.cell 0
          have x1 := hbx.cell 1
          have x2 := hbx.cell 2
          have x3 := hbx.cell 3
          simp at x0 x1 x2 x3
          clear hbx))
      go_ret2
      exact ⟨rfl, ext_trans ((Below.refl _ _).alloc (Nat.le_refl _) _) hb1⟩
  · have hcb := ne_b hc
    have hE : earO S inn r = none := by unfold earO; rw [if_pos (.inl hc)]
    rw [hE]
    generalize checkE S = ce at *
    have CT1 := Lib.hid ct1
    clear ct1 hc hE
    go_enter Try.func12, Try.ntmps12
    go_wp2_with (
      go_at_call 33
      go_must (
        refine (CT1.out _ ((Below.refl _ _).alloc (Nat.le_refl _) _)).mono ?_
        rintro e w1 ⟨rfl, hb1⟩))
    go_ret2
    exact ⟨rfl, ext_trans ((Below.refl _ _).alloc (Nat.le_refl _) _) hb1⟩

end Go.Proofs.Ytopblgabadljdaa
