/-
  The walk of AcyclicTwice.
-/
import Derived.Test.YtopblgabadljdaaTwiceP
import Derived.Deep.DeepCutAuto
namespace Go.Proofs.Ytopblgabadljdaa
open Go.RowKit

/-- The cells of a schema's relations, with what they show. -/
def RelsV (w : World) (R : Nat → Prop) (vs : List Value) (rs : List (ByteArray × List Int)) : Prop :=
  vs.length = rs.length * 2 ∧ ∀ k (hk : k < rs.length), vs[k * 2]? = some (.string rs[k].1) ∧ ∃ (A' : Option Addr) (c' : Nat), vs[k * 2 + 1]? = some (.slice A' rs[k].2.length c') ∧ Row w R A' (ints rs[k].2)
theorem relsV_of {w : World} {R : Nat → Prop} {A : Option Addr} {rs : List (ByteArray × List Int)} (h : RelsAt w R A rs) : ∃ vs, Row w R A vs ∧ RelsV w R vs rs := by
  obtain ⟨vs, h1, h2, h3⟩ := h
  exact ⟨vs, h2, h1, h3⟩
theorem RelsV.at {w : World} {R : Nat → Prop} {A : Option Addr} {vs : List Value} {rs : List (ByteArray × List Int)} (h : RelsV w R vs rs) (hr : Row w R A vs) : RelsAt w R A rs := ⟨vs, h.1, hr, h.2⟩
theorem RelsV.keep {w w' : World} {R : Nat → Prop} {vs : List Value} {rs : List (ByteArray × List Int)} (h : RelsV w R vs rs) (hs : w.heap.size ≤ w'.heap.size) (hk : ∀ b, R b → b < w.heap.size → w'.heap[b]? = w.heap[b]?) : RelsV w' R vs rs := by
  refine ⟨h.1, fun k hk2 => ?_⟩
  obtain ⟨h6, A', c', h4, h5⟩ := h.2 k hk2
  exact ⟨h6, A', c', h4, h5.keep hs fun b _ _ => hk b⟩
theorem RelsV.mono {w : World} {R R' : Nat → Prop} {vs : List Value} {rs : List (ByteArray × List Int)} (h : RelsV w R vs rs) (hR : ∀ b, b < w.heap.size → R b → R' b) : RelsV w R' vs rs := by
  refine ⟨h.1, fun k hk2 => ?_⟩
  obtain ⟨h6, A', c', h4, h5⟩ := h.2 k hk2
  exact ⟨h6, A', c', h4, h5.mono hR⟩
theorem RelsV.one {w : World} {R : Nat → Prop} {vs : List Value} {rs : List (ByteArray × List Int)} (h : RelsV w R vs rs) : ∀ u ∈ vs, u.oneCell' = true := by
  intro u hu
  obtain ⟨p, hp, rfl⟩ := List.getElem_of_mem hu
  have hl := h.1
  have hk : p / 2 < rs.length := by omega
  obtain ⟨h1, A', c', h2, _⟩ := h.2 (p / 2) hk
  rcases Nat.mod_two_eq_zero_or_one p with e | e
  · have : p / 2 * 2 = p := by omega
    rw [this, List.getElem?_eq_getElem hp] at h1
    injection h1 with h1
    rw [h1]; rfl
  · have : p / 2 * 2 + 1 = p := by omega
    rw [this, List.getElem?_eq_getElem hp] at h2
    injection h2 with h2
    rw [h2]; rfl
theorem RelsV.snoc {w : World} {R : Nat → Prop} {vs : List Value} {rs : List (ByteArray × List Int)} (h : RelsV w R vs rs) (x : ByteArray × List Int) {A' : Option Addr} (c' : Nat) (hr : Row w R A' (ints x.2)) : RelsV w R (vs ++ [.string x.1, .slice A' x.2.length c']) (rs ++ [x]) := by
  refine ⟨by simp [h.1]; omega, fun k hk => ?_⟩
  by_cases e : k < rs.length
  · obtain ⟨h1, A2, c2, h2, h3⟩ := h.2 k e
    refine ⟨?_, A2, c2, ?_, ?_⟩
    · rw [List.getElem?_append_left (by rw [h.1]; omega), List.getElem_append_left e]; exact h1
    · rw [List.getElem?_append_left (by rw [h.1]; omega), List.getElem_append_left e]; exact h2
    · rw [List.getElem_append_left e]; exact h3
  · obtain rfl : k = rs.length := by simp at hk; omega
    refine ⟨?_, A', c', ?_, ?_⟩
    · rw [List.getElem?_append_right (by rw [h.1]; exact Nat.le_refl _), h.1]; simp
    · rw [List.getElem?_append_right (by rw [h.1]; omega), h.1]; simp [show rs.length * 2 + 1 - rs.length * 2 = 1 by omega]
    · simpa using hr

theorem sch_more {w w' : World} {S : Sch} {A1 : Option Addr} {c1 : Nat} {A2 : Option Addr} {c2 : Nat} {A3 : Option Addr} {c3 : Nat} {vs : List Value} {B : Nat} {A9 Aq : Option Addr} {c9 cq : Nat} {l : List Int} {R9 : Nat → Prop}
    (h : SchAt w (· < B) (.agg #[.slice A1 S.attrs.length c1, .slice A2 S.rels.length c2, .slice A3 S.feats.length c3, .int .i64 S.label]) S) (hv : RelsV w (· < B) vs S.rels) (hq : Row w (· < B) Aq (ints l)) (x : ByteArray × List Int) (hx : x.2 = l) (hb : Below (B + 1) w w')
    (hr : Row w' R9 A9 (vs ++ [.string x.1, .slice Aq l.length cq])) (hc : S.rels.length + 1 ≤ c9) :
    SchAt w' Any (.agg #[.slice A1 S.attrs.length c1, .slice A9 (S.rels.length + 1) c9, .slice A3 S.feats.length c3, .int .i64 S.label]) { S with rels := S.rels ++ [x] } := by
  subst hx
  obtain ⟨B1, d1, B2, d2, B3, d3, e, l1, l2, l3, h1, h2, h3⟩ := h
  simp at e
  obtain ⟨⟨rfl, rfl⟩, ⟨rfl, rfl⟩, rfl, rfl⟩ := e
  have keep : ∀ b, b < B → b < w.heap.size → w'.heap[b]? = w.heap[b]? := fun b hb2 _ => hb.block b (by omega)
  refine ⟨A1, c1, A9, c9, A3, c3, by simp, l1, by simpa using hc, l3, (h1.keep hb.size fun b _ _ => keep b).any, ?_, (h3.keep hb.size fun b _ _ => keep b).any⟩
  exact (((hv.keep hb.size keep).snoc x cq (hq.keep hb.size fun b _ _ => keep b)).mono fun _ _ _ => trivial).at hr.any

theorem sch_rels {w : World} {R : Nat → Prop} {S : Sch} {A1 : Option Addr} {c1 : Nat} {A2 : Option Addr} {c2 : Nat} {A3 : Option Addr} {c3 : Nat}
    (h : SchAt w R (.agg #[.slice A1 S.attrs.length c1, .slice A2 S.rels.length c2, .slice A3 S.feats.length c3, .int .i64 S.label]) S) : RelsAt w R A2 S.rels := by
  obtain ⟨B1, d1, B2, d2, B3, d3, e, _, _, _, h1, h2, h3⟩ := h
  simp at e
  obtain ⟨⟨rfl, rfl⟩, ⟨rfl, rfl⟩, rfl, rfl⟩ := e
  exact h2
theorem RelsAt.ext {w w' : World} {R : Nat → Prop} {A : Option Addr} {rs : List (ByteArray × List Int)} (h : RelsAt w R A rs) (hb : Below w.heap.size w w') : RelsAt w' R A rs := h.keep hb.size fun b _ hlt => hb.block b hlt
theorem rels_getD {ls : List (List Int)} {S : Sch} (hS : schOf ls = S) : ∀ k (hk : k < S.rels.length), ls.getD k [] = S.rels[k].2 := by
  subst hS
  intro k hk
  obtain ⟨hk', e⟩ := rels_get ls k hk
  rw [e]; simp [List.getD, hk']

theorem below_nil {w w' : World} (h : w.drew.grownBy w' (Value.slice none 0 0).ownBlock) : Below w.heap.size w w' := ⟨h.os, h.tape, h.output, h.size, fun k hk => h.block k hk (by simp [Value.ownBlock])⟩
theorem below_nil_alloc {w w' : World} {o : Obj} (h : (w.drew.alloc o).grownBy w' (Value.slice none 0 0).ownBlock) : Below w.heap.size w w' :=
  (((Below.refl w.heap.size w).drew.alloc (Nat.le_refl _) o)).trans ⟨h.os, h.tape, h.output, h.size, fun k hk => h.block k (by simp; omega) (by simp [Value.ownBlock])⟩

theorem repL_at {x z : Value} {n k : Nat} (h : k < n) : (repL x z n k)[k]? = some z := by
  unfold repL
  rw [List.getElem?_append_right (by simp)]
  simp [List.getElem?_replicate]; omega
theorem repL_set {x z : Value} {n k : Nat} (h : k < n) : (repL x z n k).set k x = repL x z n (k + 1) := by
  unfold repL
  rw [List.set_append_right _ _ (by simp), List.length_replicate, Nat.sub_self]
  obtain ⟨m, hm⟩ : ∃ m, n - k = m + 1 := ⟨n - k - 1, by omega⟩
  rw [hm, show n - (k + 1) = m by omega, List.replicate_succ, List.set_cons_zero, List.replicate_succ', List.append_assoc]
  rfl
theorem repL_full {x z : Value} {n : Nat} : repL x z n n = List.replicate n x := by simp [repL]

set_option maxRecDepth 100000 in
set_option maxHeartbeats 1000000 in
theorem twice_any (A : Option Addr) (c : Nat) (l : List Int) (q : Nat) (w : World) {R : Nat → Prop} (h : Row w R A (ints l)) (hl : l.length ≤ 9223372036854775807) (hc : l.length ≤ c) (hq : q < 256) :
    Calls Try.prog 3 #[.slice A l.length c, .int .u8 q] w fun e w' => e = .returned (.bool true) ∧ Below w.heap.size w w' := by
  by_cases hbig : 300 < l.length
  · go_enter Try.func3, Try.ntmps3
    go_wp2_with (
      go_at_call 8
      go_must (
        refine (sane_any _).mono ?_
        rintro e w1 ⟨rfl, hb1⟩))
    go_ret
    exact ⟨rfl, hb1⟩
  · have hd1 : decide (300 < (l.length : Int)) = false := by simp; omega
    go_enter Try.func3, Try.ntmps3
    go_wp2_with (first
      | (go_at_call 10
         go_must (
          refine (new_any A c l w h (by omega) hc).mono ?_
          rintro e w1 ⟨bs, rfl, hsrc, hbs, hb1⟩))
      | (go_at_call 9
         go_must (
          refine (relations_any bs l w1 hsrc).mono ?_
          rintro e w2 ⟨v, ls, r', rfl, hgood, hsch, hsrc2, hg2⟩
          have hb2 : Below w.heap.size w w2 := hb1.grown hg2 hb1.size (fun g e => by injection e with e; omega)
          have hsch0 := hsch
          obtain ⟨A1, c1, A2, c2, A3, c3, rfl, l1, l2, l3, h1, h2, h3⟩ := hsch
          clear h1 h3 l1 l2 l3 hsrc2 hsrc hg2 hb1)))
    have hn1 : 1 ≤ (schOf ls).rels.length := by rw [rels_len]; exact hgood.1
    have hn5 : (schOf ls).rels.length ≤ 5 := by rw [rels_len]; exact hgood.2.1
    have hsb := good_bd hgood
    have hnls := rels_len ls
    have HN := Lib.hid hnls
    generalize hS : schOf ls = S at *
    have HS := Lib.hid hS
    clear hS hnls hd1
    have hbx := (Blk.new w2 28 #[Value.slice A1 S.attrs.length c1, Value.slice A2 S.rels.length c2, Value.slice A3 S.feats.length c3, Value.int IntKind.i64 S.label]).alloc (.cells #[Value.slice A1 S.attrs.length c1, Value.slice A2 S.rels.length c2, Value.slice A3 S.feats.length c3, Value.int IntKind.i64 S.label] 28)
    have hby := Blk.new (w2.alloc (.cells #[Value.slice A1 S.attrs.length c1, Value.slice A2 S.rels.length c2, Value.slice A3 S.feats.length c3, Value.int IntKind.i64 S.label] 28)) 28 #[Value.slice A1 S.attrs.length c1, Value.slice A2 S.rels.length c2, Value.slice A3 S.feats.length c3, Value.int IntKind.i64 S.label]
    rw [World.size_alloc] at hby
    have hb3 : Below w2.heap.size w2 ((w2.alloc (.cells #[Value.slice A1 S.attrs.length c1, Value.slice A2 S.rels.length c2, Value.slice A3 S.feats.length c3, Value.int IntKind.i64 S.label] 28)).alloc (.cells #[Value.slice A1 S.attrs.length c1, Value.slice A2 S.rels.length c2, Value.slice A3 S.feats.length c3, Value.int IntKind.i64 S.label] 28)) := ((Below.refl _ _).alloc (Nat.le_refl _) _).alloc (by simp) _
    have hs3 := (hsch0.mono (R' := (· < w2.heap.size)) fun b hb _ => hb).ext hb3
    have hr3 := (h2.mono (R' := (· < w2.heap.size)) fun b hb _ => hb).keep hb3.size fun b _ hlt => hb3.block b hlt
    have hsz3 : ((w2.alloc (.cells #[Value.slice A1 S.attrs.length c1, Value.slice A2 S.rels.length c2, Value.slice A3 S.feats.length c3, Value.int IntKind.i64 S.label] 28)).alloc (.cells #[Value.slice A1 S.attrs.length c1, Value.slice A2 S.rels.length c2, Value.slice A3 S.feats.length c3, Value.int IntKind.i64 S.label] 28)).heap.size = w2.heap.size + 2 := by simp
    generalize ((w2.alloc (Obj.cells #[Value.slice A1 S.attrs.length c1, Value.slice A2 S.rels.length c2, Value.slice A3 S.feats.length c3, Value.int IntKind.i64 S.label] 28)).alloc (Obj.cells #[Value.slice A1 S.attrs.length c1, Value.slice A2 S.rels.length c2, Value.slice A3 S.feats.length c3, Value.int IntKind.i64 S.label] 28)) = w3 at *
    have hqn : q % S.rels.length < S.rels.length := Nat.mod_lt _ hn1
    have hm1 : ((q : Int)).tmod (S.rels.length : Int) = ((q % S.rels.length : Nat) : Int) := by rw [Int.tmod_eq_emod_of_nonneg (by omega)]; rfl
    have hm2 : ((q : Int)) % (S.rels.length : Int) = ((q % S.rels.length : Nat) : Int) := rfl
    generalize q % S.rels.length = qi at *
    obtain ⟨b, off, Aq, cq, rfl, _, hbb, hk1, hk2, hrowq⟩ := hr3.at_ hqn
    have x1 := hbx.cell 1
    simp at x1
    have hz0 : ((S.rels.length : Int) == 0) = false := beq0f hn1
    have i1 : (0 : Int) ≤ (qi : Int) := by omega
    have i2 : (qi : Int) < (S.rels.length : Int) := by omega
    have HBX := Lib.hid hbx
    have HBY := Lib.hid hby
    have HSZ := Lib.hid hsz3
    have hwq : IntKind.i64.wrap (q : Int) = (q : Int) := IntWalk.i64_in _ (by omega)
    have hrn : ¬ S.rels = [] := fun e => by rw [e] at hn1; simp at hn1
    have ea1 : w2.heap.size < w3.heap.size := by omega
    clear hbx hby hsz3 h2 hsch0 h
    go_region
    go_upto_region 8 with fail
    have hw4 : Below w3.heap.size w3 ((w3.alloc (Obj.cells #[Value.string againB, Value.slice Aq S.rels[qi].2.length cq] 33)).drew) := ((Below.refl _ _).alloc (Nat.le_refl _) _).drew
    have hba : Blk ((w3.alloc (Obj.cells #[Value.string againB, Value.slice Aq S.rels[qi].2.length cq] 33)).drew) w3.heap.size 33 #[Value.string againB, Value.slice Aq S.rels[qi].2.length cq] := Blk.new _ _ _
    have hsz4 : ((w3.alloc (Obj.cells #[Value.string againB, Value.slice Aq S.rels[qi].2.length cq] 33)).drew).heap.size = w3.heap.size + 1 := by simp
    change Code.wp _ _ _ _ ((w3.alloc (Obj.cells #[Value.string againB, Value.slice Aq S.rels[qi].2.length cq] 33)).drew)
    generalize (w3.alloc (Obj.cells #[Value.string againB, Value.slice Aq S.rels[qi].2.length cq] 33)).drew = w4 at *
    have HBX4 := Lib.hid (HBX.out.ext hw4)
    have HBY4 := Lib.hid (HBY.out.ext hw4)
    have hs4 := hs3.ext hw4
    obtain ⟨vs, hvrow, hvv⟩ := relsV_of (hr3.keep hw4.size fun b _ hlt => hw4.block b hlt)
    have hrowq4 := hrowq.ext hw4
    have hvl : vs.length = S.rels.length * 2 := hvv.1
    have HVL := Lib.hid hvl
    have HONE := Lib.hid hvv.one
    have HSZ4 := Lib.hid hsz4
    have a0 := hba.cell 0
    have a1 := hba.cell 1
    have y1 := HBY4.out.cell 1
    have yf := HBY4.out.frozen 1
    have x1 := HBX4.out.cell 1
    simp at a0 a1 y1 x1
    have z1 : w2.heap.size < w4.heap.size := by have := HSZ.out; omega
    have z2 : w2.heap.size + 1 < w4.heap.size := by have := HSZ.out; omega
    have z3 : w3.heap.size < w4.heap.size := by omega
    have HBA := Lib.hid hba
    clear hk1 hk2 hr3 hs3 hrowq HBX HBY hsz4 hvl hba ea1 hm1 hm2 hwq
    go_cut [48] (fun _ wx => ∃ (A9 : Option Addr) (c9 : Nat), Blk wx w2.heap.size 28 #[Value.slice A1 S.attrs.length c1, Value.slice (some ⟨b, off, none⟩) S.rels.length c2, Value.slice A3 S.feats.length c3, Value.int IntKind.i64 S.label] ∧
      Blk wx (w2.heap.size + 1) 28 #[Value.slice A1 S.attrs.length c1, Value.slice A9 (S.rels.length + 1) c9, Value.slice A3 S.feats.length c3, Value.int IntKind.i64 S.label] ∧
      Row wx (w4.heap.size ≤ ·) A9 (vs ++ [Value.string againB, Value.slice Aq S.rels[qi].2.length cq]) ∧ S.rels.length + 1 ≤ c9 ∧ Below (w2.heap.size + 1) w4 wx)
    case first =>
      go_region_law (first
        | (refine step_appS rfl (.const (.slice none 0 0)) (.tmp 44) 25 rfl w4.heap.size 33 _ 2 40 Try.underlying25 Try.infoRel rfl (by decide) (by decide) (.slice none 0 0) 0 S.rels.length c2 (some ⟨b, off, none⟩) [] vs rfl (by simp [Act.eval]) (World.ownsRow_nil _ _ _ _) (R := (· < w2.heap.size)) (by first | exact hvrow | exact hvrow.alloc _) HVL.out HONE.out (by omega) (by simp) ?_
           intro A5 c5 w5 hown5 hg5 hat5
           have hb5 : Below w4.heap.size w4 w5 := (by first | exact below_nil hg5 | exact below_nil_alloc hg5)
           have a0' : w5.cell? ⟨w3.heap.size, 0, none⟩ = some (.string againB) := by rw [hb5.cell (p := ⟨w3.heap.size, 0, none⟩) z3]; exact a0
           have a1' : w5.cell? ⟨w3.heap.size, 1, none⟩ = some (.slice Aq S.rels[qi].2.length cq) := by rw [hb5.cell (p := ⟨w3.heap.size, 1, none⟩) z3]; exact a1
           have hs5 := hb5.size)
        | (refine step_appS rfl (.tmp 45) (.tmp 47) 25 rfl w4.heap.size 33 _ 2 40 Try.underlying25 Try.infoRel rfl (by decide) (by decide) (.slice A5 (0 + S.rels.length) c5) (0 + S.rels.length) 1 1 (some ⟨w5.heap.size, 0, none⟩) ([] ++ vs) [Value.string againB, Value.slice Aq S.rels[qi].2.length cq] (by simp [Act.eval]) (by simp [Act.eval]) (hown5.alloc _) (by exact row_new w5 _ _) rfl (by simp; exact ⟨rfl, rfl⟩) (by omega) (by simp; omega) ?_
           intro A6 c6 w6 hown6 hg6 hat6
           have hb6 : Below w4.heap.size w4 w6 := (hb5.alloc hb5.size _).grown hg6 (by simp; omega) (fun g e => (hown5.lt g e).1)
           have y1' : w6.cell? ⟨w2.heap.size + 1, 1, none⟩ = some (Value.slice (some ⟨b, off, none⟩) S.rels.length c2) := by rw [hb6.cell (p := ⟨w2.heap.size + 1, 1, none⟩) z2]; exact y1
           have hown7 : w6.ownsRow w4.heap.size 33 2 (.slice A6 (S.rels.length + 1) c6) (S.rels.length + 1) (vs ++ [Value.string againB, Value.slice Aq S.rels[qi].2.length cq]) := by simpa using hown6
           have yf' : w6.frozen? ⟨w2.heap.size + 1, 1, none⟩ = false := by rw [hb6.frozen (p := ⟨w2.heap.size + 1, 1, none⟩) z2]; exact yf)
        | (refine step_appS rfl (.tmp 45) (.tmp 47) 25 rfl w4.heap.size 33 _ 2 40 Try.underlying25 Try.infoRel rfl (by decide) (by decide) (.slice A5 (0 + S.rels.length) c5) (0 + S.rels.length) 1 1 (some ⟨w4.heap.size, 0, none⟩) ([] ++ vs) [Value.string againB, Value.slice Aq S.rels[qi].2.length cq] (by simp [Act.eval]) (by simp [Act.eval]) hown5 (by exact (row_new w4.drew _ _).grown hg5 (fun b _ _ => by simp [Value.ownBlock])) rfl (by simp; exact ⟨rfl, rfl⟩) (by omega) (by omega) ?_
           intro A6 c6 w6 hown6 hg6 hat6
           have hb6 : Below w4.heap.size w4 w6 := hb5.grown hg6 hb5.size (fun g e => (hown5.lt g e).1)
           have y1' : w6.cell? ⟨w2.heap.size + 1, 1, none⟩ = some (Value.slice (some ⟨b, off, none⟩) S.rels.length c2) := by rw [hb6.cell (p := ⟨w2.heap.size + 1, 1, none⟩) z2]; exact y1
           have hown7 : w6.ownsRow w4.heap.size 33 2 (.slice A6 (S.rels.length + 1) c6) (S.rels.length + 1) (vs ++ [Value.string againB, Value.slice Aq S.rels[qi].2.length cq]) := by simpa using hown6
           have yf' : w6.frozen? ⟨w2.heap.size + 1, 1, none⟩ = false := by rw [hb6.frozen (p := ⟨w2.heap.size + 1, 1, none⟩) z2]; exact yf))
      all_goals
        go_wp2_with fail
        go_meet
        obtain ⟨_, _, hsl, hcl, _⟩ := own_slice hown7
        injection hsl with _ _ hsl
        refine ⟨A6, c6, (HBX4.out.ext hb6).far (by simp) _, (HBY4.out.ext hb6).set 1 _, ?_, by omega, (hb6.mono (by omega)).setCell (by simp) _⟩
        exact ((Row.of_own hown7).mono (R' := (w4.heap.size ≤ ·)) fun b _ hb => hb.1).setCell (fun b hb => by simp; omega) _
    case rest =>
      obtain ⟨A9, c9, hbx, hby, hrow9, hc9, hbel9⟩ := hcut
      have hsx := hs4.keep hbel9.size fun b hb _ => hbel9.block b (by omega)
      have hqi : qi < ls.length := by rw [← HN.out]; exact hqn
      have htw : twiceS ls qi = { S with rels := S.rels ++ [(againB, S.rels[qi].2)] } := by
        have hS := HS.out
        subst hS
        exact twice_eq hqn
      have hsy := sch_more hs4 hvv hrowq4 (againB, S.rels[qi].2) rfl hbel9 hrow9 hc9
      rw [← htw] at hsy
      have hbdy := twice_bd hgood hqi
      have hcore := twice_core hgood hqi
      have hsmall : S.rels.length ≤ 2 → (corS S).length = 1 := fun hle => by
        have hS := HS.out
        subst hS
        exact small_core hgood (by rw [← rels_len]; exact hle)
      rw [HS.out] at hcore
      have htl : (twiceS ls qi).attrs.length = S.attrs.length ∧ (twiceS ls qi).rels.length = S.rels.length + 1 ∧ (twiceS ls qi).feats.length = S.feats.length ∧ (twiceS ls qi).label = S.label := by
        rw [htw]; simp
      have hbx0 := hbx
      have x0 := hbx.cell 0
      have x1 := hbx.cell 1
      have x2 := hbx.cell 2
      have x3 := hbx.cell 3
      have y0 := hby.cell 0
      have y1 := hby.cell 1
      have y2 := hby.cell 2
      have y3 := hby.cell 3
      simp at x0 x1 x2 x3 y0 y1 y2 y3
      have hylt := hby.lt
      have ct1 := reduceE_any _ S wc hsx hsb
      have ct2 := fun (W : World) (hW : Below wc.heap.size wc W) => reduceE_any _ (twiceS ls qi) W (hsy.ext hW) hbdy
      rw [← hcore] at ct2
      have CT1 := Lib.hid ct1
      have CT2 := Lib.hid ct2
      have HSM := Lib.hid hsmall
      have HBX9 := Lib.hid hbx
      have HBY9 := Lib.hid hby
      have hb09 : Below w.heap.size w wc := (hb2.trans ((hb3.mono (by have := hb2.size; omega)).trans (hw4.mono (by have := hb2.size; have := hb3.size; omega)))).trans (hbel9.mono (by have := hb2.size; omega))
      clear ct1 ct2 hcore hsmall hbx hby htw htl hrow9 hs4 hvv hrowq4 hvrow HBX4 HBY4 hw4 hb3 a0 a1 yf HBA HONE HVL hbel9 hsy hc9 hbx0
      have hcb : (((corS S).length : Int) != ((corS S).length : Int)) = false := by simp
      generalize hCX : (corS S).length = cx at *
      clear hCX
      have hcase : (S.rels.length ≤ 2 ∧ ((cx : Int) != 1) = false) ∨ 3 ≤ S.rels.length := by
        by_cases e : S.rels.length ≤ 2
        · exact .inl ⟨e, by rw [HSM.out e]; rfl⟩
        · exact .inr (by omega)
      clear HSM
      obtain ⟨ib, hib, hzb0, hzb1, hzb2⟩ := info_parts Try.infoBool
      rcases hcase with ⟨hsm1, hsm2⟩ | hsm1
      all_goals
        go_wp2_with (first
          | (go_at_call 11
             with_reducible refine CT1.out.mono ?_
             rintro e w7 ⟨Ao, co, Ac, cc, rfl, hro, hrc, hb7⟩
             have y0' : w7.cell? ⟨w2.heap.size + 1, 0, none⟩ = _ := (hb7.cell (p := ⟨w2.heap.size + 1, 0, none⟩) hylt).trans y0
             have y1' : w7.cell? ⟨w2.heap.size + 1, 1, none⟩ = _ := (hb7.cell (p := ⟨w2.heap.size + 1, 1, none⟩) hylt).trans y1
             have y2' : w7.cell? ⟨w2.heap.size + 1, 2, none⟩ = _ := (hb7.cell (p := ⟨w2.heap.size + 1, 2, none⟩) hylt).trans y2
             have y3' : w7.cell? ⟨w2.heap.size + 1, 3, none⟩ = _ := (hb7.cell (p := ⟨w2.heap.size + 1, 3, none⟩) hylt).trans y3
             clear x0 x1 x2 x3 y0 y1 y2 y3 hro hrc)
          | (go_at_call 11
             go_must (
              refine (CT2.out w7 hb7).mono ?_
              rintro e w8 ⟨Ao', co', Ac', cc', rfl, hro', hrc', hb8⟩
              clear hro' hrc'
              have HBX8 := Lib.hid (HBX9.out.ext (ext_trans hb7 hb8))
              have hs8 := hsx.ext (ext_trans hb7 hb8)
              have hb08 := ext_trans hb09 (ext_trans hb7 hb8)
              clear y0' y1' y2' y3'))
          | (at_make
             go_must (
              refine wpList_make_full _ rfl _ _ 36 rfl w8.heap.size 4 ib (.bool false) 1 Try.underlying36 hib hzb0 hzb1 _ _ _ _ S.rels.length rfl rfl rfl rfl (by rw [hzb2]; omega) (by simp [maxLen]; omega) (by simp) ?_
              intro w9 hown9 hg9
              rw [made_one (.bool false) rfl] at hown9
              have hown9' : w9.ownsRow w8.heap.size 4 1 (.slice (some ⟨w8.heap.size, 0, none⟩) S.rels.length S.rels.length) S.rels.length (repL (.bool true) (.bool false) S.rels.length 0) := hown9
              have hb9 := ext_of_grown hg9
              clear hown9 hg9)))
        clear CT1 CT2 hsx HBX9 HBY9
        go_loopw [78] (fun i wr => ∃ k : Nat, k ≤ S.rels.length ∧ i = .int .i64 k ∧ wr.ownsRow w8.heap.size 4 1 (.slice (some ⟨w8.heap.size, 0, none⟩) S.rels.length S.rels.length) S.rels.length (repL (.bool true) (.bool false) S.rels.length k) ∧ Below w8.heap.size w8 wr) (fun i _ => S.rels.length - (intOf i).toNat)
        case atStart => exact ⟨0, Nat.zero_le _, rfl, hown9', hb9⟩
        case round =>
          clear hown9' hb9
          obtain ⟨k, hk, rfl, hown, hbel⟩ := hrel
          by_cases hlt : k < S.rels.length
          · have hci : wr.cell? ⟨w8.heap.size, k, none⟩ = some (.bool false) := by rw [hown.cellAt k (by omega)]; exact repL_at hlt
            have hfi := hown.frozenAt k
            have hst := hown.stored k (.bool true)
            have hrs := repL_set (x := Value.bool true) (z := Value.bool false) hlt
            have HRS := Lib.hid hrs
            clear hrs
            go_wp2
            exact ⟨⟨k + 1, by omega, by go_num, by rw [← HRS.out]; exact hst.1, hbel.setCell (by simp) _⟩, by simp [intOf]; omega⟩
          · obtain rfl : k = S.rels.length := by omega
            rw [repL_full] at hown
            have hrowA := Row.of_own hown
            have hd1 : decide (S.rels.length < S.rels.length) = false := by simp
            obtain ⟨wp, rfl⟩ : ∃ wp : World, wp = wr := ⟨_, rfl⟩
            go_wp2
            clear hd1
            go_loopw [87] (fun i wr => ∃ k : Nat, k ≤ S.rels.length ∧ i = .int .i64 k ∧ Below wp.heap.size wp wr) (fun i _ => S.rels.length - (intOf i).toNat)
            case atStart => exact ⟨0, Nat.zero_le _, rfl, Below.refl _ _⟩
            case round =>
              obtain ⟨i, hi, rfl, hbi⟩ := hrel
              have hbw := ext_trans (ext_trans hb08 hbel) hbi
              by_cases hil : i < S.rels.length
              · have hbxr := (HBX8.out.ext hbel).ext hbi
                have HBXR := Lib.hid hbxr
                have v0 := hbxr.cell 0
                have v1 := hbxr.cell 1
                have v2 := hbxr.cell 2
                have v3 := hbxr.cell 3
                simp at v0 v1 v2 v3
                have hrl := (sch_rels hs8).ext (ext_trans hbel hbi)
                have hrowB : Row wr (fun b => w8.heap.size ≤ b ∧ (Value.slice (some ⟨w8.heap.size, 0, none⟩) S.rels.length S.rels.length).ownBlock = some b) (some ⟨w8.heap.size, 0, none⟩) (bools (List.replicate S.rels.length true)) := by
                  rw [bools, List.map_replicate]; exact hrowA.ext hbi
                have ct := ear_any _ S (some ⟨w8.heap.size, 0, none⟩) S.rels.length (List.replicate S.rels.length true) (i : Int) wr (hs8.ext (ext_trans hbel hbi)) hsb hrowB
                rw [List.length_replicate] at ct
                clear hbxr hrowB
                cases he : earO S (List.replicate S.rels.length true) (i : Int) with
                | none =>
                  rw [he] at ct
                  have CT := Lib.hid ct
                  clear ct he
                  go_wp2_with (
                    go_at_call 12
                    go_must (
                      refine CT.out.mono ?_
                      rintro e w10 ⟨rfl, hb10⟩
                      simp only [optI, Option.isSome]))
                  exact ⟨⟨i + 1, by omega, by go_num, ext_trans hbi hb10⟩, by simp [intOf]; omega⟩
                | some wv =>
                  rw [he] at ct
                  have hgd : ∀ k (hk : k < S.rels.length), ls.getD k [] = S.rels[k].2 := rels_getD HS.out
                  have hsw : wv < S.rels.length ∧ wv ≠ i ∧ ∀ a ∈ ls.getD i [], shrTo ls i a S.rels.length = true → inB (ls.getD wv []) a = true := by
                    have hN := HN.out
                    have hS := HS.out
                    rw [hN] at he hil
                    rw [hN]
                    subst hS
                    exact shr_wit hgood hil he
                  have HGD := Lib.hid hgd
                  have HSW := Lib.hid hsw.2.2
                  have hwv := hsw.1
                  have hwi : ((wv : Int) == (i : Int)) = false := by have := hsw.2.1; simp; omega
                  have CT := Lib.hid ct
                  clear ct he hgd hsw
                  obtain ⟨b', off', Ai, ci, e', _, hbbi, hki1, hki2, hrowi⟩ := hrl.at_ hil
                  simp at e'
                  obtain ⟨rfl, rfl⟩ := e'
                  have hli := hsb.rl _ (List.getElem_mem hil)
                  go_wp2_with (
                    go_at_call 12
                    go_must (
                      refine CT.out.mono ?_
                      rintro e w10 ⟨rfl, hb10⟩
                      simp only [optI, Option.isSome]
                      have HBX10 := Lib.hid (HBXR.out.ext hb10)
                      have u1 := HBX10.out.cell 1
                      simp at u1
                      have hrl10 := hrl.ext hb10
                      have hki10 : w10.cell? ⟨b, off + i * 2 + 1, none⟩ = _ := (hb10.cell (p := ⟨b, off + i * 2 + 1, none⟩) hbbi).trans hki2
                      clear v0 v1 v2 v3))
                  go_loopw [106] (fun t wr => ∃ p : Nat, p ≤ S.rels[i].2.length ∧ t = .int .i64 p ∧ Below w10.heap.size w10 wr) (fun t _ => S.rels[i].2.length - (intOf t).toNat)
                  case atStart => exact ⟨0, Nat.zero_le _, rfl, Below.refl _ _⟩
                  case round =>
                    obtain ⟨p, hp, rfl, hbp⟩ := hrel
                    by_cases hpl : p < S.rels[i].2.length
                    · obtain ⟨b4, off4, rfl, hbb4, hcp⟩ := ((hrowi.ext hb10).ext hbp).int_at hpl
                      have hmem : S.rels[i].2[p] ∈ ls.getD i [] := by rw [HGD.out i hil]; exact List.getElem_mem hpl
                      have HIN := Lib.hid (HSW.out _ hmem)
                      have u1' : wr.cell? ⟨w2.heap.size, 1, none⟩ = _ := (hbp.cell (p := ⟨w2.heap.size, 1, none⟩) HBX10.out.lt).trans u1
                      generalize S.rels[i].2[p] = at0 at *
                      clear hmem u1
                      obtain ⟨wq, rfl⟩ : ∃ wq : World, wq = wr := ⟨_, rfl⟩
                      go_wp2_with fail
                      go_loopw [20, 113] (fun sh t wr => ∃ j : Nat, j ≤ S.rels.length ∧ t = .int .i64 j ∧ sh = .bool (shrTo ls i at0 j) ∧ Below wq.heap.size wq wr) (fun _ t _ => S.rels.length - (intOf t).toNat)
                      case atStart => exact ⟨0, Nat.zero_le _, rfl, rfl, Below.refl _ _⟩
                      case round =>
                        obtain ⟨j, hj, rfl, rfl, hbj⟩ := hrel
                        by_cases hjl : j < S.rels.length
                        · obtain ⟨b5, off5, Aj, cj, e5, _, hbb5, hkj1, hkj2, hrowj⟩ := (hrl10.ext (ext_trans hbp hbj)).at_ hjl
                          simp at e5
                          obtain ⟨rfl, rfl⟩ := e5
                          have hlj := hsb.rl _ (List.getElem_mem hjl)
                          have hss := shrTo_succ ls i at0 j
                          rw [HGD.out j hjl] at hss
                          have HSS := Lib.hid hss
                          clear hss
                          cases hsh : shrTo ls i at0 j
                          · rw [hsh] at HSS
                            cases hji : ((j : Int) != (i : Int))
                            · have hji2 : j = i := by simp at hji; omega
                              have HJI := Lib.hid hji2
                              clear hji2
                              go_wp2_with fail
                              exact ⟨⟨j + 1, by omega, by go_num, by rw [HSS.out]; simp [HJI.out], hbj.alloc hbj.size _⟩, by simp [intOf]; omega⟩
                            · have hji2 : j ≠ i := by simp at hji; omega
                              have HJI := Lib.hid hji2
                              have ctm := mkin_any Aj cj S.rels[j].2 at0 (wr.alloc (.cells #[.string S.rels[j].1, .slice Aj S.rels[j].2.length cj] 33)) (hrowj.alloc _) (by omega)
                              have CTM := Lib.hid ctm
                              clear hji2 ctm
                              go_wp2_with (
                                go_at_call 13
                                go_must (
                                  refine CTM.out.mono ?_
                                  rintro e w11 ⟨rfl, rfl⟩))
                              exact ⟨⟨j + 1, by omega, by go_num, by rw [HSS.out]; simp [HJI.out], hbj.alloc hbj.size _⟩, by simp [intOf]; omega⟩
                          · rw [hsh] at HSS
                            go_wp2_with fail
                            exact ⟨⟨j + 1, by omega, by go_num, by rw [HSS.out]; simp, hbj.alloc hbj.size _⟩, by simp [intOf]; omega⟩
                        · obtain rfl : j = S.rels.length := by omega
                          have hd3 : decide (S.rels.length < S.rels.length) = false := by simp
                          have u2 : wr.cell? ⟨w2.heap.size, 1, none⟩ = _ := (hbj.cell (p := ⟨w2.heap.size, 1, none⟩) (by have := HBX10.out.lt; have := hbp.size; show w2.heap.size < _; omega)).trans u1'
                          obtain ⟨b6, off6, Aw, cw, e6, _, hbb6, hkw1, hkw2, hroww⟩ := (hrl10.ext (ext_trans hbp hbj)).at_ hwv
                          simp at e6
                          obtain ⟨rfl, rfl⟩ := e6
                          have hlw := hsb.rl _ (List.getElem_mem hwv)
                          cases hsh : shrTo ls i at0 S.rels.length
                          · go_wp2_with fail
                            exact ⟨⟨p + 1, by omega, by go_num, ext_trans hbp hbj⟩, by simp [intOf]; omega⟩
                          · have hin := HIN.out hsh
                            rw [HGD.out wv hwv] at hin
                            have ctm := mkin_any Aw cw S.rels[wv].2 at0 wr hroww (by omega)
                            rw [hin] at ctm
                            have CTM := Lib.hid ctm
                            clear hin ctm
                            go_wp2_with (
                              go_at_call 13
                              go_must (
                                refine CTM.out.mono ?_
                                rintro e w11 ⟨rfl, rfl⟩))
                            exact ⟨⟨p + 1, by omega, by go_num, ext_trans hbp hbj⟩, by simp [intOf]; omega⟩
                    · have hd4 : decide (p < S.rels[i].2.length) = false := by simp; omega
                      go_wp2_with fail
                      exact ⟨⟨i + 1, by omega, by go_num, ext_trans hbi (ext_trans hb10 hbp)⟩, by simp [intOf]; omega⟩
              · go_wp2_with (
                  go_at_call 8
                  go_must (
                    refine (sane_any _).mono ?_
                    rintro e w10 ⟨rfl, hb10⟩))
                go_ret
                exact ⟨rfl, ext_trans hbw hb10⟩

end Go.Proofs.Ytopblgabadljdaa
