/-
  How a schema lies in memory, and the walk of sch, which makes one out of lists.
-/
import Derived.Test.YtopblgabadljdaaSrc
import Derived.Laws.BytesArg
namespace Go.Proofs.Ytopblgabadljdaa
open Go.RowKit

def attrCells (l : List (ByteArray × Int)) : List Value := l.flatMap fun a => [.string a.1, .int .i64 a.2]
def featCells (l : List (Int × Int × Int)) : List Value := l.flatMap fun a => [.int .i64 a.1, .int .i64 a.2.1, .int .i64 a.2.2]

/-- A list of lists of numbers. -/
def ListsAt (w : World) (R : Nat → Prop) (A : Option Addr) (ls : List (List Int)) : Prop :=
  ∃ vs : List Value, vs.length = ls.length ∧ Row w R A vs ∧
    ∀ k (hk : k < ls.length), ∃ (A' : Option Addr) (c' : Nat), vs[k]? = some (.slice A' ls[k].length c') ∧ Row w R A' (ints ls[k])

/-- The relations of a schema. -/
def RelsAt (w : World) (R : Nat → Prop) (A : Option Addr) (rs : List (ByteArray × List Int)) : Prop :=
  ∃ vs : List Value, vs.length = rs.length * 2 ∧ Row w R A vs ∧
    ∀ k (hk : k < rs.length), vs[k * 2]? = some (.string rs[k].1) ∧ ∃ (A' : Option Addr) (c' : Nat), vs[k * 2 + 1]? = some (.slice A' rs[k].2.length c') ∧ Row w R A' (ints rs[k].2)

def SchAt (w : World) (R : Nat → Prop) (v : Value) (S : Sch) : Prop :=
  ∃ (A1 : Option Addr) (c1 : Nat) (A2 : Option Addr) (c2 : Nat) (A3 : Option Addr) (c3 : Nat),
    v = .agg #[.slice A1 S.attrs.length c1, .slice A2 S.rels.length c2, .slice A3 S.feats.length c3, .int .i64 S.label] ∧
    S.attrs.length ≤ c1 ∧ S.rels.length ≤ c2 ∧ S.feats.length ≤ c3 ∧
    Row w R A1 (attrCells S.attrs) ∧ RelsAt w R A2 S.rels ∧ Row w R A3 (featCells S.feats)

section
variable {w w' : World} {R R' : Nat → Prop} {A : Option Addr}
theorem ListsAt.keep {ls : List (List Int)} (h : ListsAt w R A ls) (hs : w.heap.size ≤ w'.heap.size) (hk : ∀ b, R b → b < w.heap.size → w'.heap[b]? = w.heap[b]?) : ListsAt w' R A ls := by
  obtain ⟨vs, h1, h2, h3⟩ := h
  refine ⟨vs, h1, h2.keep hs fun b _ _ => hk b, fun k hk2 => ?_⟩
  obtain ⟨A', c', h4, h5⟩ := h3 k hk2
  exact ⟨A', c', h4, h5.keep hs fun b _ _ => hk b⟩
theorem ListsAt.mono {ls : List (List Int)} (h : ListsAt w R A ls) (hR : ∀ b, b < w.heap.size → R b → R' b) : ListsAt w R' A ls := by
  obtain ⟨vs, h1, h2, h3⟩ := h
  refine ⟨vs, h1, h2.mono hR, fun k hk2 => ?_⟩
  obtain ⟨A', c', h4, h5⟩ := h3 k hk2
  exact ⟨A', c', h4, h5.mono hR⟩
theorem RelsAt.keep {rs : List (ByteArray × List Int)} (h : RelsAt w R A rs) (hs : w.heap.size ≤ w'.heap.size) (hk : ∀ b, R b → b < w.heap.size → w'.heap[b]? = w.heap[b]?) : RelsAt w' R A rs := by
  obtain ⟨vs, h1, h2, h3⟩ := h
  refine ⟨vs, h1, h2.keep hs fun b _ _ => hk b, fun k hk2 => ?_⟩
  obtain ⟨h6, A', c', h4, h5⟩ := h3 k hk2
  exact ⟨h6, A', c', h4, h5.keep hs fun b _ _ => hk b⟩
theorem RelsAt.mono {rs : List (ByteArray × List Int)} (h : RelsAt w R A rs) (hR : ∀ b, b < w.heap.size → R b → R' b) : RelsAt w R' A rs := by
  obtain ⟨vs, h1, h2, h3⟩ := h
  refine ⟨vs, h1, h2.mono hR, fun k hk2 => ?_⟩
  obtain ⟨h6, A', c', h4, h5⟩ := h3 k hk2
  exact ⟨h6, A', c', h4, h5.mono hR⟩
theorem SchAt.keep {v : Value} {S : Sch} (h : SchAt w R v S) (hs : w.heap.size ≤ w'.heap.size) (hk : ∀ b, R b → b < w.heap.size → w'.heap[b]? = w.heap[b]?) : SchAt w' R v S := by
  obtain ⟨A1, c1, A2, c2, A3, c3, rfl, l1, l2, l3, h1, h2, h3⟩ := h
  exact ⟨A1, c1, A2, c2, A3, c3, rfl, l1, l2, l3, h1.keep hs fun b _ _ => hk b, h2.keep hs hk, h3.keep hs fun b _ _ => hk b⟩
theorem SchAt.mono {v : Value} {S : Sch} (h : SchAt w R v S) (hR : ∀ b, b < w.heap.size → R b → R' b) : SchAt w R' v S := by
  obtain ⟨A1, c1, A2, c2, A3, c3, rfl, l1, l2, l3, h1, h2, h3⟩ := h
  exact ⟨A1, c1, A2, c2, A3, c3, rfl, l1, l2, l3, h1.mono hR, h2.mono hR, h3.mono hR⟩
theorem SchAt.ext {v : Value} {S : Sch} (h : SchAt w R v S) (hb : Below w.heap.size w w') : SchAt w' R v S := h.keep hb.size fun b _ hlt => hb.block b hlt
theorem SchAt.grown {v : Value} {S : Sch} {row : Option Nat} (h : SchAt w R v S) (hg : w.grownBy w' row) (hne : ∀ b, R b → row ≠ some b) : SchAt w' R v S :=
  h.keep hg.size fun b hR hlt => hg.block b hlt fun e => hne b hR e.symm
theorem ListsAt.ext {ls : List (List Int)} (h : ListsAt w R A ls) (hb : Below w.heap.size w w') : ListsAt w' R A ls := h.keep hb.size fun b _ hlt => hb.block b hlt
theorem ListsAt.at_ {ls : List (List Int)} (h : ListsAt w R A ls) {k : Nat} (hk : k < ls.length) : ∃ b off A' c', A = some ⟨b, off, none⟩ ∧ R b ∧ b < w.heap.size ∧ w.cell? ⟨b, off + k, none⟩ = some (.slice A' ls[k].length c') ∧ Row w R A' (ints ls[k]) := by
  obtain ⟨vs, h1, h2, h3⟩ := h
  obtain ⟨b, off, rfl, hR, hb, hc⟩ := h2.at_ (k := k) (by omega)
  obtain ⟨A', c', h4, h5⟩ := h3 k hk
  exact ⟨b, off, A', c', rfl, hR, hb, by rw [hc k (by omega)]; exact h4, h5⟩
theorem RelsAt.at_ {rs : List (ByteArray × List Int)} (h : RelsAt w R A rs) {k : Nat} (hk : k < rs.length) : ∃ b off A' c', A = some ⟨b, off, none⟩ ∧ R b ∧ b < w.heap.size ∧
    w.cell? ⟨b, off + k * 2, none⟩ = some (.string rs[k].1) ∧ w.cell? ⟨b, off + k * 2 + 1, none⟩ = some (.slice A' rs[k].2.length c') ∧ Row w R A' (ints rs[k].2) := by
  obtain ⟨vs, h1, h2, h3⟩ := h
  obtain ⟨b, off, rfl, hR, hb, hc⟩ := h2.at_ (k := k * 2) (by omega)
  obtain ⟨h6, A', c', h4, h5⟩ := h3 k hk
  exact ⟨b, off, A', c', rfl, hR, hb, by rw [hc (k * 2) (by omega)]; exact h6, by rw [Nat.add_assoc, hc (k * 2 + 1) (by omega)]; exact h4, h5⟩
end

/-- A name of one letter behind a sign. -/
def chr (n : Int) : ByteArray := ⟨#[UInt8.ofNat n.toNat]⟩
def nm (p : UInt8) (i : Nat) : ByteArray := ⟨#[p]⟩ ++ chr (97 + i)
def mostOf (l : List Int) : Int := l.foldl max 0
def schOf (ls : List (List Int)) : Sch :=
  { attrs := (List.range ((mostOf ls.flatten).toNat + 1)).map fun i => (nm 97 i, 1), rels := ls.mapIdx fun i l => (nm 114 i, l), feats := [], label := -1 }

def relVals (vs : List Value) (k : Nat) : List Value := (List.range k).flatMap fun i => [.string (nm 114 i), vs.getD i undef]

theorem Try.infoRel : (Try.prog.info? 33).map (fun i => (i.zero, i.size, i.bytes)) = some (some (.agg #[.string ⟨#[]⟩, .slice none 0 0]), 2, 40) := by kernel_rfl
theorem Try.infoAttr : (Try.prog.info? 81).map (fun i => (i.zero, i.size, i.bytes)) = some (some (.agg #[.string ⟨#[]⟩, .int .i64 0]), 2, 24) := by kernel_rfl

theorem mostOf_snoc (l : List Int) (x : Int) : mostOf (l ++ [x]) = if mostOf l < x then x else mostOf l := by
  unfold mostOf
  rw [List.foldl_append]
  show max _ _ = _
  split <;> omega
theorem mostOf_bd (l : List Int) (n : Int) (h0 : 0 ≤ n) (h : ∀ a ∈ l, 0 ≤ a ∧ a ≤ n) : 0 ≤ mostOf l ∧ mostOf l ≤ n := by
  unfold mostOf
  have : ∀ (l : List Int) (m : Int), 0 ≤ m → m ≤ n → (∀ a ∈ l, 0 ≤ a ∧ a ≤ n) → 0 ≤ l.foldl max m ∧ l.foldl max m ≤ n := by
    intro l
    induction l with
    | nil => intro m h1 h2 _; exact ⟨h1, h2⟩
    | cons a l ih =>
      intro m h1 h2 h3
      have := h3 a (by simp)
      exact ih (max m a) (by omega) (by omega) (fun b hb => h3 b (by simp [hb]))
  exact this l 0 (by omega) h0 h

theorem conv1 (W : World) (n : Int) : (convert 86 9 (.slice (some ⟨W.heap.size, 0, none⟩) 1 1)).run Try.prog (W.alloc (.cells #[.int .u8 n] 5)) = .ok (.string (chr n)) (W.alloc (.cells #[.int .u8 n] 5)) := by
  have hc := (Blk.new W 5 #[.int .u8 n]).cell 0
  have hc' : ∀ i, i < 1 → (W.alloc (.cells #[.int .u8 n] 5)).cell? ⟨W.heap.size, 0 + i, none⟩ = some (.int .u8 ([n].getD i 0)) := by
    intro i hi
    obtain rfl : i = 0 := by omega
    rw [Nat.zero_add, hc]; rfl
  exact run_convert_bytes_arg (W.alloc (.cells #[.int .u8 n] 5)) 86 5 Try.underlying86 Try.underlying5 W.heap.size 0 1 1 [n] rfl hc' 9 Try.underlying9

theorem relVals_succ (vs : List Value) (k : Nat) : relVals vs (k + 1) = relVals vs k ++ [.string (nm 114 k), vs.getD k undef] := by simp [relVals, List.range_succ]

theorem relVals_len (vs : List Value) (k : Nat) : (relVals vs k).length = k * 2 := by
  induction k with
  | zero => rfl
  | succ k ih => rw [relVals_succ, List.length_append, ih]; simp; omega
theorem relVals_get (vs : List Value) (k i : Nat) (hi : i < k) : (relVals vs k)[i * 2]? = some (.string (nm 114 i)) ∧ (relVals vs k)[i * 2 + 1]? = some (vs.getD i undef) := by
  induction k with
  | zero => omega
  | succ k ih =>
    rw [relVals_succ]
    by_cases h : i < k
    · rw [List.getElem?_append_left (by rw [relVals_len]; omega), List.getElem?_append_left (by rw [relVals_len]; omega)]
      exact ih h
    · obtain rfl : i = k := by omega
      rw [List.getElem?_append_right (by rw [relVals_len]; omega), List.getElem?_append_right (by rw [relVals_len]; omega), relVals_len]
      simp [show i * 2 + 1 - i * 2 = 1 by omega]

theorem sch_done (ls : List (List Int)) (vs : List Value) (q k : Nat) (A1 : Option Addr) (c1 : Nat) (A2 : Option Addr) (c2 : Nat) (w W : World) (R : Nat → Prop)
    (hq : q = (mostOf ls.flatten).toNat + 1) (hk : k = ls.length) (hc1 : q ≤ c1) (hc2 : k ≤ c2)
    (hra : Row W (fun b => w.heap.size + 2 ≤ b ∧ (Value.slice A1 q c1).ownBlock = some b) A1 (attrCells ((List.range q).map fun i => (nm 97 i, 1))))
    (hrr : Row W (fun b => w.heap.size + 2 ≤ b ∧ (Value.slice A2 k c2).ownBlock = some b) A2 (relVals vs k))
    (hel : ∀ k (hk : k < ls.length), ∃ (A' : Option Addr) (c' : Nat), vs[k]? = some (.slice A' ls[k].length c') ∧ Row w R A' (ints ls[k])) (hb : Below w.heap.size w W) :
    SchAt W (fun b => R b ∨ w.heap.size ≤ b) (.agg #[.slice A1 q c1, .slice A2 k c2, .slice none 0 0, .int .i64 (-1)]) (schOf ls) := by
  subst hq hk
  refine ⟨A1, c1, A2, c2, none, 0, by simp [schOf], by simpa [schOf] using hc1, by simpa [schOf] using hc2, by simp [schOf], ?_, ?_, Row.nil⟩
  · exact hra.mono fun b _ hb => .inr (by omega)
  · refine ⟨relVals vs ls.length, by rw [relVals_len]; simp [schOf], hrr.mono fun b _ hb => .inr (by omega), fun i hi => ?_⟩
    have hi' : i < ls.length := by simpa [schOf] using hi
    obtain ⟨h1, h2⟩ := relVals_get vs ls.length i hi'
    obtain ⟨A', c', h3, h4⟩ := hel i hi'
    refine ⟨by simpa [schOf] using h1, A', c', ?_, ?_⟩
    · rw [h2, List.getD, h3]; simp [schOf]
    · simpa [schOf] using (h4.ext hb).mono (R' := fun b => R b ∨ w.heap.size ≤ b) fun b _ h => .inl h

set_option maxRecDepth 100000 in
set_option maxHeartbeats 400000 in
theorem sch_any (A : Option Addr) (c : Nat) (ls : List (List Int)) (w : World) {R : Nat → Prop} (h : ListsAt w R A ls) (hn : ls.length ≤ 6) (hl : ∀ l ∈ ls, l.length ≤ 100 ∧ ∀ a ∈ l, 0 ≤ a ∧ a ≤ 20) :
    Calls Try.prog 31 #[.slice A ls.length c] w fun e w' => ∃ v, e = .returned v ∧ SchAt w' (fun b => R b ∨ w.heap.size ≤ b) v (schOf ls) ∧ Below w.heap.size w w' := by
  have hcv := conv1
  have hkeep := h
  obtain ⟨vs, hvl, hrow, hel⟩ := h
  go_enter Try.func31, Try.ntmps31
  go_wp2
  go_loopw [4, 13] (fun m i wr => ∃ (k : Nat) (v : Value), k ≤ ls.length ∧ i = .int .i64 k ∧ m = .int .i64 (mostOf (ls.take k).flatten) ∧
      Blk wr w.heap.size 28 #[.slice none 0 0, .slice none 0 0, .slice none 0 0, .int .i64 0] ∧ Blk wr (w.heap.size + 1) 28 #[.slice none 0 0, v, .slice none 0 0, .int .i64 (-1)] ∧
      wr.ownsRow (w.heap.size + 2) 33 2 v k (relVals vs k) ∧ Below w.heap.size w wr) (fun _ i _ => ls.length - (intOf i).toNat)
  case atStart => 
    refine ⟨0, .slice none 0 0, Nat.zero_le _, rfl, rfl, (Blk.new _ _ _).alloc _, ?_, World.ownsRow_nil _ _ _ _, ?_⟩
    · have := Blk.new (w.alloc (Obj.cells #[Value.slice none 0 0, Value.slice none 0 0, Value.slice none 0 0, Value.int IntKind.i64 0] 28)) 28 #[Value.slice none 0 0, Value.slice none 0 0, Value.slice none 0 0, Value.int IntKind.i64 (-1)]
      simpa using this
    · exact ((Below.refl _ _).alloc (Nat.le_refl _) _).alloc (by simp) _
  case round =>
    obtain ⟨k, v, hk, rfl, rfl, hb0, hb1, hown, hbel⟩ := hrel
    by_cases hlt : k < ls.length
    · obtain ⟨b, off, A', c', rfl, hR, hb, hcell, hrowk⟩ := hkeep.at_ hlt
      have hcell' : wr.cell? ⟨b, off + k, none⟩ = some (.slice A' ls[k].length c') := by rw [hbel.cell (p := ⟨b, off + k, none⟩) hb]; exact hcell
      have hrowk' := hrowk.ext hbel
      have c1 := hb1.cell 1
      have f1 := hb1.frozen 1
      simp at c1
      have hvk : vs[k]? = some (.slice A' ls[k].length c') := by
        obtain ⟨b', off', e1, _, _, hc⟩ := hrow.at_ (k := k) (by omega)
        simp at e1
        rw [← hc k (by omega), ← e1.1, ← e1.2]; exact hcell
      have HVK := Lib.hid hvk
      clear hcell hkeep hrow hel hvk
      have HB0 := Lib.hid hb0
      have HB1 := Lib.hid hb1
      clear hb0 hb1
      have hne : ∀ g, g < w.heap.size + 2 → some g ≠ v.ownBlock := fun g hg e => by have := (hown.lt g e.symm).1; omega
      have hsz2 : w.heap.size + 2 ≤ wr.heap.size := by have := HB1.out.lt; omega
      go_wp2_with (
        at_builtin
        refine wpList_app (W := wr.alloc _) rfl _ _ 25 rfl (w.heap.size + 2) 33 _ 2 40 Try.underlying25 Try.infoRel rfl (by decide) (by decide) _ k 1 (relVals vs k) rfl rfl (by simp) (hown.alloc _) rfl (by simp; exact ⟨rfl, rfl⟩) (by omega) (by simp; omega) ?_
        intro Av cv w1 hown1 hg1 hat1
        have hb0' := ((HB0.out).alloc _).grown hg1 (hne _ (by omega))
        have hb1' := ((HB1.out).alloc _).grown hg1 (hne _ (by omega))
        have hbel1 : Below w.heap.size w w1 := (hbel.alloc hbel.size _).grown hg1 (by simp; omega) (fun g e => by have := (hown.lt g e).1; omega)
        have c1' := hb1'.cell 1
        have f1' := hb1'.frozen 1
        simp at c1'
        have HB0' := Lib.hid hb0'
        have HB1' := Lib.hid hb1'
        clear hb0' hb1' c1 f1 HB0 HB1 hcell' hrowk' hg1)
      obtain ⟨W, hW⟩ : ∃ W, W = w1.setCell ⟨w.heap.size + 1, 1, none⟩ (.slice Av (k + 1) cv) := ⟨_, rfl⟩
      rw [← hW]
      have hb0W : Blk W w.heap.size 28 #[.slice none 0 0, .slice none 0 0, .slice none 0 0, .int .i64 0] := by rw [hW]; exact HB0'.out.far (by simp) _
      have hb1W : Blk W (w.heap.size + 1) 28 #[.slice none 0 0, .slice Av (k + 1) cv, .slice none 0 0, .int .i64 (-1)] := by rw [hW]; exact HB1'.out.set 1 _
      have hownW : W.ownsRow (w.heap.size + 2) 33 2 (.slice Av (k + 1) cv) (k + 1) (relVals vs (k + 1)) := by
        rw [hW, relVals_succ]
        refine ownsRow_setCell_below ?_ (by simp) _
        have e : vs.getD k undef = .slice A' ls[k].length c' := by
          rw [List.getD, HVK.out]; rfl
        rw [e]; exact hown1
      have hbelW : Below w.heap.size w W := by rw [hW]; exact hbel1.setCell (by simp) _
      have hrowW := hrowk.ext hbelW
      have HB0W := Lib.hid hb0W
      have HB1W := Lib.hid hb1W
      have HOW := Lib.hid hownW
      clear hW hb0W hb1W hownW HB0' HB1' hown1 hown hat1 hbel1
      go_loop [4, 33] (fun m i => ∃ j : Nat, j ≤ ls[k].length ∧ i = .int .i64 j ∧ m = .int .i64 (mostOf ((ls.take k).flatten ++ ls[k].take j))) (fun _ i => ls[k].length - (intOf i).toNat)
      case atStart => exact ⟨0, Nat.zero_le _, rfl, by simp⟩
      case round =>
        obtain ⟨j, hj, rfl, rfl⟩ := hrel
        have hlk := hl ls[k] (List.getElem_mem hlt)
        by_cases hjl : j < ls[k].length
        · obtain ⟨b', off', rfl, _, hcj⟩ := hrowW.int_at hjl
          have hlj := hlk.1
          clear hlk hl
          go_wp2
          refine ⟨⟨j + 1, by omega, by go_num, ?_⟩, by simp [intOf]; omega⟩
          rw [List.take_succ_eq_append_getElem hjl, ← List.append_assoc, mostOf_snoc]
        · clear hlk
          go_wp2
          refine ⟨⟨k + 1, _, by omega, by go_num, ?_, HB0W.out, HB1W.out, HOW.out, hbelW⟩, by simp [intOf]; omega⟩
          rw [List.take_of_length_le (l := ls[k]) (i := j) (by omega), List.take_succ_eq_append_getElem hlt, List.flatten_append, List.flatten_cons, List.flatten_nil, List.append_nil]
    · have hkl : k = ls.length := by omega
      have hmb : mostOf (ls.take k).flatten = mostOf ls.flatten := by rw [List.take_of_length_le (by omega)]
      rw [hmb]
      have hm1 := mostOf_bd ls.flatten 20 (by omega) (fun a ha => by
        obtain ⟨l, hl1, hl2⟩ := List.mem_flatten.1 ha
        exact (hl l hl1).2 a hl2)
      clear hmb
      obtain ⟨A2, c2, rfl, hc2, _⟩ := own_slice hown
      have hown' : wr.ownsRow (w.heap.size + 2) 33 2 (.slice A2 k c2) k (relVals vs k) := hown
      generalize hM : mostOf ls.flatten = M at *
      have HM := Lib.hid hM
      have HB0 := Lib.hid hb0
      have HB1 := Lib.hid hb1
      have HEL := Lib.hid hel
      have HKL := Lib.hid hkl
      clear hM hb0 hb1 hkl hrow hel hkeep
      obtain ⟨wo, rfl⟩ : ∃ wo : World, wo = wr := ⟨_, rfl⟩
      go_wp2
      go_loopw [9] (fun i wr => ∃ (q : Nat) (v : Value), (q : Int) ≤ M + 1 ∧ i = .int .i64 q ∧
          Blk wr w.heap.size 28 #[.slice none 0 0, .slice none 0 0, .slice none 0 0, .int .i64 0] ∧ Blk wr (w.heap.size + 1) 28 #[v, .slice A2 k c2, .slice none 0 0, .int .i64 (-1)] ∧
          wr.ownsRow (w.heap.size + 2) 33 2 (.slice A2 k c2) k (relVals vs k) ∧ wr.ownsRow (w.heap.size + 2) 81 2 v q (attrCells ((List.range q).map fun i => (nm 97 i, 1))) ∧ Below w.heap.size w wr) (fun i _ => (M + 1).toNat - (intOf i).toNat)
      case atStart => exact ⟨0, .slice none 0 0, by omega, rfl, HB0.out, HB1.out, hown', World.ownsRow_nil _ _ _ _, hbel⟩
      case round =>
        obtain ⟨q, v, hq, rfl, hb0, hb1, hownr, howna, hbelq⟩ := hrel
        have c0 := hb1.cell 0
        have f0 := hb1.frozen 0
        simp at c0
        by_cases hqlt : (q : Int) ≤ M
        · have hne : ∀ g, g < w.heap.size + 2 → some g ≠ v.ownBlock := fun g hg e => by have := (howna.lt g e.symm).1; omega
          have hsz2 : w.heap.size + 2 ≤ wr.heap.size := by have := hb1.lt; omega
          clear HB0 HB1
          have HB0 := Lib.hid hb0
          have HB1 := Lib.hid hb1
          clear hb0 hb1
          go_wp2_with (
            at_builtin
            go_must (
              refine wpList_app (W := wr.alloc _) rfl _ _ 24 rfl (w.heap.size + 2) 81 _ 2 24 Try.underlying24 Try.infoAttr rfl (by decide) (by decide) _ q 1 (attrCells ((List.range q).map fun i => (nm 97 i, 1))) rfl rfl (by simp) (howna.alloc _) rfl (by simp; exact ⟨rfl, rfl⟩) (by omega) (by simp; omega) ?_
              intro Av cv w1 hown1 hg1 hat1
              have hb0' := ((HB0.out).alloc _).grown hg1 (hne _ (by omega))
              have hb1' := ((HB1.out).alloc _).grown hg1 (hne _ (by omega))
              have hownr' := (hownr.alloc _).kept hg1 (own_ne_own hownr howna (by decide))
              have hbel1 : Below w.heap.size w w1 := (hbelq.alloc hbelq.size _).grown hg1 (by simp; omega) (fun g e => by have := (howna.lt g e).1; omega)
              have c1' := hb1'.cell 0
              have f1' := hb1'.frozen 0
              simp at c1'
              have HB0' := Lib.hid hb0'
              have HB1' := Lib.hid hb1'
              clear hb0' hb1' c0 f0 HB0 HB1 hg1))
          refine ⟨⟨q + 1, .slice Av (q + 1) cv, by omega, by go_num, HB0'.out.far (by simp) _, ?_, ownsRow_setCell_below hownr' (by simp) _, ownsRow_setCell_below ?_ (by simp) _, hbel1.setCell (by simp) _⟩, by simp [intOf]; omega⟩
          · exact HB1'.out.set 0 _
          · rw [List.range_succ]; simpa [attrCells, nm] using hown1
        · obtain ⟨A1, c1, rfl, hc1, _⟩ := own_slice howna
          have hqM : q = M.toNat + 1 := by omega
          have HQ := Lib.hid hqM
          clear hqM f0 c0
          have p0 := hb1.cell 0
          have p1 := hb1.cell 1
          have p2 := hb1.cell 2
          have p3 := hb1.cell 3
          have q0 := hb0.cell 0
          have q1 := hb0.cell 1
          have q2 := hb0.cell 2
          have q3 := hb0.cell 3
          have z0 := hb0.frozen 0
          have z1 := hb0.frozen 1
          have z2 := hb0.frozen 2
          have z3 := hb0.frozen 3
          simp at p0 p1 p2 p3 q0 q1 q2 q3
          clear HB0 HB1 hcv hl
          have HB0 := Lib.hid hb0
          have HB1 := Lib.hid hb1
          clear hb0 hb1
          go_wp2
          refine bodyPost_ret (v := .agg #[.slice A1 q c1, .slice A2 k c2, .slice none 0 0, .int .i64 (-1)]) (by simp [results, Try.results31, go_sem, q0, q1, q2, q3]) rfl ?_
          have hb4 : Below w.heap.size w ((((wr.setCell ⟨w.heap.size, 0, none⟩ (.slice A1 q c1)).setCell ⟨w.heap.size, 1, none⟩ (.slice A2 k c2)).setCell ⟨w.heap.size, 2, none⟩ (.slice none 0 0)).setCell ⟨w.heap.size, 3, none⟩ (.int .i64 (-1))) :=
            (((hbelq.setCell (by simp) _).setCell (by simp) _).setCell (by simp) _).setCell (by simp) _
          refine ⟨_, rfl, ?_, hb4⟩
          have hra := Row.of_own (ownsRow_setCell_below (ownsRow_setCell_below (ownsRow_setCell_below (ownsRow_setCell_below howna (a := ⟨w.heap.size, 0, none⟩) (by simp) (.slice A1 q c1)) (a := ⟨w.heap.size, 1, none⟩) (by simp) (.slice A2 k c2)) (a := ⟨w.heap.size, 2, none⟩) (by simp) (.slice none 0 0)) (a := ⟨w.heap.size, 3, none⟩) (by simp) (.int .i64 (-1)))
          have hrr := Row.of_own (ownsRow_setCell_below (ownsRow_setCell_below (ownsRow_setCell_below (ownsRow_setCell_below hownr (a := ⟨w.heap.size, 0, none⟩) (by simp) (.slice A1 q c1)) (a := ⟨w.heap.size, 1, none⟩) (by simp) (.slice A2 k c2)) (a := ⟨w.heap.size, 2, none⟩) (by simp) (.slice none 0 0)) (a := ⟨w.heap.size, 3, none⟩) (by simp) (.int .i64 (-1)))
          exact sch_done ls vs q k A1 c1 A2 c2 w _ R (by rw [HQ.out, HM.out]) HKL.out (by omega) hc2 hra hrr HEL.out hb4

end Go.Proofs.Ytopblgabadljdaa
