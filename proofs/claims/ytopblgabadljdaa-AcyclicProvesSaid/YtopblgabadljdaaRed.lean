/-
  The walk of acyclic.reduce, and of Ear, Reduce, Tree, Acyclic.
-/
import Derived.Test.YtopblgabadljdaaRep
namespace Go.Proofs.Ytopblgabadljdaa
open Go.RowKit

def earAt (rs : List (ByteArray × List Int)) (inn : List Bool) (i : Nat) : Bool := inn.getD i false && (witI rs inn i).isSome
def earI (rs : List (ByteArray × List Int)) (inn : List Bool) : Option Nat := (List.range rs.length).find? (earAt rs inn)

/-- The state of a reduction: which relations are left, the witnesses, the order. -/
structure Red where
  inn : List Bool
  wit : List Int
  ord : List Int
def Red.next (rs : List (ByteArray × List Int)) (s : Red) : Red :=
  match earI rs s.inn with
  | none => s
  | some i => ⟨s.inn.set i false, s.wit.set i (optI (witI rs s.inn i)), s.ord ++ [(i : Int)]⟩
def redTo (rs : List (ByteArray × List Int)) : Nat → Red
  | 0 => ⟨List.replicate rs.length true, List.replicate rs.length (-1), []⟩
  | j + 1 => (redTo rs j).next rs
def coreTo (inn : List Bool) (k : Nat) : List Int := ((List.range k).filter fun i => inn.getD i false).map Int.ofNat
/-- What reduce returns. -/
def redS (rs : List (ByteArray × List Int)) : Red := redTo rs rs.length
def coreS (rs : List (ByteArray × List Int)) : List Int := coreTo (redS rs).inn rs.length

theorem redTo_len (rs : List (ByteArray × List Int)) (j : Nat) : (redTo rs j).inn.length = rs.length ∧ (redTo rs j).wit.length = rs.length := by
  induction j with
  | zero => simp [redTo]
  | succ j ih =>
    simp only [redTo, Red.next]
    split
    · exact ih
    · simpa using ih
/-- After an end the state stays. -/
theorem redTo_stop (rs : List (ByteArray × List Int)) (j : Nat) (h : earI rs (redTo rs j).inn = none) (k : Nat) (hk : j ≤ k) : redTo rs k = redTo rs j := by
  induction k with
  | zero => have : j = 0 := by omega
            subst this; rfl
  | succ k ih =>
    by_cases e : j = k + 1
    · rw [e]
    · have e1 := ih (by omega)
      simp only [redTo]
      rw [e1]
      simp only [Red.next, h]
theorem trues_set (l : List Bool) (i : Nat) (h : l.getD i false = true) : (l.set i false).count true + 1 = l.count true := by
  induction l generalizing i with
  | nil => simp at h
  | cons a l ih =>
    cases i with
    | zero => simp at h; subst h; simp
    | succ i =>
      have := ih i (by simpa using h)
      simp only [List.set_cons_succ, List.count_cons]
      omega
theorem earI_some {rs : List (ByteArray × List Int)} {inn : List Bool} {i : Nat} (h : earI rs inn = some i) : i < rs.length ∧ earAt rs inn i = true ∧ ∀ j, j < i → earAt rs inn j = false := by
  unfold earI at h
  rw [List.find?_range_eq_some] at h
  exact ⟨by simpa using h.2.1, h.1, fun j hj => by simpa using h.2.2 j hj⟩
theorem redTo_count (rs : List (ByteArray × List Int)) (j : Nat) : (redTo rs j).inn.count true + (redTo rs j).ord.length = rs.length ∧ (redTo rs j).ord.length ≤ j := by
  induction j with
  | zero => simp [redTo]
  | succ j ih =>
    simp only [redTo, Red.next]
    split
    · exact ⟨ih.1, by omega⟩
    · rename_i i hi
      have h1 := (earI_some hi).2.1
      unfold earAt at h1
      have h2 := trues_set (redTo rs j).inn i (by simp at h1; simp [h1.1])
      simp only [List.length_append, List.length_cons, List.length_nil]
      omega
/-- Where the state did not end before, every step has removed one. -/
theorem redTo_ord (rs : List (ByteArray × List Int)) (j : Nat) (h : ∀ k, k < j → earI rs (redTo rs k).inn ≠ none) : (redTo rs j).ord.length = j := by
  induction j with
  | zero => rfl
  | succ j ih =>
    have h1 := ih fun k hk => h k (by omega)
    have h2 := h j (by omega)
    simp only [redTo, Red.next]
    split
    · rename_i he; exact absurd he h2
    · simp [h1]
theorem coreTo_succ (inn : List Bool) (k : Nat) : coreTo inn (k + 1) = if inn.getD k false = true then coreTo inn k ++ [(k : Int)] else coreTo inn k := by
  simp only [coreTo, List.range_succ, List.filter_append]
  split <;> simp_all
theorem coreTo_len (inn : List Bool) (k : Nat) : (coreTo inn k).length ≤ k := by
  unfold coreTo
  rw [List.length_map]
  exact Nat.le_trans (List.length_filter_le _ _) (by simp)

def sliceLen : Value → Nat | .slice _ n _ => n | _ => 0
def boolOf : Value → Bool | .bool b => b | _ => false

theorem own_addr {w : World} {base : Nat} {e : TypeId} {size n c : Nat} {A : Option Addr} {xs : List Value} (h : w.ownsRow base e size (.slice A n c) n xs) (hn : 1 ≤ n) : ∃ g, A = some ⟨g, 0, none⟩ ∧ base ≤ g ∧ g < w.heap.size := by
  rcases h.2 with ⟨_, h0⟩ | ⟨g, cap, cur, h', hb, hg, _⟩
  · omega
  · simp only [Value.slice.injEq] at h'
    exact ⟨g, h'.1, hb, (Array.getElem?_eq_some_iff.1 hg).1⟩
theorem redTo_next {rs : List (ByteArray × List Int)} {j i : Nat} (h : earI rs (redTo rs j).inn = some i) :
    redTo rs (j + 1) = ⟨(redTo rs j).inn.set i false, (redTo rs j).wit.set i (optI (witI rs (redTo rs j).inn i)), (redTo rs j).ord ++ [(i : Int)]⟩ := by
  simp only [redTo, Red.next, h]
theorem earI_at {rs : List (ByteArray × List Int)} {inn : List Bool} {i : Nat} (hi : i < rs.length) (h : earAt rs inn i = true) (hno : ∀ j, j < i → earAt rs inn j = false) : earI rs inn = some i := find_range hi h hno
theorem earI_no {rs : List (ByteArray × List Int)} {inn : List Bool} (hno : ∀ j, j < rs.length → earAt rs inn j = false) : earI rs inn = none := find_range_none hno

set_option maxRecDepth 100000 in
set_option maxHeartbeats 1000000 in
theorem reduce_any (v : Value) (S : Sch) (w : World) {R : Nat → Prop} (h : SchAt w R v S) (hn1 : 1 ≤ S.rels.length) (hok : RelOk S.rels) :
    Calls Try.prog 34 #[v] w fun e w' => ∃ (Ao : Option Addr) (co : Nat) (Ac : Option Addr) (cc : Nat) (Aw : Option Addr) (cw : Nat),
      e = .returned (.tuple #[.slice Ao (redS S.rels).ord.length co, .slice Ac (coreS S.rels).length cc, .slice Aw S.rels.length cw]) ∧
      Row w' (w.heap.size ≤ ·) Ao (ints (redS S.rels).ord) ∧ Row w' (w.heap.size ≤ ·) Ac (ints (coreS S.rels)) ∧ Row w' (w.heap.size ≤ ·) Aw (ints (redS S.rels).wit) ∧ Below w.heap.size w w' := by
  have h0 := h
  obtain ⟨A1, c1, A2, c2, A3, c3, rfl, l1, l2, l3, h1, h2, h3⟩ := h
  clear h1 h2 h3 l1 l2 l3
  have hn := hok.1
  go_enter Try.func34, Try.ntmps34
  go_wp2_with (first
    | (go_at_call 41
       go_must (
        refine (all_any _ S _ (h0.ext ((Below.refl _ _).alloc (Nat.le_refl _) _)) hn).mono ?_
        rintro e w1 ⟨v1, rfl, hown1, hb1⟩
        have hbx := (Blk.new w 28 #[Value.slice A1 S.attrs.length c1, Value.slice A2 S.rels.length c2, Value.slice A3 S.feats.length c3, Value.int IntKind.i64 S.label]).ext hb1
        have hbel1 : Below w.heap.size w w1 := ext_trans ((Below.refl _ _).alloc (Nat.le_refl _) _) hb1
        obtain ⟨A5, c5, rfl, hc5, _⟩ := own_slice hown1
        have HBX := Lib.hid hbx
        clear hbx hb1))
    | (go_at_call 53
       go_must (
        refine (repI_any w1.heap.size 0 1 (-1) S.rels.length hn _ (by exact (Blk.new w1 _ _).cell 0) (by simp)).mono ?_
        rintro e w2 ⟨v2, rfl, hown2, hb2⟩
        have hbel2 : Below w1.heap.size w1 w2 := ext_trans ((Below.refl _ _).alloc (Nat.le_refl _) _) hb2
        obtain ⟨A4, c4, rfl, hc4, _⟩ := own_slice hown2
        clear hb2)))
  have hown1' := own_mono (hown1.kept (grown_of_ext hbel2 none) (by simp [Value.ownBlock]; cases A5 <;> simp)) (base' := w.heap.size + 1) (by simp)
  have hown2' := own_mono hown2 (base' := w.heap.size + 1) (by have := HBX.out.lt; simp; omega)
  obtain ⟨g5, rfl, hg5, hg5'⟩ := own_addr hown1' hn1
  obtain ⟨g4, rfl, hg4, hg4'⟩ := own_addr hown2' hn1
  have hne54 : g5 ≠ g4 := by
    have := own_ne_own hown1' hown2' (by decide)
    simpa [Value.ownBlock] using this
  have HBX2 := Lib.hid (HBX.out.ext hbel2)
  have hb02 := ext_trans hbel1 hbel2
  clear HBX hown1 hown2 hbel1 hbel2
  go_loopw [2, 6] (fun o f wr => ∃ j : Nat, (∀ k, k < j → earI S.rels (redTo S.rels k).inn ≠ none) ∧ wr.ownsRow (w.heap.size + 1) 4 1 (.slice (some ⟨g5, 0, none⟩) S.rels.length c5) S.rels.length (bools (redTo S.rels j).inn) ∧
    wr.ownsRow (w.heap.size + 1) 3 1 (.slice (some ⟨g4, 0, none⟩) S.rels.length c4) S.rels.length (ints (redTo S.rels j).wit) ∧ wr.ownsRow (w.heap.size + 1) 3 1 o (redTo S.rels j).ord.length (ints (redTo S.rels j).ord) ∧
    (o.ownBlock = none ∨ o.ownBlock ≠ some g4) ∧ (f = .bool true ∨ (f = .bool false ∧ earI S.rels (redTo S.rels j).inn = none)) ∧
    Blk wr w.heap.size 28 #[Value.slice A1 S.attrs.length c1, Value.slice A2 S.rels.length c2, Value.slice A3 S.feats.length c3, Value.int IntKind.i64 S.label] ∧ Below w.heap.size w wr)
    (fun o f _ => if boolOf f then S.rels.length + 1 - sliceLen o else 0)
  case atStart => exact ⟨0, fun k hk => absurd hk (by omega), hown1', hown2', World.ownsRow_nil _ _ _ _, .inl rfl, .inl rfl, HBX2.out, hb02⟩
  case round =>
    clear hown1' hown2' HBX2 hb02
    obtain ⟨j, hall, hin, hwt, hor, hnb, hf, hbx, hbel⟩ := hrel
    have hol := redTo_ord S.rels j hall
    have hcn := redTo_count S.rels j
    have hjn : j ≤ S.rels.length := by omega
    have hil := (redTo_len S.rels j).1
    have hwl := (redTo_len S.rels j).2
    have HALL := Lib.hid hall
    have HOL := Lib.hid hol
    have HIL := Lib.hid hil
    have HWL := Lib.hid hwl
    have HBX := Lib.hid hbx
    have x0 := hbx.cell 0
    have x1 := hbx.cell 1
    have x2 := hbx.cell 2
    have x3 := hbx.cell 3
    have xlt := hbx.lt
    simp at x0 x1 x2 x3
    obtain ⟨Ao, co, rfl, hco, _⟩ := own_slice hor
    have hil2 := (hin.lt g5 rfl).2
    have hwl2 := (hwt.lt g4 rfl).2
    clear hall hol hcn hil hwl hbx
    rcases hf with rfl | ⟨rfl, hend⟩
    · obtain ⟨wp, rfl⟩ : ∃ wp : World, wp = wr := ⟨_, rfl⟩
      go_wp2
      go_loopw [2, 6, 21] (fun o f i wq => ∃ k : Nat, k ≤ S.rels.length ∧ i = .int .i64 k ∧ o = .slice Ao (redTo S.rels j).ord.length co ∧ f = .bool false ∧ (∀ i', i' < k → earAt S.rels (redTo S.rels j).inn i' = false) ∧ Below wp.heap.size wp wq) (fun _ _ i _ => S.rels.length - (intOf i).toNat)
      case atStart => exact ⟨0, Nat.zero_le _, rfl, rfl, rfl, fun i' h => absurd h (by omega), Below.refl _ _⟩
      case round =>
        obtain ⟨k, hk, rfl, rfl, rfl, hno, hbq⟩ := hrel
        have HNO := Lib.hid hno
        clear hno
        have hbw := ext_trans hbel hbq
        by_cases hlt : k < S.rels.length
        · have hin2 := hin.kept (grown_of_ext hbq none) (by simp [Value.ownBlock])
          have hki : k < (redTo S.rels j).inn.length := by rw [HIL.out]; exact hlt
          have hci : wr.cell? ⟨g5, k, none⟩ = some (.bool (redTo S.rels j).inn[k]) := by rw [hin2.cellAt k (by omega), List.getElem?_map, List.getElem?_eq_getElem hki]; rfl
          have hge : earAt S.rels (redTo S.rels j).inn k = ((redTo S.rels j).inn[k] && (witI S.rels (redTo S.rels j).inn k).isSome) := by unfold earAt; simp [List.getD, hki]
          have x0' : wr.cell? ⟨w.heap.size, 0, none⟩ = some (Value.slice A1 S.attrs.length c1) := by rw [hbq.cell (p := ⟨w.heap.size, 0, none⟩) xlt]; exact x0
          have x1' : wr.cell? ⟨w.heap.size, 1, none⟩ = some (Value.slice A2 S.rels.length c2) := by rw [hbq.cell (p := ⟨w.heap.size, 1, none⟩) xlt]; exact x1
          have x2' : wr.cell? ⟨w.heap.size, 2, none⟩ = some (Value.slice A3 S.feats.length c3) := by rw [hbq.cell (p := ⟨w.heap.size, 2, none⟩) xlt]; exact x2
          have x3' : wr.cell? ⟨w.heap.size, 3, none⟩ = some (Value.int IntKind.i64 S.label) := by rw [hbq.cell (p := ⟨w.heap.size, 3, none⟩) xlt]; exact x3
          have hct := witness_any _ S (some ⟨g5, 0, none⟩) c5 (redTo S.rels j).inn k wr (h0.ext hbw) (Row.of_own hin2) HIL.out hlt hok
          rw [HIL.out] at hct
          have HCT := Lib.hid hct
          have HGE := Lib.hid hge
          have HST := Lib.hid (fun (h : earAt S.rels (redTo S.rels j).inn k = false) (i' : Nat) (hi' : i' < k + 1) => show earAt S.rels (redTo S.rels j).inn i' = false by
            by_cases e : i' < k
            · exact HNO.out i' e
            · obtain rfl : i' = k := by omega
              exact h)
          clear hct hge
          cases hik : (redTo S.rels j).inn[k]
          · rw [hik] at hci
            go_wp2_with (
              go_at_call 35
              go_must (
                refine HCT.out.mono ?_
                rintro e w3 ⟨rfl, hb3⟩
                have hci3 : w3.cell? ⟨g5, k, none⟩ = some (.bool false) := by rw [hb3.cell (p := ⟨g5, k, none⟩) (by show g5 < _; have := hbq.size; omega)]; exact hci
                clear hci))
            exact ⟨⟨k + 1, by omega, by go_num, rfl, rfl, HST.out (by rw [HGE.out, hik]; rfl), ext_trans hbq hb3⟩, by simp [intOf]; omega⟩
          · rw [hik] at hci
            cases his : (witI S.rels (redTo S.rels j).inn k).isSome
            · rw [his] at HCT
              go_wp2_with (
                go_at_call 35
                go_must (
                  refine HCT.out.mono ?_
                  rintro e w3 ⟨rfl, hb3⟩
                  have hci3 : w3.cell? ⟨g5, k, none⟩ = some (.bool true) := by rw [hb3.cell (p := ⟨g5, k, none⟩) (by show g5 < _; have := hbq.size; omega)]; exact hci
                  clear hci))
              exact ⟨⟨k + 1, by omega, by go_num, rfl, rfl, HST.out (by rw [HGE.out, his]; simp), ext_trans hbq hb3⟩, by simp [intOf]; omega⟩
            · rw [his] at HCT
              have hei : earI S.rels (redTo S.rels j).inn = some k := earI_at hlt (by rw [HGE.out, his, hik]; rfl) HNO.out
              have hnx := redTo_next hei
              have HNX := Lib.hid hnx
              have HEI := Lib.hid hei
              clear hnx hei
              go_wp2_with (first
                | (go_at_call 35
                   go_must (
                    refine HCT.out.mono ?_
                    rintro e w3 ⟨rfl, hb3⟩
                    have hbp := ext_trans hbq hb3
                    have hin3 := hin.kept (grown_of_ext hbp none) (by simp [Value.ownBlock])
                    have hwt3 := hwt.kept (grown_of_ext hbp none) (by simp [Value.ownBlock])
                    have hor3 := hor.kept (grown_of_ext hbp none) (by cases Ao <;> simp [Value.ownBlock])
                    have hci3 : w3.cell? ⟨g5, k, none⟩ = some (.bool true) := by rw [hb3.cell (p := ⟨g5, k, none⟩) (by show g5 < _; have := hbq.size; omega)]; exact hci
                    have hfi3 := hin3.frozenAt k
                    have hsi := hin3.stored k (.bool false)
                    have hwt4 := hwt3.kept hsi.2 (.inr (by simp [Value.ownBlock]; omega))
                    have hor4 := hor3.kept hsi.2 (own_ne_own hor3 hin3 (by decide))
                    have hkw : k < (redTo S.rels j).wit.length := by rw [HWL.out]; exact hlt
                    have hcw4 : (w3.setCell ⟨g5, k, none⟩ (.bool false)).cell? ⟨g4, k, none⟩ = some (.int .i64 (redTo S.rels j).wit[k]) := by rw [hwt4.cellAt k (by omega), List.getElem?_map, List.getElem?_eq_getElem hkw]; rfl
                    have hfw4 := hwt4.frozenAt k
                    generalize optI (witI S.rels (redTo S.rels j).inn k) = ow at *
                    have hsw := hwt4.stored k (.int .i64 ow)
                    have hin5 := hsi.1.kept hsw.2 (.inr (by simp [Value.ownBlock]; omega))
                    have hor5 := hor4.kept hsw.2 hnb
                    have HB5 := Lib.hid ((((HBX.out.ext hbp).grown hsi.2 (by simp; omega)).grown hsw.2 (by simp; omega)))
                    have hbel5 : Below w.heap.size w ((w3.setCell ⟨g5, k, none⟩ (.bool false)).setCell ⟨g4, k, none⟩ (.int .i64 ow)) := ((ext_trans hbel hbp).setCell (by show w.heap.size ≤ g5; omega) _).setCell (by show w.heap.size ≤ g4; omega) _
                    have hsz5 : wp.heap.size ≤ w3.heap.size := hbp.size
                    clear hci hin3 hwt3 hor3 hor4 hwt4))
                | (at_builtin
                   go_must (
                    refine wpList_app rfl _ _ 22 rfl (w.heap.size + 1) 3 (.int .i64 0) 1 8 Try.underlying22 Try.infoInt rfl (by decide) (by decide) (.slice Ao (redTo S.rels j).ord.length co) (redTo S.rels j).ord.length 1 (ints (redTo S.rels j).ord) rfl rfl (by simp) hor5 rfl (by simp; rfl) (by rw [HOL.out]; omega) (by simp; omega) ?_
                    intro A6 c6 w6 hown6 hg6 hat6)))
              have hoK : ∀ g, (Value.slice Ao (redTo S.rels j).ord.length co).ownBlock = some g → w.heap.size + 1 ≤ g ∧ g < wp.heap.size := fun g e => hor.lt g e
              have hnb' : some g4 ≠ (Value.slice Ao (redTo S.rels j).ord.length co).ownBlock := own_ne_own' hnb
              refine ⟨⟨j + 1, ?_, ?_, ?_, ?_, ?_, .inl rfl, ?_, ?_⟩, ?_⟩
              · intro q hq
                by_cases e : q < j
                · exact HALL.out q e
                · obtain rfl : q = j := by omega
                  rw [HEI.out]; simp
              · rw [HNX.out]
                have := hin5.kept hg6 (own_ne_own hin5 hor5 (by decide))
                simpa [bools, List.map_set] using this
              · rw [HNX.out]
                have := hsw.1.kept hg6 (.inr hnb')
                simpa [ints, List.map_set] using this
              · rw [HNX.out]
                simpa [ints] using hown6
              · rcases hat6 with e | ⟨g, e, hge⟩
                · rw [e]; exact hnb
                · rw [e]; right; simp at hge; simp; omega
              · exact HB5.out.grown hg6 (fun e => by have := (hoK _ e.symm).1; omega)
              · exact hbel5.grown hg6 (by have := hbel5.size; exact this) (fun g e => by have := (hoK g e).1; omega)
              · simp [boolOf, sliceLen]; rw [HOL.out]; omega
        · have hend : earI S.rels (redTo S.rels j).inn = none := earI_no fun i' hi' => HNO.out i' (by omega)
          have HEND := Lib.hid hend
          have hd1 : decide (k < S.rels.length) = false := by simp; omega
          clear hend
          go_wp2
          refine ⟨⟨j, HALL.out, hin.kept (grown_of_ext hbq none) (by simp [Value.ownBlock]), hwt.kept (grown_of_ext hbq none) (by simp [Value.ownBlock]), hor.kept (grown_of_ext hbq none) (by cases Ao <;> simp [Value.ownBlock]), hnb, .inr ⟨rfl, HEND.out⟩, HBX.out.ext hbq, hbw⟩, ?_⟩
          simp [boolOf, sliceLen]; rw [HOL.out]; omega
    · have hfin : redS S.rels = redTo S.rels j := redTo_stop S.rels j hend S.rels.length hjn
      have HFIN := Lib.hid hfin
      obtain ⟨wp, rfl⟩ : ∃ wp : World, wp = wr := ⟨_, rfl⟩
      clear hfin hend HALL
      generalize redTo S.rels j = st at *
      obtain ⟨inn, wit, ord⟩ := st
      simp only at hin hwt hor hco
      have hil3 : inn.length = S.rels.length := HIL.out
      have HIL3 := Lib.hid hil3
      clear hil3 HIL HOL HWL
      go_wp2
      go_loopw [3, 52] (fun cv i wq => ∃ k : Nat, k ≤ S.rels.length ∧ i = .int .i64 k ∧ wq.ownsRow wp.heap.size 3 1 cv (coreTo inn k).length (ints (coreTo inn k)) ∧ Below wp.heap.size wp wq) (fun _ i _ => S.rels.length - (intOf i).toNat)
      case atStart => exact ⟨0, Nat.zero_le _, rfl, World.ownsRow_nil _ _ _ _, Below.refl _ _⟩
      case round =>
        obtain ⟨k, hk, rfl, hcv, hbq⟩ := hrel
        have hcl := coreTo_len inn k
        by_cases hlt : k < S.rels.length
        · have hin2 := hin.kept (grown_of_ext hbq none) (by simp [Value.ownBlock])
          have hki : k < inn.length := by rw [HIL3.out]; exact hlt
          have hci : wr.cell? ⟨g5, k, none⟩ = some (.bool inn[k]) := by rw [hin2.cellAt k (by omega), List.getElem?_map, List.getElem?_eq_getElem hki]; rfl
          have hcs := coreTo_succ inn k
          rw [show inn.getD k false = inn[k] by simp [List.getD, hki]] at hcs
          have HCS := Lib.hid hcs
          clear hcs
          cases hik : inn[k]
          · rw [hik] at hci HCS
            go_wp2
            exact ⟨⟨k + 1, by omega, by go_num, by rw [HCS.out]; exact hcv, hbq⟩, by simp [intOf]; omega⟩
          · rw [hik] at hci HCS
            go_wp2_with (
              at_builtin
              go_must (
                refine wpList_app (W := wr) rfl _ _ 22 rfl wp.heap.size 3 (.int .i64 0) 1 8 Try.underlying22 Try.infoInt rfl (by decide) (by decide) u3 (coreTo inn k).length 1 (ints (coreTo inn k)) rfl rfl rfl hcv rfl (by simp; rfl) (by omega) hbq.size ?_
                intro A6 c6 w6 hown6 hg6 hat6))
            refine ⟨⟨k + 1, by omega, by go_num, ?_, hbq.grown hg6 hbq.size (fun g e => (hcv.lt g e).1)⟩, by simp [intOf]; omega⟩
            rw [HCS.out]; simpa [ints] using hown6
        · obtain rfl : k = S.rels.length := by omega
          obtain ⟨Ac, cc, rfl, _, _⟩ := own_slice hcv
          have hd1 : decide (S.rels.length < S.rels.length) = false := by simp
          go_wp2
          go_ret3
          have hf := HFIN.out
          have hb0 := ext_trans hbel hbq
          have e1 : (redS S.rels).ord = ord := by rw [hf]
          have e2 : (redS S.rels).wit = wit := by rw [hf]
          have e3 : coreS S.rels = coreTo inn S.rels.length := by unfold coreS; rw [hf]
          rw [e1, e2, e3]
          refine ⟨Ao, co, Ac, cc, some ⟨g4, 0, none⟩, c4, rfl, ?_, ?_, ?_, hb0⟩
          · exact (Row.of_own (hor.kept (grown_of_ext hbq none) (by cases Ao <;> simp [Value.ownBlock]))).mono fun b _ hb => by omega
          · exact (Row.of_own hcv).mono fun b _ hb => by omega
          · exact (Row.of_own (hwt.kept (grown_of_ext hbq none) (by simp [Value.ownBlock]))).mono fun b _ hb => by omega

end Go.Proofs.Ytopblgabadljdaa
