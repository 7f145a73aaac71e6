/-
  Walks of schema.attributes, schema.relations, schema.features and schema.Check: they answer as the plain function checkE.
-/
import Derived.Test.YtopblgabadljdaaSchema
namespace Go.Proofs.Ytopblgabadljdaa
open Go.RowKit

/-- What any schema in memory satisfies: few elements, and texts that fit. -/
structure SBd (S : Sch) : Prop where
  a : S.attrs.length ≤ 1000
  r : S.rels.length ≤ 1000
  f : S.feats.length ≤ 1000
  an : ∀ x ∈ S.attrs, x.1.size ≤ 9223372036854775807
  rn : ∀ x ∈ S.rels, x.1.size ≤ 9223372036854775807
  rl : ∀ x ∈ S.rels, x.2.length ≤ 1000

theorem attrCells_get (l : List (ByteArray × Int)) (k : Nat) (hk : k < l.length) : (attrCells l)[k * 2]? = some (.string l[k].1) ∧ (attrCells l)[k * 2 + 1]? = some (.int .i64 l[k].2) := by
  induction l generalizing k with
  | nil => simp at hk
  | cons a l ih =>
    cases k with
    | zero => exact ⟨rfl, rfl⟩
    | succ k =>
      have := ih k (by simpa using hk)
      simp only [attrCells, List.flatMap_cons] at this ⊢
      rw [show (k + 1) * 2 = (k * 2) + 2 by omega, List.getElem?_append_right (by simp), show (k * 2 + 2 + 1) = (k * 2 + 1) + 2 by omega, List.getElem?_append_right (by simp)]
      simpa using this
theorem attrCells_len (l : List (ByteArray × Int)) : (attrCells l).length = l.length * 2 := by
  induction l with
  | nil => rfl
  | cons a l ih => simp only [attrCells, List.flatMap_cons, List.length_append, List.length_cons, List.length_nil] at ih ⊢; omega
theorem attr_at {w : World} {R : Nat → Prop} {A : Option Addr} {l : List (ByteArray × Int)} (h : Row w R A (attrCells l)) {k : Nat} (hk : k < l.length) :
    ∃ b off : Nat, A = some ⟨b, off, none⟩ ∧ b < w.heap.size ∧ w.cell? ⟨b, off + k * 2, none⟩ = some (.string l[k].1) ∧ w.cell? ⟨b, off + k * 2 + 1, none⟩ = some (.int .i64 l[k].2) := by
  obtain ⟨b, off, e, _, hb, hc⟩ := h.at_ (k := k * 2) (by rw [attrCells_len]; omega)
  obtain ⟨h1, h2⟩ := attrCells_get l k hk
  exact ⟨b, off, e, hb, by rw [hc _ (by rw [attrCells_len]; omega)]; exact h1, by rw [Nat.add_assoc, hc _ (by rw [attrCells_len]; omega)]; exact h2⟩
theorem namedE_take (l : List ByteArray) (k : Nat) : namedE (l.take (k + 1)) k = namedE l k := by
  unfold namedE
  have h1 : (l.take (k + 1)).getD k default = l.getD k default := by simp [List.getD]
  have h2 : (l.take (k + 1)).take k = l.take k := by rw [List.take_take]; congr 1; omega
  rw [h1, h2]
theorem namedE_cases (l : List ByteArray) (k : Nat) : namedE l k = 0 ∨ namedE l k = 9 ∨ namedE l k = 14 := by
  unfold namedE
  split
  · simp
  · split <;> simp
theorem Try.infoStr : (Try.prog.info? 9).map (fun i => (i.zero, i.size, i.bytes)) = some (some (.string ⟨#[]⟩), 1, 16) := by kernel_rfl

set_option maxRecDepth 100000 in
set_option maxHeartbeats 400000 in
theorem attributes_any (v : Value) (S : Sch) (w : World) {R : Nat → Prop} (h : SchAt w R v S) (hb : SBd S) :
    Calls Try.prog 50 #[v] w fun e w' => e = .returned (.int .i64 (scanE (attrE S) S.attrs.length)) ∧ Below w.heap.size w w' := by
  obtain ⟨A1, c1, A2, c2, A3, c3, rfl, l1, l2, l3, h1, h2, h3⟩ := h
  clear h2 h3 l2 l3
  have hba := hb.a
  go_enter Try.func50, Try.ntmps50
  go_wp2
  have hnl : (S.attrs.map (·.1)).length = S.attrs.length := by simp
  generalize hN : S.attrs.map (·.1) = names at *
  have HNM := Lib.hid hN
  have HNL := Lib.hid hnl
  clear hN hnl
  go_loopw [3, 10] (fun v i wr => ∃ k : Nat, k ≤ S.attrs.length ∧ i = .int .i64 k ∧ wr.ownsRow w.heap.size 9 1 v k (strs (names.take k)) ∧ scanE (attrE S) k = 0 ∧ Below w.heap.size w wr) (fun _ i _ => S.attrs.length - (intOf i).toNat)
  case atStart => exact ⟨0, Nat.zero_le _, rfl, World.ownsRow_nil _ _ _ _, rfl, (Below.refl _ _).alloc (Nat.le_refl _) _⟩
  case round =>
    obtain ⟨k, hk, rfl, hown, hsc, hbel⟩ := hrel
    have HSC := Lib.hid hsc
    clear hsc
    by_cases hlt : k < S.attrs.length
    · obtain ⟨b, off, rfl, hbb, hc1, hc2⟩ := attr_at h1 hlt
      have hc1' : wr.cell? ⟨b, off + k * 2, none⟩ = some (.string S.attrs[k].1) := by rw [hbel.cell (p := ⟨b, off + k * 2, none⟩) hbb]; exact hc1
      have hc2' : wr.cell? ⟨b, off + k * 2 + 1, none⟩ = some (.int .i64 S.attrs[k].2) := by rw [hbel.cell (p := ⟨b, off + k * 2 + 1, none⟩) hbb]; exact hc2
      clear hc1 hc2
      have hkn : k < names.length := by rw [HNL.out]; exact hlt
      have hnk : names[k] = S.attrs[k].1 := by have := HNM.out; subst this; simp
      have hsize : names[k].size ≤ 9223372036854775807 := by rw [hnk]; exact hb.an _ (List.getElem_mem hlt)
      have htk : names.take (k + 1) = names.take k ++ [S.attrs[k].1] := by rw [List.take_succ_eq_append_getElem hkn, hnk]
      have htl : (names.take (k + 1)).length = k + 1 := by simp; omega
      have hfe : attrE S k = if namedE names k ≠ 0 then namedE names k else if S.attrs[k].2 < 1 ∨ 3 < S.attrs[k].2 then 7 else 0 := by
        unfold attrE; rw [HNM.out]; simp [List.getD, hlt]
      have hbox : u3.ownBlock ≠ some wr.heap.size := fun e => by have := (hown.lt _ e).2; omega
      have HTK := Lib.hid htk
      have HTL := Lib.hid htl
      have HFE := Lib.hid hfe
      have HNK := Lib.hid hnk
      have HSZ := Lib.hid hsize
      clear htk htl hfe hnk hsize
      have hcase := namedE_cases names k
      have HNT := Lib.hid (namedE_take names k)
      generalize namedE names k = ne at *
      have hcc : ((ne != 0) = true ∧ ne ≠ 0) ∨ ((ne != 0) = false ∧ ne = 0) := by rcases hcase with h | h | h <;> simp [h]
      clear hcase
      rcases hcc with ⟨hcb, hne⟩ | ⟨hcb, hne⟩
      · have HNE := Lib.hid hne
        clear hne
        go_wp2_with (first
          | (at_builtin
             go_must (
              refine wpList_app (W := wr.alloc _) rfl _ _ 85 rfl w.heap.size 9 _ 1 16 Try.underlying85 Try.infoStr rfl (by decide) (by decide) u3 k 1 (strs (names.take k)) rfl rfl (by simp) (hown.alloc _) rfl (by simp; rfl) (by omega) (by have := hbel.size; simp; omega) ?_
              intro A4 c4 w4 hown4 hg4 hat4
              have hown5 : w4.ownsRow w.heap.size 9 1 (.slice A4 (k + 1) c4) (k + 1) (strs (names.take (k + 1))) := by rw [HTK.out]; simpa using hown4
              have hrow5 := Row.of_own hown5
              have hbel4 : Below w.heap.size w w4 := (hbel.alloc hbel.size _).grown hg4 (by have := hbel.size; simp; omega) (fun g e => (hown.lt g e).1)
              obtain ⟨_, _, hsl, hcc4, _⟩ := own_slice hown5
              simp at hsl
              have hct : Calls Try.prog 61 #[.slice A4 (k + 1) c4, .int .i64 k] w4 fun e w' => e = .returned (.int .i64 ne) ∧ Below w4.heap.size w4 w' := by
                have := named_any A4 c4 (names.take (k + 1)) k w4 hrow5 (by rw [HTL.out]; omega) (by rw [HTL.out, hsl.2]; exact hcc4) (by rw [HTL.out]; omega) (by simpa using HSZ.out)
                rw [HNT.out, HTL.out] at this
                exact this
              have HCT := Lib.hid hct
              clear hct hown4 hg4 hat4 hsl hcc4 hrow5 hown5))
          | (go_at_call 61
             go_must (
              refine HCT.out.mono ?_
              rintro e w5 ⟨rfl, hb5⟩)))
        go_ret
        refine ⟨ret_int ?_, hbel4.trans (hb5.mono hbel4.size)⟩
        have hf : attrE S k = ne := by rw [HFE.out, if_pos HNE.out]
        rw [scanE_at HSC.out (by rw [hf]; exact HNE.out) hlt, hf]
      · have HNE := Lib.hid hne
        clear hne
        have hkind : ((1 ≤ S.attrs[k].2) ∧ S.attrs[k].2 ≤ 3) ∨ S.attrs[k].2 < 1 ∨ 3 < S.attrs[k].2 := by omega
        rcases hkind with hkd | hkd | hkd
        all_goals
          go_wp2_with (first
            | (at_builtin
               go_must (
                refine wpList_app (W := wr.alloc _) rfl _ _ 85 rfl w.heap.size 9 _ 1 16 Try.underlying85 Try.infoStr rfl (by decide) (by decide) u3 k 1 (strs (names.take k)) rfl rfl (by simp) (hown.alloc _) rfl (by simp; rfl) (by omega) (by have := hbel.size; simp; omega) ?_
                intro A4 c4 w4 hown4 hg4 hat4
                have hown5 : w4.ownsRow w.heap.size 9 1 (.slice A4 (k + 1) c4) (k + 1) (strs (names.take (k + 1))) := by rw [HTK.out]; simpa using hown4
                have hrow5 := Row.of_own hown5
                have hbel4 : Below w.heap.size w w4 := (hbel.alloc hbel.size _).grown hg4 (by have := hbel.size; simp; omega) (fun g e => (hown.lt g e).1)
                have hbx := (Blk.new wr 81 #[.string S.attrs[k].1, .int .i64 S.attrs[k].2]).grown hg4 (fun e => hbox e.symm)
                obtain ⟨_, _, hsl, hcc4, _⟩ := own_slice hown5
                simp at hsl
                have hct : Calls Try.prog 61 #[.slice A4 (k + 1) c4, .int .i64 k] w4 fun e w' => e = .returned (.int .i64 ne) ∧ Below w4.heap.size w4 w' := by
                  have := named_any A4 c4 (names.take (k + 1)) k w4 hrow5 (by rw [HTL.out]; omega) (by rw [HTL.out, hsl.2]; exact hcc4) (by rw [HTL.out]; omega) (by simpa using HSZ.out)
                  rw [HNT.out, HTL.out] at this
                  exact this
                have HCT := Lib.hid hct
                have HBX := Lib.hid hbx
                have HO5 := Lib.hid hown5
                clear hct hown4 hg4 hat4 hsl hcc4 hrow5 hown5 hbx))
            | (go_at_call 61
               go_must (
                refine HCT.out.mono ?_
                rintro e w5 ⟨rfl, hb5⟩
                have hbx5 := HBX.out.ext hb5
                have y1 := hbx5.cell 1
                simp at y1
                clear hbx5)))
        · refine ⟨⟨k + 1, by omega, by go_num, HO5.out.kept (grown_of_ext hb5 none) (by simp [Value.ownBlock]; cases A4 <;> simp), ?_, hbel4.trans (hb5.mono hbel4.size)⟩, by simp [intOf]; omega⟩
          rw [scanE_succ HSC.out, HFE.out, HNE.out]
          simp; omega
        all_goals
          go_ret
          refine ⟨ret_int ?_, hbel4.trans (hb5.mono hbel4.size)⟩
          have hf : attrE S k = 7 := by rw [HFE.out, HNE.out]; simp; omega
          rw [scanE_at HSC.out (by rw [hf]; decide) hlt, hf]
    · go_wp2
      go_ret
      obtain rfl : k = S.attrs.length := by omega
      exact ⟨ret_int HSC.out.symm, hbel⟩

end Go.Proofs.Ytopblgabadljdaa
