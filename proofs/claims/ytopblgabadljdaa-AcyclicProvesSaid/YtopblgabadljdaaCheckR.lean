/-
  The walk of schema.relations.
-/
import Derived.Test.YtopblgabadljdaaCheck
namespace Go.Proofs.Ytopblgabadljdaa
open Go.RowKit

/-- Which attributes occur in the first k relations, or in the list l. -/
def usedTo (S : Sch) (k : Nat) (l : List Int) : List Bool := (List.range S.attrs.length).map fun (a : Nat) => ((S.rels.take k).any fun r => inB r.2 (a : Int)) || inB l (a : Int)
theorem usedTo_len (S : Sch) (k : Nat) (l : List Int) : (usedTo S k l).length = S.attrs.length := by simp [usedTo]
theorem usedTo_zero (S : Sch) : usedTo S 0 [] = List.replicate S.attrs.length false := by
  simp [usedTo, inB, List.map_const']
theorem usedTo_step (S : Sch) (k : Nat) (l : List Int) (a : Nat) : usedTo S k (l ++ [(a : Int)]) = (usedTo S k l).set a true := by
  apply List.ext_getElem
  · simp [usedTo]
  · intro i h1 h2
    by_cases e : a = i
    · subst e; simp [usedTo, inB]
    · rw [List.getElem_set_ne e]
      simp only [usedTo, List.getElem_map, List.getElem_range, inB, List.contains_append]
      congr 1
      have : ([(a : Int)].contains (i : Int)) = false := by simp; omega
      rw [this, Bool.or_false]
theorem usedTo_next (S : Sch) (k : Nat) (hk : k < S.rels.length) : usedTo S k S.rels[k].2 = usedTo S (k + 1) [] := by
  unfold usedTo
  apply List.map_congr_left
  intro a _
  rw [List.take_succ_eq_append_getElem hk, List.any_append]
  simp [inB]
theorem asc_no {l : List Int} {q : Nat} (h1 : 1 ≤ q) (h2 : q < l.length) (h : l[q] ≤ l[q - 1]) : ascB l = false := by
  unfold ascB
  rw [List.all_eq_false]
  refine ⟨q - 1, by simp; omega, ?_⟩
  have e : l.getD (q - 1 + 1) 0 = l[q] := by
    simp only [show q - 1 + 1 = q by omega, List.getD, List.getElem?_eq_getElem h2]; rfl
  have e2 : l.getD (q - 1) 0 = l[q - 1] := by
    simp only [List.getD, List.getElem?_eq_getElem (show q - 1 < l.length by omega)]; rfl
  rw [e, e2]; simp; omega
theorem asc_yes {l : List Int} (h : ∀ p, p + 1 < l.length → l.getD p 0 < l.getD (p + 1) 0) : ascB l = true := by
  unfold ascB
  rw [List.all_eq_true]
  intro p hp
  simp only [List.mem_range] at hp
  simpa using h p (by omega)
theorem rng_no {l : List Int} {n q : Nat} (hq : q < l.length) (h : ¬ (0 ≤ l[q] ∧ l[q] < n)) : (l.all fun a => decide (0 ≤ a) && decide (a < n)) = false := by
  rw [List.all_eq_false]
  exact ⟨l[q], List.getElem_mem hq, by simp; omega⟩
theorem rng_yes {l : List Int} {n : Nat} (h : ∀ a ∈ l, 0 ≤ a ∧ a < n) : (l.all fun a => decide (0 ≤ a) && decide (a < n)) = true := by
  rw [List.all_eq_true]
  intro a ha
  have := h a ha
  simp; omega
theorem relE_eq (S : Sch) (k : Nat) (hk : k < S.rels.length) (names : List ByteArray) (hn : S.rels.map (·.1) = names) :
    relE S k = if namedE names k ≠ 0 then namedE names k else if S.rels[k].2 = [] then 7
      else if (S.rels[k].2.all fun a => decide (0 ≤ a) && decide (a < S.attrs.length)) = false then 2 else if ascB S.rels[k].2 = false then 10 else 0 := by
  unfold relE; rw [hn]; simp [List.getD, hk]
theorem made_one (z : Value) (h : z.cells = #[z]) (n : Nat) : (madeCells z.cells (n * 1)).toList = List.replicate n z := by
  rw [h, Nat.mul_one]
  apply List.ext_getElem
  · simp [madeCells]
  · intro i h1 h2
    have e : i % 1 = 0 := Nat.mod_one i
    simp [madeCells, e]
theorem Try.infoBool : (Try.prog.info? 4).map (fun i => (i.zero, i.size, i.bytes)) = some (some (.bool false), 1, 1) := by kernel_rfl
theorem used_all (S : Sch) : hasB (usedTo S S.rels.length []) false = !((List.range S.attrs.length).all fun a => usedB S a) := by
  rw [Bool.eq_iff_iff]
  unfold hasB usedTo usedB
  rw [List.take_length, decide_eq_true_eq, Bool.not_eq_true', List.all_eq_false, List.mem_map]
  constructor
  · rintro ⟨a, h1, h2⟩
    exact ⟨a, h1, by simpa [inB] using h2⟩
  · rintro ⟨a, h1, h2⟩
    exact ⟨a, h1, by simpa [inB] using h2⟩

set_option maxRecDepth 100000 in
set_option maxHeartbeats 1000000 in
theorem srelations_any (v : Value) (S : Sch) (w : World) {R : Nat → Prop} (h : SchAt w R v S) (hb : SBd S) :
    Calls Try.prog 51 #[v] w fun e w' => e = .returned (.int .i64 (relsE S)) ∧ Below w.heap.size w w' := by
  obtain ⟨A1, c1, A2, c2, A3, c3, rfl, l1, l2, l3, h1, h2, h3⟩ := h
  clear h1 h3 l1 l3
  have hba := hb.a
  have hbr := hb.r
  obtain ⟨ib, hib, hz0, hz1, hz2⟩ := info_parts Try.infoBool
  have hnl : (S.rels.map (·.1)).length = S.rels.length := by simp
  generalize hN : S.rels.map (·.1) = names at *
  have HNM := Lib.hid hN
  have HNL := Lib.hid hnl
  clear hN hnl
  go_enter Try.func51, Try.ntmps51
  go_wp2_with (
    at_make
    go_must (
      refine wpList_make_full _ rfl _ _ 36 rfl w.heap.size 4 ib (.bool false) 1 Try.underlying36 hib hz0 hz1 _ _ _ _ S.attrs.length rfl rfl rfl rfl (by rw [hz2]; omega) (by simp [maxLen]; omega) (by simp) ?_
      intro w1 hown1 hg1
      simp only [World.size_alloc] at hown1
      have hbx := (Blk.new w 28 #[Value.slice A1 S.attrs.length c1, Value.slice A2 S.rels.length c2, Value.slice A3 S.feats.length c3, Value.int IntKind.i64 S.label]).grown hg1 (by simp)
      have x1 := hbx.cell 1
      simp at x1
      have hown2 : w1.ownsRow w.heap.size 4 1 (.slice (some ⟨w.heap.size + 1, 0, none⟩) S.attrs.length S.attrs.length) S.attrs.length (bools (usedTo S 0 [])) := by
        rw [usedTo_zero, bools, List.map_replicate, ← made_one (.bool false) rfl]; exact hown1
      have hbel1 : Below w.heap.size w w1 := ((Below.refl _ _).alloc (Nat.le_refl _) _).trans ((ext_of_grown hg1).mono (by simp))
      clear hbx hown1 hg1))
  clear x1
  go_loopw [3, 18] (fun v i wr => ∃ k : Nat, k ≤ S.rels.length ∧ i = .int .i64 k ∧ wr.ownsRow w.heap.size 9 1 v k (strs (names.take k)) ∧
    wr.ownsRow w.heap.size 4 1 (.slice (some ⟨w.heap.size + 1, 0, none⟩) S.attrs.length S.attrs.length) S.attrs.length (bools (usedTo S k [])) ∧ scanE (relE S) k = 0 ∧ Below w.heap.size w wr) (fun _ i _ => S.rels.length - (intOf i).toNat)
  case atStart => exact ⟨0, Nat.zero_le _, rfl, World.ownsRow_nil _ _ _ _, hown2, rfl, hbel1⟩
  case round =>
    clear hown2 hbel1
    obtain ⟨k, hk, rfl, hown, hownu, hsc, hbel⟩ := hrel
    have HSC := Lib.hid hsc
    clear hsc
    by_cases hlt : k < S.rels.length
    · obtain ⟨b, off, A', c', rfl, hR, hbb, hc1, hc2, hrowk⟩ := h2.at_ hlt
      have hc1' : wr.cell? ⟨b, off + k * 2, none⟩ = some (.string S.rels[k].1) := by rw [hbel.cell (p := ⟨b, off + k * 2, none⟩) hbb]; exact hc1
      have hc2' : wr.cell? ⟨b, off + k * 2 + 1, none⟩ = some (.slice A' S.rels[k].2.length c') := by rw [hbel.cell (p := ⟨b, off + k * 2 + 1, none⟩) hbb]; exact hc2
      have hrl := hb.rl _ (List.getElem_mem hlt)
      clear hc1 hc2
      have hkn : k < names.length := by rw [HNL.out]; exact hlt
      have hnk : names[k] = S.rels[k].1 := by have := HNM.out; subst this; simp
      have hsize : names[k].size ≤ 9223372036854775807 := by rw [hnk]; exact hb.rn _ (List.getElem_mem hlt)
      have htk : names.take (k + 1) = names.take k ++ [S.rels[k].1] := by rw [List.take_succ_eq_append_getElem hkn, hnk]
      have htl : (names.take (k + 1)).length = k + 1 := by simp; omega
      have hfe := relE_eq S k hlt names HNM.out
      have hun := usedTo_next S k hlt
      have hbox : u3.ownBlock ≠ some wr.heap.size := fun e => by have := (hown.lt _ e).2; omega
      have hnu : u3.ownBlock = none ∨ u3.ownBlock ≠ some (w.heap.size + 1) := own_ne_own hown hownu (by decide)
      have hul := (hownu.lt _ rfl).2
      have HTK := Lib.hid htk
      have HTL := Lib.hid htl
      have HFE := Lib.hid hfe
      have HNK := Lib.hid hnk
      have HSZ := Lib.hid hsize
      have HUN := Lib.hid hun
      clear htk htl hfe hnk hsize hun
      have hcase := namedE_cases names k
      have HNT := Lib.hid (namedE_take names k)
      generalize namedE names k = ne at *
      generalize hL : S.rels[k].2 = L at *
      generalize hNm : S.rels[k].1 = nm0 at *
      have hcc : ((ne != 0) = true ∧ ne ≠ 0) ∨ ((ne != 0) = false ∧ ne = 0) := by rcases hcase with h | h | h <;> simp [h]
      clear hcase
      have HL := Lib.hid hL
      clear hL hNm
      rcases hcc with ⟨hcb, hne⟩ | ⟨hcb, hne⟩
      · have HNE := Lib.hid hne
        clear hne
        go_wp2_with (first
          | (at_builtin
             go_must (
              refine wpList_app (W := wr.alloc _) rfl _ _ 85 rfl w.heap.size 9 _ 1 16 Try.underlying85 Try.infoStr rfl (by decide) (by decide) u3 k 1 (strs (names.take k)) rfl rfl (by simp) (hown.alloc _) rfl (by simp; rfl) (by omega) (by have := hbel.size; simp; omega) ?_
              intro A4 c4 w4 hown4 hg4 hat4
              have hown5 : w4.ownsRow w.heap.size 9 1 (.slice A4 (k + 1) c4) (k + 1) (strs (names.take (k + 1))) := by rw [HTK.out]; simpa using hown4
              have hrow5 := Row.of_own hown5
              have hbel4 : Below w.heap.size w w4 := (hbel.alloc hbel.size _).grown hg4 (by have := hbel.size; simp; omega) (fun g e => (hown.lt g e).1)
              obtain ⟨_, _, hsl, hcc4, _⟩ := own_slice hown5
              simp at hsl
              have hct : Calls Try.prog 61 #[.slice A4 (k + 1) c4, .int .i64 k] w4 fun e w' => e = .returned (.int .i64 ne) ∧ Below w4.heap.size w4 w' := by
                have := named_any A4 c4 (names.take (k + 1)) k w4 hrow5 (by rw [HTL.out]; omega) (by rw [HTL.out, hsl.2]; exact hcc4) (by rw [HTL.out]; omega) (by simpa using HSZ.out)
                rw [HNT.out, HTL.out] at this
                exact this
              have HCT := Lib.hid hct
              clear hct hown4 hg4 hat4 hsl hcc4 hrow5 hown5))
          | (go_at_call 61
             go_must (
              refine HCT.out.mono ?_
              rintro e w5 ⟨rfl, hb5⟩)))
        go_ret
        refine ⟨ret_int ?_, hbel4.trans (hb5.mono hbel4.size)⟩
        have hf : relE S k = ne := by rw [HFE.out, if_pos HNE.out]
        have hs : scanE (relE S) S.rels.length = ne := by rw [scanE_at HSC.out (by rw [hf]; exact HNE.out) hlt, hf]
        unfold relsE
        rw [hs, if_pos HNE.out]
      · have HNE := Lib.hid hne
        clear hne
        have hlc : (((L.length : Nat) : Int) == 0) = true ∧ L = [] ∨ (((L.length : Nat) : Int) == 0) = false ∧ L ≠ [] ∧ 1 ≤ L.length := by
          rcases Classical.em (L = []) with h | h
          · subst h; exact .inl ⟨rfl, rfl⟩
          · have : 0 < L.length := List.length_pos_iff.2 h
            exact .inr ⟨by simp; omega, h, this⟩
        rcases hlc with ⟨hl0, hle⟩ | ⟨hl0, hle, hl1⟩
        · have HLE := Lib.hid hle
          clear hle
          go_wp2_with (first
            | (at_builtin
               go_must (
                refine wpList_app (W := wr.alloc _) rfl _ _ 85 rfl w.heap.size 9 _ 1 16 Try.underlying85 Try.infoStr rfl (by decide) (by decide) u3 k 1 (strs (names.take k)) rfl rfl (by simp) (hown.alloc _) rfl (by simp; rfl) (by omega) (by have := hbel.size; simp; omega) ?_
                intro A4 c4 w4 hown4 hg4 hat4
                have hown5 : w4.ownsRow w.heap.size 9 1 (.slice A4 (k + 1) c4) (k + 1) (strs (names.take (k + 1))) := by rw [HTK.out]; simpa using hown4
                have hrow5 := Row.of_own hown5
                have hbel4 : Below w.heap.size w w4 := (hbel.alloc hbel.size _).grown hg4 (by have := hbel.size; simp; omega) (fun g e => (hown.lt g e).1)
                have hbx := (Blk.new wr 33 #[.string nm0, .slice A' L.length c']).grown hg4 (fun e => hbox e.symm)
                have hownu5 := (hownu.alloc _).kept hg4 (.inr (own_ne_own' hnu))
                obtain ⟨_, _, hsl, hcc4, _⟩ := own_slice hown5
                simp at hsl
                have hct : Calls Try.prog 61 #[.slice A4 (k + 1) c4, .int .i64 k] w4 fun e w' => e = .returned (.int .i64 ne) ∧ Below w4.heap.size w4 w' := by
                  have := named_any A4 c4 (names.take (k + 1)) k w4 hrow5 (by rw [HTL.out]; omega) (by rw [HTL.out, hsl.2]; exact hcc4) (by rw [HTL.out]; omega) (by simpa using HSZ.out)
                  rw [HNT.out, HTL.out] at this
                  exact this
                have HCT := Lib.hid hct
                have HBX := Lib.hid hbx
                have HO5 := Lib.hid hown5
                clear hct hown4 hg4 hat4 hsl hcc4 hrow5 hown5 hbx))
            | (go_at_call 61
               go_must (
                refine HCT.out.mono ?_
                rintro e w5 ⟨rfl, hb5⟩
                have hbx5 := HBX.out.ext hb5
                have y1 := hbx5.cell 1
                simp at y1
                have hu6 := hownu5.kept (grown_of_ext hb5 none) (by simp [Value.ownBlock])
                have hn6 := HO5.out.kept (grown_of_ext hb5 none) (by simp [Value.ownBlock]; cases A4 <;> simp)
                have hbel5 := hbel4.trans (hb5.mono hbel4.size)
                have hs5 := HBX.out.lt
                have hs6 := hb5.size
                have HBX5 := Lib.hid hbx5
                clear hbx5 hownu5)))
          go_ret
          refine ⟨ret_int ?_, hbel5⟩
          have hf : relE S k = 7 := by rw [HFE.out, HNE.out, HLE.out]; simp
          have hs : scanE (relE S) S.rels.length = 7 := by rw [scanE_at HSC.out (by rw [hf]; decide) hlt, hf]
          unfold relsE
          rw [hs]; simp
        · have HLE := Lib.hid hle
          clear hle
          go_wp2_with (first
            | (at_builtin
               go_must (
                refine wpList_app (W := wr.alloc _) rfl _ _ 85 rfl w.heap.size 9 _ 1 16 Try.underlying85 Try.infoStr rfl (by decide) (by decide) u3 k 1 (strs (names.take k)) rfl rfl (by simp) (hown.alloc _) rfl (by simp; rfl) (by omega) (by have := hbel.size; simp; omega) ?_
                intro A4 c4 w4 hown4 hg4 hat4
                have hown5 : w4.ownsRow w.heap.size 9 1 (.slice A4 (k + 1) c4) (k + 1) (strs (names.take (k + 1))) := by rw [HTK.out]; simpa using hown4
                have hrow5 := Row.of_own hown5
                have hbel4 : Below w.heap.size w w4 := (hbel.alloc hbel.size _).grown hg4 (by have := hbel.size; simp; omega) (fun g e => (hown.lt g e).1)
                have hbx := (Blk.new wr 33 #[.string nm0, .slice A' L.length c']).grown hg4 (fun e => hbox e.symm)
                have hownu5 := (hownu.alloc _).kept hg4 (.inr (own_ne_own' hnu))
                obtain ⟨_, _, hsl, hcc4, _⟩ := own_slice hown5
                simp at hsl
                have hct : Calls Try.prog 61 #[.slice A4 (k + 1) c4, .int .i64 k] w4 fun e w' => e = .returned (.int .i64 ne) ∧ Below w4.heap.size w4 w' := by
                  have := named_any A4 c4 (names.take (k + 1)) k w4 hrow5 (by rw [HTL.out]; omega) (by rw [HTL.out, hsl.2]; exact hcc4) (by rw [HTL.out]; omega) (by simpa using HSZ.out)
                  rw [HNT.out, HTL.out] at this
                  exact this
                have HCT := Lib.hid hct
                have HBX := Lib.hid hbx
                have HO5 := Lib.hid hown5
                clear hct hown4 hg4 hat4 hsl hcc4 hrow5 hown5 hbx))
            | (go_at_call 61
               go_must (
                refine HCT.out.mono ?_
                rintro e w5 ⟨rfl, hb5⟩
                have hbx5 := HBX.out.ext hb5
                have y1 := hbx5.cell 1
                simp at y1
                have hu6 := hownu5.kept (grown_of_ext hb5 none) (by simp [Value.ownBlock])
                have hn6 := HO5.out.kept (grown_of_ext hb5 none) (by simp [Value.ownBlock]; cases A4 <;> simp)
                have hbel5 := hbel4.trans (hb5.mono hbel4.size)
                have hs5 := HBX.out.lt
                have hs6 := hb5.size
                have HBX5 := Lib.hid hbx5
                clear hbx5 hownu5)))
          obtain ⟨wo, rfl⟩ : ∃ wo : World, wo = wr := ⟨_, rfl⟩
          clear hc1' hc2' HCT HBX
          go_loopw [41] (fun i wq => ∃ j : Nat, j ≤ L.length ∧ i = .int .i64 j ∧ wq.ownsRow w.heap.size 4 1 (.slice (some ⟨w.heap.size + 1, 0, none⟩) S.attrs.length S.attrs.length) S.attrs.length (bools (usedTo S k (L.take j))) ∧
            (∀ a ∈ L.take j, 0 ≤ a ∧ a < S.attrs.length) ∧ w5.grownBy wq (some (w.heap.size + 1))) (fun i _ => L.length - (intOf i).toNat)
          case atStart => exact ⟨0, Nat.zero_le _, rfl, hu6, by simp, World.grownBy.refl _ _⟩
          case round =>
            obtain ⟨j, hj, rfl, huj, haj, hgj⟩ := hrel
            have HAJ := Lib.hid haj
            clear haj
            have hbelj : Below w.heap.size w wr := hbel5.grown hgj (by have := hbel5.size; omega) (fun g e => by injection e with e; omega)
            by_cases hjl : j < L.length
            · obtain ⟨b', off', rfl, hbb', hcj⟩ := (hrowk.ext hbelj).int_at hjl
              have hrange : L[j] < 0 ∨ (0 ≤ L[j] ∧ (S.attrs.length : Int) ≤ L[j]) ∨ (0 ≤ L[j] ∧ L[j] < S.attrs.length) := by omega
              rcases hrange with hr | ⟨hr1, hr2⟩ | ⟨hr1, hr2⟩
              · go_wp2
                go_ret
                refine ⟨ret_int ?_, hbelj⟩
                have hf : relE S k = 2 := by rw [HFE.out, HNE.out, rng_no hjl (by omega)]; simp [HLE.out]
                have hs : scanE (relE S) S.rels.length = 2 := by rw [scanE_at HSC.out (by rw [hf]; decide) hlt, hf]
                unfold relsE
                rw [hs]; simp
              · go_wp2
                go_ret
                refine ⟨ret_int ?_, hbelj⟩
                have hf : relE S k = 2 := by rw [HFE.out, HNE.out, rng_no hjl (by omega)]; simp [HLE.out]
                have hs : scanE (relE S) S.rels.length = 2 := by rw [scanE_at HSC.out (by rw [hf]; decide) hlt, hf]
                unfold relsE
                rw [hs]; simp
              · obtain ⟨an, han⟩ := Int.eq_ofNat_of_zero_le hr1
                have htj : L.take (j + 1) = L.take j ++ [(an : Int)] := by rw [List.take_succ_eq_append_getElem hjl, han]
                have HTJ := Lib.hid htj
                rw [han] at hr1 hr2 hcj
                have hanl : an < S.attrs.length := by omega
                have hcu : wr.cell? ⟨w.heap.size + 1, an, none⟩ = some (.bool ((usedTo S k (L.take j))[an]'(by rw [usedTo_len]; exact hanl))) := by
                  rw [huj.cellAt an (by omega), List.getElem?_map, List.getElem?_eq_getElem (by rw [usedTo_len]; exact hanl)]; rfl
                have hfu := huj.frozenAt an
                have hst := huj.stored an (.bool true)
                clear htj han
                go_wp2
                refine ⟨⟨j + 1, by omega, by go_num, ?_, ?_, ?_⟩, by simp [intOf]; omega⟩
                · rw [HTJ.out, usedTo_step, bools, List.map_set]; exact hst.1
                · intro a ha
                  rw [HTJ.out] at ha
                  rcases List.mem_append.1 ha with h | h
                  · exact HAJ.out a h
                  · simp at h; subst h; exact ⟨hr1, hr2⟩
                · exact grown_trans hgj hst.2 (fun g e _ => e)
            · have hjL : L.take j = L := List.take_of_length_le (by omega)
              rw [hjL] at huj
              have hall := rng_yes (l := L) (n := S.attrs.length) (fun a ha => HAJ.out a (by rw [hjL]; exact ha))
              have HALL := Lib.hid hall
              have hbxj := HBX5.out.grown hgj (by simp; omega)
              have z1 := hbxj.cell 1
              simp at z1
              have hnj := hn6.kept hgj (own_ne_own hn6 hu6 (by decide))
              clear hall hjL hbxj HAJ
              obtain ⟨wp, rfl⟩ : ∃ wp : World, wp = wr := ⟨_, rfl⟩
              have hd1 : decide (j < L.length) = false := by simp; omega
              go_wp2
              clear hd1
              go_loopw [10] (fun i wq => ∃ q n : Nat, 1 ≤ q ∧ q ≤ L.length ∧ i = .int .i64 q ∧ (∀ p, p + 1 < q → L.getD p 0 < L.getD (p + 1) 0) ∧ wq = wp.drewN n) (fun i _ => L.length - (intOf i).toNat)
              case atStart => exact ⟨1, 0, by omega, by omega, rfl, fun p hp => absurd hp (by omega), rfl⟩
              case round =>
                obtain ⟨q, n, hq1, hq2, rfl, hasc, rfl⟩ := hrel
                have HAS := Lib.hid hasc
                clear hasc
                by_cases hql : q < L.length
                · have hrw := hrowk.ext hbelj
                  obtain ⟨b', off', hA, hbb', hcq⟩ := hrw.int_at hql
                  obtain ⟨b2, off2, hA2, _, hcq2⟩ := hrw.int_at (show q - 1 < L.length by omega)
                  subst hA
                  simp at hA2
                  obtain ⟨rfl, rfl⟩ := hA2
                  have i1 : IntKind.i64.wrap ((q : Int) - 1) = ((q - 1 : Nat) : Int) := by rw [show ((q : Int) - 1) = ((q - 1 : Nat) : Int) by omega]; exact IntWalk.i64_in _ (by omega)
                  have i2 : (0 : Int) ≤ (q : Int) := by omega
                  have i3 : (q : Int) < (L.length : Int) := by omega
                  have i4 : (0 : Int) ≤ ((q - 1 : Nat) : Int) := by omega
                  have i5 : ((q - 1 : Nat) : Int) < (L.length : Int) := by omega
                  have hgq : L.getD q 0 = L[q] := by simp [List.getD, hql]
                  have hgq1 : L.getD (q - 1) 0 = L[q - 1] := by simp [List.getD, show q - 1 < L.length by omega]
                  have HGQ := Lib.hid hgq
                  have HGQ1 := Lib.hid hgq1
                  clear hgq hgq1 hrw
                  by_cases hle2 : L[q] ≤ L[q - 1]
                  · go_wp2
                    go_quiet (fail)
                    go_wp2
                    go_ret
                    refine ⟨ret_int ?_, below_drewN (below_drewN hbelj _) _⟩
                    have hf : relE S k = 10 := by rw [HFE.out, HNE.out, HALL.out, asc_no hq1 hql hle2]; simp [HLE.out]
                    have hs : scanE (relE S) S.rels.length = 10 := by rw [scanE_at HSC.out (by rw [hf]; decide) hlt, hf]
                    unfold relsE
                    rw [hs]; simp
                  · go_wp2
                    go_quiet (fail)
                    go_wp2
                    refine ⟨⟨q + 1, _, by omega, by omega, by go_num, ?_, rfl⟩, by simp [intOf]; omega⟩
                    intro p hp
                    by_cases e : p + 1 < q
                    · exact HAS.out p e
                    · obtain rfl : q = p + 1 := by omega
                      have hg : L.getD (p + 1 - 1) 0 < L.getD (p + 1) 0 := by rw [HGQ.out, HGQ1.out]; omega
                      exact hg
                · have hasc := asc_yes (l := L) (fun p hp => HAS.out p (by omega))
                  have HASC := Lib.hid hasc
                  have hd2 : decide (q < L.length) = false := by simp; omega
                  clear hasc
                  go_wp2
                  refine ⟨⟨k + 1, by omega, by go_num, ?_, ?_, ?_, below_drewN hbelj _⟩, by simp [intOf]; omega⟩
                  · exact hnj
                  · rw [← HUN.out]; exact huj
                  · rw [scanE_succ HSC.out, HFE.out, HNE.out, HALL.out, HASC.out]; simp [HLE.out]
    · go_wp2_with (
        go_at_call 62
        go_must (
          have hrow := Row.of_own hownu
          have := contains_bool (some ⟨w.heap.size + 1, 0, none⟩) S.attrs.length (usedTo S k []) false wr hrow (by rw [usedTo_len]; omega)
          rw [usedTo_len] at this
          refine this.mono ?_
          rintro e w' ⟨rfl, rfl⟩
          obtain rfl : k = S.rels.length := by omega
          rw [used_all]
          generalize hQ : ((List.range S.attrs.length).all fun a => usedB S a) = Q
          have HQ := Lib.hid hQ
          clear hQ hrow this))
      · go_ret
        refine ⟨ret_int ?_, hbel⟩
        have hq : Q = false := by simp_all
        unfold relsE
        rw [HSC.out, HQ.out, hq]; simp
      · go_ret
        refine ⟨ret_int ?_, hbel⟩
        have hq : Q = true := by simp_all
        unfold relsE
        rw [HSC.out, HQ.out, hq]; simp

end Go.Proofs.Ytopblgabadljdaa
