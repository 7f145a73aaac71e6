/-
  Texts of ours, joined: CheckR, CheckF, CheckS, Acyc, Rep, Red, Rel, Acy2, Closed, Sane, Math, Link, Good, TwiceP, RelsV, Chk, RWord, RChkL. No statement of the program is proved here.
-/
import Derived.Laws.CopyOwn
import Derived.Deep.RegionLaw
import Init
import Derived.Deep.DeepCutAuto
import Derived.Test.YtopblgabadljdaaAe3
namespace Go.Proofs.Ytopblgabadljdaa
open Go.RowKit
/-- Which attributes occur in the first k relations, or in the list l. -/
def usedTo (S : Sch) (k : Nat) (l : List Int) : List Bool := (List.range S.attrs.length).map fun (a : Nat) => ((S.rels.take k).any fun r => inB r.2 (a : Int)) || inB l (a : Int)
theorem usedTo_len (S : Sch) (k : Nat) (l : List Int) : (usedTo S k l).length = S.attrs.length := by simp [usedTo]
theorem usedTo_zero (S : Sch) : usedTo S 0 [] = List.replicate S.attrs.length false := by
  simp [usedTo, inB, List.map_const']
theorem usedTo_step (S : Sch) (k : Nat) (l : List Int) (a : Nat) : usedTo S k (l ++ [(a : Int)]) = (usedTo S k l).set a true := by
  apply List.ext_getElem
  · simp [usedTo]
  · intro i h1 h2
    by_cases e : a = i
    · subst e; simp [usedTo, inB]
    · rw [List.getElem_set_ne e]
      simp only [usedTo, List.getElem_map, List.getElem_range, inB, List.contains_append]
      congr 1
      have : ([(a : Int)].contains (i : Int)) = false := by simp; omega
      rw [this, Bool.or_false]
theorem usedTo_next (S : Sch) (k : Nat) (hk : k < S.rels.length) : usedTo S k S.rels[k].2 = usedTo S (k + 1) [] := by
  unfold usedTo
  apply List.map_congr_left
  intro a _
  rw [List.take_succ_eq_append_getElem hk, List.any_append]
  simp [inB]
theorem asc_no {l : List Int} {q : Nat} (h1 : 1 ≤ q) (h2 : q < l.length) (h : l[q] ≤ l[q - 1]) : ascB l = false := by
  unfold ascB
  rw [List.all_eq_false]
  refine ⟨q - 1, by simp; omega, ?_⟩
  have e : l.getD (q - 1 + 1) 0 = l[q] := by
    simp only [show q - 1 + 1 = q by omega, List.getD, List.getElem?_eq_getElem h2]; rfl
  have e2 : l.getD (q - 1) 0 = l[q - 1] := by
    simp only [List.getD, List.getElem?_eq_getElem (show q - 1 < l.length by omega)]; rfl
  rw [e, e2]; simp; omega
theorem asc_yes {l : List Int} (h : ∀ p, p + 1 < l.length → l.getD p 0 < l.getD (p + 1) 0) : ascB l = true := by
  unfold ascB
  rw [List.all_eq_true]
  intro p hp
  simp only [List.mem_range] at hp
  simpa using h p (by omega)
theorem rng_no {l : List Int} {n q : Nat} (hq : q < l.length) (h : ¬ (0 ≤ l[q] ∧ l[q] < n)) : (l.all fun a => decide (0 ≤ a) && decide (a < n)) = false := by
  rw [List.all_eq_false]
  exact ⟨l[q], List.getElem_mem hq, by simp; omega⟩
theorem rng_yes {l : List Int} {n : Nat} (h : ∀ a ∈ l, 0 ≤ a ∧ a < n) : (l.all fun a => decide (0 ≤ a) && decide (a < n)) = true := by
  rw [List.all_eq_true]
  intro a ha
  have := h a ha
  simp; omega
theorem relE_eq (S : Sch) (k : Nat) (hk : k < S.rels.length) (names : List ByteArray) (hn : S.rels.map (·.1) = names) :
    relE S k = if namedE names k ≠ 0 then namedE names k else if S.rels[k].2 = [] then 7
      else if (S.rels[k].2.all fun a => decide (0 ≤ a) && decide (a < S.attrs.length)) = false then 2 else if ascB S.rels[k].2 = false then 10 else 0 := by
  unfold relE; rw [hn]; simp [List.getD, hk]
theorem made_one (z : Value) (h : z.cells = #[z]) (n : Nat) : (madeCells z.cells (n * 1)).toList = List.replicate n z := by
  rw [h, Nat.mul_one]
  apply List.ext_getElem
  · simp [madeCells]
  · intro i h1 h2
    have e : i % 1 = 0 := Nat.mod_one i
    simp [madeCells, e]
theorem Try.infoBool : (Try.prog.info? 4).map (fun i => (i.zero, i.size, i.bytes)) = some (some (.bool false), 1, 1) := by kernel_rfl
theorem used_all (S : Sch) : hasB (usedTo S S.rels.length []) false = !((List.range S.attrs.length).all fun a => usedB S a) := by
  rw [Bool.eq_iff_iff]
  unfold hasB usedTo usedB
  rw [List.take_length, decide_eq_true_eq, Bool.not_eq_true', List.all_eq_false, List.mem_map]
  constructor
  · rintro ⟨a, h1, h2⟩
    exact ⟨a, h1, by simpa [inB] using h2⟩
  · rintro ⟨a, h1, h2⟩
    exact ⟨a, h1, by simpa [inB] using h2⟩
set_option maxRecDepth 100000 in
set_option maxHeartbeats 1000000 in
theorem srelations_any (v : Value) (S : Sch) (w : World) {R : Nat → Prop} (h : SchAt w R v S) (hb : SBd S) :
    Calls Try.prog 51 #[v] w fun e w' => e = .returned (.int .i64 (relsE S)) ∧ Below w.heap.size w w' := by
  obtain ⟨A1, c1, A2, c2, A3, c3, rfl, l1, l2, l3, h1, h2, h3⟩ := h
  clear h1 h3 l1 l3
  have hba := hb.a
  have hbr := hb.r
  obtain ⟨ib, hib, hz0, hz1, hz2⟩ := info_parts Try.infoBool
  have hnl : (S.rels.map (·.1)).length = S.rels.length := by simp
  generalize hN : S.rels.map (·.1) = names at *
  have HNM := Lib.hid hN
  have HNL := Lib.hid hnl
  clear hN hnl
  go_enter Try.func51, Try.ntmps51
  go_wp2_with (
    at_make
    go_must (
      refine wpList_make_full _ rfl _ _ 36 rfl w.heap.size 4 ib (.bool false) 1 Try.underlying36 hib hz0 hz1 _ _ _ _ S.attrs.length rfl rfl rfl rfl (by rw [hz2]; omega) (by simp [maxLen]; omega) (by simp) ?_
      intro w1 hown1 hg1
      simp only [World.size_alloc] at hown1
      have hbx := (Blk.new w 28 #[Value.slice A1 S.attrs.length c1, Value.slice A2 S.rels.length c2, Value.slice A3 S.feats.length c3, Value.int IntKind.i64 S.label]).grown hg1 (by simp)
      have x1 := hbx.cell 1
      simp at x1
      have hown2 : w1.ownsRow w.heap.size 4 1 (.slice (some ⟨w.heap.size + 1, 0, none⟩) S.attrs.length S.attrs.length) S.attrs.length (bools (usedTo S 0 [])) := by
        rw [usedTo_zero, bools, List.map_replicate, ← made_one (.bool false) rfl]; exact hown1
      have hbel1 : Below w.heap.size w w1 := ((Below.refl _ _).alloc (Nat.le_refl _) _).trans ((ext_of_grown hg1).mono (by simp))
      clear hbx hown1 hg1))
  clear x1
  go_loopw [3, 18] (fun v i wr => ∃ k : Nat, k ≤ S.rels.length ∧ i = .int .i64 k ∧ wr.ownsRow w.heap.size 9 1 v k (strs (names.take k)) ∧
    wr.ownsRow w.heap.size 4 1 (.slice (some ⟨w.heap.size + 1, 0, none⟩) S.attrs.length S.attrs.length) S.attrs.length (bools (usedTo S k [])) ∧ scanE (relE S) k = 0 ∧ Below w.heap.size w wr) (fun _ i _ => S.rels.length - (intOf i).toNat)
  case atStart => exact ⟨0, Nat.zero_le _, rfl, World.ownsRow_nil _ _ _ _, hown2, rfl, hbel1⟩
  case round =>
    clear hown2 hbel1
    obtain ⟨k, hk, rfl, hown, hownu, hsc, hbel⟩ := hrel
    have HSC := Lib.hid hsc
    clear hsc
    by_cases hlt : k < S.rels.length
    · obtain ⟨b, off, A', c', rfl, hR, hbb, hc1, hc2, hrowk⟩ := h2.at_ hlt
      have hc1' : wr.cell? ⟨b, off + k * 2, none⟩ = some (.string S.rels[k].1) := by rw [hbel.cell (p := ⟨b, off + k * 2, none⟩) hbb]; exact hc1
      have hc2' : wr.cell? ⟨b, off + k * 2 + 1, none⟩ = some (.slice A' S.rels[k].2.length c') := by rw [hbel.cell (p := ⟨b, off + k * 2 + 1, none⟩) hbb]; exact hc2
      have hrl := hb.rl _ (List.getElem_mem hlt)
      clear hc1 hc2
      have hkn : k < names.length := by rw [HNL.out]; exact hlt
      have hnk : names[k] = S.rels[k].1 := by have := HNM.out; subst this; simp
      have hsize : names[k].size ≤ 9223372036854775807 := by rw [hnk]; exact hb.rn _ (List.getElem_mem hlt)
      have htk : names.take (k + 1) = names.take k ++ [S.rels[k].1] := by rw [List.take_succ_eq_append_getElem hkn, hnk]
      have htl : (names.take (k + 1)).length = k + 1 := by simp; omega
      have hfe := relE_eq S k hlt names HNM.out
      have hun := usedTo_next S k hlt
      have hbox : u3.ownBlock ≠ some wr.heap.size := fun e => by have := (hown.lt _ e).2; omega
      have hnu : u3.ownBlock = none ∨ u3.ownBlock ≠ some (w.heap.size + 1) := own_ne_own hown hownu (by decide)
      have hul := (hownu.lt _ rfl).2
      have HTK := Lib.hid htk
      have HTL := Lib.hid htl
      have HFE := Lib.hid hfe
      have HNK := Lib.hid hnk
      have HSZ := Lib.hid hsize
      have HUN := Lib.hid hun
      clear htk htl hfe hnk hsize hun
      have hcase := namedE_cases names k
      have HNT := Lib.hid (namedE_take names k)
      generalize namedE names k = ne at *
      generalize hL : S.rels[k].2 = L at *
      generalize hNm : S.rels[k].1 = nm0 at *
      have hcc : ((ne != 0) = true ∧ ne ≠ 0) ∨ ((ne != 0) = false ∧ ne = 0) := by rcases hcase with h | h | h <;> simp [h]
      clear hcase
      have HL := Lib.hid hL
      clear hL hNm
      rcases hcc with ⟨hcb, hne⟩ | ⟨hcb, hne⟩
      · have HNE := Lib.hid hne
        clear hne
        go_wp2_with (first
          | (at_builtin
             go_must (
              refine wpList_app (W := wr.alloc _) rfl _ _ 85 rfl w.heap.size 9 _ 1 16 Try.underlying85 Try.infoStr rfl (by decide) (by decide) u3 k 1 (strs (names.take k)) rfl rfl (by simp) (hown.alloc _) rfl (by simp; rfl) (by omega) (by have := hbel.size; simp; omega) ?_
              intro A4 c4 w4 hown4 hg4 hat4
              have hown5 : w4.ownsRow w.heap.size 9 1 (.slice A4 (k + 1) c4) (k + 1) (strs (names.take (k + 1))) := by rw [HTK.out]; simpa using hown4
              have hrow5 := Row.of_own hown5
              have hbel4 : Below w.heap.size w w4 := (hbel.alloc hbel.size _).grown hg4 (by have := hbel.size; simp; omega) (fun g e => (hown.lt g e).1)
              obtain ⟨_, _, hsl, hcc4, _⟩ := own_slice hown5
              simp at hsl
              have hct : Calls Try.prog 61 #[.slice A4 (k + 1) c4, .int .i64 k] w4 fun e w' => e = .returned (.int .i64 ne) ∧ Below w4.heap.size w4 w' := by
                have := named_any A4 c4 (names.take (k + 1)) k w4 hrow5 (by rw [HTL.out]; omega) (by rw [HTL.out, hsl.2]; exact hcc4) (by rw [HTL.out]; omega) (by simpa using HSZ.out)
                rw [HNT.out, HTL.out] at this
                exact this
              have HCT := Lib.hid hct
              clear hct hown4 hg4 hat4 hsl hcc4 hrow5 hown5))
          | (go_at_call 61
             go_must (
              refine HCT.out.mono ?_
              rintro e w5 ⟨rfl, hb5⟩)))
        go_ret
        refine ⟨ret_int ?_, hbel4.trans (hb5.mono hbel4.size)⟩
        have hf : relE S k = ne := by rw [HFE.out, if_pos HNE.out]
        have hs : scanE (relE S) S.rels.length = ne := by rw [scanE_at HSC.out (by rw [hf]; exact HNE.out) hlt, hf]
        unfold relsE
        rw [hs, if_pos HNE.out]
      · have HNE := Lib.hid hne
        clear hne
        have hlc : (((L.length : Nat) : Int) == 0) = true ∧ L = [] ∨ (((L.length : Nat) : Int) == 0) = false ∧ L ≠ [] ∧ 1 ≤ L.length := by
          rcases Classical.em (L = []) with h | h
          · subst h; exact .inl ⟨rfl, rfl⟩
          · have : 0 < L.length := List.length_pos_iff.2 h
            exact .inr ⟨by simp; omega, h, this⟩
        rcases hlc with ⟨hl0, hle⟩ | ⟨hl0, hle, hl1⟩
        · have HLE := Lib.hid hle
          clear hle
          go_wp2_with (first
            | (at_builtin
               go_must (
                refine wpList_app (W := wr.alloc _) rfl _ _ 85 rfl w.heap.size 9 _ 1 16 Try.underlying85 Try.infoStr rfl (by decide) (by decide) u3 k 1 (strs (names.take k)) rfl rfl (by simp) (hown.alloc _) rfl (by simp; rfl) (by omega) (by have := hbel.size; simp; omega) ?_
                intro A4 c4 w4 hown4 hg4 hat4
                have hown5 : w4.ownsRow w.heap.size 9 1 (.slice A4 (k + 1) c4) (k + 1) (strs (names.take (k + 1))) := by rw [HTK.out]; simpa using hown4
                have hrow5 := Row.of_own hown5
                have hbel4 : Below w.heap.size w w4 := (hbel.alloc hbel.size _).grown hg4 (by have := hbel.size; simp; omega) (fun g e => (hown.lt g e).1)
                have hbx := (Blk.new wr 33 #[.string nm0, .slice A' L.length c']).grown hg4 (fun e => hbox e.symm)
                have hownu5 := (hownu.alloc _).kept hg4 (.inr (own_ne_own' hnu))
                obtain ⟨_, _, hsl, hcc4, _⟩ := own_slice hown5
                simp at hsl
                have hct : Calls Try.prog 61 #[.slice A4 (k + 1) c4, .int .i64 k] w4 fun e w' => e = .returned (.int .i64 ne) ∧ Below w4.heap.size w4 w' := by
                  have := named_any A4 c4 (names.take (k + 1)) k w4 hrow5 (by rw [HTL.out]; omega) (by rw [HTL.out, hsl.2]; exact hcc4) (by rw [HTL.out]; omega) (by simpa using HSZ.out)
                  rw [HNT.out, HTL.out] at this
                  exact this
                have HCT := Lib.hid hct
                have HBX := Lib.hid hbx
                have HO5 := Lib.hid hown5
                clear hct hown4 hg4 hat4 hsl hcc4 hrow5 hown5 hbx))
            | (go_at_call 61
               go_must (
                refine HCT.out.mono ?_
                rintro e w5 ⟨rfl, hb5⟩
                have hbx5 := HBX.out.ext hb5
                have y1 := hbx5.cell 1
                simp at y1
                have hu6 := hownu5.kept (grown_of_ext hb5 none) (by simp [Value.ownBlock])
                have hn6 := HO5.out.kept (grown_of_ext hb5 none) (by simp [Value.ownBlock]; cases A4 <;> simp)
                have hbel5 := hbel4.trans (hb5.mono hbel4.size)
                have hs5 := HBX.out.lt
                have hs6 := hb5.size
                have HBX5 := Lib.hid hbx5
                clear hbx5 hownu5)))
          go_ret
          refine ⟨ret_int ?_, hbel5⟩
          have hf : relE S k = 7 := by rw [HFE.out, HNE.out, HLE.out]; simp
          have hs : scanE (relE S) S.rels.length = 7 := by rw [scanE_at HSC.out (by rw [hf]; decide) hlt, hf]
          unfold relsE
          rw [hs]; simp
        · have HLE := Lib.hid hle
          clear hle
          go_wp2_with (first
            | (at_builtin
               go_must (
                refine wpList_app (W := wr.alloc _) rfl _ _ 85 rfl w.heap.size 9 _ 1 16 Try.underlying85 Try.infoStr rfl (by decide) (by decide) u3 k 1 (strs (names.take k)) rfl rfl (by simp) (hown.alloc _) rfl (by simp; rfl) (by omega) (by have := hbel.size; simp; omega) ?_
                intro A4 c4 w4 hown4 hg4 hat4
                have hown5 : w4.ownsRow w.heap.size 9 1 (.slice A4 (k + 1) c4) (k + 1) (strs (names.take (k + 1))) := by rw [HTK.out]; simpa using hown4
                have hrow5 := Row.of_own hown5
                have hbel4 : Below w.heap.size w w4 := (hbel.alloc hbel.size _).grown hg4 (by have := hbel.size; simp; omega) (fun g e => (hown.lt g e).1)
                have hbx := (Blk.new wr 33 #[.string nm0, .slice A' L.length c']).grown hg4 (fun e => hbox e.symm)
                have hownu5 := (hownu.alloc _).kept hg4 (.inr (own_ne_own' hnu))
                obtain ⟨_, _, hsl, hcc4, _⟩ := own_slice hown5
                simp at hsl
                have hct : Calls Try.prog 61 #[.slice A4 (k + 1) c4, .int .i64 k] w4 fun e w' => e = .returned (.int .i64 ne) ∧ Below w4.heap.size w4 w' := by
                  have := named_any A4 c4 (names.take (k + 1)) k w4 hrow5 (by rw [HTL.out]; omega) (by rw [HTL.out, hsl.2]; exact hcc4) (by rw [HTL.out]; omega) (by simpa using HSZ.out)
                  rw [HNT.out, HTL.out] at this
                  exact this
                have HCT := Lib.hid hct
                have HBX := Lib.hid hbx
                have HO5 := Lib.hid hown5
                clear hct hown4 hg4 hat4 hsl hcc4 hrow5 hown5 hbx))
            | (go_at_call 61
               go_must (
                refine HCT.out.mono ?_
                rintro e w5 ⟨rfl, hb5⟩
                have hbx5 := HBX.out.ext hb5
                have y1 := hbx5.cell 1
                simp at y1
                have hu6 := hownu5.kept (grown_of_ext hb5 none) (by simp [Value.ownBlock])
                have hn6 := HO5.out.kept (grown_of_ext hb5 none) (by simp [Value.ownBlock]; cases A4 <;> simp)
                have hbel5 := hbel4.trans (hb5.mono hbel4.size)
                have hs5 := HBX.out.lt
                have hs6 := hb5.size
                have HBX5 := Lib.hid hbx5
                clear hbx5 hownu5)))
          obtain ⟨wo, rfl⟩ : ∃ wo : World, wo = wr := ⟨_, rfl⟩
          clear hc1' hc2' HCT HBX
          go_loopw [41] (fun i wq => ∃ j : Nat, j ≤ L.length ∧ i = .int .i64 j ∧ wq.ownsRow w.heap.size 4 1 (.slice (some ⟨w.heap.size + 1, 0, none⟩) S.attrs.length S.attrs.length) S.attrs.length (bools (usedTo S k (L.take j))) ∧
            (∀ a ∈ L.take j, 0 ≤ a ∧ a < S.attrs.length) ∧ w5.grownBy wq (some (w.heap.size + 1))) (fun i _ => L.length - (intOf i).toNat)
          case atStart => exact ⟨0, Nat.zero_le _, rfl, hu6, by simp, World.grownBy.refl _ _⟩
          case round =>
            obtain ⟨j, hj, rfl, huj, haj, hgj⟩ := hrel
            have HAJ := Lib.hid haj
            clear haj
            have hbelj : Below w.heap.size w wr := hbel5.grown hgj (by have := hbel5.size; omega) (fun g e => by injection e with e; omega)
            by_cases hjl : j < L.length
            · obtain ⟨b', off', rfl, hbb', hcj⟩ := (hrowk.ext hbelj).int_at hjl
              have hrange : L[j] < 0 ∨ (0 ≤ L[j] ∧ (S.attrs.length : Int) ≤ L[j]) ∨ (0 ≤ L[j] ∧ L[j] < S.attrs.length) := by omega
              rcases hrange with hr | ⟨hr1, hr2⟩ | ⟨hr1, hr2⟩
              · go_wp2
                go_ret
                refine ⟨ret_int ?_, hbelj⟩
                have hf : relE S k = 2 := by rw [HFE.out, HNE.out, rng_no hjl (by omega)]; simp [HLE.out]
                have hs : scanE (relE S) S.rels.length = 2 := by rw [scanE_at HSC.out (by rw [hf]; decide) hlt, hf]
                unfold relsE
                rw [hs]; simp
              · go_wp2
                go_ret
                refine ⟨ret_int ?_, hbelj⟩
                have hf : relE S k = 2 := by rw [HFE.out, HNE.out, rng_no hjl (by omega)]; simp [HLE.out]
                have hs : scanE (relE S) S.rels.length = 2 := by rw [scanE_at HSC.out (by rw [hf]; decide) hlt, hf]
                unfold relsE
                rw [hs]; simp
              · obtain ⟨an, han⟩ := Int.eq_ofNat_of_zero_le hr1
                have htj : L.take (j + 1) = L.take j ++ [(an : Int)] := by rw [List.take_succ_eq_append_getElem hjl, han]
                have HTJ := Lib.hid htj
                rw [han] at hr1 hr2 hcj
                have hanl : an < S.attrs.length := by omega
                have hcu : wr.cell? ⟨w.heap.size + 1, an, none⟩ = some (.bool ((usedTo S k (L.take j))[an]'(by rw [usedTo_len]; exact hanl))) := by
                  rw [huj.cellAt an (by omega), List.getElem?_map, List.getElem?_eq_getElem (by rw [usedTo_len]; exact hanl)]; rfl
                have hfu := huj.frozenAt an
                have hst := huj.stored an (.bool true)
                clear htj han
                go_wp2
                refine ⟨⟨j + 1, by omega, by go_num, ?_, ?_, ?_⟩, by simp [intOf]; omega⟩
                · rw [HTJ.out, usedTo_step, bools, List.map_set]; exact hst.1
                · intro a ha
                  rw [HTJ.out] at ha
                  rcases List.mem_append.1 ha with h | h
                  · exact HAJ.out a h
                  · simp at h; subst h; exact ⟨hr1, hr2⟩
                · exact grown_trans hgj hst.2 (fun g e _ => e)
            · have hjL : L.take j = L := List.take_of_length_le (by omega)
              rw [hjL] at huj
              have hall := rng_yes (l := L) (n := S.attrs.length) (fun a ha => HAJ.out a (by rw [hjL]; exact ha))
              have HALL := Lib.hid hall
              have hbxj := HBX5.out.grown hgj (by simp; omega)
              have z1 := hbxj.cell 1
              simp at z1
              have hnj := hn6.kept hgj (own_ne_own hn6 hu6 (by decide))
              clear hall hjL hbxj HAJ
              obtain ⟨wp, rfl⟩ : ∃ wp : World, wp = wr := ⟨_, rfl⟩
              have hd1 : decide (j < L.length) = false := by simp; omega
              go_wp2
              clear hd1
              go_loopw [10] (fun i wq => ∃ q n : Nat, 1 ≤ q ∧ q ≤ L.length ∧ i = .int .i64 q ∧ (∀ p, p + 1 < q → L.getD p 0 < L.getD (p + 1) 0) ∧ wq = wp.drewN n) (fun i _ => L.length - (intOf i).toNat)
              case atStart => exact ⟨1, 0, by omega, by omega, rfl, fun p hp => absurd hp (by omega), rfl⟩
              case round =>
                obtain ⟨q, n, hq1, hq2, rfl, hasc, rfl⟩ := hrel
                have HAS := Lib.hid hasc
                clear hasc
                by_cases hql : q < L.length
                · have hrw := hrowk.ext hbelj
                  obtain ⟨b', off', hA, hbb', hcq⟩ := hrw.int_at hql
                  obtain ⟨b2, off2, hA2, _, hcq2⟩ := hrw.int_at (show q - 1 < L.length by omega)
                  subst hA
                  simp at hA2
                  obtain ⟨rfl, rfl⟩ := hA2
                  have i1 : IntKind.i64.wrap ((q : Int) - 1) = ((q - 1 : Nat) : Int) := by rw [show ((q : Int) - 1) = ((q - 1 : Nat) : Int) by omega]; exact IntWalk.i64_in _ (by omega)
                  have i2 : (0 : Int) ≤ (q : Int) := by omega
                  have i3 : (q : Int) < (L.length : Int) := by omega
                  have i4 : (0 : Int) ≤ ((q - 1 : Nat) : Int) := by omega
                  have i5 : ((q - 1 : Nat) : Int) < (L.length : Int) := by omega
                  have hgq : L.getD q 0 = L[q] := by simp [List.getD, hql]
                  have hgq1 : L.getD (q - 1) 0 = L[q - 1] := by simp [List.getD, show q - 1 < L.length by omega]
                  have HGQ := Lib.hid hgq
                  have HGQ1 := Lib.hid hgq1
                  clear hgq hgq1 hrw
                  by_cases hle2 : L[q] ≤ L[q - 1]
                  · go_wp2
                    go_quiet (fail)
                    go_wp2
                    go_ret
                    refine ⟨ret_int ?_, below_drewN (below_drewN hbelj _) _⟩
                    have hf : relE S k = 10 := by rw [HFE.out, HNE.out, HALL.out, asc_no hq1 hql hle2]; simp [HLE.out]
                    have hs : scanE (relE S) S.rels.length = 10 := by rw [scanE_at HSC.out (by rw [hf]; decide) hlt, hf]
                    unfold relsE
                    rw [hs]; simp
                  · go_wp2
                    go_quiet (fail)
                    go_wp2
                    refine ⟨⟨q + 1, _, by omega, by omega, by go_num, ?_, rfl⟩, by simp [intOf]; omega⟩
                    intro p hp
                    by_cases e : p + 1 < q
                    · exact HAS.out p e
                    · obtain rfl : q = p + 1 := by omega
                      have hg : L.getD (p + 1 - 1) 0 < L.getD (p + 1) 0 := by rw [HGQ.out, HGQ1.out]; omega
                      exact hg
                · have hasc := asc_yes (l := L) (fun p hp => HAS.out p (by omega))
                  have HASC := Lib.hid hasc
                  have hd2 : decide (q < L.length) = false := by simp; omega
                  clear hasc
                  go_wp2
                  refine ⟨⟨k + 1, by omega, by go_num, ?_, ?_, ?_, below_drewN hbelj _⟩, by simp [intOf]; omega⟩
                  · exact hnj
                  · rw [← HUN.out]; exact huj
                  · rw [scanE_succ HSC.out, HFE.out, HNE.out, HALL.out, HASC.out]; simp [HLE.out]
    · go_wp2_with (
        go_at_call 62
        go_must (
          have hrow := Row.of_own hownu
          have := contains_bool (some ⟨w.heap.size + 1, 0, none⟩) S.attrs.length (usedTo S k []) false wr hrow (by rw [usedTo_len]; omega)
          rw [usedTo_len] at this
          refine this.mono ?_
          rintro e w' ⟨rfl, rfl⟩
          obtain rfl : k = S.rels.length := by omega
          rw [used_all]
          generalize hQ : ((List.range S.attrs.length).all fun a => usedB S a) = Q
          have HQ := Lib.hid hQ
          clear hQ hrow this))
      · go_ret
        refine ⟨ret_int ?_, hbel⟩
        have hq : Q = false := by simp_all
        unfold relsE
        rw [HSC.out, HQ.out, hq]; simp
      · go_ret
        refine ⟨ret_int ?_, hbel⟩
        have hq : Q = true := by simp_all
        unfold relsE
        rw [HSC.out, HQ.out, hq]; simp
end Go.Proofs.Ytopblgabadljdaa
namespace Go.Proofs.Ytopblgabadljdaa
open Go.RowKit
theorem featCells_get (l : List (Int × Int × Int)) (k : Nat) (hk : k < l.length) : (featCells l)[k * 3]? = some (.int .i64 l[k].1) ∧ (featCells l)[k * 3 + 1]? = some (.int .i64 l[k].2.1) ∧ (featCells l)[k * 3 + 2]? = some (.int .i64 l[k].2.2) := by
  induction l generalizing k with
  | nil => simp at hk
  | cons a l ih =>
    cases k with
    | zero => exact ⟨rfl, rfl, rfl⟩
    | succ k =>
      have := ih k (by simpa using hk)
      simp only [featCells, List.flatMap_cons] at this ⊢
      rw [show (k + 1) * 3 = (k * 3) + 3 by omega, List.getElem?_append_right (by simp), show (k * 3 + 3 + 1) = (k * 3 + 1) + 3 by omega, List.getElem?_append_right (by simp), show (k * 3 + 3 + 2) = (k * 3 + 2) + 3 by omega, List.getElem?_append_right (by simp)]
      simpa using this
theorem featCells_len (l : List (Int × Int × Int)) : (featCells l).length = l.length * 3 := by
  induction l with
  | nil => rfl
  | cons a l ih => simp only [featCells, List.flatMap_cons, List.length_append, List.length_cons, List.length_nil] at ih ⊢; omega
theorem featCells_take (l : List (Int × Int × Int)) (k : Nat) : featCells (l.take k) = (featCells l).take (k * 3) := by
  induction l generalizing k with
  | nil => simp [featCells]
  | cons a l ih =>
    cases k with
    | zero => simp [featCells]
    | succ k =>
      have := ih k
      simp only [featCells, List.take_succ_cons, List.flatMap_cons] at this ⊢
      rw [this, show (k + 1) * 3 = k * 3 + 3 by omega]
      rfl
theorem feat_at {w : World} {R : Nat → Prop} {A : Option Addr} {l : List (Int × Int × Int)} (h : Row w R A (featCells l)) {k : Nat} (hk : k < l.length) :
    ∃ b off : Nat, A = some ⟨b, off, none⟩ ∧ b < w.heap.size ∧ w.cell? ⟨b, off + k * 3, none⟩ = some (.int .i64 l[k].1) ∧ w.cell? ⟨b, off + k * 3 + 1, none⟩ = some (.int .i64 l[k].2.1) ∧ w.cell? ⟨b, off + k * 3 + 2, none⟩ = some (.int .i64 l[k].2.2) := by
  obtain ⟨b, off, e, _, hb, hc⟩ := h.at_ (k := k * 3) (by rw [featCells_len]; omega)
  obtain ⟨h1, h2, h3⟩ := featCells_get l k hk
  exact ⟨b, off, e, hb, by rw [hc _ (by rw [featCells_len]; omega)]; exact h1, by rw [Nat.add_assoc, hc _ (by rw [featCells_len]; omega)]; exact h2, by rw [Nat.add_assoc, hc _ (by rw [featCells_len]; omega)]; exact h3⟩
/-- The closure in features: is it the same attribute? -/
theorem feat1_any (a k m : Int) (bf : Nat) (x y z : Int) (w : World) (h : Blk w bf 83 #[.int .i64 x, .int .i64 y, .int .i64 z]) :
    Calls Try.prog 64 #[.agg #[.int .i64 a, .int .i64 k, .int .i64 m], .pointer (some ⟨bf, 0, none⟩)] w fun e w' => e = .returned (.bool (a == x)) ∧ Below w.heap.size w w' := by
  have hc := h.cell 0
  have hlt := h.lt
  simp at hc
  go_enter Try.func64, Try.ntmps64
  go_wp2
  go_ret
  exact ⟨rfl, (Below.refl _ _).alloc (Nat.le_refl _) _⟩
theorem indexF_any (A : Option Addr) (c : Nat) (l : List (Int × Int × Int)) (bf : Nat) (x y z : Int) (w : World) {R : Nat → Prop} (h : Row w R A (featCells l)) (hl : l.length ≤ 1000) (hf : Blk w bf 83 #[.int .i64 x, .int .i64 y, .int .i64 z]) :
    Calls Try.prog 69 #[.slice A l.length c, .func (.func 64) #[] #[.pointer (some ⟨bf, 0, none⟩)]] w fun e w' => e = .returned (.int .i64 (idxI (l.map (·.1)) x)) ∧ Below w.heap.size w w' := by
  have hml : (l.map (·.1)).length = l.length := by simp
  generalize hM : l.map (·.1) = m at *
  have HM := Lib.hid hM
  have HML := Lib.hid hml
  clear hM hml
  go_enter Try.func69, Try.ntmps69
  go_wp2
  go_loopw [8] (fun i wr => ∃ k : Nat, k ≤ l.length ∧ i = .int .i64 k ∧ hasB (m.take k) x = false ∧ Below w.heap.size w wr) (fun i _ => l.length - (intOf i).toNat)
  case atStart => exact ⟨0, Nat.zero_le _, rfl, by simp [hasB], Below.refl _ _⟩
  case round =>
    obtain ⟨k, hk, rfl, hno, hbel⟩ := hrel
    have HN := Lib.hid hno
    clear hno
    by_cases hlt : k < l.length
    · obtain ⟨b, off, rfl, hbb, c1, c2, c3⟩ := feat_at (h.ext hbel) hlt
      have hf' := hf.ext hbel
      have hmk : ∃ hk2 : k < m.length, m[k] = l[k].1 := ⟨by rw [HML.out]; exact hlt, by have := HM.out; subst this; simp⟩
      have HMK := Lib.hid hmk
      have HF := Lib.hid hf'
      clear hmk hf'
      cases he : (l[k].1 == x)
      · go_wp2_with (go_at_call 64; go_must (refine (feat1_any _ _ _ bf x y z _ HF.out).mono ?_; rintro e w1 ⟨rfl, hb1⟩))
        obtain ⟨hk2, hmk⟩ := HMK.out
        exact ⟨⟨k + 1, by omega, by go_num, hasB_succ hk2 HN.out (by rw [hmk]; simpa using he), hbel.trans (hb1.mono hbel.size)⟩, by simp [intOf]; omega⟩
      · go_wp2_with (go_at_call 64; go_must (refine (feat1_any _ _ _ bf x y z _ HF.out).mono ?_; rintro e w1 ⟨rfl, hb1⟩))
        go_ret
        obtain ⟨hk2, hmk⟩ := HMK.out
        exact ⟨ret_int (idxI_snoc hk2 HN.out (by rw [hmk]; simpa using he)).symm, hbel.trans (hb1.mono hbel.size)⟩
    · go_wp2
      go_ret
      have hn := HN.out
      rw [List.take_of_length_le (by rw [HML.out]; omega)] at hn
      exact ⟨ret_int (idxI_none hn).symm, hbel⟩
theorem containsF_any (A : Option Addr) (c : Nat) (l : List (Int × Int × Int)) (bf : Nat) (x y z : Int) (w : World) {R : Nat → Prop} (h : Row w R A (featCells l)) (hl : l.length ≤ 1000) (hf : Blk w bf 83 #[.int .i64 x, .int .i64 y, .int .i64 z]) :
    Calls Try.prog 63 #[.slice A l.length c, .func (.func 64) #[] #[.pointer (some ⟨bf, 0, none⟩)]] w fun e w' => e = .returned (.bool (hasB (l.map (·.1)) x)) ∧ Below w.heap.size w w' := by
  have hb := (idxI_bd (l.map (·.1)) x).1
  have HB := Lib.hid hb
  clear hb
  go_enter Try.func63, Try.ntmps63
  go_wp2_with (go_at_call 69; go_must (refine (indexF_any A c l bf x y z w h hl hf).mono ?_; rintro e w1 ⟨rfl, hb1⟩))
  go_ret
  exact ⟨ret_bool (by rw [Bool.eq_iff_iff]; simpa using HB.out), hb1⟩
theorem featE_eq (S : Sch) (k : Nat) (hk : k < S.feats.length) : featE S k = if S.feats[k].1 < 0 ∨ (S.attrs.length : Int) ≤ S.feats[k].1 then 2
    else if ((S.feats[k].2.1 == 1 && (S.attrs.getD S.feats[k].1.toNat default).2 == 2 && (S.feats[k].2.2 == 0 || S.feats[k].2.2 == 1)) || (S.feats[k].2.1 == 2 && (S.attrs.getD S.feats[k].1.toNat default).2 == 3 && S.feats[k].2.2 == 0)) = false then 7
    else if (S.feats[k].1 == S.label || hasB ((S.feats.take k).map (·.1)) S.feats[k].1) = true then 9 else 0 := by
  have e : S.feats.getD k default = S.feats[k] := by simp [List.getD, hk]
  have e2 : ((S.feats.take k).any fun g => g.1 == S.feats[k].1) = hasB ((S.feats.take k).map (·.1)) S.feats[k].1 := by
    unfold hasB
    rw [Bool.eq_iff_iff, List.any_eq_true, decide_eq_true_eq, List.mem_map]
    constructor
    · rintro ⟨g, h1, h2⟩; exact ⟨g, h1, by simpa using h2⟩
    · rintro ⟨g, h1, h2⟩; exact ⟨g, h1, by simpa using h2⟩
  unfold featE
  rw [e, ← e2]
set_option maxRecDepth 100000 in
set_option maxHeartbeats 1000000 in
theorem features_any (v : Value) (S : Sch) (w : World) {R : Nat → Prop} (h : SchAt w R v S) (hb : SBd S) :
    Calls Try.prog 52 #[v] w fun e w' => e = .returned (.int .i64 (scanE (featE S) S.feats.length)) ∧ Below w.heap.size w w' := by
  obtain ⟨A1, c1, A2, c2, A3, c3, rfl, l1, l2, l3, h1, h2, h3⟩ := h
  clear h2 l1 l2
  have hba := hb.a
  have hbf := hb.f
  go_enter Try.func52, Try.ntmps52
  go_wp2
  go_loopw [11] (fun i wr => ∃ k : Nat, k ≤ S.feats.length ∧ i = .int .i64 k ∧
    Blk wr w.heap.size 28 #[Value.slice A1 S.attrs.length c1, Value.slice A2 S.rels.length c2, Value.slice A3 S.feats.length c3, Value.int IntKind.i64 S.label] ∧ scanE (featE S) k = 0 ∧ Below w.heap.size w wr) (fun i _ => S.feats.length - (intOf i).toNat)
  case atStart => exact ⟨0, Nat.zero_le _, rfl, Blk.new _ _ _, rfl, (Below.refl _ _).alloc (Nat.le_refl _) _⟩
  case round =>
    obtain ⟨k, hk, rfl, hbx, hsc, hbel⟩ := hrel
    have HSC := Lib.hid hsc
    have HBX := Lib.hid hbx
    have x0 := hbx.cell 0
    have x2 := hbx.cell 2
    have x3 := hbx.cell 3
    have xlt := hbx.lt
    simp at x0 x2 x3
    clear hsc hbx
    by_cases hlt : k < S.feats.length
    · obtain ⟨b, off, rfl, hbb, hc1, hc2, hc3⟩ := feat_at h3 hlt
      have hc1' : wr.cell? ⟨b, off + k * 3, none⟩ = some (.int .i64 S.feats[k].1) := by rw [hbel.cell (p := ⟨b, off + k * 3, none⟩) hbb]; exact hc1
      have hc2' : wr.cell? ⟨b, off + k * 3 + 1, none⟩ = some (.int .i64 S.feats[k].2.1) := by rw [hbel.cell (p := ⟨b, off + k * 3 + 1, none⟩) hbb]; exact hc2
      have hc3' : wr.cell? ⟨b, off + k * 3 + 2, none⟩ = some (.int .i64 S.feats[k].2.2) := by rw [hbel.cell (p := ⟨b, off + k * 3 + 2, none⟩) hbb]; exact hc3
      clear hc1 hc2 hc3
      have hrange : S.feats[k].1 < 0 ∨ (0 ≤ S.feats[k].1 ∧ (S.attrs.length : Int) ≤ S.feats[k].1) ∨ (0 ≤ S.feats[k].1 ∧ S.feats[k].1 < S.attrs.length) := by omega
      have hfe := featE_eq S k hlt
      generalize S.feats[k].1 = F at *
      generalize S.feats[k].2.1 = K at *
      generalize S.feats[k].2.2 = M at *
      have HFE := Lib.hid hfe
      clear hfe
      rcases hrange with hr | ⟨hr1, hr2⟩ | ⟨hr1, hr2⟩
      · go_wp2
        go_ret
        refine ⟨ret_int ?_, hbel.alloc hbel.size _⟩
        have hf : featE S k = 2 := by rw [HFE.out, if_pos (.inl hr)]
        rw [scanE_at HSC.out (by rw [hf]; decide) hlt, hf]
      · go_wp2
        go_ret
        refine ⟨ret_int ?_, hbel.alloc hbel.size _⟩
        have hf : featE S k = 2 := by rw [HFE.out, if_pos (.inr hr2)]
        rw [scanE_at HSC.out (by rw [hf]; decide) hlt, hf]
      · obtain ⟨an, rfl⟩ := Int.eq_ofNat_of_zero_le hr1
        have hanl : an < S.attrs.length := by omega
        obtain ⟨b', off', hA1, hbb', ha1, ha2⟩ := attr_at (h1.ext hbel) hanl
        subst hA1
        have hat : (S.attrs.getD ((an : Int)).toNat default).2 = S.attrs[an].2 := by simp [List.getD, hanl]
        have hfe2 := HFE.out
        rw [hat, if_neg (by omega)] at hfe2
        generalize S.attrs[an].2 = D at *
        have hct : ∀ M' : Int, Calls Try.prog 63 #[.slice (some ⟨b, off, none⟩) k c3, .func (.func 64) #[] #[.pointer (some ⟨wr.heap.size, 0, none⟩)]]
            (wr.alloc (.cells #[.int .i64 an, .int .i64 K, .int .i64 M'] 83)) fun e w' => e = .returned (.bool (hasB ((S.feats.take k).map (·.1)) (an : Int))) ∧ Below (wr.heap.size + 1) (wr.alloc (.cells #[.int .i64 an, .int .i64 K, .int .i64 M'] 83)) w' := fun M' => by
          have hrt : Row wr R (some ⟨b, off, none⟩) (featCells (S.feats.take k)) := by rw [featCells_take]; exact (h3.ext hbel).take _
          have := containsF_any (some ⟨b, off, none⟩) c3 (S.feats.take k) wr.heap.size an K M' _ (hrt.alloc (.cells #[.int .i64 an, .int .i64 K, .int .i64 M'] 83)) (by simp; omega) (Blk.new _ _ _)
          rw [show (S.feats.take k).length = k by simp; omega, World.size_alloc] at this
          exact this
        generalize hasB ((S.feats.take k).map (·.1)) (an : Int) = dup at hct hfe2
        have HCT := Lib.hid hct
        clear hat HFE
        have HFE := Lib.hid hfe2
        clear hfe2 hct ha1
        cases hK1 : (K == 1)
        · cases hK2 : (K == 2)
          · -- neither
            go_wp2_with fail
            go_ret
            refine ⟨ret_int ?_, hbel.alloc hbel.size _⟩
            have hf : featE S k = 7 := by rw [HFE.out]; simp [*]
            rw [scanE_at HSC.out (by rw [hf]; decide) hlt, hf]
          · cases hD3 : (D == 3)
            · -- no category
              go_wp2_with fail
              go_ret
              refine ⟨ret_int ?_, hbel.alloc hbel.size _⟩
              have hf : featE S k = 7 := by rw [HFE.out]; simp [*]
              rw [scanE_at HSC.out (by rw [hf]; decide) hlt, hf]
            · cases hM0 : (M == 0)
              · -- missing
                go_wp2_with fail
                go_ret
                refine ⟨ret_int ?_, hbel.alloc hbel.size _⟩
                have hf : featE S k = 7 := by rw [HFE.out]; simp [*]
                rw [scanE_at HSC.out (by rw [hf]; decide) hlt, hf]
              · -- a category
                cases hLb : ((an : Int) == S.label)
                · cases dup
                  · go_wp2_with (go_at_call 63; go_must (refine (HCT.out M).mono ?_; rintro e w1 ⟨rfl, hb1⟩))
                    refine ⟨⟨k + 1, by omega, by go_num, (HBX.out.alloc _).below hb1 (by omega), ?_, ?_⟩, by simp [intOf]; omega⟩
                    · rw [scanE_succ HSC.out, HFE.out]; simp [*]
                    · exact (hbel.alloc hbel.size _).trans (hb1.mono (by have := hbel.size; simp; omega))
                  · go_wp2_with (go_at_call 63; go_must (refine (HCT.out M).mono ?_; rintro e w1 ⟨rfl, hb1⟩))
                    go_ret
                    refine ⟨ret_int ?_, (hbel.alloc hbel.size _).trans (hb1.mono (by have := hbel.size; simp; omega))⟩
                    have hf : featE S k = 9 := by rw [HFE.out]; simp [*]
                    rw [scanE_at HSC.out (by rw [hf]; decide) hlt, hf]
                · go_wp2_with fail
                  go_ret
                  refine ⟨ret_int ?_, hbel.alloc hbel.size _⟩
                  have hf : featE S k = 9 := by rw [HFE.out]; simp [*]
                  rw [scanE_at HSC.out (by rw [hf]; decide) hlt, hf]
        · have hK2 : (K == 2) = false := by simp at hK1; simp [hK1]
          cases hD2 : (D == 2)
          · -- no number
            go_wp2_with fail
            go_ret
            refine ⟨ret_int ?_, hbel.alloc hbel.size _⟩
            have hf : featE S k = 7 := by rw [HFE.out]; simp [*]
            rw [scanE_at HSC.out (by rw [hf]; decide) hlt, hf]
          · cases hM0 : (M == 0)
            · cases hM1 : (M == 1)
              · -- missing
                go_wp2_with fail
                go_ret
                refine ⟨ret_int ?_, hbel.alloc hbel.size _⟩
                have hf : featE S k = 7 := by rw [HFE.out]; simp [*]
                rw [scanE_at HSC.out (by rw [hf]; decide) hlt, hf]
              · -- a number
                cases hLb : ((an : Int) == S.label)
                · cases dup
                  · go_wp2_with (go_at_call 63; go_must (refine (HCT.out M).mono ?_; rintro e w1 ⟨rfl, hb1⟩))
                    refine ⟨⟨k + 1, by omega, by go_num, (HBX.out.alloc _).below hb1 (by omega), ?_, ?_⟩, by simp [intOf]; omega⟩
                    · rw [scanE_succ HSC.out, HFE.out]; simp [*]
                    · exact (hbel.alloc hbel.size _).trans (hb1.mono (by have := hbel.size; simp; omega))
                  · go_wp2_with (go_at_call 63; go_must (refine (HCT.out M).mono ?_; rintro e w1 ⟨rfl, hb1⟩))
                    go_ret
                    refine ⟨ret_int ?_, (hbel.alloc hbel.size _).trans (hb1.mono (by have := hbel.size; simp; omega))⟩
                    have hf : featE S k = 9 := by rw [HFE.out]; simp [*]
                    rw [scanE_at HSC.out (by rw [hf]; decide) hlt, hf]
                · go_wp2_with fail
                  go_ret
                  refine ⟨ret_int ?_, hbel.alloc hbel.size _⟩
                  have hf : featE S k = 9 := by rw [HFE.out]; simp [*]
                  rw [scanE_at HSC.out (by rw [hf]; decide) hlt, hf]
            · -- a number
              cases hLb : ((an : Int) == S.label)
              · cases dup
                · go_wp2_with (go_at_call 63; go_must (refine (HCT.out M).mono ?_; rintro e w1 ⟨rfl, hb1⟩))
                  refine ⟨⟨k + 1, by omega, by go_num, (HBX.out.alloc _).below hb1 (by omega), ?_, ?_⟩, by simp [intOf]; omega⟩
                  · rw [scanE_succ HSC.out, HFE.out]; simp [*]
                  · exact (hbel.alloc hbel.size _).trans (hb1.mono (by have := hbel.size; simp; omega))
                · go_wp2_with (go_at_call 63; go_must (refine (HCT.out M).mono ?_; rintro e w1 ⟨rfl, hb1⟩))
                  go_ret
                  refine ⟨ret_int ?_, (hbel.alloc hbel.size _).trans (hb1.mono (by have := hbel.size; simp; omega))⟩
                  have hf : featE S k = 9 := by rw [HFE.out]; simp [*]
                  rw [scanE_at HSC.out (by rw [hf]; decide) hlt, hf]
              · go_wp2_with fail
                go_ret
                refine ⟨ret_int ?_, hbel.alloc hbel.size _⟩
                have hf : featE S k = 9 := by rw [HFE.out]; simp [*]
                rw [scanE_at HSC.out (by rw [hf]; decide) hlt, hf]
    · go_wp2
      go_ret
      obtain rfl : k = S.feats.length := by omega
      exact ⟨ret_int HSC.out.symm, hbel⟩
end Go.Proofs.Ytopblgabadljdaa
namespace Go.Proofs.Ytopblgabadljdaa
open Go.RowKit
theorem beq0t {n : Nat} (h : n < 1) : ((n : Int) == 0) = true := by simp; omega
theorem beq0f {n : Nat} (h : 1 ≤ n) : ((n : Int) == 0) = false := by simp; omega
set_option maxRecDepth 100000 in
set_option maxHeartbeats 1000000 in
theorem check_any (v : Value) (S : Sch) (w : World) {R : Nat → Prop} (h : SchAt w R v S) (hb : SBd S) :
    Calls Try.prog 33 #[v] w fun e w' => e = .returned (.int .i64 (checkE S)) ∧ Below w.heap.size w w' := by
  have h0 := h
  obtain ⟨A1, c1, A2, c2, A3, c3, rfl, l1, l2, l3, h1, h2, h3⟩ := h
  have hba := hb.a
  have hbr := hb.r
  have hbf := hb.f
  clear h2 h3
  by_cases hlim : S.attrs.length = 0 ∨ 12 < S.attrs.length ∨ S.rels.length = 0 ∨ 6 < S.rels.length ∨ 8 < S.feats.length
  · have hE : checkE S = 3 := by unfold checkE; rw [if_pos hlim]
    have HE := Lib.hid hE
    clear hE
    have hcase : (S.attrs.length < 1) ∨ (12 < S.attrs.length) ∨ (1 ≤ S.attrs.length ∧ S.attrs.length ≤ 12 ∧ S.rels.length < 1) ∨ (1 ≤ S.attrs.length ∧ S.attrs.length ≤ 12 ∧ 6 < S.rels.length) ∨ (1 ≤ S.attrs.length ∧ S.attrs.length ≤ 12 ∧ 1 ≤ S.rels.length ∧ S.rels.length ≤ 6 ∧ 8 < S.feats.length) := by omega
    clear hlim
    rcases hcase with hc | hc | ⟨hc1, hc2, hc⟩ | ⟨hc1, hc2, hc⟩ | ⟨hc1, hc2, hc3, hc4, hc⟩
    · have b1 : ((S.attrs.length : Int) == 0) = true := beq0t (by omega)
      go_enter Try.func33, Try.ntmps33
      go_wp2_with fail
      go_ret
      exact ⟨ret_int HE.out.symm, (Below.refl _ _).alloc (Nat.le_refl _) _⟩
    · have b1 : ((S.attrs.length : Int) == 0) = false := beq0f (by omega)
      go_enter Try.func33, Try.ntmps33
      go_wp2_with fail
      go_ret
      exact ⟨ret_int HE.out.symm, (Below.refl _ _).alloc (Nat.le_refl _) _⟩
    · have b1 : ((S.attrs.length : Int) == 0) = false := beq0f (by omega)
      have b2 : ((S.rels.length : Int) == 0) = true := beq0t (by omega)
      go_enter Try.func33, Try.ntmps33
      go_wp2_with fail
      go_ret
      exact ⟨ret_int HE.out.symm, (Below.refl _ _).alloc (Nat.le_refl _) _⟩
    · have b1 : ((S.attrs.length : Int) == 0) = false := beq0f (by omega)
      have b2 : ((S.rels.length : Int) == 0) = false := beq0f (by omega)
      go_enter Try.func33, Try.ntmps33
      go_wp2_with fail
      go_ret
      exact ⟨ret_int HE.out.symm, (Below.refl _ _).alloc (Nat.le_refl _) _⟩
    · have b1 : ((S.attrs.length : Int) == 0) = false := beq0f (by omega)
      have b2 : ((S.rels.length : Int) == 0) = false := beq0f (by omega)
      go_enter Try.func33, Try.ntmps33
      go_wp2_with fail
      go_ret
      exact ⟨ret_int HE.out.symm, (Below.refl _ _).alloc (Nat.le_refl _) _⟩
  · have hcase : 1 ≤ S.attrs.length ∧ S.attrs.length ≤ 12 ∧ 1 ≤ S.rels.length ∧ S.rels.length ≤ 6 ∧ S.feats.length ≤ 8 := by omega
    obtain ⟨d1, d2, d3, d4, d5⟩ := hcase
    have b1 : ((S.attrs.length : Int) == 0) = false := beq0f (by omega)
    have b2 : ((S.rels.length : Int) == 0) = false := beq0f (by omega)
    have hE : checkE S = if scanE (attrE S) S.attrs.length ≠ 0 then scanE (attrE S) S.attrs.length else if relsE S ≠ 0 then relsE S else if scanE (featE S) S.feats.length ≠ 0 then scanE (featE S) S.feats.length
        else if S.label < -1 ∨ (S.attrs.length : Int) ≤ S.label then 2 else if 0 ≤ S.label ∧ (S.attrs.getD S.label.toNat default).2 ≠ 2 then 7 else 0 := by unfold checkE; rw [if_neg hlim]
    have ctA := fun (W : World) (hW : Below w.heap.size w W) => attributes_any _ S W (h0.ext hW) hb
    have ctR := fun (W : World) (hW : Below w.heap.size w W) => srelations_any _ S W (h0.ext hW) hb
    have ctF := fun (W : World) (hW : Below w.heap.size w W) => features_any _ S W (h0.ext hW) hb
    generalize scanE (attrE S) S.attrs.length = EA at *
    generalize relsE S = ER at *
    generalize scanE (featE S) S.feats.length = EF at *
    have HE := Lib.hid hE
    have CA := Lib.hid ctA
    have CR := Lib.hid ctR
    have CF := Lib.hid ctF
    clear hE ctA ctR ctF hlim h0
    have b3 : decide (12 < (S.attrs.length : Int)) = false := by simp; omega
    have b4 : decide (6 < (S.rels.length : Int)) = false := by simp; omega
    have b5 : decide (8 < (S.feats.length : Int)) = false := by simp; omega
    go_enter Try.func33, Try.ntmps33
    go_wp2
    clear b1 b2 b3 b4 b5
    go_loopw [36] (fun i wr => (i = .int .i64 0 ∨ (i = .int .i64 1 ∧ EA = 0) ∨ (i = .int .i64 2 ∧ EA = 0 ∧ ER = 0) ∨ (i = .int .i64 3 ∧ EA = 0 ∧ ER = 0 ∧ EF = 0)) ∧
      Blk wr w.heap.size 28 #[Value.slice A1 S.attrs.length c1, Value.slice A2 S.rels.length c2, Value.slice A3 S.feats.length c3, Value.int IntKind.i64 S.label] ∧
      Blk wr (w.heap.size + 1) 68 #[Value.func (Fn.func 50) #[] #[], Value.func (Fn.func 51) #[] #[], Value.func (Fn.func 52) #[] #[]] ∧ Below w.heap.size w wr) (fun i _ => 3 - (intOf i).toNat)
    case atStart =>
      refine ⟨.inl rfl, (Blk.new _ _ _).alloc _, ?_, ((Below.refl _ _).alloc (Nat.le_refl _) _).alloc (by simp) _⟩
      have := Blk.new (w.alloc (Obj.cells #[Value.slice A1 S.attrs.length c1, Value.slice A2 S.rels.length c2, Value.slice A3 S.feats.length c3, Value.int IntKind.i64 S.label] 28)) 68 #[Value.func (Fn.func 50) #[] #[], Value.func (Fn.func 51) #[] #[], Value.func (Fn.func 52) #[] #[]]
      simpa using this
    case round =>
     obtain ⟨hi, hbx, htb, hbel⟩ := hrel
     have HBX := Lib.hid hbx
     have HTB := Lib.hid htb
     have x0 := hbx.cell 0
     have x1 := hbx.cell 1
     have x2 := hbx.cell 2
     have x3 := hbx.cell 3
     simp at x0 x1 x2 x3
     clear hbx
     rcases hi with rfl | ⟨rfl, hp1⟩ | ⟨rfl, hp1, hp2⟩ | ⟨rfl, hp1, hp2, hp3⟩
     · skip
       have t := htb.cell 0
       simp at t
       cases hz : (EA != 0)
       · have hz0 : EA = 0 := by simpa using hz
         have HZ := Lib.hid hz0
         clear hz0
         go_wp2_with (
           go_at_call 50
           go_must (
             refine (CA.out wr hbel).mono ?_
             rintro e w1 ⟨rfl, hb1⟩))
         exact ⟨⟨.inr (.inl ⟨by go_num, HZ.out⟩), HBX.out.ext hb1, HTB.out.ext hb1, ext_trans hbel hb1⟩, by simp [intOf]⟩
       · have hz0 : EA ≠ 0 := by simpa using hz
         have HZ := Lib.hid hz0
         clear hz0
         go_wp2_with (
           go_at_call 50
           go_must (
             refine (CA.out wr hbel).mono ?_
             rintro e w1 ⟨rfl, hb1⟩))
         go_ret
         exact ⟨ret_int (by rw [HE.out]; rw [if_pos HZ.out]), ext_trans hbel hb1⟩
     · skip
       have HP1 := Lib.hid hp1
       clear hp1
       have t := htb.cell 1
       simp at t
       cases hz : (ER != 0)
       · have hz0 : ER = 0 := by simpa using hz
         have HZ := Lib.hid hz0
         clear hz0
         go_wp2_with (
           go_at_call 51
           go_must (
             refine (CR.out wr hbel).mono ?_
             rintro e w1 ⟨rfl, hb1⟩))
         exact ⟨⟨.inr (.inr (.inl ⟨by go_num, HP1.out, HZ.out⟩)), HBX.out.ext hb1, HTB.out.ext hb1, ext_trans hbel hb1⟩, by simp [intOf]⟩
       · have hz0 : ER ≠ 0 := by simpa using hz
         have HZ := Lib.hid hz0
         clear hz0
         go_wp2_with (
           go_at_call 51
           go_must (
             refine (CR.out wr hbel).mono ?_
             rintro e w1 ⟨rfl, hb1⟩))
         go_ret
         exact ⟨ret_int (by rw [HE.out]; rw [if_neg (by simp [HP1.out])]; rw [if_pos HZ.out]), ext_trans hbel hb1⟩
     · skip
       have HP1 := Lib.hid hp1
       clear hp1
       have HP2 := Lib.hid hp2
       clear hp2
       have t := htb.cell 2
       simp at t
       cases hz : (EF != 0)
       · have hz0 : EF = 0 := by simpa using hz
         have HZ := Lib.hid hz0
         clear hz0
         go_wp2_with (
           go_at_call 52
           go_must (
             refine (CF.out wr hbel).mono ?_
             rintro e w1 ⟨rfl, hb1⟩))
         exact ⟨⟨.inr (.inr (.inr ⟨by go_num, HP1.out, HP2.out, HZ.out⟩)), HBX.out.ext hb1, HTB.out.ext hb1, ext_trans hbel hb1⟩, by simp [intOf]⟩
       · have hz0 : EF ≠ 0 := by simpa using hz
         have HZ := Lib.hid hz0
         clear hz0
         go_wp2_with (
           go_at_call 52
           go_must (
             refine (CF.out wr hbel).mono ?_
             rintro e w1 ⟨rfl, hb1⟩))
         go_ret
         exact ⟨ret_int (by rw [HE.out]; rw [if_neg (by simp [HP1.out]), if_neg (by simp [HP2.out])]; rw [if_pos HZ.out]), ext_trans hbel hb1⟩
     · have HP1 := Lib.hid hp1
       have HP2 := Lib.hid hp2
       have HP3 := Lib.hid hp3
       have hE2 := HE.out
       rw [if_neg (by simp [hp1]), if_neg (by simp [hp2]), if_neg (by simp [hp3])] at hE2
       clear HE hp1 hp2 hp3 CA CR CF htb HTB
       have HE := Lib.hid hE2
       clear hE2
       have hlab : S.label < -1 ∨ (-1 ≤ S.label ∧ (S.attrs.length : Int) ≤ S.label) ∨ (-1 ≤ S.label ∧ S.label < 0) ∨ (0 ≤ S.label ∧ S.label < S.attrs.length) := by omega
       rcases hlab with hl | ⟨hl1, hl2⟩ | ⟨hl1, hl2⟩ | ⟨hl1, hl2⟩
       · go_wp2
         go_ret
         exact ⟨ret_int (by rw [HE.out, if_pos (.inl hl)]), hbel⟩
       · go_wp2
         go_ret
         exact ⟨ret_int (by rw [HE.out, if_pos (.inr hl2)]), hbel⟩
       · go_wp2
         go_ret
         exact ⟨ret_int (by rw [HE.out, if_neg (by omega), if_neg (by omega)]), hbel⟩
       · have hln : S.label.toNat < S.attrs.length := by omega
         have hlc : S.label = (S.label.toNat : Int) := by omega
         have hgd : (S.attrs.getD S.label.toNat default).2 = (S.attrs[S.label.toNat]).2 := by simp [List.getD, hln]
         have hE3 := HE.out
         rw [if_neg (by omega), hgd] at hE3
         obtain ⟨b', off', hA1, hbb', ha1, ha2⟩ := attr_at (h1.ext hbel) hln
         subst hA1
         clear hgd HE ha1
         generalize S.attrs[S.label.toNat].2 = D at *
         generalize S.label.toNat = ln at *
         generalize S.label = lb at *
         subst hlc
         have HE := Lib.hid hE3
         clear hE3
         cases hd : (D != 2)
         · go_wp2
           go_ret
           exact ⟨ret_int (by rw [HE.out, if_neg (by simp at hd; simp [hd])]), hbel⟩
         · go_wp2
           go_ret
           exact ⟨ret_int (by rw [HE.out, if_pos ⟨hl1, by simpa using hd⟩]), hbel⟩
end Go.Proofs.Ytopblgabadljdaa
namespace Go.Proofs.Ytopblgabadljdaa
open Go.RowKit
theorem maskN_snoc (l : List Int) (a : Nat) : maskN (l ++ [(a : Int)]) = maskN l ||| 2 ^ a := by simp [maskN]
theorem maskN_lt (l : List Int) (h : ∀ a ∈ l, 0 ≤ a ∧ a < 12) : maskN l < 4096 := by
  unfold maskN
  have : ∀ (l : List Int) (m : Nat), m < 4096 → (∀ a ∈ l, 0 ≤ a ∧ a < 12) → l.foldl (fun m a => m ||| 2 ^ a.toNat) m < 4096 := by
    intro l
    induction l with
    | nil => intro m hm _; exact hm
    | cons a l ih =>
      intro m hm hl
      have ha := hl a (by simp)
      refine ih _ ?_ (fun b hb => hl b (by simp [hb]))
      exact Nat.or_lt_two_pow (n := 12) hm (Nat.pow_lt_pow_right (by decide) (by omega))
  exact this l 0 (by decide) h
theorem or_pow (m a : Nat) (hm : m < 4096) (ha : a < 12) : bits .or .u64 (m : Int) (IntKind.u64.wrap (2 ^ a)) = ((m ||| 2 ^ a : Nat) : Int) := by
  have h1 : 2 ^ a < 4096 := (Nat.pow_lt_pow_right (by decide) ha : 2 ^ a < 2 ^ 12)
  have h2 : IntKind.u64.wrap (2 ^ a) = ((2 ^ a : Nat) : Int) := by
    have e : ((2 : Int) ^ a) = ((2 ^ a : Nat) : Int) := by norm_cast
    rw [e]
    generalize (2 ^ a : Nat) = p at h1 ⊢
    simp only [IntKind.wrap, IntKind.bits, IntKind.signed]
    simp
    omega
  rw [h2]
  exact u64_or_nat m (2 ^ a) (by omega) (by omega)
set_option maxHeartbeats 400000 in
theorem of_any (nm0 : ByteArray) (A : Option Addr) (c : Nat) (l : List Int) (w : World) {R : Nat → Prop} (h : Row w R A (ints l)) (hl : l.length ≤ 1000) (hr : ∀ a ∈ l, 0 ≤ a ∧ a < 12) :
    Calls Try.prog 54 #[.agg #[.string nm0, .slice A l.length c]] w fun e w' => e = .returned (.int .u64 (maskN l)) ∧ Below w.heap.size w w' := by
  go_enter Try.func54, Try.ntmps54
  go_wp2
  have hbel : Below w.heap.size w (w.alloc (Obj.cells #[Value.string nm0, Value.slice A l.length c] 33)) := (Below.refl _ _).alloc (Nat.le_refl _) _
  have hrow := h.ext hbel
  generalize (w.alloc (Obj.cells #[Value.string nm0, Value.slice A l.length c] 33)) = W at *
  go_loop [3, 9] (fun m i => ∃ k : Nat, k ≤ l.length ∧ i = .int .i64 k ∧ m = .int .u64 (maskN (l.take k))) (fun _ i => l.length - (intOf i).toNat)
  case atStart => exact ⟨0, Nat.zero_le _, rfl, rfl⟩
  case round =>
    obtain ⟨k, hk, rfl, rfl⟩ := hrel
    by_cases hlt : k < l.length
    · obtain ⟨b, off, rfl, hb, hck⟩ := hrow.int_at hlt
      have hrk := hr l[k] (List.getElem_mem hlt)
      obtain ⟨a, ha⟩ := Int.eq_ofNat_of_zero_le hrk.1
      rw [ha] at hck
      have ha12 : a < 12 := by omega
      have hm := maskN_lt (l.take k) (fun a ha => hr a (List.mem_of_mem_take ha))
      have htk : l.take (k + 1) = l.take k ++ [(a : Int)] := by rw [List.take_succ_eq_append_getElem hlt, ha]
      have HTK := Lib.hid htk
      clear hr ha hrk htk
      go_wp2
      refine ⟨⟨k + 1, by omega, by go_num, ?_⟩, by simp [intOf]; omega⟩
      rw [or_pow _ _ hm ha12, HTK.out, maskN_snoc]
    · go_wp2
      go_ret
      rw [List.take_of_length_le (by omega)]
      exact ⟨rfl, hbel⟩
/-- Are all bits of x in y? -/
def subN (x y : Nat) : Bool := (x &&& (18446744073709551615 - y)) == 0
theorem within_eq (x y : Nat) (hx : x < 4096) (hy : y < 4096) : (bits .andNot .u64 (x : Int) (y : Int) == 0) = subN x y := by
  rw [u64_andNot_nat x y (by omega) (by omega), Bool.eq_iff_iff]
  unfold subN
  generalize x &&& (18446744073709551615 - y) = z
  simp
theorem within_any (x y : Nat) (hx : x < 4096) (hy : y < 4096) (w : World) :
    Calls Try.prog 55 #[.int .u64 x, .int .u64 y] w fun e w' => e = .returned (.bool (subN x y)) ∧ w = w' := by
  have HW := Lib.hid (within_eq x y hx hy)
  go_enter Try.func55, Try.ntmps55
  go_wp2
  go_ret
  exact ⟨ret_bool HW.out, rfl⟩
/-- The attributes of the other relations of a set, up to the k-th. -/
def othN (rs : List (ByteArray × List Int)) (inn : List Bool) (r : Nat) : Nat → Nat
  | 0 => 0
  | k + 1 => if (inn.getD k false && decide (k ≠ r)) = true then othN rs inn r k ||| maskN (rs.getD k default).2 else othN rs inn r k
/-- Is the i-th relation a witness of the r-th? -/
def witAt (rs : List (ByteArray × List Int)) (inn : List Bool) (r i : Nat) : Bool :=
  inn.getD i false && decide (i ≠ r) && subN (maskN (rs.getD r default).2 &&& othN rs inn r rs.length) (maskN (rs.getD i default).2)
/-- The least witness, as it is searched. -/
def witI (rs : List (ByteArray × List Int)) (inn : List Bool) (r : Nat) : Option Nat := (List.range rs.length).find? (witAt rs inn r)
def optI : Option Nat → Int | some k => k | none => -1
theorem find_range {n k : Nat} {p : Nat → Bool} (hk : k < n) (hp : p k = true) (hno : ∀ j, j < k → p j = false) : (List.range n).find? p = some k := by
  rw [List.find?_range_eq_some]
  exact ⟨hp, by simpa using hk, fun j hj => by simp [hno j hj]⟩
theorem find_range_none {n : Nat} {p : Nat → Bool} (hno : ∀ j, j < n → p j = false) : (List.range n).find? p = none := by
  rw [List.find?_eq_none]
  intro j hj
  rw [hno j (by simpa using hj)]; simp
def RelOk (rs : List (ByteArray × List Int)) : Prop := rs.length ≤ 1000 ∧ ∀ x ∈ rs, x.2.length ≤ 1000 ∧ ∀ a ∈ x.2, 0 ≤ a ∧ a < 12
theorem othN_lt (rs : List (ByteArray × List Int)) (inn : List Bool) (r : Nat) (h : RelOk rs) : ∀ k, k ≤ rs.length → othN rs inn r k < 4096 := by
  intro k
  induction k with
  | zero => intro _; simp [othN]
  | succ k ih =>
    intro hk
    have h1 := ih (by omega)
    have hk' : k < rs.length := by omega
    simp only [othN]
    split
    · have h2 : maskN (rs.getD k default).2 < 4096 := by
        have e : rs.getD k default = rs[k] := by simp [List.getD, hk']
        rw [e]; exact maskN_lt _ (h.2 _ (List.getElem_mem hk')).2
      exact Nat.or_lt_two_pow (n := 12) h1 h2
    · exact h1
set_option maxRecDepth 100000 in
set_option maxHeartbeats 1000000 in
theorem witness_any (v : Value) (S : Sch) (Ai : Option Addr) (ci : Nat) (inn : List Bool) (r : Nat) (w : World) {R R' : Nat → Prop} (h : SchAt w R v S) (hi : Row w R' Ai (bools inn)) (hn : inn.length = S.rels.length) (hr : r < S.rels.length) (hok : RelOk S.rels) :
    Calls Try.prog 35 #[v, .slice Ai inn.length ci, .int .i64 r] w fun e w' =>
      e = .returned (.tuple #[.int .i64 (optI (witI S.rels inn r)), .bool (witI S.rels inn r).isSome]) ∧ Below w.heap.size w w' := by
  obtain ⟨A1, c1, A2, c2, A3, c3, rfl, l1, l2, l3, h1, h2, h3⟩ := h
  clear h1 h3 l1 l2 l3
  have hlen := hok.1
  have HOK := Lib.hid hok
  have HN := Lib.hid hn
  clear hok hn
  obtain ⟨b, off, A', c', rfl, _, hbb, hc1, hc2, hrow⟩ := h2.at_ hr
  have hmr := HOK.out.2 _ (List.getElem_mem hr)
  have hml := maskN_lt _ hmr.2
  have hgr : (S.rels.getD r default).2 = S.rels[r].2 := by simp [List.getD, hr]
  have HGR := Lib.hid hgr
  clear hgr
  obtain ⟨bi, offi, rfl, _, _⟩ := hi.bool_at (k := r) (by rw [HN.out]; exact hr)
  go_enter Try.func35, Try.ntmps35
  go_wp2_with (
    go_at_call 54
    go_must (
      refine (of_any S.rels[r].1 A' c' S.rels[r].2 _ (hrow.alloc _) hmr.1 hmr.2).mono ?_
      rintro e w1 ⟨rfl, hb1⟩
      have hbx := (Blk.new w 28 #[Value.slice A1 S.attrs.length c1, Value.slice (some ⟨b, off, none⟩) S.rels.length c2, Value.slice A3 S.feats.length c3, Value.int IntKind.i64 S.label]).ext hb1
      have x1 := hbx.cell 1
      simp at x1
      have hbel1 : Below w.heap.size w w1 := ext_trans ((Below.refl _ _).alloc (Nat.le_refl _) _) hb1
      have HBX := Lib.hid hbx
      generalize hOwn : maskN S.rels[r].2 = own at *
      have HOWN := Lib.hid hOwn
      clear hOwn
      clear hbx hc1 hc2 hb1))
  go_loopw [9, 23] (fun o i wr => ∃ k : Nat, k ≤ S.rels.length ∧ i = .int .i64 k ∧ o = .int .u64 (othN S.rels inn r k) ∧
    Blk wr w.heap.size 28 #[Value.slice A1 S.attrs.length c1, Value.slice (some ⟨b, off, none⟩) S.rels.length c2, Value.slice A3 S.feats.length c3, Value.int IntKind.i64 S.label] ∧ Below w.heap.size w wr) (fun _ i _ => S.rels.length - (intOf i).toNat)
  case atStart => exact ⟨0, Nat.zero_le _, rfl, rfl, HBX.out, hbel1⟩
  case round =>
    clear HBX x1 hbel1
    obtain ⟨k, hk, rfl, rfl, hbx, hbel⟩ := hrel
    have HBX := Lib.hid hbx
    have x1 := hbx.cell 1
    have xlt := hbx.lt
    simp at x1
    clear hbx
    have hol := othN_lt S.rels inn r HOK.out k hk
    by_cases hlt : k < S.rels.length
    · have hos : othN S.rels inn r (k + 1) = if (inn.getD k false && decide (k ≠ r)) = true then othN S.rels inn r k ||| maskN (S.rels.getD k default).2 else othN S.rels inn r k := rfl
      obtain ⟨b2, off2, A2', c2', e2, _, hbb2, hk1, hk2, hrow2⟩ := h2.at_ hlt
      simp at e2
      obtain ⟨rfl, rfl⟩ := e2
      have hk1' : wr.cell? ⟨b, off + k * 2, none⟩ = some (.string S.rels[k].1) := by rw [hbel.cell (p := ⟨b, off + k * 2, none⟩) hbb2]; exact hk1
      have hk2' : wr.cell? ⟨b, off + k * 2 + 1, none⟩ = some (.slice A2' S.rels[k].2.length c2') := by rw [hbel.cell (p := ⟨b, off + k * 2 + 1, none⟩) hbb2]; exact hk2
      have hmk := HOK.out.2 _ (List.getElem_mem hlt)
      have hmkl := maskN_lt _ hmk.2
      have hki : k < inn.length := by rw [HN.out]; exact hlt
      obtain ⟨b3, off3, e3, _, hci⟩ := (hi.ext hbel).bool_at hki
      simp at e3
      obtain ⟨rfl, rfl⟩ := e3
      have hrw := hrow2.ext hbel
      have hgi : inn.getD k false = inn[k] := by simp [List.getD, hki]
      have hgk : (S.rels.getD k default).2 = S.rels[k].2 := by simp [List.getD, hlt]
      rw [hgi, hgk] at hos
      generalize othN S.rels inn r k = oth at *
      generalize inn[k] = ik at *
      have HOS := Lib.hid hos
      clear hos hgi hgk hk1 hk2
      cases ik
      · go_wp2_with fail
        exact ⟨⟨k + 1, by omega, by go_num, by rw [HOS.out]; rfl, HBX.out.alloc _, hbel.alloc hbel.size _⟩, by simp [intOf]; omega⟩
      · cases hkr : ((k : Int) != (r : Int))
        · have hkr2 : k = r := by simp at hkr; omega
          have HKR := Lib.hid hkr2
          clear hkr2
          go_wp2_with fail
          exact ⟨⟨k + 1, by omega, by go_num, by rw [HOS.out, if_neg (by simp [HKR.out])], HBX.out.alloc _, hbel.alloc hbel.size _⟩, by simp [intOf]; omega⟩
        · have hkr2 : k ≠ r := by simp at hkr; omega
          have HKR := Lib.hid hkr2
          have hor := u64_or_nat oth (maskN S.rels[k].2) (by omega) (by omega)
          have HOR := Lib.hid hor
          clear hkr2 hor
          go_wp2_with (
            go_at_call 54
            go_must (
              refine (of_any S.rels[k].1 A2' c2' S.rels[k].2 _ (hrw.alloc _) hmk.1 hmk.2).mono ?_
              rintro e w2 ⟨rfl, hb2⟩))
          refine ⟨⟨k + 1, by omega, by go_num, ?_, (HBX.out.alloc _).ext hb2, ext_trans (ext_alloc hbel _) hb2⟩, by simp [intOf]; omega⟩
          rw [HOS.out, if_pos (by simp [HKR.out]), HOR.out]
    · have hkn : k = S.rels.length := by omega
      have hwit : ∀ j, witAt S.rels inn r j = (inn.getD j false && decide (j ≠ r) && subN (own &&& othN S.rels inn r k) (maskN (S.rels.getD j default).2)) := fun j => by unfold witAt; rw [HGR.out, HOWN.out, hkn]
      generalize othN S.rels inn r k = oth at *
      have hand := u64_and_nat own oth (by omega) (by omega)
      have hboth : own &&& oth < 4096 := Nat.and_lt_two_pow (n := 12) _ hol
      generalize own &&& oth = both at *
      have HW := Lib.hid hwit
      have HAND := Lib.hid hand
      obtain ⟨wo, rfl⟩ : ∃ wo : World, wo = wr := ⟨_, rfl⟩
      have hd1 : decide (k < S.rels.length) = false := by simp; omega
      clear hwit hkn hand
      go_wp2
      clear hd1
      go_loopw [45] (fun i wr => ∃ k : Nat, k ≤ S.rels.length ∧ i = .int .i64 k ∧ (∀ j, j < k → witAt S.rels inn r j = false) ∧ Below w.heap.size w wr) (fun i _ => S.rels.length - (intOf i).toNat)
      case atStart => exact ⟨0, Nat.zero_le _, rfl, fun j hj => absurd hj (by omega), hbel⟩
      case round =>
        clear hbel x1 HBX hlt
        obtain ⟨k, hk, rfl, hno, hbel⟩ := hrel
        have HNO := Lib.hid hno
        clear hno
        by_cases hlt : k < S.rels.length
        · have hwk := HW.out k
          obtain ⟨b2, off2, A2', c2', e2, _, hbb2, hk1, hk2, hrow2⟩ := h2.at_ hlt
          simp at e2
          obtain ⟨rfl, rfl⟩ := e2
          have hk1' : wr.cell? ⟨b, off + k * 2, none⟩ = some (.string S.rels[k].1) := by rw [hbel.cell (p := ⟨b, off + k * 2, none⟩) hbb2]; exact hk1
          have hk2' : wr.cell? ⟨b, off + k * 2 + 1, none⟩ = some (.slice A2' S.rels[k].2.length c2') := by rw [hbel.cell (p := ⟨b, off + k * 2 + 1, none⟩) hbb2]; exact hk2
          have hmk := HOK.out.2 _ (List.getElem_mem hlt)
          have hmkl := maskN_lt _ hmk.2
          have hki : k < inn.length := by rw [HN.out]; exact hlt
          obtain ⟨b3, off3, e3, _, hci⟩ := (hi.ext hbel).bool_at hki
          simp at e3
          obtain ⟨rfl, rfl⟩ := e3
          have hrw := hrow2.ext hbel
          have hgi : inn.getD k false = inn[k] := by simp [List.getD, hki]
          have hgk : (S.rels.getD k default).2 = S.rels[k].2 := by simp [List.getD, hlt]
          rw [hgi, hgk] at hwk
          generalize inn[k] = ik at *
          have HWK := Lib.hid hwk
          clear hwk hgi hgk hk1 hk2
          have hstep : witAt S.rels inn r k = false → ∀ j, j < k + 1 → witAt S.rels inn r j = false := fun h j hj => by
            by_cases e : j < k
            · exact HNO.out j e
            · obtain rfl : j = k := by omega
              exact h
          have HST := Lib.hid hstep
          clear hstep
          cases ik
          · go_wp2_with fail
            exact ⟨⟨k + 1, by omega, by go_num, HST.out (by rw [HWK.out]; rfl), hbel.alloc hbel.size _⟩, by simp [intOf]; omega⟩
          · cases hkr : ((k : Int) != (r : Int))
            · have hkr2 : k = r := by simp at hkr; omega
              have HKR := Lib.hid hkr2
              clear hkr2
              go_wp2_with fail
              exact ⟨⟨k + 1, by omega, by go_num, HST.out (by rw [HWK.out]; simp [HKR.out]), hbel.alloc hbel.size _⟩, by simp [intOf]; omega⟩
            · have hkr2 : k ≠ r := by simp at hkr; omega
              have HKR := Lib.hid hkr2
              have hand := HAND.out
              clear hkr2
              cases hsub : subN both (maskN S.rels[k].2)
              all_goals
                go_wp2_with (first
                  | (go_at_call 54
                     go_must (
                      refine (of_any S.rels[k].1 A2' c2' S.rels[k].2 _ (hrw.alloc _) hmk.1 hmk.2).mono ?_
                      rintro e w2 ⟨rfl, hb2⟩))
                  | (go_at_call 55
                     go_must (
                      refine (within_any both (maskN S.rels[k].2) hboth hmkl _).mono ?_
                      rintro e w3 ⟨rfl, rfl⟩)))
              · exact ⟨⟨k + 1, by omega, by go_num, HST.out (by rw [HWK.out, hsub]; simp), ext_trans (ext_alloc hbel _) hb2⟩, by simp [intOf]; omega⟩
              · go_ret2
                have hw : witI S.rels inn r = some k := by
                  unfold witI
                  exact find_range hlt (by rw [HWK.out, hsub]; simp [HKR.out]) HNO.out
                exact ⟨by rw [hw]; rfl, ext_trans (ext_alloc hbel _) hb2⟩
        · go_wp2_with fail
          go_ret2
          have hw : witI S.rels inn r = none := by
            unfold witI
            exact find_range_none fun j hj => HNO.out j (by omega)
          exact ⟨by rw [hw]; rfl, hbel⟩
end Go.Proofs.Ytopblgabadljdaa
namespace Go.Proofs.Ytopblgabadljdaa
open Go.RowKit
theorem mul64_any (n : Nat) (hn : n ≤ 1000) (w : World) : Calls Try.prog 71 #[.int .u64 1, .int .u64 n] w fun e w' => e = .returned (.tuple #[.int .u64 0, .int .u64 n]) ∧ w = w' := by
  have f1 : bits BinOp.and IntKind.u64 1 4294967295 = 1 := by decide
  have f2 : bits BinOp.and IntKind.u64 (n : Int) 4294967295 = (n : Int) := by
    have := u64_and_nat n 4294967295 (by omega) (by omega)
    rw [show ((4294967295 : Nat) : Int) = 4294967295 from rfl] at this
    rw [this, show (4294967295 : Nat) = 2 ^ 32 - 1 by decide, Nat.and_two_pow_sub_one_eq_mod, Nat.mod_eq_of_lt (by omega)]
  have f3 : bits BinOp.and IntKind.u64 0 4294967295 = 0 := by decide
  have f4 : (n : Int) / 4294967296 = 0 := by omega
  have f5 : IntKind.u64.wrap (n : Int) = (n : Int) := by
    simp only [IntKind.wrap, IntKind.bits, IntKind.signed]
    simp
    omega
  have f6 : IntKind.u64.wrap 0 = 0 := by decide
  go_enter Try.func71, Try.ntmps71
  go_wp2
  go_ret2
  exact ⟨rfl, rfl⟩
theorem mul_any (n : Nat) (hn : n ≤ 1000) (w : World) : Calls Try.prog 65 #[.int .u64 1, .int .u64 n] w fun e w' => e = .returned (.tuple #[.int .u64 0, .int .u64 n]) ∧ w = w' := by
  go_enter Try.func65, Try.ntmps65
  go_wp2_with (go_at_call 71; go_must (refine (mul64_any n hn w).mono ?_; rintro e w1 ⟨rfl, rfl⟩))
  go_ret2
  exact ⟨rfl, rfl⟩
theorem own_full {w : World} {base : Nat} {e : TypeId} {g n : Nat} {xs : List Value} (h : w.ownsRow base e 1 (.slice (some ⟨g, 0, none⟩) n n) n xs) : w.heap[g]? = some (.cells xs.toArray e (0, 0)) := by
  rcases h.2 with ⟨h', _⟩ | ⟨g', cap, cur, h', _, hg, _, _, hs, ht⟩
  · simp at h'
  · simp only [Value.slice.injEq, Option.some.injEq, Addr.mk.injEq, and_true, true_and] at h'
    obtain ⟨rfl, rfl⟩ := h'
    rw [List.take_of_length_le (by rw [Array.length_toList, hs]; exact Nat.le_refl _)] at ht
    rw [hg, ← ht]
theorem full_own {w : World} {base : Nat} {e : TypeId} {g n : Nat} {xs : List Value} (h : w.heap[g]? = some (.cells xs.toArray e (0, 0))) (hb : base ≤ g) (hl : xs.length = n) (hm : n ≤ maxLen) : w.ownsRow base e 1 (.slice (some ⟨g, 0, none⟩) n n) n xs :=
  ⟨by simp [hl], .inr ⟨g, n, xs.toArray, rfl, hb, h, Nat.le_refl _, hm, by simp [hl], by rw [Nat.mul_one, ← hl]; exact List.take_length⟩⟩
/-- q elements x, then zeros z. -/
def repL (x z : Value) (n q : Nat) : List Value := List.replicate q x ++ List.replicate (n - q) z
theorem repL_len (x z : Value) (n q : Nat) (h : q ≤ n) : (repL x z n q).length = n := by simp [repL]; omega
theorem repL_splice (x z : Value) (n q m : Nat) (h : q + m ≤ n) : splice (repL x z n q) q (List.replicate m x) = repL x z n (q + m) := by
  unfold splice repL
  rw [List.take_append_of_le_length (by simp), List.take_of_length_le (by simp), List.drop_append, List.length_replicate, List.length_replicate]
  rw [List.drop_eq_nil_of_le (by simp), List.nil_append, List.drop_replicate, show n - q - (q + m - q) = n - (q + m) by omega, ← List.append_assoc, List.replicate_append_replicate]
set_option maxRecDepth 100000 in
set_option maxHeartbeats 400000 in
theorem repB_any (b off c : Nat) (x : Bool) (n : Nat) (hn : n ≤ 1000) (w : World) (hx : w.cell? ⟨b, off, none⟩ = some (Value.bool x)) (hb : b < w.heap.size) :
    Calls Try.prog 58 #[.slice (some ⟨b, off, none⟩) 1 c, .int .i64 n] w fun e w' =>
      ∃ v, e = .returned v ∧ w'.ownsRow w.heap.size 4 1 v n ((List.replicate n x).map (Value.bool)) ∧ Below w.heap.size w w' := by
  obtain ⟨ib, hib, hz0, hz1, hz2⟩ := info_parts Try.infoBool
  have hcell0 : ∀ W : World, Below w.heap.size w W → W.cell? ⟨b, off, none⟩ = some (Value.bool x) := fun W hW => by rw [hW.cell (p := ⟨b, off, none⟩) hb]; exact hx
  have HC0 := Lib.hid hcell0
  have hdn : decide ((n : Int) < 0) = false := by simp
  have hdb : decide (9223372036854775807 < (n : Int)) = false := by simp; omega
  clear hcell0 hx
  go_enter Try.func58, Try.ntmps58
  go_wp2_with (first
    | (go_at_call 65; go_must (refine (mul_any n hn w).mono ?_; rintro e w1 ⟨rfl, rfl⟩))
    | (at_make
       go_must (
        refine wpList_make_full _ rfl _ _ 36 rfl w.heap.size 4 ib (Value.bool false) 1 Try.underlying36 hib hz0 hz1 _ _ _ _ n rfl rfl rfl rfl (by rw [hz2]; omega) (by simp [maxLen]; omega) (by simp) ?_
        intro w1 hown1 hg1
        rw [made_one (Value.bool false) rfl] at hown1
        have hfull : Hid (w1.heap[w.heap.size]? = some (.cells (repL (Value.bool x) (Value.bool false) n 0).toArray 4 (0, 0))) := Lib.hid (own_full hown1)
        have hbel1 := ext_of_grown hg1
        clear hown1 hg1))
    | (with_reducible refine wpList_copy_splice rfl (.tmp 31) (.tmp 32) 36 36 rfl 4 Try.underlying36 (by kernel_rfl) (some ⟨w.heap.size, 0, none⟩) (some ⟨b, off, none⟩) n n 1 c rfl rfl w.heap.size 0 (repL (Value.bool x) (Value.bool false) n 0) 4 hfull.out (List.replicate (min 1 n) (Value.bool x)) ?c1 ?c2 ?c3 ?c4 w.heap.size w hbel1 (Nat.le_refl _) ?_))
  case c1 => simp
  case c2 =>
    intro _ j v hj
    have hj0 : j = 0 := by have := (List.getElem?_eq_some_iff.1 hj).1; simp at this; omega
    subst hj0
    have : v = Value.bool x := by have := List.mem_of_getElem? hj; simp at this; exact this.2
    rw [this]
    exact HC0.out w1 hbel1
  case c3 => rw [repL_len _ _ _ _ (by omega)]; simp; omega
  case c4 => intro v hv; rw [(List.mem_replicate.1 hv).2]; rfl
  rw [repL_splice _ _ _ _ _ (by omega)]
  intro w2 hfull2 hbel2
  clear hfull hbel1 hdn hdb
  have hmin : ∃ q : Nat, min 1 n = q ∧ q ≤ n ∧ (1 ≤ q ∨ n ≤ q) := ⟨_, rfl, by omega, by omega⟩
  obtain ⟨q0, hq0, hq1, hq2⟩ := hmin
  rw [hq0, Nat.zero_add] at hfull2
  rw [hq0]
  clear hq0
  go_wp2
  go_loopw [8] (fun i wr => ∃ q : Nat, q ≤ n ∧ (1 ≤ q ∨ n ≤ q) ∧ i = .int .i64 q ∧ Hid (wr.heap[w.heap.size]? = some (.cells (repL (Value.bool x) (Value.bool false) n q).toArray 4 (0, 0))) ∧ Below w.heap.size w wr) (fun i _ => n - (intOf i).toNat)
  case atStart => exact ⟨q0, hq1, hq2, rfl, hfull2, hbel2⟩
  case round =>
    clear hfull2 hbel2 hq1 hq2
    obtain ⟨q, hq1, hq2, rfl, hfull, hbel⟩ := hrel
    by_cases hlt : q < n
    · have hq3 : 1 ≤ q := by omega
      have i1 : (0 : Int) ≤ (q : Int) := by omega
      have i2 : (q : Int) ≤ (n : Int) := by omega
      have hmin : ∃ m : Nat, min q (n - q) = m ∧ 1 ≤ m ∧ q + m ≤ n ∧ m ≤ q := ⟨_, rfl, by omega, by omega, by omega⟩
      obtain ⟨m, hm, hm1, hm2, hm3⟩ := hmin
      have hsp := repL_splice (Value.bool x) (Value.bool false) n q m hm2
      have HSP := Lib.hid hsp
      have HM := Lib.hid hm
      have i3 : IntKind.i64.wrap ((q : Int) + (m : Int)) = (q : Int) + (m : Int) := IntWalk.i64_in _ (by omega)
      have hsz := hbel.size
      have hpos : ∀ j v, (List.replicate m (Value.bool x))[j]? = some v → wr.cell? ⟨w.heap.size, j, none⟩ = some v := by
        intro j v hj
        have hj1 := (List.getElem?_eq_some_iff.1 hj).1
        rw [List.length_replicate] at hj1
        have hv : v = Value.bool x := (List.mem_replicate.1 (List.mem_of_getElem? hj)).2
        rw [cell_of_row wr w.heap.size j _ _ _ hfull.out, hv]
        simp only [List.getElem?_toArray, repL]
        rw [List.getElem?_append_left (by rw [List.length_replicate]; omega), List.getElem?_replicate, if_pos (by omega)]
      have HPOS := Lib.hid hpos
      clear hsp hm hpos
      go_wp2
      go_region_law ((refine step_copy_splice rfl (.tmp 41) (.tmp 44) 36 36 rfl 4 Try.underlying36 (by kernel_rfl) (some ⟨w.heap.size, q, none⟩) (some ⟨w.heap.size, 0, none⟩) (n - q) (n - q) q n (by simp [Act.eval, Act.put]; omega) (by simp [Act.eval, Act.put]) w.heap.size q (repL (Value.bool x) (Value.bool false) n q) 4 (by exact hfull.out) (List.replicate m (Value.bool x)) (by rw [List.length_replicate]; exact HM.out.symm) (by exact fun _ => ⟨rfl, _, rfl, fun j v hj => by rw [Addr.add_lit, Nat.zero_add]; exact HPOS.out j v hj⟩) (by rw [repL_len _ _ _ _ hq1, List.length_replicate]; omega) (by intro v hv; rw [(List.mem_replicate.1 hv).2]; rfl) w.heap.size w (by exact below_drewN hbel 1) (Nat.le_refl _) ?_); intro w2 hf2 hb2)
      go_wp2
      exact ⟨⟨q + m, by omega, by omega, by omega, by rw [← HSP.out]; exact hf2⟩, by simp [intOf]; omega⟩
    · obtain rfl : q = n := by omega
      have hd : decide (q < q) = false := by simp
      go_wp2
      go_ret
      refine ⟨_, rfl, ?_, hbel⟩
      have h := hfull.out
      rw [show repL (Value.bool x) (Value.bool false) q q = (List.replicate q x).map (Value.bool) by simp [repL]] at h
      exact full_own h (Nat.le_refl _) (by simp) (by simp [maxLen]; omega)
set_option maxRecDepth 100000 in
set_option maxHeartbeats 400000 in
theorem repI_any (b off c : Nat) (x : Int) (n : Nat) (hn : n ≤ 1000) (w : World) (hx : w.cell? ⟨b, off, none⟩ = some (Value.int .i64 x)) (hb : b < w.heap.size) :
    Calls Try.prog 53 #[.slice (some ⟨b, off, none⟩) 1 c, .int .i64 n] w fun e w' =>
      ∃ v, e = .returned v ∧ w'.ownsRow w.heap.size 3 1 v n ((List.replicate n x).map (Value.int .i64)) ∧ Below w.heap.size w w' := by
  obtain ⟨ib, hib, hz0, hz1, hz2⟩ := info_parts Try.infoInt
  have hcell0 : ∀ W : World, Below w.heap.size w W → W.cell? ⟨b, off, none⟩ = some (Value.int .i64 x) := fun W hW => by rw [hW.cell (p := ⟨b, off, none⟩) hb]; exact hx
  have HC0 := Lib.hid hcell0
  have hdn : decide ((n : Int) < 0) = false := by simp
  have hdb : decide (9223372036854775807 < (n : Int)) = false := by simp; omega
  clear hcell0 hx
  go_enter Try.func53, Try.ntmps53
  go_wp2_with (first
    | (go_at_call 65; go_must (refine (mul_any n hn w).mono ?_; rintro e w1 ⟨rfl, rfl⟩))
    | (at_make
       go_must (
        refine wpList_make_full _ rfl _ _ 22 rfl w.heap.size 3 ib (Value.int .i64 0) 1 Try.underlying22 hib hz0 hz1 _ _ _ _ n rfl rfl rfl rfl (by rw [hz2]; omega) (by simp [maxLen]; omega) (by simp) ?_
        intro w1 hown1 hg1
        rw [made_one (Value.int .i64 0) rfl] at hown1
        have hfull : Hid (w1.heap[w.heap.size]? = some (.cells (repL (Value.int .i64 x) (Value.int .i64 0) n 0).toArray 3 (0, 0))) := Lib.hid (own_full hown1)
        have hbel1 := ext_of_grown hg1
        clear hown1 hg1))
    | (with_reducible refine wpList_copy_splice rfl (.tmp 31) (.tmp 32) 22 22 rfl 3 Try.underlying22 (by kernel_rfl) (some ⟨w.heap.size, 0, none⟩) (some ⟨b, off, none⟩) n n 1 c rfl rfl w.heap.size 0 (repL (Value.int .i64 x) (Value.int .i64 0) n 0) 3 hfull.out (List.replicate (min 1 n) (Value.int .i64 x)) ?c1 ?c2 ?c3 ?c4 w.heap.size w hbel1 (Nat.le_refl _) ?_))
  case c1 => simp
  case c2 =>
    intro _ j v hj
    have hj0 : j = 0 := by have := (List.getElem?_eq_some_iff.1 hj).1; simp at this; omega
    subst hj0
    have : v = Value.int .i64 x := by have := List.mem_of_getElem? hj; simp at this; exact this.2
    rw [this]
    exact HC0.out w1 hbel1
  case c3 => rw [repL_len _ _ _ _ (by omega)]; simp; omega
  case c4 => intro v hv; rw [(List.mem_replicate.1 hv).2]; rfl
  rw [repL_splice _ _ _ _ _ (by omega)]
  intro w2 hfull2 hbel2
  clear hfull hbel1 hdn hdb
  have hmin : ∃ q : Nat, min 1 n = q ∧ q ≤ n ∧ (1 ≤ q ∨ n ≤ q) := ⟨_, rfl, by omega, by omega⟩
  obtain ⟨q0, hq0, hq1, hq2⟩ := hmin
  rw [hq0, Nat.zero_add] at hfull2
  rw [hq0]
  clear hq0
  go_wp2
  go_loopw [8] (fun i wr => ∃ q : Nat, q ≤ n ∧ (1 ≤ q ∨ n ≤ q) ∧ i = .int .i64 q ∧ Hid (wr.heap[w.heap.size]? = some (.cells (repL (Value.int .i64 x) (Value.int .i64 0) n q).toArray 3 (0, 0))) ∧ Below w.heap.size w wr) (fun i _ => n - (intOf i).toNat)
  case atStart => exact ⟨q0, hq1, hq2, rfl, hfull2, hbel2⟩
  case round =>
    clear hfull2 hbel2 hq1 hq2
    obtain ⟨q, hq1, hq2, rfl, hfull, hbel⟩ := hrel
    by_cases hlt : q < n
    · have hq3 : 1 ≤ q := by omega
      have i1 : (0 : Int) ≤ (q : Int) := by omega
      have i2 : (q : Int) ≤ (n : Int) := by omega
      have hmin : ∃ m : Nat, min q (n - q) = m ∧ 1 ≤ m ∧ q + m ≤ n ∧ m ≤ q := ⟨_, rfl, by omega, by omega, by omega⟩
      obtain ⟨m, hm, hm1, hm2, hm3⟩ := hmin
      have hsp := repL_splice (Value.int .i64 x) (Value.int .i64 0) n q m hm2
      have HSP := Lib.hid hsp
      have HM := Lib.hid hm
      have i3 : IntKind.i64.wrap ((q : Int) + (m : Int)) = (q : Int) + (m : Int) := IntWalk.i64_in _ (by omega)
      have hsz := hbel.size
      have hpos : ∀ j v, (List.replicate m (Value.int .i64 x))[j]? = some v → wr.cell? ⟨w.heap.size, j, none⟩ = some v := by
        intro j v hj
        have hj1 := (List.getElem?_eq_some_iff.1 hj).1
        rw [List.length_replicate] at hj1
        have hv : v = Value.int .i64 x := (List.mem_replicate.1 (List.mem_of_getElem? hj)).2
        rw [cell_of_row wr w.heap.size j _ _ _ hfull.out, hv]
        simp only [List.getElem?_toArray, repL]
        rw [List.getElem?_append_left (by rw [List.length_replicate]; omega), List.getElem?_replicate, if_pos (by omega)]
      have HPOS := Lib.hid hpos
      clear hsp hm hpos
      go_wp2
      go_region_law ((refine step_copy_splice rfl (.tmp 41) (.tmp 44) 22 22 rfl 3 Try.underlying22 (by kernel_rfl) (some ⟨w.heap.size, q, none⟩) (some ⟨w.heap.size, 0, none⟩) (n - q) (n - q) q n (by simp [Act.eval, Act.put]; omega) (by simp [Act.eval, Act.put]) w.heap.size q (repL (Value.int .i64 x) (Value.int .i64 0) n q) 3 (by exact hfull.out) (List.replicate m (Value.int .i64 x)) (by rw [List.length_replicate]; exact HM.out.symm) (by exact fun _ => ⟨rfl, _, rfl, fun j v hj => by rw [Addr.add_lit, Nat.zero_add]; exact HPOS.out j v hj⟩) (by rw [repL_len _ _ _ _ hq1, List.length_replicate]; omega) (by intro v hv; rw [(List.mem_replicate.1 hv).2]; rfl) w.heap.size w (by exact below_drewN hbel 1) (Nat.le_refl _) ?_); intro w2 hf2 hb2)
      go_wp2
      exact ⟨⟨q + m, by omega, by omega, by omega, by rw [← HSP.out]; exact hf2⟩, by simp [intOf]; omega⟩
    · obtain rfl : q = n := by omega
      have hd : decide (q < q) = false := by simp
      go_wp2
      go_ret
      refine ⟨_, rfl, ?_, hbel⟩
      have h := hfull.out
      rw [show repL (Value.int .i64 x) (Value.int .i64 0) q q = (List.replicate q x).map (Value.int .i64) by simp [repL]] at h
      exact full_own h (Nat.le_refl _) (by simp) (by simp [maxLen]; omega)
theorem own_mono {w : World} {base base' : Nat} {e : TypeId} {size n : Nat} {v : Value} {xs : List Value} (h : w.ownsRow base e size v n xs) (hb : base' ≤ base) : w.ownsRow base' e size v n xs := by
  refine ⟨h.1, ?_⟩
  rcases h.2 with h2 | ⟨g, cap, cur, h1, h2, h3⟩
  · exact .inl h2
  · exact .inr ⟨g, cap, cur, h1, by omega, h3⟩
theorem new2_cell (w : World) (o : Obj) (u : Value) (t : TypeId) : ((w.alloc o).alloc (.cells #[u] t)).cell? ⟨w.heap.size + 1, 0, none⟩ = some u := by
  have := (Blk.new (w.alloc o) t #[u]).cell 0
  rw [World.size_alloc] at this
  exact this
set_option maxHeartbeats 400000 in
theorem all_any (v : Value) (S : Sch) (w : World) {R : Nat → Prop} (h : SchAt w R v S) (hn : S.rels.length ≤ 1000) :
    Calls Try.prog 41 #[v] w fun e w' => ∃ v', e = .returned v' ∧ w'.ownsRow w.heap.size 4 1 v' S.rels.length (bools (List.replicate S.rels.length true)) ∧ Below w.heap.size w w' := by
  obtain ⟨A1, c1, A2, c2, A3, c3, rfl, l1, l2, l3, h1, h2, h3⟩ := h
  clear h1 h2 h3 l1 l2 l3
  go_enter Try.func41, Try.ntmps41
  go_wp2_with (
    go_at_call 58
    go_must (
      refine (repB_any (w.heap.size + 1) 0 1 true S.rels.length hn _ (by exact new2_cell ..) (by simp)).mono ?_
      rintro e w1 ⟨v', rfl, hown1, hb1⟩
      have hown2 := own_mono hown1 (base' := w.heap.size) (by simp; omega)
      have hb2 : Below w.heap.size w w1 := ext_trans (((Below.refl _ _).alloc (Nat.le_refl _) _).alloc (by simp) _) hb1
      clear hown1 hb1))
  go_ret
  exact ⟨_, rfl, hown2, hb2⟩
end Go.Proofs.Ytopblgabadljdaa
namespace Go.Proofs.Ytopblgabadljdaa
open Go.RowKit
/-- A row of a slice with its length and capacity. -/
def RowK (w : World) (R : Nat → Prop) (A : Option Addr) (n c : Nat) (xs : List Value) : Prop := Row w R A xs ∧ n ≤ c ∧ c ≤ maxLen
theorem RowK.mono {w : World} {R R' : Nat → Prop} {A : Option Addr} {n c : Nat} {xs : List Value} (h : RowK w R A n c xs) (hR : ∀ b, b < w.heap.size → R b → R' b) : RowK w R' A n c xs := ⟨h.1.mono hR, h.2⟩
theorem RowK.setCell {w : World} {R : Nat → Prop} {A : Option Addr} {n c : Nat} {xs : List Value} (h : RowK w R A n c xs) {p : Addr} (hp : ∀ b, R b → b ≠ p.block) (u : Value) : RowK (w.setCell p u) R A n c xs := ⟨h.1.setCell hp u, h.2⟩
theorem RowK.nil {w : World} {R : Nat → Prop} : RowK w R none 0 0 [] := ⟨Row.nil, Nat.le_refl _, Nat.zero_le _⟩
theorem RowK.of_own {w : World} {A : Option Addr} {xs : List Value} {base : Nat} {e : TypeId} {size n c : Nat} (h : w.ownsRow base e size (.slice A n c) n xs) : RowK w (fun b => base ≤ b ∧ (Value.slice A n c).ownBlock = some b) A n c xs := by
  refine ⟨Row.of_own h, ?_⟩
  rcases h.2 with ⟨hv, h0⟩ | ⟨g, cap, cur, hv, _, _, hkc, hcm, _⟩
  · simp only [Value.slice.injEq] at hv
    obtain ⟨_, rfl, rfl⟩ := hv
    exact ⟨Nat.le_refl _, Nat.zero_le _⟩
  · simp only [Value.slice.injEq] at hv
    obtain ⟨_, _, rfl⟩ := hv
    exact ⟨hkc, hcm⟩
def earAt (rs : List (ByteArray × List Int)) (inn : List Bool) (i : Nat) : Bool := inn.getD i false && (witI rs inn i).isSome
def earI (rs : List (ByteArray × List Int)) (inn : List Bool) : Option Nat := (List.range rs.length).find? (earAt rs inn)
/-- The state of a reduction: which relations are left, the witnesses, the order. -/
structure Red where
  inn : List Bool
  wit : List Int
  ord : List Int
def Red.next (rs : List (ByteArray × List Int)) (s : Red) : Red :=
  match earI rs s.inn with
  | none => s
  | some i => ⟨s.inn.set i false, s.wit.set i (optI (witI rs s.inn i)), s.ord ++ [(i : Int)]⟩
def redTo (rs : List (ByteArray × List Int)) : Nat → Red
  | 0 => ⟨List.replicate rs.length true, List.replicate rs.length (-1), []⟩
  | j + 1 => (redTo rs j).next rs
def coreTo (inn : List Bool) (k : Nat) : List Int := ((List.range k).filter fun i => inn.getD i false).map Int.ofNat
/-- What reduce returns. -/
def redS (rs : List (ByteArray × List Int)) : Red := redTo rs rs.length
def coreS (rs : List (ByteArray × List Int)) : List Int := coreTo (redS rs).inn rs.length
theorem redTo_len (rs : List (ByteArray × List Int)) (j : Nat) : (redTo rs j).inn.length = rs.length ∧ (redTo rs j).wit.length = rs.length := by
  induction j with
  | zero => simp [redTo]
  | succ j ih =>
    simp only [redTo, Red.next]
    split
    · exact ih
    · simpa using ih
/-- After an end the state stays. -/
theorem redTo_stop (rs : List (ByteArray × List Int)) (j : Nat) (h : earI rs (redTo rs j).inn = none) (k : Nat) (hk : j ≤ k) : redTo rs k = redTo rs j := by
  induction k with
  | zero => have : j = 0 := by omega
            subst this; rfl
  | succ k ih =>
    by_cases e : j = k + 1
    · rw [e]
    · have e1 := ih (by omega)
      simp only [redTo]
      rw [e1]
      simp only [Red.next, h]
theorem trues_set (l : List Bool) (i : Nat) (h : l.getD i false = true) : (l.set i false).count true + 1 = l.count true := by
  induction l generalizing i with
  | nil => simp at h
  | cons a l ih =>
    cases i with
    | zero => simp at h; subst h; simp
    | succ i =>
      have := ih i (by simpa using h)
      simp only [List.set_cons_succ, List.count_cons]
      omega
theorem earI_some {rs : List (ByteArray × List Int)} {inn : List Bool} {i : Nat} (h : earI rs inn = some i) : i < rs.length ∧ earAt rs inn i = true ∧ ∀ j, j < i → earAt rs inn j = false := by
  unfold earI at h
  rw [List.find?_range_eq_some] at h
  exact ⟨by simpa using h.2.1, h.1, fun j hj => by simpa using h.2.2 j hj⟩
theorem redTo_count (rs : List (ByteArray × List Int)) (j : Nat) : (redTo rs j).inn.count true + (redTo rs j).ord.length = rs.length ∧ (redTo rs j).ord.length ≤ j := by
  induction j with
  | zero => simp [redTo]
  | succ j ih =>
    simp only [redTo, Red.next]
    split
    · exact ⟨ih.1, by omega⟩
    · rename_i i hi
      have h1 := (earI_some hi).2.1
      unfold earAt at h1
      have h2 := trues_set (redTo rs j).inn i (by simp at h1; simp [h1.1])
      simp only [List.length_append, List.length_cons, List.length_nil]
      omega
/-- Where the state did not end before, every step has removed one. -/
theorem redTo_ord (rs : List (ByteArray × List Int)) (j : Nat) (h : ∀ k, k < j → earI rs (redTo rs k).inn ≠ none) : (redTo rs j).ord.length = j := by
  induction j with
  | zero => rfl
  | succ j ih =>
    have h1 := ih fun k hk => h k (by omega)
    have h2 := h j (by omega)
    simp only [redTo, Red.next]
    split
    · rename_i he; exact absurd he h2
    · simp [h1]
theorem coreTo_succ (inn : List Bool) (k : Nat) : coreTo inn (k + 1) = if inn.getD k false = true then coreTo inn k ++ [(k : Int)] else coreTo inn k := by
  simp only [coreTo, List.range_succ, List.filter_append]
  split <;> simp_all
theorem coreTo_len (inn : List Bool) (k : Nat) : (coreTo inn k).length ≤ k := by
  unfold coreTo
  rw [List.length_map]
  exact Nat.le_trans (List.length_filter_le _ _) (by simp)
def sliceLen : Value → Nat | .slice _ n _ => n | _ => 0
def boolOf : Value → Bool | .bool b => b | _ => false
theorem own_addr {w : World} {base : Nat} {e : TypeId} {size n c : Nat} {A : Option Addr} {xs : List Value} (h : w.ownsRow base e size (.slice A n c) n xs) (hn : 1 ≤ n) : ∃ g, A = some ⟨g, 0, none⟩ ∧ base ≤ g ∧ g < w.heap.size := by
  rcases h.2 with ⟨_, h0⟩ | ⟨g, cap, cur, h', hb, hg, _⟩
  · omega
  · simp only [Value.slice.injEq] at h'
    exact ⟨g, h'.1, hb, (Array.getElem?_eq_some_iff.1 hg).1⟩
theorem redTo_next {rs : List (ByteArray × List Int)} {j i : Nat} (h : earI rs (redTo rs j).inn = some i) :
    redTo rs (j + 1) = ⟨(redTo rs j).inn.set i false, (redTo rs j).wit.set i (optI (witI rs (redTo rs j).inn i)), (redTo rs j).ord ++ [(i : Int)]⟩ := by
  simp only [redTo, Red.next, h]
theorem earI_at {rs : List (ByteArray × List Int)} {inn : List Bool} {i : Nat} (hi : i < rs.length) (h : earAt rs inn i = true) (hno : ∀ j, j < i → earAt rs inn j = false) : earI rs inn = some i := find_range hi h hno
theorem earI_no {rs : List (ByteArray × List Int)} {inn : List Bool} (hno : ∀ j, j < rs.length → earAt rs inn j = false) : earI rs inn = none := find_range_none hno
set_option maxRecDepth 100000 in
set_option maxHeartbeats 1000000 in
theorem reduce_any (v : Value) (S : Sch) (w : World) {R : Nat → Prop} (h : SchAt w R v S) (hn1 : 1 ≤ S.rels.length) (hok : RelOk S.rels) :
    Calls Try.prog 34 #[v] w fun e w' => ∃ (Ao : Option Addr) (co : Nat) (Ac : Option Addr) (cc : Nat) (Aw : Option Addr) (cw : Nat),
      e = .returned (.tuple #[.slice Ao (redS S.rels).ord.length co, .slice Ac (coreS S.rels).length cc, .slice Aw S.rels.length cw]) ∧
      RowK w' (w.heap.size ≤ ·) Ao (redS S.rels).ord.length co (ints (redS S.rels).ord) ∧ RowK w' (w.heap.size ≤ ·) Ac (coreS S.rels).length cc (ints (coreS S.rels)) ∧ RowK w' (w.heap.size ≤ ·) Aw S.rels.length cw (ints (redS S.rels).wit) ∧ Below w.heap.size w w' := by
  have h0 := h
  obtain ⟨A1, c1, A2, c2, A3, c3, rfl, l1, l2, l3, h1, h2, h3⟩ := h
  clear h1 h2 h3 l1 l2 l3
  have hn := hok.1
  go_enter Try.func34, Try.ntmps34
  go_wp2_with (first
    | (go_at_call 41
       go_must (
        refine (all_any _ S _ (h0.ext ((Below.refl _ _).alloc (Nat.le_refl _) _)) hn).mono ?_
        rintro e w1 ⟨v1, rfl, hown1, hb1⟩
        have hbx := (Blk.new w 28 #[Value.slice A1 S.attrs.length c1, Value.slice A2 S.rels.length c2, Value.slice A3 S.feats.length c3, Value.int IntKind.i64 S.label]).ext hb1
        have hbel1 : Below w.heap.size w w1 := ext_trans ((Below.refl _ _).alloc (Nat.le_refl _) _) hb1
        obtain ⟨A5, c5, rfl, hc5, _⟩ := own_slice hown1
        have HBX := Lib.hid hbx
        clear hbx hb1))
    | (go_at_call 53
       go_must (
        refine (repI_any w1.heap.size 0 1 (-1) S.rels.length hn _ (by exact (Blk.new w1 _ _).cell 0) (by simp)).mono ?_
        rintro e w2 ⟨v2, rfl, hown2, hb2⟩
        have hbel2 : Below w1.heap.size w1 w2 := ext_trans ((Below.refl _ _).alloc (Nat.le_refl _) _) hb2
        obtain ⟨A4, c4, rfl, hc4, _⟩ := own_slice hown2
        clear hb2)))
  have hown1' := own_mono (hown1.kept (grown_of_ext hbel2 none) (by simp [Value.ownBlock]; cases A5 <;> simp)) (base' := w.heap.size + 1) (by simp)
  have hown2' := own_mono hown2 (base' := w.heap.size + 1) (by have := HBX.out.lt; simp; omega)
  obtain ⟨g5, rfl, hg5, hg5'⟩ := own_addr hown1' hn1
  obtain ⟨g4, rfl, hg4, hg4'⟩ := own_addr hown2' hn1
  have hne54 : g5 ≠ g4 := by
    have := own_ne_own hown1' hown2' (by decide)
    simpa [Value.ownBlock] using this
  have HBX2 := Lib.hid (HBX.out.ext hbel2)
  have hb02 := ext_trans hbel1 hbel2
  clear HBX hown1 hown2 hbel1 hbel2
  go_loopw [2, 6] (fun o f wr => ∃ j : Nat, (∀ k, k < j → earI S.rels (redTo S.rels k).inn ≠ none) ∧ wr.ownsRow (w.heap.size + 1) 4 1 (.slice (some ⟨g5, 0, none⟩) S.rels.length c5) S.rels.length (bools (redTo S.rels j).inn) ∧
    wr.ownsRow (w.heap.size + 1) 3 1 (.slice (some ⟨g4, 0, none⟩) S.rels.length c4) S.rels.length (ints (redTo S.rels j).wit) ∧ wr.ownsRow (w.heap.size + 1) 3 1 o (redTo S.rels j).ord.length (ints (redTo S.rels j).ord) ∧
    (o.ownBlock = none ∨ o.ownBlock ≠ some g4) ∧ (f = .bool true ∨ (f = .bool false ∧ earI S.rels (redTo S.rels j).inn = none)) ∧
    Blk wr w.heap.size 28 #[Value.slice A1 S.attrs.length c1, Value.slice A2 S.rels.length c2, Value.slice A3 S.feats.length c3, Value.int IntKind.i64 S.label] ∧ Below w.heap.size w wr)
    (fun o f _ => if boolOf f then S.rels.length + 1 - sliceLen o else 0)
  case atStart => exact ⟨0, fun k hk => absurd hk (by omega), hown1', hown2', World.ownsRow_nil _ _ _ _, .inl rfl, .inl rfl, HBX2.out, hb02⟩
  case round =>
    clear hown1' hown2' HBX2 hb02
    obtain ⟨j, hall, hin, hwt, hor, hnb, hf, hbx, hbel⟩ := hrel
    have hol := redTo_ord S.rels j hall
    have hcn := redTo_count S.rels j
    have hjn : j ≤ S.rels.length := by omega
    have hil := (redTo_len S.rels j).1
    have hwl := (redTo_len S.rels j).2
    have HALL := Lib.hid hall
    have HOL := Lib.hid hol
    have HIL := Lib.hid hil
    have HWL := Lib.hid hwl
    have HBX := Lib.hid hbx
    have x0 := hbx.cell 0
    have x1 := hbx.cell 1
    have x2 := hbx.cell 2
    have x3 := hbx.cell 3
    have xlt := hbx.lt
    simp at x0 x1 x2 x3
    obtain ⟨Ao, co, rfl, hco, _⟩ := own_slice hor
    have hil2 := (hin.lt g5 rfl).2
    have hwl2 := (hwt.lt g4 rfl).2
    clear hall hol hcn hil hwl hbx
    rcases hf with rfl | ⟨rfl, hend⟩
    · obtain ⟨wp, rfl⟩ : ∃ wp : World, wp = wr := ⟨_, rfl⟩
      go_wp2
      go_loopw [2, 6, 21] (fun o f i wq => ∃ k : Nat, k ≤ S.rels.length ∧ i = .int .i64 k ∧ o = .slice Ao (redTo S.rels j).ord.length co ∧ f = .bool false ∧ (∀ i', i' < k → earAt S.rels (redTo S.rels j).inn i' = false) ∧ Below wp.heap.size wp wq) (fun _ _ i _ => S.rels.length - (intOf i).toNat)
      case atStart => exact ⟨0, Nat.zero_le _, rfl, rfl, rfl, fun i' h => absurd h (by omega), Below.refl _ _⟩
      case round =>
        obtain ⟨k, hk, rfl, rfl, rfl, hno, hbq⟩ := hrel
        have HNO := Lib.hid hno
        clear hno
        have hbw := ext_trans hbel hbq
        by_cases hlt : k < S.rels.length
        · have hin2 := hin.kept (grown_of_ext hbq none) (by simp [Value.ownBlock])
          have hki : k < (redTo S.rels j).inn.length := by rw [HIL.out]; exact hlt
          have hci : wr.cell? ⟨g5, k, none⟩ = some (.bool (redTo S.rels j).inn[k]) := by rw [hin2.cellAt k (by omega), List.getElem?_map, List.getElem?_eq_getElem hki]; rfl
          have hge : earAt S.rels (redTo S.rels j).inn k = ((redTo S.rels j).inn[k] && (witI S.rels (redTo S.rels j).inn k).isSome) := by unfold earAt; simp [List.getD, hki]
          have x0' : wr.cell? ⟨w.heap.size, 0, none⟩ = some (Value.slice A1 S.attrs.length c1) := by rw [hbq.cell (p := ⟨w.heap.size, 0, none⟩) xlt]; exact x0
          have x1' : wr.cell? ⟨w.heap.size, 1, none⟩ = some (Value.slice A2 S.rels.length c2) := by rw [hbq.cell (p := ⟨w.heap.size, 1, none⟩) xlt]; exact x1
          have x2' : wr.cell? ⟨w.heap.size, 2, none⟩ = some (Value.slice A3 S.feats.length c3) := by rw [hbq.cell (p := ⟨w.heap.size, 2, none⟩) xlt]; exact x2
          have x3' : wr.cell? ⟨w.heap.size, 3, none⟩ = some (Value.int IntKind.i64 S.label) := by rw [hbq.cell (p := ⟨w.heap.size, 3, none⟩) xlt]; exact x3
          have hct := witness_any _ S (some ⟨g5, 0, none⟩) c5 (redTo S.rels j).inn k wr (h0.ext hbw) (Row.of_own hin2) HIL.out hlt hok
          rw [HIL.out] at hct
          have HCT := Lib.hid hct
          have HGE := Lib.hid hge
          have HST := Lib.hid (fun (h : earAt S.rels (redTo S.rels j).inn k = false) (i' : Nat) (hi' : i' < k + 1) => show earAt S.rels (redTo S.rels j).inn i' = false by
            by_cases e : i' < k
            · exact HNO.out i' e
            · obtain rfl : i' = k := by omega
              exact h)
          clear hct hge
          cases hik : (redTo S.rels j).inn[k]
          · rw [hik] at hci
            go_wp2_with (
              go_at_call 35
              go_must (
                refine HCT.out.mono ?_
                rintro e w3 ⟨rfl, hb3⟩
                have hci3 : w3.cell? ⟨g5, k, none⟩ = some (.bool false) := by rw [hb3.cell (p := ⟨g5, k, none⟩) (by show g5 < _; have := hbq.size; omega)]; exact hci
                clear hci))
            exact ⟨⟨k + 1, by omega, by go_num, rfl, rfl, HST.out (by rw [HGE.out, hik]; rfl), ext_trans hbq hb3⟩, by simp [intOf]; omega⟩
          · rw [hik] at hci
            cases his : (witI S.rels (redTo S.rels j).inn k).isSome
            · rw [his] at HCT
              go_wp2_with (
                go_at_call 35
                go_must (
                  refine HCT.out.mono ?_
                  rintro e w3 ⟨rfl, hb3⟩
                  have hci3 : w3.cell? ⟨g5, k, none⟩ = some (.bool true) := by rw [hb3.cell (p := ⟨g5, k, none⟩) (by show g5 < _; have := hbq.size; omega)]; exact hci
                  clear hci))
              exact ⟨⟨k + 1, by omega, by go_num, rfl, rfl, HST.out (by rw [HGE.out, his]; simp), ext_trans hbq hb3⟩, by simp [intOf]; omega⟩
            · rw [his] at HCT
              have hei : earI S.rels (redTo S.rels j).inn = some k := earI_at hlt (by rw [HGE.out, his, hik]; rfl) HNO.out
              have hnx := redTo_next hei
              have HNX := Lib.hid hnx
              have HEI := Lib.hid hei
              clear hnx hei
              go_wp2_with (first
                | (go_at_call 35
                   go_must (
                    refine HCT.out.mono ?_
                    rintro e w3 ⟨rfl, hb3⟩
                    have hbp := ext_trans hbq hb3
                    have hin3 := hin.kept (grown_of_ext hbp none) (by simp [Value.ownBlock])
                    have hwt3 := hwt.kept (grown_of_ext hbp none) (by simp [Value.ownBlock])
                    have hor3 := hor.kept (grown_of_ext hbp none) (by cases Ao <;> simp [Value.ownBlock])
                    have hci3 : w3.cell? ⟨g5, k, none⟩ = some (.bool true) := by rw [hb3.cell (p := ⟨g5, k, none⟩) (by show g5 < _; have := hbq.size; omega)]; exact hci
                    have hfi3 := hin3.frozenAt k
                    have hsi := hin3.stored k (.bool false)
                    have hwt4 := hwt3.kept hsi.2 (.inr (by simp [Value.ownBlock]; omega))
                    have hor4 := hor3.kept hsi.2 (own_ne_own hor3 hin3 (by decide))
                    have hkw : k < (redTo S.rels j).wit.length := by rw [HWL.out]; exact hlt
                    have hcw4 : (w3.setCell ⟨g5, k, none⟩ (.bool false)).cell? ⟨g4, k, none⟩ = some (.int .i64 (redTo S.rels j).wit[k]) := by rw [hwt4.cellAt k (by omega), List.getElem?_map, List.getElem?_eq_getElem hkw]; rfl
                    have hfw4 := hwt4.frozenAt k
                    generalize optI (witI S.rels (redTo S.rels j).inn k) = ow at *
                    have hsw := hwt4.stored k (.int .i64 ow)
                    have hin5 := hsi.1.kept hsw.2 (.inr (by simp [Value.ownBlock]; omega))
                    have hor5 := hor4.kept hsw.2 hnb
                    have HB5 := Lib.hid ((((HBX.out.ext hbp).grown hsi.2 (by simp; omega)).grown hsw.2 (by simp; omega)))
                    have hbel5 : Below w.heap.size w ((w3.setCell ⟨g5, k, none⟩ (.bool false)).setCell ⟨g4, k, none⟩ (.int .i64 ow)) := ((ext_trans hbel hbp).setCell (by show w.heap.size ≤ g5; omega) _).setCell (by show w.heap.size ≤ g4; omega) _
                    have hsz5 : wp.heap.size ≤ w3.heap.size := hbp.size
                    clear hci hin3 hwt3 hor3 hor4 hwt4))
                | (at_builtin
                   go_must (
                    refine wpList_app rfl _ _ 22 rfl (w.heap.size + 1) 3 (.int .i64 0) 1 8 Try.underlying22 Try.infoInt rfl (by decide) (by decide) (.slice Ao (redTo S.rels j).ord.length co) (redTo S.rels j).ord.length 1 (ints (redTo S.rels j).ord) rfl rfl (by simp) hor5 rfl (by simp; rfl) (by rw [HOL.out]; omega) (by simp; omega) ?_
                    intro A6 c6 w6 hown6 hg6 hat6)))
              have hoK : ∀ g, (Value.slice Ao (redTo S.rels j).ord.length co).ownBlock = some g → w.heap.size + 1 ≤ g ∧ g < wp.heap.size := fun g e => hor.lt g e
              have hnb' : some g4 ≠ (Value.slice Ao (redTo S.rels j).ord.length co).ownBlock := own_ne_own' hnb
              refine ⟨⟨j + 1, ?_, ?_, ?_, ?_, ?_, .inl rfl, ?_, ?_⟩, ?_⟩
              · intro q hq
                by_cases e : q < j
                · exact HALL.out q e
                · obtain rfl : q = j := by omega
                  rw [HEI.out]; simp
              · rw [HNX.out]
                have := hin5.kept hg6 (own_ne_own hin5 hor5 (by decide))
                simpa [bools, List.map_set] using this
              · rw [HNX.out]
                have := hsw.1.kept hg6 (.inr hnb')
                simpa [ints, List.map_set] using this
              · rw [HNX.out]
                simpa [ints] using hown6
              · rcases hat6 with e | ⟨g, e, hge⟩
                · rw [e]; exact hnb
                · rw [e]; right; simp at hge; simp; omega
              · exact HB5.out.grown hg6 (fun e => by have := (hoK _ e.symm).1; omega)
              · exact hbel5.grown hg6 (by have := hbel5.size; exact this) (fun g e => by have := (hoK g e).1; omega)
              · simp [boolOf, sliceLen]; rw [HOL.out]; omega
        · have hend : earI S.rels (redTo S.rels j).inn = none := earI_no fun i' hi' => HNO.out i' (by omega)
          have HEND := Lib.hid hend
          have hd1 : decide (k < S.rels.length) = false := by simp; omega
          clear hend
          go_wp2
          refine ⟨⟨j, HALL.out, hin.kept (grown_of_ext hbq none) (by simp [Value.ownBlock]), hwt.kept (grown_of_ext hbq none) (by simp [Value.ownBlock]), hor.kept (grown_of_ext hbq none) (by cases Ao <;> simp [Value.ownBlock]), hnb, .inr ⟨rfl, HEND.out⟩, HBX.out.ext hbq, hbw⟩, ?_⟩
          simp [boolOf, sliceLen]; rw [HOL.out]; omega
    · have hfin : redS S.rels = redTo S.rels j := redTo_stop S.rels j hend S.rels.length hjn
      have HFIN := Lib.hid hfin
      obtain ⟨wp, rfl⟩ : ∃ wp : World, wp = wr := ⟨_, rfl⟩
      clear hfin hend HALL
      generalize redTo S.rels j = st at *
      obtain ⟨inn, wit, ord⟩ := st
      simp only at hin hwt hor hco
      have hil3 : inn.length = S.rels.length := HIL.out
      have HIL3 := Lib.hid hil3
      clear hil3 HIL HOL HWL
      go_wp2
      go_loopw [3, 52] (fun cv i wq => ∃ k : Nat, k ≤ S.rels.length ∧ i = .int .i64 k ∧ wq.ownsRow wp.heap.size 3 1 cv (coreTo inn k).length (ints (coreTo inn k)) ∧ Below wp.heap.size wp wq) (fun _ i _ => S.rels.length - (intOf i).toNat)
      case atStart => exact ⟨0, Nat.zero_le _, rfl, World.ownsRow_nil _ _ _ _, Below.refl _ _⟩
      case round =>
        obtain ⟨k, hk, rfl, hcv, hbq⟩ := hrel
        have hcl := coreTo_len inn k
        by_cases hlt : k < S.rels.length
        · have hin2 := hin.kept (grown_of_ext hbq none) (by simp [Value.ownBlock])
          have hki : k < inn.length := by rw [HIL3.out]; exact hlt
          have hci : wr.cell? ⟨g5, k, none⟩ = some (.bool inn[k]) := by rw [hin2.cellAt k (by omega), List.getElem?_map, List.getElem?_eq_getElem hki]; rfl
          have hcs := coreTo_succ inn k
          rw [show inn.getD k false = inn[k] by simp [List.getD, hki]] at hcs
          have HCS := Lib.hid hcs
          clear hcs
          cases hik : inn[k]
          · rw [hik] at hci HCS
            go_wp2
            exact ⟨⟨k + 1, by omega, by go_num, by rw [HCS.out]; exact hcv, hbq⟩, by simp [intOf]; omega⟩
          · rw [hik] at hci HCS
            go_wp2_with (
              at_builtin
              go_must (
                refine wpList_app (W := wr) rfl _ _ 22 rfl wp.heap.size 3 (.int .i64 0) 1 8 Try.underlying22 Try.infoInt rfl (by decide) (by decide) u3 (coreTo inn k).length 1 (ints (coreTo inn k)) rfl rfl rfl hcv rfl (by simp; rfl) (by omega) hbq.size ?_
                intro A6 c6 w6 hown6 hg6 hat6))
            refine ⟨⟨k + 1, by omega, by go_num, ?_, hbq.grown hg6 hbq.size (fun g e => (hcv.lt g e).1)⟩, by simp [intOf]; omega⟩
            rw [HCS.out]; simpa [ints] using hown6
        · obtain rfl : k = S.rels.length := by omega
          obtain ⟨Ac, cc, rfl, _, _⟩ := own_slice hcv
          have hd1 : decide (S.rels.length < S.rels.length) = false := by simp
          go_wp2
          go_ret3
          have hf := HFIN.out
          have hb0 := ext_trans hbel hbq
          have e1 : (redS S.rels).ord = ord := by rw [hf]
          have e2 : (redS S.rels).wit = wit := by rw [hf]
          have e3 : coreS S.rels = coreTo inn S.rels.length := by unfold coreS; rw [hf]
          rw [e1, e2, e3]
          refine ⟨Ao, co, Ac, cc, some ⟨g4, 0, none⟩, c4, rfl, ?_, ?_, ?_, hb0⟩
          · exact (RowK.of_own (hor.kept (grown_of_ext hbq none) (by cases Ao <;> simp [Value.ownBlock]))).mono fun b _ hb => by omega
          · exact (RowK.of_own hcv).mono fun b _ hb => by omega
          · exact (RowK.of_own (hwt.kept (grown_of_ext hbq none) (by simp [Value.ownBlock]))).mono fun b _ hb => by omega
end Go.Proofs.Ytopblgabadljdaa
namespace Go.Proofs.Ytopblgabadljdaa
open Go.RowKit
def OkL (l : List Int) : Prop := l ≠ [] ∧ l.Pairwise (· < ·) ∧ ∀ a ∈ l, 0 ≤ a ∧ a ≤ 4
/-- The lists lie behind the slices vs, apart from the source and from the row itself. -/
def LLV (w : World) (bs : Nat) (v : Value) (ls : List (List Int)) (vs : List Value) : Prop :=
  vs.length = ls.length ∧ ∀ k (hk : k < ls.length), ∃ (A' : Option Addr) (c' : Nat), vs[k]? = some (.slice A' ls[k].length c') ∧ Row w (fun b => bs < b ∧ v.ownBlock ≠ some b) A' (ints ls[k])
section
variable {w w' : World} {bs : Nat} {v v' : Value} {ls : List (List Int)} {vs : List Value}
theorem LLV.keep (h : LLV w bs v ls vs) (hs : w.heap.size ≤ w'.heap.size) (hk : ∀ b, bs < b → v.ownBlock ≠ some b → b < w.heap.size → w'.heap[b]? = w.heap[b]?) : LLV w' bs v ls vs := by
  refine ⟨h.1, fun k hk2 => ?_⟩
  obtain ⟨A', c', h1, h2⟩ := h.2 k hk2
  exact ⟨A', c', h1, h2.keep hs fun b _ _ hR hlt => hk b hR.1 hR.2 hlt⟩
theorem LLV.ext (h : LLV w bs v ls vs) (hb : Below w.heap.size w w') : LLV w' bs v ls vs := h.keep hb.size fun b _ _ hlt => hb.block b hlt
theorem LLV.src (h : LLV w bs v ls vs) {b0 : Nat} (hb0 : b0 ≤ bs) (hg : w.grownBy w' (some b0)) : LLV w' bs v ls vs := h.keep hg.size fun b h1 _ hlt => hg.block b hlt (by simp; omega)
theorem LLV.snoc (h : LLV w bs v ls vs) (hg : w.grownBy w' v.ownBlock) (hat : v'.ownBlock = v.ownBlock ∨ ∃ g, v'.ownBlock = some g ∧ w.heap.size ≤ g) {A : Option Addr} {x : List Int} (c : Nat)
    (hrow : Row w (fun b => bs < b ∧ v.ownBlock ≠ some b) A (ints x)) : LLV w' bs v' (ls ++ [x]) (vs ++ [.slice A x.length c]) := by
  have key : ∀ {A : Option Addr} {x : List Int}, Row w (fun b => bs < b ∧ v.ownBlock ≠ some b) A (ints x) → Row w' (fun b => bs < b ∧ v'.ownBlock ≠ some b) A (ints x) := by
    intro A x hr
    have h1 : Row w (fun b => (bs < b ∧ v.ownBlock ≠ some b) ∧ v'.ownBlock ≠ some b) A (ints x) := hr.mono fun b hlt hR => ⟨hR, by
      rcases hat with e | ⟨g, e, hge⟩
      · rw [e]; exact hR.2
      · rw [e]; simp; omega⟩
    exact (h1.keep (w' := w') hg.size fun b _ _ hR hlt => hg.block b hlt fun e => hR.1.2 e.symm).mono fun b _ hR => ⟨hR.1.1, hR.2⟩
  refine ⟨by simp [h.1], fun k hk => ?_⟩
  by_cases hlt : k < ls.length
  · obtain ⟨A', c', h1, h2⟩ := h.2 k hlt
    refine ⟨A', c', ?_, ?_⟩
    · rw [List.getElem?_append_left (by rw [h.1]; exact hlt), h1, List.getElem_append_left hlt]
    · rw [List.getElem_append_left hlt]; exact key h2
  · obtain rfl : k = ls.length := by simp at hk; omega
    refine ⟨A, c, ?_, ?_⟩
    · rw [List.getElem?_append_right (by rw [h.1]; exact Nat.le_refl _)]; simp [h.1]
    · simpa using key hrow
theorem LLV.set {g n cap : Nat} (h : LLV w bs (.slice (some ⟨g, 0, none⟩) n cap) ls vs) (k : Nat) {A : Option Addr} {y : List Int} (c : Nat)
    (hrow : Row w (fun b => bs < b ∧ (Value.slice (some ⟨g, 0, none⟩) n cap).ownBlock ≠ some b) A (ints y)) :
    LLV (w.setCell ⟨g, k, none⟩ (.slice A y.length c)) bs (.slice (some ⟨g, 0, none⟩) n cap) (ls.set k y) (vs.set k (.slice A y.length c)) := by
  have key : ∀ {A' : Option Addr} {x : List Int}, Row w (fun b => bs < b ∧ (Value.slice (some ⟨g, 0, none⟩) n cap).ownBlock ≠ some b) A' (ints x) →
      Row (w.setCell ⟨g, k, none⟩ (.slice A y.length c)) (fun b => bs < b ∧ (Value.slice (some ⟨g, 0, none⟩) n cap).ownBlock ≠ some b) A' (ints x) := fun hr =>
    hr.setCell (fun b hR e => hR.2 (by rw [e]; rfl)) _
  refine ⟨by simp [h.1], fun j hj => ?_⟩
  have hj' : j < ls.length := by simpa using hj
  by_cases e : k = j
  · subst e
    refine ⟨A, c, ?_, ?_⟩
    · rw [List.getElem?_set_self (by rw [h.1]; exact hj')]; simp
    · simpa using key hrow
  · obtain ⟨A', c', h1, h2⟩ := h.2 j hj'
    refine ⟨A', c', ?_, ?_⟩
    · rw [List.getElem?_set_ne e, h1, List.getElem_set_ne e]
    · rw [List.getElem_set_ne e]; exact key h2
end
theorem okL_some (r : List Int) (h : someL r 5 2 ≠ []) : OkL (someL r 5 2) := by
  refine ⟨h, ?_, ?_⟩
  · unfold someL
    rw [List.pairwise_map]
    exact (List.pairwise_lt_range.filter _).imp (fun h => by simpa using h)
  · intro a ha
    unfold someL at ha
    obtain ⟨j, hj, rfl⟩ := List.mem_map.1 ha
    have := (List.mem_filter.1 hj).1
    simp at this
    simp; omega
theorem okL_one (x : Int) (h : 0 ≤ x ∧ x < 5) : OkL [x] := ⟨by simp, by simp, fun a ha => by simp at ha; omega⟩
/-- A number put into an ascending list. -/
def insL (a : Int) (l : List Int) : List Int := l.filter (fun b => decide (b < a)) ++ [a] ++ l.filter (fun b => decide (a < b))
theorem insL_ok (a : Int) (l : List Int) (h : OkL l) (ha : 0 ≤ a ∧ a ≤ 4) : OkL (insL a l) := by
  refine ⟨by simp [insL], ?_, ?_⟩
  · unfold insL
    rw [List.pairwise_append, List.pairwise_append]
    refine ⟨⟨h.2.1.filter _, by simp, ?_⟩, h.2.1.filter _, ?_⟩
    · intro x hx y hy; simp at hx hy; omega
    · intro x hx y hy; simp at hx hy; rcases hx with hx | hx <;> omega
  · intro b hb
    simp [insL] at hb
    rcases hb with hb | hb | hb
    · exact h.2.2 b hb.1
    · omega
    · exact h.2.2 b hb.1
theorem insL_mem (a b : Int) (l : List Int) : b ∈ insL a l ↔ b = a ∨ b ∈ l := by
  simp [insL]
  constructor
  · rintro (h | h | h)
    · exact .inr h.1
    · exact .inl h
    · exact .inr h.1
  · rintro (h | h)
    · exact .inr (.inl h)
    · rcases Int.lt_trichotomy b a with h1 | h1 | h1
      · exact .inl ⟨h, h1⟩
      · exact .inr (.inl h1)
      · exact .inr (.inr ⟨h, h1⟩)
theorem rel_new1 {w w3 : World} {bs : Nat} {v : Value} (x : Int) (h : ∀ g, v.ownBlock = some g → g < w.heap.size) (hs : w.heap.size ≤ w3.heap.size ∧ bs < w3.heap.size) :
    Row (w3.alloc (.cells #[.int .i64 x] 3)) (fun b => bs < b ∧ v.ownBlock ≠ some b) (some ⟨w3.heap.size, 0, none⟩) (ints [x]) := by
  intro _
  refine ⟨w3.heap.size, 0, rfl, ⟨by omega, fun e => by have := h _ e; omega⟩, by simp, fun j hj => ?_⟩
  rw [Nat.zero_add, (Blk.new w3 3 #[.int .i64 x]).cell j]
  simp
theorem Try.infoInts : (Try.prog.info? 22).map (fun i => (i.zero, i.size, i.bytes)) = some (some (.slice none 0 0), 1, 24) := by kernel_rfl
/-- What relations makes: at most five ascending lists over 0 to 4, which have all of these. -/
def GoodL (ls : List (List Int)) : Prop := 1 ≤ ls.length ∧ ls.length ≤ 5 ∧ (∀ l ∈ ls, OkL l) ∧ ∀ a : Nat, a < 5 → ∃ l ∈ ls, (a : Int) ∈ l
def loL (a : Int) (l : List Int) (q : Nat) : List Int := (l.take q).filter fun b => decide (b < a)
theorem loL_len (a : Int) (l : List Int) (q : Nat) : (loL a l q).length ≤ l.length := Nat.le_trans (List.length_filter_le _ _) (List.length_take_le' _ _)
theorem loL_succ (a : Int) (l : List Int) (q : Nat) (h : q < l.length) : loL a l (q + 1) = if l[q] < a then loL a l q ++ [l[q]] else loL a l q := by
  unfold loL
  rw [List.take_succ_eq_append_getElem h, List.filter_append]
  split <;> simp_all
def hiL (a : Int) (l : List Int) (q : Nat) : List Int := l.filter (fun b => decide (b < a)) ++ [a] ++ (l.take q).filter fun b => decide (a < b)
theorem hiL_len (a : Int) (l : List Int) (q : Nat) : (hiL a l q).length ≤ l.length + 1 + l.length := by
  unfold hiL
  have h1 := List.length_filter_le (fun b => decide (b < a)) l
  have h2 := List.length_filter_le (fun b => decide (a < b)) (l.take q)
  have h3 := List.length_take_le' q l
  simp only [List.length_append, List.length_cons, List.length_nil]
  omega
theorem hiL_succ (a : Int) (l : List Int) (q : Nat) (h : q < l.length) : hiL a l (q + 1) = if a < l[q] then hiL a l q ++ [l[q]] else hiL a l q := by
  unfold hiL
  rw [List.take_succ_eq_append_getElem h, List.filter_append]
  split <;> simp_all
def anyL (ls : List (List Int)) (a : Int) : Bool := ls.any fun l => inB l a
theorem anyL_succ (ls : List (List Int)) (a : Int) (j : Nat) (h : j < ls.length) : anyL (ls.take (j + 1)) a = (anyL (ls.take j) a || inB ls[j] a) := by
  unfold anyL
  rw [List.take_succ_eq_append_getElem h, List.any_append]
  simp
theorem asc_lenL : ∀ (l : List Int) (lo hi : Int), l.Pairwise (· < ·) → (∀ a ∈ l, lo ≤ a ∧ a ≤ hi) → (l.length : Int) ≤ max 0 (hi + 1 - lo) := by
  intro l
  induction l with
  | nil => intro lo hi _ _; simp; omega
  | cons x t ih =>
    intro lo hi hp hb
    have hp' := List.pairwise_cons.1 hp
    have hx := hb x (by simp)
    have := ih (x + 1) hi hp'.2 (fun a ha => ⟨by have := hp'.1 a ha; omega, (hb a (by simp [ha])).2⟩)
    simp only [List.length_cons]
    omega
theorem okL_len5 (l : List Int) (h : OkL l) : l.length ≤ 5 := by
  have := asc_lenL l 0 4 h.2.1 h.2.2
  omega
theorem okL_len (l : List Int) (h : OkL l) : l.length ≤ 1000000 := by have := okL_len5 l h; omega
set_option maxRecDepth 100000 in
set_option maxHeartbeats 1000000 in
theorem relations_any (bs : Nat) (r : List Int) (w : World) (h : SrcAt w bs r) :
    Calls Try.prog 9 #[.pointer (some ⟨bs, 0, none⟩)] w fun e w' => ∃ v ls r', e = .returned v ∧ GoodL ls ∧ SchAt w' (fun b => b ≠ bs) v (schOf ls) ∧ SrcAt w' bs r' ∧ w.grownBy w' (some bs) := by
  have hbs := h.lt
  have hn0 := nxt_bd r 5 (by omega)
  go_enter Try.func9, Try.ntmps9
  go_wp2_with (
    go_at_call 25
    refine (n_any bs r 5 _ (h.keep (World.grownBy_alloc _ _ none) (by simp)) (by omega) (by omega)).mono ?_
    rintro e w1 ⟨rfl, hsrc1, hg1⟩
    obtain ⟨m, hm⟩ := Int.eq_ofNat_of_zero_le hn0.1
    rw [hm]
    have hm5 : m < 5 := by omega
    have hb0 := (Blk.new w 28 #[.slice none 0 0, .slice none 0 0, .slice none 0 0, .int .i64 0]).grown hg1 (by simp; omega)
    have HB0 := Lib.hid hb0
    clear hm hn0 hb0)
  have hg0 : w.grownBy w1 (some bs) := grown_trans (World.grownBy_alloc _ _ _) hg1 (fun _ h _ => h)
  clear h hg1
  go_loopw [4, 5] (fun v i wr => ∃ (k : Nat) (ls : List (List Int)) (vs : List Value) (r' : List Int), k ≤ 1 + m ∧ i = .int .i64 k ∧ ls.length = k ∧ (∀ l ∈ ls, OkL l) ∧ wr.ownsRow (w.heap.size + 1) 22 1 v k vs ∧
      LLV wr w.heap.size v ls vs ∧ SrcAt wr bs r' ∧ Blk wr w.heap.size 28 #[.slice none 0 0, .slice none 0 0, .slice none 0 0, .int .i64 0] ∧ w.grownBy wr (some bs)) (fun _ i _ => 1 + m - (intOf i).toNat)
  case atStart => exact ⟨0, [], [], _, by omega, rfl, rfl, by simp, World.ownsRow_nil _ _ _ _, ⟨rfl, fun k hk => absurd hk (by simp)⟩, hsrc1, HB0.out, hg0⟩
  case round =>
    obtain ⟨k, ls, vs, r', hk, rfl, hlen, hok, hown, hll, hsrc, hb0, hg⟩ := hrel
    clear HB0 hsrc1 hg0
    have HB0 := Lib.hid hb0
    have HLEN := Lib.hid hlen
    have hwr : w.heap.size + 1 ≤ wr.heap.size := hb0.lt
    clear hb0 hlen
    have hnb : u4.ownBlock = none ∨ u4.ownBlock ≠ some bs := .inr (own_ne hown hsrc (by decide))
    have hnb2 : ∀ g, u4.ownBlock = some g → g < wr.heap.size := fun g e => (hown.lt g e).2
    by_cases hlt : k < 1 + m
    · by_cases hem : someL r' 5 2 = []
      · have hxn := nxt_bd (r'.drop 5) 5 (by omega)
        have HE := Lib.hid hem
        clear hem
        go_wp2_with (first
          | (go_at_call 32
             go_must (
              refine (some_any bs r' 5 2 _ hsrc (by omega) (by omega) (by omega)).mono ?_
              rintro e w2 ⟨v2, rfl, hown2, hsrc2, hg2⟩
              rw [HE.out] at hown2
              obtain ⟨A2, c2, rfl, _, _⟩ := own_slice hown2))
          | (go_at_call 25
             go_must (
              refine (n_any bs (r'.drop 5) 5 _ hsrc2 (by omega) (by omega)).mono ?_
              rintro e w3 ⟨rfl, hsrc3, hg3⟩
              generalize nxt (r'.drop 5) 5 = x at *
              have hg23 := grown_trans hg2 hg3 (fun _ h _ => h)
              have hown3 := hown.kept hg23 hnb
              have hll3 := hll.src (Nat.le_of_lt hbs) hg23
              have hb3 := HB0.out.grown hg23 (by simp; omega)
              have HB3 := Lib.hid hb3
              clear hb3))
          | (at_builtin
             go_must (
              refine wpList_app (W := w3.alloc (.cells #[.int .i64 x] 3)) rfl _ _ 63 rfl (w.heap.size + 1) 22 _ 1 24 Try.underlying63 Try.infoInts rfl (by decide) (by decide) u4 k 1 vs rfl rfl (by simp) (hown3.alloc _) rfl (by simp; rfl) (by omega) (by have := hg23.size; simp; omega) ?_
              intro A4 c4 w4 hown4 hg4 hat4)))
        refine ⟨⟨k + 1, ls ++ [[x]], _, (r'.drop 5).tail, by omega, by go_num, by simp [HLEN.out], ?_, hown4, ?_, ?_, ?_, ?_⟩, by simp [intOf]; omega⟩
        · intro l hl
          rcases List.mem_append.1 hl with h1 | h1
          · exact hok l h1
          · simp at h1; subst h1; exact okL_one x hxn
        · exact (hll3.ext (ext_alloc (Below.refl _ _) _)).snoc hg4 hat4 1 (rel_new1 x hnb2 (by have := hg23.size; omega))
        · exact hsrc3.keep (grown_trans (World.grownBy_alloc _ _ _) hg4 (fun _ h _ => h)) (fun g e => by have := (hown.lt g e).1; omega)
        · exact (HB3.out.alloc _).grown hg4 (fun e => by have := (hown.lt _ e.symm).1; omega)
        · exact grown_trans (grown_alloc (grown_trans hg hg23 (fun _ h _ => h)) _) hg4 (fun g e hlt => by have := (hown.lt _ e).1; omega)
      · have hok1 := okL_some r' hem
        have hl5 := someL_len r' 5 2
        have hne0 : ((((someL r' 5 2).length : Nat) : Int) == 0) = false := by
          have : 0 < (someL r' 5 2).length := List.length_pos_iff.2 hem
          simp; omega
        generalize hX : someL r' 5 2 = X at *
        have HX := Lib.hid hX
        clear hX
        go_wp2_with (first
          | (go_at_call 32
             go_must (
              refine (some_any bs r' 5 2 _ hsrc (by omega) (by omega) (by omega)).mono ?_
              rintro e w2 ⟨v2, rfl, hown2, hsrc2, hg2⟩
              rw [HX.out] at hown2
              obtain ⟨A2, c2, rfl, _, _⟩ := own_slice hown2
              have hown3 := hown.kept hg2 hnb
              have hll3 := hll.src (Nat.le_of_lt hbs) hg2
              have hb3 := HB0.out.grown hg2 (by simp; omega)
              have HB3 := Lib.hid hb3
              clear hb3))
          | (at_builtin
             go_must (
              refine wpList_app (W := w2) rfl _ _ 63 rfl (w.heap.size + 1) 22 _ 1 24 Try.underlying63 Try.infoInts rfl (by decide) (by decide) u4 k 1 vs rfl rfl (by simp) hown3 rfl (by simp; rfl) (by omega) (by have := hg2.size; omega) ?_
              intro A4 c4 w4 hown4 hg4 hat4)))
        refine ⟨⟨k + 1, ls ++ [X], _, r'.drop 5, by omega, by go_num, by simp [HLEN.out], ?_, hown4, ?_, ?_, ?_, ?_⟩, by simp [intOf]; omega⟩
        · intro l hl
          rcases List.mem_append.1 hl with h1 | h1
          · exact hok l h1
          · simp at h1; subst h1; exact hok1
        · exact hll3.snoc hg4 hat4 c2 ((Row.of_own hown2).mono fun b _ hb => ⟨by omega, fun e => by have := (hown.lt _ e).2; omega⟩)
        · exact hsrc2.keep hg4 (fun g e => by have := (hown.lt g e).1; omega)
        · exact HB3.out.grown hg4 (fun e => by have := (hown.lt _ e.symm).1; omega)
        · exact grown_trans (grown_trans hg hg2 (fun _ h _ => h)) hg4 (fun g e hlt => by have := (hown.lt _ e).1; omega)
    · have hk1 : k = 1 + m := by omega
      rcases hown.2 with ⟨_, h0⟩ | ⟨g, cap, cur, rfl, hbg, hblk, hnc, hcm, hcs, htake⟩
      · omega
      · have hgs := hnb2 g rfl
        clear hblk hcs htake hnb hnb2 hk1
        obtain ⟨wo, rfl⟩ : ∃ wo : World, wo = wr := ⟨_, rfl⟩
        have hd1 : decide ((k : Int) < 1 + (m : Int)) = false := by simp; omega
        go_wp2
        clear hd1
        go_loopw [7] (fun i wr => ∃ (a : Nat) (ls : List (List Int)) (vs : List Value) (r' : List Int), a ≤ 5 ∧ i = .int .i64 a ∧ ls.length = k ∧ (∀ l ∈ ls, OkL l) ∧ (∀ a' : Nat, a' < a → ∃ l ∈ ls, (a' : Int) ∈ l) ∧
          wr.ownsRow (w.heap.size + 1) 22 1 (.slice (some ⟨g, 0, none⟩) k cap) k vs ∧ LLV wr w.heap.size (.slice (some ⟨g, 0, none⟩) k cap) ls vs ∧ SrcAt wr bs r' ∧
          Blk wr w.heap.size 28 #[.slice none 0 0, .slice none 0 0, .slice none 0 0, .int .i64 0] ∧ w.grownBy wr (some bs)) (fun i _ => 5 - (intOf i).toNat)
        case atStart => exact ⟨0, ls, vs, r', by omega, rfl, HLEN.out, hok, fun a' h => absurd h (by omega), hown, hll, hsrc, HB0.out, hg⟩
        case round =>
          clear hok hown hll hsrc HB0 hg HLEN
          obtain ⟨a, ls, vs, r', ha, rfl, hlen, hok, hcov, hown, hll, hsrc, hb0, hg⟩ := hrel
          have HB0 := Lib.hid hb0
          have HLEN := Lib.hid hlen
          have HOK := Lib.hid hok
          have HCOV := Lib.hid hcov
          have hwr : w.heap.size + 1 ≤ wr.heap.size := hb0.lt
          have hgs2 := (hown.lt g rfl).2
          have hgbs : (Value.slice (some ⟨g, 0, none⟩) k cap).ownBlock ≠ some bs := own_ne hown hsrc (by decide)
          clear hb0 hlen hok hcov
          by_cases ha5 : a < 5
          · obtain ⟨wp, rfl⟩ : ∃ wp : World, wp = wr := ⟨_, rfl⟩
            have hd2 : decide ((a : Int) < 5) = true := by simp; omega
            go_wp2
            clear hd2
            go_loopw [8, 43] (fun f i wq => ∃ j : Nat, j ≤ k ∧ i = .int .i64 j ∧ f = .bool (anyL (ls.take j) a) ∧ wq = wp) (fun _ i _ => k - (intOf i).toNat)
            case atStart => exact ⟨0, by omega, rfl, rfl, rfl⟩
            case round =>
              obtain ⟨j, hj, rfl, rfl, rfl⟩ := hrel
              by_cases hjk : j < k
              · have hjl : j < ls.length := by rw [HLEN.out]; exact hjk
                obtain ⟨A', c', e1, hrow⟩ := hll.2 j hjl
                have hcell := hown.cellAt j (by omega)
                rw [e1] at hcell
                have hlj : ls[j].length ≤ 1000000 := okL_len _ (HOK.out _ (List.getElem_mem hjl))
                have HS := Lib.hid (anyL_succ ls a j hjl)
                clear e1
                cases hany : anyL (ls.take j) a
                · go_wp2_with (go_at_call 13; refine (mkin_any A' c' ls[j] a wr hrow hlj).mono ?_; rintro e w' ⟨rfl, rfl⟩)
                  refine ⟨⟨j + 1, by omega, by go_num, ?_, trivial⟩, by simp [intOf]; omega⟩
                  rw [HS.out, hany]; rfl
                · go_wp2_with (go_at_call 13; refine (mkin_any A' c' ls[j] a wr hrow hlj).mono ?_; rintro e w' ⟨rfl, rfl⟩)
                  refine ⟨⟨j + 1, by omega, by go_num, ?_, trivial⟩, by simp [intOf]; omega⟩
                  rw [HS.out, hany]; rfl
              · have hfin : anyL (ls.take j) a = anyL ls a := by rw [List.take_of_length_le (by rw [HLEN.out]; omega)]
                rw [hfin]
                cases hany : anyL ls a
                · have hbd := nxt_bd r' k (by omega)
                  have hd3 : decide (j < k) = false := by simp; omega
                  have HANY := Lib.hid hany
                  clear hfin
                  go_wp2_with (
                    go_at_call 25
                    go_must (
                      refine (n_any bs r' k _ hsrc (by omega) (by omega)).mono ?_
                      rintro e w5 ⟨rfl, hsrc5, hg5⟩
                      obtain ⟨kn, hkn⟩ := Int.eq_ofNat_of_zero_le hbd.1
                      rw [hkn] at hbd ⊢
                      have hknk : kn < k := by omega
                      have hknl : kn < ls.length := by rw [HLEN.out]; exact hknk
                      have hown5 := hown.kept hg5 (.inr hgbs)
                      have hll5 := hll.src (Nat.le_of_lt hbs) hg5
                      have hb5 := HB0.out.grown hg5 (by simp; omega)
                      have HB5 := Lib.hid hb5
                      obtain ⟨A', c', e1, hrow5⟩ := hll5.2 kn hknl
                      have hcell := hown5.cellAt kn (by omega)
                      rw [e1] at hcell
                      have HE1 := Lib.hid e1
                      have hokn := HOK.out _ (List.getElem_mem hknl)
                      have hlkn := okL_len5 _ hokn
                      have hg05 := grown_trans hg hg5 (fun _ h _ => h)
                      generalize hL : ls[kn] = L at *
                      have HL := Lib.hid hL
                      clear hb5 hkn hbd e1 hL hsrc hll hown hg))
                  have hs5 : wr.heap.size ≤ w5.heap.size := hg5.size
                  go_loopw [11, 65] (fun y i wq => ∃ q : Nat, q ≤ L.length ∧ i = .int .i64 q ∧ wq.ownsRow w5.heap.size 3 1 y (loL a L q).length (ints (loL a L q)) ∧ Below w5.heap.size w5 wq) (fun _ i _ => L.length - (intOf i).toNat)
                  case atStart => exact ⟨0, by omega, rfl, World.ownsRow_nil _ _ _ _, Below.refl _ _⟩
                  case round =>
                    obtain ⟨q, hq, rfl, hy, hbel⟩ := hrel
                    have hyl := loL_len a L q
                    by_cases hql : q < L.length
                    · obtain ⟨b', off', rfl, hbb, hcq⟩ := hrow5.int_at hql
                      have hcq' : wr.cell? ⟨b', off' + q, none⟩ = some (.int .i64 L[q]) := by rw [hbel.cell (p := ⟨b', off' + q, none⟩) hbb]; exact hcq
                      have HLO := Lib.hid (loL_succ a L q hql)
                      clear hcq hcell
                      by_cases hlt2 : L[q] < (a : Int)
                      · go_wp2_with (
                          at_builtin
                          go_must (
                            refine wpList_app (W := wr) rfl _ _ 22 rfl w5.heap.size 3 _ 1 8 Try.underlying22 Try.infoInt rfl (by decide) (by decide) u11 (loL a L q).length 1 (ints (loL a L q)) rfl rfl rfl hy rfl (by simp; rfl) (by omega) hbel.size ?_
                            intro A6 c6 w6 hown6 hg6 hat6))
                        refine ⟨⟨q + 1, by omega, by go_num, ?_, hbel.grown hg6 hbel.size (fun g e => (hy.lt g e).1)⟩, by simp [intOf]; omega⟩
                        rw [HLO.out, if_pos hlt2]; simpa using hown6
                      · go_wp2
                        refine ⟨⟨q + 1, by omega, by go_num, ?_, hbel⟩, by simp [intOf]; omega⟩
                        rw [HLO.out, if_neg hlt2]; exact hy
                    · obtain rfl : q = L.length := by omega
                      obtain ⟨wq, rfl⟩ : ∃ wq : World, wq = wr := ⟨_, rfl⟩
                      have hcell2 : wq.cell? ⟨g, kn, none⟩ = some (.slice A' L.length c') := by rw [hbel.cell (p := ⟨g, kn, none⟩) (by show g < _; omega)]; exact hcell
                      have hd4 : decide (L.length < L.length) = false := by simp
                      clear hcell
                      go_wp2_with (
                        at_builtin
                        go_must (
                          refine wpList_app (W := wq) rfl _ _ 22 rfl w5.heap.size 3 _ 1 8 Try.underlying22 Try.infoInt rfl (by decide) (by decide) u11 (loL a L L.length).length 1 (ints (loL a L L.length)) rfl rfl rfl hy rfl (by simp; rfl) (by omega) hbel.size ?_
                          intro A6 c6 w6 hown6 hg6 hat6
                          have hbel6 := hbel.grown hg6 hbel.size (fun g e => (hy.lt g e).1)
                          have hcell6 : w6.cell? ⟨g, kn, none⟩ = some (.slice A' L.length c') := by rw [hbel6.cell (p := ⟨g, kn, none⟩) (by show g < _; omega), ← hbel.cell (p := ⟨g, kn, none⟩) (by show g < _; omega)]; exact hcell2
                          clear hd4 hcell2))
                      have hhi0 : (loL a L L.length) ++ [(a : Int)] = hiL a L 0 := by simp [loL, hiL]
                      have hown7 : w6.ownsRow w5.heap.size 3 1 (.slice A6 ((loL a L L.length).length + 1) c6) (hiL a L 0).length (ints (hiL a L 0)) := by rw [← hhi0]; simpa using hown6
                      clear hhi0 hown6 hg6 hat6 hy hyl
                      go_loopw [11, 86] (fun y i wq => ∃ q : Nat, q ≤ L.length ∧ i = .int .i64 q ∧ wq.ownsRow w5.heap.size 3 1 y (hiL a L q).length (ints (hiL a L q)) ∧ Below w5.heap.size w5 wq) (fun _ i _ => L.length - (intOf i).toNat)
                      case atStart => exact ⟨0, by omega, rfl, hown7, hbel6⟩
                      case round =>
                        obtain ⟨q, hq, rfl, hy, hbel⟩ := hrel
                        have hyl := hiL_len a L q
                        by_cases hql : q < L.length
                        · obtain ⟨b', off', rfl, hbb, hcq⟩ := hrow5.int_at hql
                          have hcq' : wr.cell? ⟨b', off' + q, none⟩ = some (.int .i64 L[q]) := by rw [hbel.cell (p := ⟨b', off' + q, none⟩) hbb]; exact hcq
                          have HLO := Lib.hid (hiL_succ a L q hql)
                          clear hcq hcell6
                          by_cases hlt2 : (a : Int) < L[q]
                          · go_wp2_with (
                              at_builtin
                              go_must (
                                refine wpList_app (W := wr) rfl _ _ 22 rfl w5.heap.size 3 _ 1 8 Try.underlying22 Try.infoInt rfl (by decide) (by decide) u11 (hiL a L q).length 1 (ints (hiL a L q)) rfl rfl rfl hy rfl (by simp; rfl) (by omega) hbel.size ?_
                                intro A8 c8 w8 hown8 hg8 hat8))
                            refine ⟨⟨q + 1, by omega, by go_num, ?_, hbel.grown hg8 hbel.size (fun g e => (hy.lt g e).1)⟩, by simp [intOf]; omega⟩
                            rw [HLO.out, if_pos hlt2]; simpa using hown8
                          · go_wp2
                            refine ⟨⟨q + 1, by omega, by go_num, ?_, hbel⟩, by simp [intOf]; omega⟩
                            rw [HLO.out, if_neg hlt2]; exact hy
                        · obtain rfl : q = L.length := by omega
                          have hins : hiL a L L.length = insL a L := by simp [hiL, insL]
                          rw [hins] at hy
                          clear hins
                          obtain ⟨A9, c9, rfl, _, _⟩ := own_slice hy
                          have hown9 := hown5.kept (grown_of_ext hbel none) (by simp [Value.ownBlock])
                          have hcell9 : wr.cell? ⟨g, kn, none⟩ = some (.slice A' L.length c') := by rw [hown9.cellAt kn (by omega)]; exact HE1.out
                          have hfz9 := hown9.frozenAt kn
                          have hll9 := hll5.ext hbel
                          have hsrc9 := hsrc5.keep (grown_of_ext hbel none) (by simp)
                          have hb9 := HB5.out.ext hbel
                          have HB9 := Lib.hid hb9
                          have hst := hown9.stored kn (.slice A9 (insL a L).length c9)
                          have hy9 : Row wr (fun b => w.heap.size < b ∧ (Value.slice (some ⟨g, 0, none⟩) k cap).ownBlock ≠ some b) A9 (ints (insL a L)) :=
                            (Row.of_own hy).mono fun b _ hb => ⟨by have := hsrc5.lt; omega, by simp [Value.ownBlock]; omega⟩
                          have hllS := hll9.set kn c9 hy9
                          have hd5 : decide (L.length < L.length) = false := by simp
                          clear hb9
                          go_wp2
                          refine ⟨⟨a + 1, ls.set kn (insL a L), _, r'.tail, by omega, by go_num, by simpa using HLEN.out, ?_, ?_, hst.1, hllS, ?_, ?_, ?_⟩, by simp [intOf]; omega⟩
                          · intro l hl
                            rcases List.mem_or_eq_of_mem_set hl with h1 | h1
                            · exact HOK.out l h1
                            · rw [h1]; exact insL_ok _ _ hokn (by omega)
                          · intro a' ha'
                            by_cases e : a' < a
                            · obtain ⟨l, h1, h2⟩ := HCOV.out a' e
                              obtain ⟨i, hi, rfl⟩ := List.getElem_of_mem h1
                              by_cases hik : kn = i
                              · subst hik
                                exact ⟨insL a L, List.mem_iff_getElem.2 ⟨kn, by simpa using hi, by simp⟩, by rw [insL_mem]; right; rw [← HL.out]; exact h2⟩
                              · exact ⟨ls[i], List.mem_of_getElem (i := i) (by rw [List.getElem_set_ne hik]; simpa using hi), h2⟩
                            · obtain rfl : a' = a := by omega
                              exact ⟨insL a' L, List.mem_iff_getElem.2 ⟨kn, by simpa using hknl, by simp⟩, by rw [insL_mem]; left; rfl⟩
                          · exact hsrc9.keep hst.2 (fun g' e => by injection e with e; omega)
                          · exact HB9.out.far (by simp; omega) _
                          · exact grown_trans (grown_trans hg05 (grown_of_ext hbel none) (by simp)) hst.2 (fun g' e hlt => by injection e with e; omega)
                · go_wp2
                  refine ⟨⟨a + 1, ls, vs, r', by omega, by go_num, HLEN.out, HOK.out, ?_, hown, hll, hsrc, HB0.out, hg⟩, by simp [intOf]; omega⟩
                  intro a' ha'
                  by_cases e : a' < a
                  · exact HCOV.out a' e
                  · obtain rfl : a' = a := by omega
                    simpa [anyL, inB] using hany
          · have hcv := HCOV.out
            have hok := HOK.out
            obtain rfl := HLEN.out
            have hLs : ListsAt wr (fun b => w.heap.size < b) (some ⟨g, 0, none⟩) ls := by
              refine ⟨vs, hll.1, (Row.of_own hown).mono fun b _ hb => by omega, fun i hi => ?_⟩
              obtain ⟨A', c', e1, e2⟩ := hll.2 i hi
              exact ⟨A', c', e1, e2.mono fun b _ hb => hb.1⟩
            have hgood : GoodL ls := ⟨by omega, by omega, hok, fun a' h => hcv a' (by omega)⟩
            have hbnd : ∀ l ∈ ls, l.length ≤ 100 ∧ ∀ a ∈ l, 0 ≤ a ∧ a ≤ 20 := fun l hl => ⟨by have := okL_len5 l (hok l hl); omega, fun a ha => by have := (hok l hl).2.2 a ha; omega⟩
            have HG := Lib.hid hgood
            have HBD := Lib.hid hbnd
            clear hcv hok hgood hbnd
            go_wp2_with (
              go_at_call 31
              go_must (
                refine (sch_any (some ⟨g, 0, none⟩) cap ls wr hLs (by omega) HBD.out).mono ?_
                rintro e w2 ⟨v, rfl, hsch, hbel⟩
                have hsch2 := hsch.mono (R' := fun b => w.heap.size < b) fun b _ hb => by omega
                obtain ⟨A1, c1, A2, c2, A3, c3, rfl, hrest⟩ := hsch
                have hb2 := HB0.out.ext hbel
                have q0 := hb2.cell 0
                have q1 := hb2.cell 1
                have q2 := hb2.cell 2
                have q3 := hb2.cell 3
                have z0 := hb2.frozen 0
                have z1 := hb2.frozen 1
                have z2 := hb2.frozen 2
                have z3 := hb2.frozen 3
                simp at q0 q1 q2 q3
                clear hb2 hrest))
            refine bodyPost_ret (v := .agg #[.slice A1 (schOf ls).attrs.length c1, .slice A2 (schOf ls).rels.length c2, .slice A3 (schOf ls).feats.length c3, .int .i64 (schOf ls).label]) (by simp [results, Try.results9, go_sem, q0, q1, q2, q3]) rfl ?_
            have hk : ∀ b, b ≠ w.heap.size → ((((w2.setCell ⟨w.heap.size, 0, none⟩ (.slice A1 (schOf ls).attrs.length c1)).setCell ⟨w.heap.size, 1, none⟩ (.slice A2 (schOf ls).rels.length c2)).setCell ⟨w.heap.size, 2, none⟩ (.slice A3 (schOf ls).feats.length c3)).setCell ⟨w.heap.size, 3, none⟩ (.int .i64 (schOf ls).label)).heap[b]? = w2.heap[b]? := fun b hb => by
              rw [Below.heap_setCell _ _ _ _ hb, Below.heap_setCell _ _ _ _ hb, Below.heap_setCell _ _ _ _ hb, Below.heap_setCell _ _ _ _ hb]
            have hgW : w2.grownBy ((((w2.setCell ⟨w.heap.size, 0, none⟩ (.slice A1 (schOf ls).attrs.length c1)).setCell ⟨w.heap.size, 1, none⟩ (.slice A2 (schOf ls).rels.length c2)).setCell ⟨w.heap.size, 2, none⟩ (.slice A3 (schOf ls).feats.length c3)).setCell ⟨w.heap.size, 3, none⟩ (.int .i64 (schOf ls).label)) (some w.heap.size) :=
              ⟨rfl, rfl, rfl, by simp [World.setCell], fun b _ hb => hk b (by simpa using hb)⟩
            refine ⟨_, ls, r', rfl, HG.out, ?_, ?_, ?_⟩
            · exact (hsch2.keep hgW.size fun b hb _ => hk b (by omega)).mono fun b _ hb => by omega
            · exact (hsrc.keep (grown_of_ext hbel none) (by simp)).keep hgW (fun g e => by injection e with e; omega)
            · exact grown_trans (grown_trans hg (grown_of_ext hbel none) (by simp)) hgW (fun g e hlt => by injection e with e; omega)
end Go.Proofs.Ytopblgabadljdaa
namespace Go.Proofs.Ytopblgabadljdaa
open Go.RowKit
def ordS (S : Sch) : List Int := if checkE S = 0 then (redS S.rels).ord else []
def corS (S : Sch) : List Int := if checkE S = 0 then coreS S.rels else []
def witS (S : Sch) : List Int := if checkE S = 0 ∧ (coreS S.rels).length ≤ 1 then (redS S.rels).wit else []
def treB (S : Sch) : Bool := decide (checkE S = 0 ∧ (coreS S.rels).length ≤ 1)
def earO (S : Sch) (inn : List Bool) (r : Int) : Option Nat :=
  if checkE S ≠ 0 ∨ inn.length ≠ S.rels.length ∨ r < 0 ∨ (inn.length : Int) ≤ r ∨ inn.getD r.toNat false = false then none else witI S.rels inn r.toNat
theorem check_zero {S : Sch} (h : checkE S = 0) : 1 ≤ S.attrs.length ∧ S.attrs.length ≤ 12 ∧ 1 ≤ S.rels.length ∧ S.rels.length ≤ 6 ∧ S.feats.length ≤ 8 ∧ (∀ k, k < S.rels.length → relE S k = 0) ∧ ∀ a, a < S.attrs.length → usedB S a = true := by
  unfold checkE at h
  by_cases hl : S.attrs.length = 0 ∨ 12 < S.attrs.length ∨ S.rels.length = 0 ∨ 6 < S.rels.length ∨ 8 < S.feats.length
  · rw [if_pos hl] at h; simp at h
  · rw [if_neg hl] at h
    by_cases h1 : scanE (attrE S) S.attrs.length ≠ 0
    · rw [if_pos h1] at h; exact absurd h h1
    · rw [if_neg h1] at h
      by_cases h2 : relsE S ≠ 0
      · rw [if_pos h2] at h; exact absurd h h2
      · have h3 : relsE S = 0 := by omega
        unfold relsE at h3
        by_cases h4 : scanE (relE S) S.rels.length ≠ 0
        · rw [if_pos h4] at h3; exact absurd h3 h4
        · rw [if_neg h4] at h3
          refine ⟨by omega, by omega, by omega, by omega, by omega, scanE_zero.1 (by omega), fun a ha => ?_⟩
          split at h3
          · simp at h3
          · rename_i h5
            rw [Bool.not_eq_false, List.all_eq_true] at h5
            exact h5 a (by simpa using ha)
theorem rel_zero {S : Sch} {k : Nat} (hk : k < S.rels.length) (h : relE S k = 0) : S.rels[k].2 ≠ [] ∧ (∀ a ∈ S.rels[k].2, 0 ≤ a ∧ a < S.attrs.length) ∧ ascB S.rels[k].2 = true := by
  rw [relE_eq S k hk _ rfl] at h
  split at h
  · rename_i h1; exact absurd h h1
  · split at h
    · simp at h
    · rename_i h2
      split at h
      · simp at h
      · rename_i h3
        split at h
        · simp at h
        · rename_i h4
          refine ⟨h2, ?_, by simpa using h4⟩
          rw [Bool.not_eq_false, List.all_eq_true] at h3
          intro a ha
          have := h3 a ha
          simp at this
          omega
theorem asc_pair {l : List Int} (h : ascB l = true) : l.Pairwise (· < ·) := by
  unfold ascB at h
  rw [List.all_eq_true] at h
  have h1 : ∀ p (hp : p + 1 < l.length), l[p] < l[p + 1] := fun p hp => by
    have := h p (by simp; omega)
    simpa [List.getD, hp, show p < l.length by omega] using this
  clear h
  induction l with
  | nil => exact List.Pairwise.nil
  | cons x t ih =>
    have ht := ih fun p hp => h1 (p + 1) (by simpa using hp)
    refine List.pairwise_cons.2 ⟨?_, ht⟩
    cases t with
    | nil => intro a ha; simp at ha
    | cons y t =>
      have hxy := h1 0 (by simp)
      simp at hxy
      intro a ha
      rcases List.mem_cons.1 ha with e | e
      · rw [e]; exact hxy
      · have := (List.pairwise_cons.1 ht).1 a e; omega
theorem check_relOk {S : Sch} (h : checkE S = 0) : RelOk S.rels := by
  obtain ⟨a1, a2, a3, a4, a5, a6, a7⟩ := check_zero h
  refine ⟨by omega, fun x hx => ?_⟩
  obtain ⟨k, hk, rfl⟩ := List.getElem_of_mem hx
  obtain ⟨b1, b2, b3⟩ := rel_zero hk (a6 k hk)
  have hlen := asc_lenL S.rels[k].2 0 11 (asc_pair b3) (fun a ha => by have := b2 a ha; omega)
  exact ⟨by omega, fun a ha => by have := b2 a ha; omega⟩
theorem ne_b {n : Int} (h : n ≠ 0) : (n != 0) = true := by simpa using h
theorem eq_b {n : Int} (h : n = 0) : (n != 0) = false := by simp [h]
set_option maxRecDepth 100000 in
set_option maxHeartbeats 400000 in
theorem reduceE_any (v : Value) (S : Sch) (w : World) {R : Nat → Prop} (h : SchAt w R v S) (hb : SBd S) :
    Calls Try.prog 11 #[v] w fun e w' => ∃ (Ao : Option Addr) (co : Nat) (Ac : Option Addr) (cc : Nat),
      e = .returned (.tuple #[.slice Ao (ordS S).length co, .slice Ac (corS S).length cc]) ∧
      RowK w' (w.heap.size ≤ ·) Ao (ordS S).length co (ints (ordS S)) ∧ RowK w' (w.heap.size ≤ ·) Ac (corS S).length cc (ints (corS S)) ∧ Below w.heap.size w w' := by
  have h0 := h
  obtain ⟨A1, c1, A2, c2, A3, c3, rfl, l1, l2, l3, h1, h2, h3⟩ := h
  clear h1 h2 h3 l1 l2 l3
  have ct1 := fun (W : World) (hW : Below w.heap.size w W) => check_any _ S W (h0.ext hW) hb
  by_cases hc : checkE S = 0
  · have hcb := eq_b hc
    have e1 : ordS S = (redS S.rels).ord := by unfold ordS; rw [if_pos hc]
    have e2 : corS S = coreS S.rels := by unfold corS; rw [if_pos hc]
    have ct2 := fun (W : World) (hW : Below w.heap.size w W) => reduce_any _ S W (h0.ext hW) (check_zero hc).2.2.1 (check_relOk hc)
    rw [← e1, ← e2] at ct2
    generalize checkE S = ce at *
    generalize ordS S = od at *
    generalize corS S = cr at *
    have CT1 := Lib.hid ct1
    have CT2 := Lib.hid ct2
    clear ct1 ct2 hc e1 e2
    go_enter Try.func11, Try.ntmps11
    go_wp2_with (first
      | (go_at_call 33
         go_must (
          refine (CT1.out _ ((Below.refl _ _).alloc (Nat.le_refl _) _)).mono ?_
          rintro e w1 ⟨rfl, hb1⟩
          have hbx := (Blk.new w 28 #[Value.slice A1 S.attrs.length c1, Value.slice A2 S.rels.length c2, Value.slice A3 S.feats.length c3, Value.int IntKind.i64 S.label]).ext hb1
          have x0 := hbx.cell 0
          have x1 := hbx.cell 1
          have x2 := hbx.cell 2
          have x3 := hbx.cell 3
          simp at x0 x1 x2 x3
          have hbel1 : Below w.heap.size w w1 := ext_trans ((Below.refl _ _).alloc (Nat.le_refl _) _) hb1
          clear hbx hb1))
      | (go_at_call 34
         go_must (
          refine (CT2.out _ hbel1).mono ?_
          rintro e w2 ⟨Ao, co, Ac, cc, Aw, cw, rfl, hr1, hr2, hr3, hb2⟩)))
    go_ret2
    exact ⟨Ao, co, Ac, cc, rfl, hr1.mono fun b _ hb => Nat.le_trans hbel1.size hb, hr2.mono fun b _ hb => Nat.le_trans hbel1.size hb, ext_trans hbel1 hb2⟩
  · have hcb := ne_b hc
    have e1 : ordS S = [] := by unfold ordS; rw [if_neg hc]
    have e2 : corS S = [] := by unfold corS; rw [if_neg hc]
    have E1 := Lib.hid e1
    have E2 := Lib.hid e2
    generalize checkE S = ce at *
    have CT1 := Lib.hid ct1
    clear ct1 hc e1 e2
    go_enter Try.func11, Try.ntmps11
    go_wp2_with (
      go_at_call 33
      go_must (
        refine (CT1.out _ ((Below.refl _ _).alloc (Nat.le_refl _) _)).mono ?_
        rintro e w1 ⟨rfl, hb1⟩))
    go_ret2
    rw [E1.out, E2.out]
    exact ⟨none, 0, none, 0, rfl, RowK.nil, RowK.nil, ext_trans ((Below.refl _ _).alloc (Nat.le_refl _) _) hb1⟩
set_option maxRecDepth 100000 in
set_option maxHeartbeats 400000 in
theorem tree_any (v : Value) (S : Sch) (w : World) {R : Nat → Prop} (h : SchAt w R v S) (hb : SBd S) :
    Calls Try.prog 27 #[v] w fun e w' => ∃ (Aw : Option Addr) (cw : Nat),
      e = .returned (.tuple #[.agg #[.slice Aw (witS S).length cw], .bool (treB S)]) ∧ RowK w' (w.heap.size ≤ ·) Aw (witS S).length cw (ints (witS S)) ∧ Below w.heap.size w w' := by
  have h0 := h
  obtain ⟨A1, c1, A2, c2, A3, c3, rfl, l1, l2, l3, h1, h2, h3⟩ := h
  clear h1 h2 h3 l1 l2 l3
  have ct1 := fun (W : World) (hW : Below w.heap.size w W) => check_any _ S W (h0.ext hW) hb
  by_cases hc : checkE S = 0
  · have hcb := eq_b hc
    have ct2 := fun (W : World) (hW : Below w.heap.size w W) => reduce_any _ S W (h0.ext hW) (check_zero hc).2.2.1 (check_relOk hc)
    have hwl : (redS S.rels).wit.length = S.rels.length := (redTo_len S.rels _).2
    by_cases hle : (coreS S.rels).length ≤ 1
    · have e1 : witS S = (redS S.rels).wit := by unfold witS; rw [if_pos ⟨hc, hle⟩]
      have e2 : treB S = true := by unfold treB; simp [hc, hle]
      rw [← e1] at ct2 hwl
      generalize checkE S = ce at *
      generalize coreS S.rels = cr at *
      have E2 := Lib.hid e2
      have HWL := Lib.hid hwl
      have CT1 := Lib.hid ct1
      have CT2 := Lib.hid ct2
      clear ct1 ct2 hc e1 e2 hwl
      go_enter Try.func27, Try.ntmps27
      go_wp2_with (first
        | (go_at_call 33
           go_must (
            refine (CT1.out _ (((Below.refl _ _).alloc (Nat.le_refl _) _).alloc (by simp) _)).mono ?_
            rintro e w1 ⟨rfl, hb1⟩
            have hbx := ((Blk.new w 28 #[Value.slice A1 S.attrs.length c1, Value.slice A2 S.rels.length c2, Value.slice A3 S.feats.length c3, Value.int IntKind.i64 S.label]).alloc _).ext hb1
            have hby := (Blk.new (w.alloc (Obj.cells #[Value.slice A1 S.attrs.length c1, Value.slice A2 S.rels.length c2, Value.slice A3 S.feats.length c3, Value.int IntKind.i64 S.label] 28)) 46 #[.slice none 0 0]).ext hb1
            rw [World.size_alloc] at hby
            have x0 := hbx.cell 0
            have x1 := hbx.cell 1
            have x2 := hbx.cell 2
            have x3 := hbx.cell 3
            simp at x0 x1 x2 x3
            have hbel1 : Below w.heap.size w w1 := ext_trans (((Below.refl _ _).alloc (Nat.le_refl _) _).alloc (by simp) _) hb1
            have HBY := Lib.hid hby
            clear hbx hb1 hby))
        | (go_at_call 34
           go_must (
            refine (CT2.out _ hbel1).mono ?_
            rintro e w2 ⟨Ao, co, Ac, cc, Aw, cw, rfl, hr1, hr2, hr3, hb2⟩
            have hby2 := HBY.out.ext hb2
            have y0 := hby2.cell 0
            have z0 := hby2.frozen 0
            simp at y0
            clear hr1 hr2 hby2)))
      refine bodyPost_ret (v := .tuple #[.agg #[.slice Aw S.rels.length cw], .bool true]) (by simp [results, Try.results27, go_sem, y0]) rfl ?_
      refine ⟨Aw, cw, by rw [E2.out, HWL.out], ?_, (ext_trans hbel1 hb2).setCell (by simp) _⟩
      rw [HWL.out]
      exact (hr3.mono (R' := fun b => w.heap.size + 2 ≤ b) (fun b _ hb => by have := HBY.out.lt; omega)).setCell (fun b hb => by simp; omega) _ |>.mono fun b _ hb => by omega
    · have e1 : witS S = [] := by unfold witS; rw [if_neg (fun h => hle h.2)]
      have e2 : treB S = false := by unfold treB; simp [hle]
      generalize checkE S = ce at *
      generalize coreS S.rels = cr at *
      have E1 := Lib.hid e1
      have E2 := Lib.hid e2
      have CT1 := Lib.hid ct1
      have CT2 := Lib.hid ct2
      clear ct1 ct2 hc e1 e2 hwl
      go_enter Try.func27, Try.ntmps27
      go_wp2_with (first
        | (go_at_call 33
           go_must (
            refine (CT1.out _ (((Below.refl _ _).alloc (Nat.le_refl _) _).alloc (by simp) _)).mono ?_
            rintro e w1 ⟨rfl, hb1⟩
            have hbx := ((Blk.new w 28 #[Value.slice A1 S.attrs.length c1, Value.slice A2 S.rels.length c2, Value.slice A3 S.feats.length c3, Value.int IntKind.i64 S.label]).alloc _).ext hb1
            have hby := (Blk.new (w.alloc (Obj.cells #[Value.slice A1 S.attrs.length c1, Value.slice A2 S.rels.length c2, Value.slice A3 S.feats.length c3, Value.int IntKind.i64 S.label] 28)) 46 #[.slice none 0 0]).ext hb1
            rw [World.size_alloc] at hby
            have x0 := hbx.cell 0
            have x1 := hbx.cell 1
            have x2 := hbx.cell 2
            have x3 := hbx.cell 3
            simp at x0 x1 x2 x3
            have hbel1 : Below w.heap.size w w1 := ext_trans (((Below.refl _ _).alloc (Nat.le_refl _) _).alloc (by simp) _) hb1
            have HBY := Lib.hid hby
            clear hbx hb1 hby))
        | (go_at_call 34
           go_must (
            refine (CT2.out _ hbel1).mono ?_
            rintro e w2 ⟨Ao, co, Ac, cc, Aw, cw, rfl, hr1, hr2, hr3, hb2⟩
            have hby2 := HBY.out.ext hb2
            have y0 := hby2.cell 0
            have z0 := hby2.frozen 0
            simp at y0
            clear hr1 hr2 hby2)))
      refine bodyPost_ret (v := .tuple #[.agg #[.slice none 0 0], .bool false]) (by simp [results, Try.results27, go_sem, y0]) rfl ?_
      exact ⟨none, 0, by rw [E1.out, E2.out]; rfl, by rw [E1.out]; exact RowK.nil, (ext_trans hbel1 hb2).setCell (by simp) _⟩
  · have hcb := ne_b hc
    have e1 : witS S = [] := by unfold witS; rw [if_neg (fun h => hc h.1)]
    have e2 : treB S = false := by unfold treB; simp [hc]
    have E1 := Lib.hid e1
    have E2 := Lib.hid e2
    generalize checkE S = ce at *
    have CT1 := Lib.hid ct1
    clear ct1 hc e1 e2
    go_enter Try.func27, Try.ntmps27
    go_wp2_with (
      go_at_call 33
      go_must (
        refine (CT1.out _ (((Below.refl _ _).alloc (Nat.le_refl _) _).alloc (by simp) _)).mono ?_
        rintro e w1 ⟨rfl, hb1⟩
        have hby := (Blk.new (w.alloc (Obj.cells #[Value.slice A1 S.attrs.length c1, Value.slice A2 S.rels.length c2, Value.slice A3 S.feats.length c3, Value.int IntKind.i64 S.label] 28)) 46 #[.slice none 0 0]).ext hb1
        rw [World.size_alloc] at hby
        have y0 := hby.cell 0
        have z0 := hby.frozen 0
        simp at y0
        clear hby))
    refine bodyPost_ret (v := .tuple #[.agg #[.slice none 0 0], .bool false]) (by simp [results, Try.results27, go_sem, y0]) rfl ?_
    exact ⟨none, 0, by rw [E1.out, E2.out]; rfl, by rw [E1.out]; exact RowK.nil, (ext_trans (((Below.refl _ _).alloc (Nat.le_refl _) _).alloc (by simp) _) hb1).setCell (by simp) _⟩
set_option maxRecDepth 100000 in
set_option maxHeartbeats 400000 in
theorem acyclic_any (v : Value) (S : Sch) (w : World) {R : Nat → Prop} (h : SchAt w R v S) (hb : SBd S) :
    Calls Try.prog 15 #[v] w fun e w' => e = .returned (.bool (treB S)) ∧ Below w.heap.size w w' := by
  have ct1 := fun (W : World) (hW : Below w.heap.size w W) => tree_any v S W (h.ext hW) hb
  have CT1 := Lib.hid ct1
  obtain ⟨A1, c1, A2, c2, A3, c3, rfl, l1, l2, l3, h1, h2, h3⟩ := h
  clear h1 h2 h3 l1 l2 l3 ct1
  go_enter Try.func15, Try.ntmps15
  go_wp2_with (
    go_at_call 27
    go_must (
      refine (CT1.out _ ((Below.refl _ _).alloc (Nat.le_refl _) _)).mono ?_
      rintro e w1 ⟨Aw, cw, rfl, hr, hb1⟩))
  go_ret
  exact ⟨rfl, ext_alloc (ext_trans ((Below.refl _ _).alloc (Nat.le_refl _) _) hb1) _⟩
set_option maxRecDepth 100000 in
set_option maxHeartbeats 1000000 in
theorem ear_any (v : Value) (S : Sch) (Ai : Option Addr) (ci : Nat) (inn : List Bool) (r : Int) (w : World) {R R' : Nat → Prop} (h : SchAt w R v S) (hb : SBd S) (hi : Row w R' Ai (bools inn)) :
    Calls Try.prog 12 #[v, .slice Ai inn.length ci, .int .i64 r] w fun e w' =>
      e = .returned (.tuple #[.int .i64 (optI (earO S inn r)), .bool (earO S inn r).isSome]) ∧ Below w.heap.size w w' := by
  have h0 := h
  obtain ⟨A1, c1, A2, c2, A3, c3, rfl, l1, l2, l3, h1, h2, h3⟩ := h
  clear h1 h2 h3 l1 l2 l3
  have ct1 := fun (W : World) (hW : Below w.heap.size w W) => check_any _ S W (h0.ext hW) hb
  have hbr := hb.r
  by_cases hc : checkE S = 0
  · have hcb := eq_b hc
    by_cases hln : inn.length = S.rels.length
    · have hlb : ((inn.length : Int) != (S.rels.length : Int)) = false := by simp [hln]
      by_cases hr0 : r < 0
      · have hE : earO S inn r = none := by unfold earO; rw [if_pos (.inr (.inr (.inl hr0)))]
        rw [hE]
        generalize checkE S = ce at *
        have CT1 := Lib.hid ct1
        clear ct1 hc hE hln
        go_enter Try.func12, Try.ntmps12
        go_wp2_with (
          go_at_call 33
          go_must (
            refine (CT1.out _ ((Below.refl _ _).alloc (Nat.le_refl _) _)).mono ?_
            rintro e w1 ⟨rfl, hb1⟩
            have hbx := (Blk.new w 28 #[Value.slice A1 S.attrs.length c1, Value.slice A2 S.rels.length c2, Value.slice A3 S.feats.length c3, Value.int IntKind.i64 S.label]).ext hb1
            have x0 := hbx.cell 0
            have x1 := hbx.cell 1
            have x2 := hbx.cell 2
            have x3 := hbx.cell 3
            simp at x0 x1 x2 x3
            clear hbx))
        go_ret2
        exact ⟨rfl, ext_trans ((Below.refl _ _).alloc (Nat.le_refl _) _) hb1⟩
      · by_cases hr1 : (inn.length : Int) ≤ r
        · have hE : earO S inn r = none := by unfold earO; rw [if_pos (.inr (.inr (.inr (.inl hr1))))]
          rw [hE]
          generalize checkE S = ce at *
          have CT1 := Lib.hid ct1
          clear ct1 hc hE hln
          go_enter Try.func12, Try.ntmps12
          go_wp2_with (
            go_at_call 33
            go_must (
              refine (CT1.out _ ((Below.refl _ _).alloc (Nat.le_refl _) _)).mono ?_
              rintro e w1 ⟨rfl, hb1⟩
              have hbx := (Blk.new w 28 #[Value.slice A1 S.attrs.length c1, Value.slice A2 S.rels.length c2, Value.slice A3 S.feats.length c3, Value.int IntKind.i64 S.label]).ext hb1
              have x0 := hbx.cell 0
              have x1 := hbx.cell 1
              have x2 := hbx.cell 2
              have x3 := hbx.cell 3
              simp at x0 x1 x2 x3
              clear hbx))
          go_ret2
          exact ⟨rfl, ext_trans ((Below.refl _ _).alloc (Nat.le_refl _) _) hb1⟩
        · obtain ⟨rn, rfl⟩ := Int.eq_ofNat_of_zero_le (show 0 ≤ r by omega)
          have hrn : rn < inn.length := by omega
          have hrs : rn < S.rels.length := by omega
          obtain ⟨b, off, rfl, hbb, hck⟩ := hi.bool_at hrn
          have hgi : inn.getD rn false = inn[rn] := by simp [List.getD, hrn]
          cases hik : inn[rn]
          · have hE : earO S inn rn = none := by unfold earO; rw [if_pos (.inr (.inr (.inr (.inr (by rw [Int.toNat_natCast, hgi, hik])))))]
            rw [hik] at hck
            rw [hE]
            generalize checkE S = ce at *
            have CT1 := Lib.hid ct1
            clear ct1 hc hE hln hgi hik
            go_enter Try.func12, Try.ntmps12
            go_wp2_with (
              go_at_call 33
              go_must (
                refine (CT1.out _ ((Below.refl _ _).alloc (Nat.le_refl _) _)).mono ?_
                rintro e w1 ⟨rfl, hb1⟩
                have hbx := (Blk.new w 28 #[Value.slice A1 S.attrs.length c1, Value.slice A2 S.rels.length c2, Value.slice A3 S.feats.length c3, Value.int IntKind.i64 S.label]).ext hb1
                have x0 := hbx.cell 0
                have x1 := hbx.cell 1
                have x2 := hbx.cell 2
                have x3 := hbx.cell 3
                simp at x0 x1 x2 x3
                clear hbx
                have hck1 : w1.cell? ⟨b, off + rn, none⟩ = some (.bool false) := by rw [hb1.cell (p := ⟨b, off + rn, none⟩) (by show b < _; simp; omega), World.cell?_alloc_lt _ _ _ hbb]; exact hck
                clear hck))
            go_ret2
            exact ⟨rfl, ext_trans ((Below.refl _ _).alloc (Nat.le_refl _) _) hb1⟩
          · have hE : earO S inn rn = witI S.rels inn rn := by
              unfold earO
              rw [if_neg, Int.toNat_natCast]
              rw [Int.toNat_natCast, hgi, hik]
              simp [hc, hln]
              omega
            rw [hik] at hck
            have ct2 := fun (W : World) (hW : Below w.heap.size w W) => witness_any _ S (some ⟨b, off, none⟩) ci inn rn W (h0.ext hW) (hi.ext hW) hln hrs (check_relOk hc)
            rw [hE]
            generalize checkE S = ce at *
            have CT1 := Lib.hid ct1
            have CT2 := Lib.hid ct2
            clear ct1 hc hE hln hgi hik ct2
            go_enter Try.func12, Try.ntmps12
            go_wp2_with (first
              | (go_at_call 33
                 go_must (
                  refine (CT1.out _ ((Below.refl _ _).alloc (Nat.le_refl _) _)).mono ?_
                  rintro e w1 ⟨rfl, hb1⟩
                  have hbx := (Blk.new w 28 #[Value.slice A1 S.attrs.length c1, Value.slice A2 S.rels.length c2, Value.slice A3 S.feats.length c3, Value.int IntKind.i64 S.label]).ext hb1
                  have x0 := hbx.cell 0
                  have x1 := hbx.cell 1
                  have x2 := hbx.cell 2
                  have x3 := hbx.cell 3
                  simp at x0 x1 x2 x3
                  clear hbx
                  have hck1 : w1.cell? ⟨b, off + rn, none⟩ = some (.bool true) := by rw [hb1.cell (p := ⟨b, off + rn, none⟩) (by show b < _; simp; omega), World.cell?_alloc_lt _ _ _ hbb]; exact hck
                  have hbel1 : Below w.heap.size w w1 := ext_trans ((Below.refl _ _).alloc (Nat.le_refl _) _) hb1
                  clear hck))
              | (go_at_call 35
                 go_must (
                  refine (CT2.out _ hbel1).mono ?_
                  rintro e w2 ⟨rfl, hb2⟩)))
            go_ret2
            exact ⟨rfl, ext_trans hbel1 hb2⟩
    · have hlb : ((inn.length : Int) != (S.rels.length : Int)) = true := by simp; omega
      have hE : earO S inn r = none := by unfold earO; rw [if_pos (.inr (.inl hln))]
      rw [hE]
      generalize checkE S = ce at *
      have CT1 := Lib.hid ct1
      clear ct1 hc hE hln
      go_enter Try.func12, Try.ntmps12
      go_wp2_with (
        go_at_call 33
        go_must (
          refine (CT1.out _ ((Below.refl _ _).alloc (Nat.le_refl _) _)).mono ?_
          rintro e w1 ⟨rfl, hb1⟩
          have hbx := (Blk.new w 28 #[Value.slice A1 S.attrs.length c1, Value.slice A2 S.rels.length c2, Value.slice A3 S.feats.length c3, Value.int IntKind.i64 S.label]).ext hb1
          have x0 := hbx.cell 0
          have x1 := hbx.cell 1
          have x2 := hbx.cell 2
          have x3 := hbx.cell 3
          simp at x0 x1 x2 x3
          clear hbx))
      go_ret2
      exact ⟨rfl, ext_trans ((Below.refl _ _).alloc (Nat.le_refl _) _) hb1⟩
  · have hcb := ne_b hc
    have hE : earO S inn r = none := by unfold earO; rw [if_pos (.inl hc)]
    rw [hE]
    generalize checkE S = ce at *
    have CT1 := Lib.hid ct1
    clear ct1 hc hE
    go_enter Try.func12, Try.ntmps12
    go_wp2_with (
      go_at_call 33
      go_must (
        refine (CT1.out _ ((Below.refl _ _).alloc (Nat.le_refl _) _)).mono ?_
        rintro e w1 ⟨rfl, hb1⟩))
    go_ret2
    exact ⟨rfl, ext_trans ((Below.refl _ _).alloc (Nat.le_refl _) _) hb1⟩
end Go.Proofs.Ytopblgabadljdaa
namespace Go.Proofs.Ytopblgabadljdaa
open Go.RowKit
/-- Which relations are left behind the first k of an order of removals, if each was an ear. -/
def clTo (S : Sch) (ord : List Int) : Nat → Option (List Bool)
  | 0 => some (List.replicate S.rels.length true)
  | k + 1 => match clTo S ord k with
    | none => none
    | some inn => if (earO S inn (ord.getD k 0)).isSome then some (inn.set (ord.getD k 0).toNat false) else none
def isEar (S : Sch) (inn : List Bool) (r : Int) : Bool := (witI S.rels inn r.toNat).isSome
def closedB (S : Sch) (ord core : List Int) : Bool :=
  if checkE S ≠ 0 then false else match clTo S ord ord.length with
  | none => false
  | some inn => decide (2 ≤ core.length) && eqB core (coreTo inn S.rels.length) && !(core.any (isEar S inn))
theorem clTo_len {S : Sch} {ord : List Int} : ∀ {k : Nat} {inn : List Bool}, clTo S ord k = some inn → inn.length = S.rels.length := by
  intro k
  induction k with
  | zero => intro inn h; simp [clTo] at h; rw [← h]; simp
  | succ k ih =>
    intro inn h
    simp only [clTo] at h
    split at h
    · cases h
    · rename_i inn' h'
      split at h
      · simp at h; rw [← h]; simpa using ih h'
      · cases h
theorem clTo_none {S : Sch} {ord : List Int} {k : Nat} (h : clTo S ord k = none) : ∀ n, k ≤ n → clTo S ord n = none := by
  intro n
  induction n with
  | zero => intro hk; obtain rfl : k = 0 := by omega
            exact h
  | succ n ih =>
    intro hk
    by_cases e : k = n + 1
    · rw [← e]; exact h
    · simp only [clTo, ih (by omega)]
theorem earO_range {S : Sch} {inn : List Bool} {r : Int} (h : (earO S inn r).isSome = true) : 0 ≤ r ∧ r < inn.length ∧ inn.length = S.rels.length ∧ inn.getD r.toNat false = true := by
  unfold earO at h
  split at h
  · simp at h
  · rename_i h1
    refine ⟨by omega, by omega, by omega, ?_⟩
    cases e : inn.getD r.toNat false
    · exact absurd (.inr (.inr (.inr (.inr e)))) h1
    · rfl
/-- The index of the first number with a property, -1 if there is none. -/
def idxP (p : Int → Bool) (l : List Int) : Int := match l.findIdx? p with | some k => (k : Int) | none => -1
theorem idxP_at {p : Int → Bool} {l : List Int} {k : Nat} (hk : k < l.length) (hn : (l.take k).any p = false) (he : p l[k] = true) : idxP p l = k := by
  unfold idxP
  have : l.findIdx? p = some k := by
    rw [List.findIdx?_eq_some_iff_getElem]
    refine ⟨hk, he, fun j hj => ?_⟩
    rw [List.any_eq_false] at hn
    exact hn l[j] (List.mem_take_iff_getElem.2 ⟨j, by omega, rfl⟩)
  rw [this]
theorem idxP_none {p : Int → Bool} {l : List Int} (hn : l.any p = false) : idxP p l = -1 := by
  unfold idxP
  have : l.findIdx? p = none := by
    rw [List.findIdx?_eq_none_iff]
    intro x hx
    rw [List.any_eq_false] at hn
    simpa using hn x hx
  rw [this]
theorem idxP_bd (p : Int → Bool) (l : List Int) : 0 ≤ idxP p l ↔ l.any p = true := by
  unfold idxP
  cases e : l.findIdx? p with
  | none =>
    rw [List.findIdx?_eq_none_iff] at e
    have : l.any p = false := by rw [List.any_eq_false]; intro x hx; simp [e x hx]
    simp [this]
  | some k =>
    rw [List.findIdx?_eq_some_iff_getElem] at e
    obtain ⟨hk, h1, _⟩ := e
    have : l.any p = true := by rw [List.any_eq_true]; exact ⟨l[k], List.getElem_mem hk, h1⟩
    simp [this]
theorem any_succ {p : Int → Bool} {l : List Int} {k : Nat} (hk : k < l.length) (hn : (l.take k).any p = false) (he : p l[k] = false) : (l.take (k + 1)).any p = false := by
  rw [List.take_succ_eq_append_getElem hk, List.any_append, hn]
  simp [he]
/-- How the closure of Closed finds what it has captured. -/
def CapAt (w : World) (bx by' : Nat) (S : Sch) (inn : List Bool) : Prop :=
  ∃ (A1 : Option Addr) (c1 : Nat) (A2 : Option Addr) (c2 : Nat) (A3 : Option Addr) (c3 : Nat) (Ai : Option Addr) (ci : Nat),
    Blk w bx 28 #[.slice A1 S.attrs.length c1, .slice A2 S.rels.length c2, .slice A3 S.feats.length c3, .int .i64 S.label] ∧ Blk w by' 36 #[.slice Ai inn.length ci] ∧
    SchAt w Any (.agg #[.slice A1 S.attrs.length c1, .slice A2 S.rels.length c2, .slice A3 S.feats.length c3, .int .i64 S.label]) S ∧ Row w Any Ai (bools inn)
theorem CapAt.ext {w w' : World} {bx by' : Nat} {S : Sch} {inn : List Bool} (h : CapAt w bx by' S inn) (hb : Below w.heap.size w w') : CapAt w' bx by' S inn := by
  obtain ⟨A1, c1, A2, c2, A3, c3, Ai, ci, h1, h2, h3, h4⟩ := h
  exact ⟨A1, c1, A2, c2, A3, c3, Ai, ci, h1.ext hb, h2.ext hb, h3.ext hb, h4.ext hb⟩
set_option maxHeartbeats 400000 in
theorem closed1_any (S : Sch) (inn : List Bool) (bx by' : Nat) (r : Nat) (w : World) (h : CapAt w bx by' S inn) (hn : inn.length = S.rels.length) (hr : r < S.rels.length) (hok : RelOk S.rels) :
    Calls Try.prog 44 #[.int .i64 r, .pointer (some ⟨bx, 0, none⟩), .pointer (some ⟨by', 0, none⟩)] w fun e w' => e = .returned (.bool (isEar S inn r)) ∧ Below w.heap.size w w' := by
  obtain ⟨A1, c1, A2, c2, A3, c3, Ai, ci, h1, h2, h3, h4⟩ := h
  have x0 := h1.cell 0
  have x1 := h1.cell 1
  have x2 := h1.cell 2
  have x3 := h1.cell 3
  have y0 := h2.cell 0
  simp at x0 x1 x2 x3 y0
  have ct := witness_any _ S Ai ci inn r w h3 h4 hn hr hok
  have CT := Lib.hid ct
  clear h1 h2 h3 h4 ct hn
  go_enter Try.func44, Try.ntmps44
  go_wp2_with (
    go_at_call 35
    go_must (
      refine CT.out.mono ?_
      rintro e w1 ⟨rfl, hb1⟩))
  go_ret
  exact ⟨by rfl, hb1⟩
set_option maxHeartbeats 400000 in
theorem indexC_any (A : Option Addr) (c : Nat) (l : List Int) (S : Sch) (inn : List Bool) (bx by' : Nat) (w : World) {R : Nat → Prop} (hl : Row w R A (ints l)) (hll : l.length ≤ 1000) (h : CapAt w bx by' S inn) (hn : inn.length = S.rels.length)
    (hr : ∀ a ∈ l, 0 ≤ a ∧ a < S.rels.length) (hok : RelOk S.rels) :
    Calls Try.prog 59 #[.slice A l.length c, .func (.func 44) #[] #[.pointer (some ⟨bx, 0, none⟩), .pointer (some ⟨by', 0, none⟩)]] w fun e w' => e = .returned (.int .i64 (idxP (isEar S inn) l)) ∧ Below w.heap.size w w' := by
  have HR := Lib.hid hr
  have HN := Lib.hid hn
  clear hr hn
  generalize hP : isEar S inn = p at *
  have HP := Lib.hid hP
  clear hP
  go_enter Try.func59, Try.ntmps59
  go_wp2
  go_loopw [8] (fun i wr => ∃ k : Nat, k ≤ l.length ∧ i = .int .i64 k ∧ (l.take k).any p = false ∧ Below w.heap.size w wr) (fun i _ => l.length - (intOf i).toNat)
  case atStart => exact ⟨0, Nat.zero_le _, rfl, by simp, Below.refl _ _⟩
  case round =>
    obtain ⟨k, hk, rfl, hno, hbel⟩ := hrel
    have HNO := Lib.hid hno
    clear hno
    by_cases hlt : k < l.length
    · obtain ⟨b, off, rfl, hbb, hck⟩ := (hl.ext hbel).int_at hlt
      have hrk := HR.out _ (List.getElem_mem hlt)
      obtain ⟨rn, hrn⟩ := Int.eq_ofNat_of_zero_le hrk.1
      have ct := closed1_any S inn bx by' rn wr (h.ext hbel) HN.out (by omega) hok
      rw [HP.out] at ct
      have hpk : p l[k] = p (rn : Int) := by rw [hrn]
      rw [hrn] at hck
      have CT := Lib.hid ct
      have HPK := Lib.hid hpk
      have HAT := Lib.hid (idxP_at (p := p) hlt HNO.out)
      have HSU := Lib.hid (any_succ (p := p) hlt HNO.out)
      clear ct hpk hrk hrn
      cases hb : p (rn : Int)
      · rw [hb] at CT
        go_wp2_with (go_at_call 44; go_must (refine CT.out.mono ?_; rintro e w1 ⟨rfl, hb1⟩))
        exact ⟨⟨k + 1, by omega, by go_num, HSU.out (by rw [HPK.out, hb]), ext_trans hbel hb1⟩, by simp [intOf]; omega⟩
      · rw [hb] at CT
        go_wp2_with (go_at_call 44; go_must (refine CT.out.mono ?_; rintro e w1 ⟨rfl, hb1⟩))
        go_ret
        exact ⟨ret_int (HAT.out (by rw [HPK.out, hb])).symm, ext_trans hbel hb1⟩
    · go_wp2
      go_ret
      have hn := HNO.out
      rw [List.take_of_length_le (by omega)] at hn
      exact ⟨ret_int (idxP_none hn).symm, hbel⟩
theorem containsC_any (A : Option Addr) (c : Nat) (l : List Int) (S : Sch) (inn : List Bool) (bx by' : Nat) (w : World) {R : Nat → Prop} (hl : Row w R A (ints l)) (hll : l.length ≤ 1000) (h : CapAt w bx by' S inn) (hn : inn.length = S.rels.length)
    (hr : ∀ a ∈ l, 0 ≤ a ∧ a < S.rels.length) (hok : RelOk S.rels) :
    Calls Try.prog 43 #[.slice A l.length c, .func (.func 44) #[] #[.pointer (some ⟨bx, 0, none⟩), .pointer (some ⟨by', 0, none⟩)]] w fun e w' => e = .returned (.bool (l.any (isEar S inn))) ∧ Below w.heap.size w w' := by
  have ct := indexC_any A c l S inn bx by' w hl hll h hn hr hok
  have hb := idxP_bd (isEar S inn) l
  generalize isEar S inn = p at *
  generalize l.any p = q at *
  have HB := Lib.hid hb
  have CT := Lib.hid ct
  clear hb ct hr
  go_enter Try.func43, Try.ntmps43
  go_wp2_with (go_at_call 59; go_must (refine CT.out.mono ?_; rintro e w1 ⟨rfl, hb1⟩))
  go_ret
  exact ⟨ret_bool (by rw [Bool.eq_iff_iff]; simpa using HB.out), hb1⟩
theorem clTo_succ_yes {S : Sch} {ord : List Int} {k : Nat} {inn : List Bool} (h : clTo S ord k = some inn) (he : (earO S inn (ord.getD k 0)).isSome = true) : clTo S ord (k + 1) = some (inn.set (ord.getD k 0).toNat false) := by
  simp only [clTo, h, he, if_true]
theorem clTo_succ_no {S : Sch} {ord : List Int} {k : Nat} {inn : List Bool} (h : clTo S ord k = some inn) (he : (earO S inn (ord.getD k 0)).isSome = false) : clTo S ord (k + 1) = none := by
  simp only [clTo, h, he]
  rfl
theorem coreTo_mem {inn : List Bool} {k : Nat} {a : Int} (h : a ∈ coreTo inn k) : 0 ≤ a ∧ a < k ∧ inn.getD a.toNat false = true := by
  unfold coreTo at h
  obtain ⟨i, hi, rfl⟩ := List.mem_map.1 h
  obtain ⟨h1, h2⟩ := List.mem_filter.1 hi
  simp at h1
  refine ⟨by simp, by simpa using h1, by simpa using h2⟩
set_option maxRecDepth 100000 in
set_option maxHeartbeats 1000000 in
theorem closed_any (v : Value) (S : Sch) (Ao : Option Addr) (co : Nat) (ord : List Int) (Ac : Option Addr) (cc : Nat) (core : List Int) (w : World) {R R1 R2 : Nat → Prop} (h : SchAt w R v S) (hb : SBd S)
    (ho : Row w R1 Ao (ints ord)) (hol : ord.length ≤ 1000) (hc : Row w R2 Ac (ints core)) (hcl : core.length ≤ 1000) :
    Calls Try.prog 20 #[v, .slice Ao ord.length co, .slice Ac core.length cc] w fun e w' => e = .returned (.bool (closedB S ord core)) ∧ Below w.heap.size w w' := by
  have h0 := h
  obtain ⟨A1, c1, A2, c2, A3, c3, rfl, l1, l2, l3, h1, h2, h3⟩ := h
  clear h1 h2 h3 l1 l2 l3
  have ct1 := fun (W : World) (hW : Below w.heap.size w W) => check_any _ S W (h0.ext hW) hb
  by_cases hce : checkE S = 0
  · have hcb := eq_b hce
    have hn1 := (check_zero hce).2.2.1
    have hok := check_relOk hce
    have hn := hok.1
    have hE : closedB S ord core = match clTo S ord ord.length with | none => false | some inn => decide (2 ≤ core.length) && eqB core (coreTo inn S.rels.length) && !(core.any (isEar S inn)) := by
      unfold closedB; rw [if_neg (by simp [hce])]
    generalize closedB S ord core = cb at *
    generalize checkE S = ce at *
    have HE := Lib.hid hE
    have CT1 := Lib.hid ct1
    clear ct1 hce hE
    go_enter Try.func20, Try.ntmps20
    go_wp2_with (first
      | (go_at_call 33
         go_must (
          refine (CT1.out _ ((Below.refl _ _).alloc (Nat.le_refl _) _)).mono ?_
          rintro e w1 ⟨rfl, hb1⟩
          have hbx := (Blk.new w 28 #[Value.slice A1 S.attrs.length c1, Value.slice A2 S.rels.length c2, Value.slice A3 S.feats.length c3, Value.int IntKind.i64 S.label]).ext hb1
          have x0 := hbx.cell 0
          have x1 := hbx.cell 1
          have x2 := hbx.cell 2
          have x3 := hbx.cell 3
          have HBX := Lib.hid hbx
          simp at x0 x1 x2 x3
          have hbel1 : Below w.heap.size w w1 := ext_trans ((Below.refl _ _).alloc (Nat.le_refl _) _) hb1
          clear hbx hb1))
      | (go_at_call 41
         go_must (
          refine (all_any _ S _ (h0.ext hbel1) hn).mono ?_
          rintro e w2 ⟨v2, rfl, hown2, hb2⟩
          obtain ⟨A5, c5, rfl, hc5, _⟩ := own_slice hown2
          obtain ⟨g5, rfl, hg5, hg5'⟩ := own_addr hown2 hn1
          have HB2 := Lib.hid (HBX.out.ext hb2)
          have hbel2 := ext_trans hbel1 hb2
          have hlt1 := HBX.out.lt
          clear x0 x1 x2 x3)))
    have hsz2 := hb2.size
    have hown3 := own_mono (hown2.alloc (.cells #[Value.slice (some ⟨g5, 0, none⟩) S.rels.length c5] 36)) (base' := w.heap.size + 1) (by omega)
    go_loopw [21] (fun i wr => ∃ (k : Nat) (inn : List Bool), k ≤ ord.length ∧ i = .int .i64 k ∧ clTo S ord k = some inn ∧ wr.ownsRow (w.heap.size + 1) 4 1 (.slice (some ⟨g5, 0, none⟩) S.rels.length c5) S.rels.length (bools inn) ∧
      Blk wr w.heap.size 28 #[Value.slice A1 S.attrs.length c1, Value.slice A2 S.rels.length c2, Value.slice A3 S.feats.length c3, Value.int IntKind.i64 S.label] ∧
      Blk wr w2.heap.size 36 #[Value.slice (some ⟨g5, 0, none⟩) S.rels.length c5] ∧ Below w.heap.size w wr) (fun i _ => ord.length - (intOf i).toNat)
    case atStart => exact ⟨0, _, Nat.zero_le _, rfl, rfl, hown3, HB2.out.alloc _, Blk.new _ _ _, ext_alloc hbel2 _⟩
    case round =>
      clear hown3 hown2 HB2 HBX
      obtain ⟨k, inn, hk, rfl, hcl2, hown, hbx, hby, hbel⟩ := hrel
      have x0 := hbx.cell 0
      have x1 := hbx.cell 1
      have x2 := hbx.cell 2
      have x3 := hbx.cell 3
      have y0 := hby.cell 0
      simp at x0 x1 x2 x3 y0
      have hil := clTo_len hcl2
      have HIL := Lib.hid hil
      have HCL := Lib.hid hcl2
      have HBX := Lib.hid hbx
      have HBY := Lib.hid hby
      have hbxl := hbx.lt
      have hbyl := hby.lt
      clear hil hcl2 hbx hby
      by_cases hlt : k < ord.length
      · obtain ⟨b, off, rfl, hbb, hck⟩ := (ho.ext hbel).int_at hlt
        have ct := ear_any _ S (some ⟨g5, 0, none⟩) c5 inn ord[k] wr (h0.ext hbel) hb (Row.of_own hown)
        rw [HIL.out] at ct
        have hgd : ord.getD k 0 = ord[k] := by simp [List.getD, hlt]
        have HGD := Lib.hid hgd
        cases hes : (earO S inn ord[k]).isSome
        · rw [hes] at ct
          have hnone : clTo S ord ord.length = none := clTo_none (clTo_succ_no HCL.out (by rw [HGD.out]; exact hes)) _ hlt
          have HNONE := Lib.hid hnone
          have CT := Lib.hid ct
          clear ct hnone hgd
          go_wp2_with (go_at_call 12; go_must (refine CT.out.mono ?_; rintro e w3 ⟨rfl, hb3⟩))
          go_ret
          exact ⟨ret_bool (by rw [HE.out, HNONE.out]), ext_trans hbel hb3⟩
        · have hrg := earO_range hes
          obtain ⟨rn, hrn⟩ := Int.eq_ofNat_of_zero_le hrg.1
          have hrl : rn < S.rels.length := by omega
          have hstep := clTo_succ_yes HCL.out (by rw [HGD.out]; exact hes)
          rw [HGD.out, hrn, Int.toNat_natCast] at hstep
          rw [hes, hrn] at ct
          rw [hrn] at hck
          have CT := Lib.hid ct
          have HSTEP := Lib.hid hstep
          have HRN := Lib.hid hrn
          clear ct hstep hgd hrg hes hrn
          generalize optI (earO S inn rn) = ow at *
          go_wp2_with (
            go_at_call 12
            go_must (
              refine CT.out.mono ?_
              rintro e w3 ⟨rfl, hb3⟩
              have hown3 := hown.kept (grown_of_ext hb3 none) (by simp [Value.ownBlock])
              have hil3 : rn < inn.length := by rw [HIL.out]; exact hrl
              have hci : w3.cell? ⟨g5, rn, none⟩ = some (.bool inn[rn]) := by rw [hown3.cellAt rn (by omega), List.getElem?_map, List.getElem?_eq_getElem hil3]; rfl
              have hfi := hown3.frozenAt rn
              have hst := hown3.stored rn (.bool false)
              have y0' := (HBY.out.ext hb3).cell 0
              simp at y0'))
          refine ⟨⟨k + 1, inn.set rn false, by omega, by go_num, HSTEP.out, ?_, (HBX.out.ext hb3).far (by simp; omega) _, (HBY.out.ext hb3).far (by simp; omega) _, (ext_trans hbel hb3).setCell (by show w.heap.size ≤ g5; omega) _⟩, by simp [intOf]; omega⟩
          simpa [bools, List.map_set] using hst.1
      · obtain rfl : k = ord.length := by omega
        have hfin := HE.out
        rw [HCL.out] at hfin
        simp only at hfin
        clear HE
        have HE := Lib.hid hfin
        clear hfin
        obtain ⟨wp, rfl⟩ : ∃ wp : World, wp = wr := ⟨_, rfl⟩
        have hd1 : decide (ord.length < ord.length) = false := by simp
        clear x0 x1 x2 x3
        go_wp2
        clear hd1
        go_loopw [12, 40] (fun cv i wq => ∃ k : Nat, k ≤ S.rels.length ∧ i = .int .i64 k ∧ wq.ownsRow wp.heap.size 3 1 cv (coreTo inn k).length (ints (coreTo inn k)) ∧ Below wp.heap.size wp wq) (fun _ i _ => S.rels.length - (intOf i).toNat)
        case atStart => exact ⟨0, Nat.zero_le _, rfl, World.ownsRow_nil _ _ _ _, Below.refl _ _⟩
        case round =>
          obtain ⟨k, hk, rfl, hcv, hbq⟩ := hrel
          have hcvl := coreTo_len inn k
          by_cases hlt : k < S.rels.length
          · have hin2 := hown.kept (grown_of_ext hbq none) (by simp [Value.ownBlock])
            have hki : k < inn.length := by rw [HIL.out]; exact hlt
            have hci : wr.cell? ⟨g5, k, none⟩ = some (.bool inn[k]) := by rw [hin2.cellAt k (by omega), List.getElem?_map, List.getElem?_eq_getElem hki]; rfl
            have y0' := (HBY.out.ext hbq).cell 0
            simp at y0'
            have hcs := coreTo_succ inn k
            rw [show inn.getD k false = inn[k] by simp [List.getD, hki]] at hcs
            have HCS := Lib.hid hcs
            clear hcs
            cases hik : inn[k]
            · rw [hik] at hci HCS
              go_wp2
              exact ⟨⟨k + 1, by omega, by go_num, by rw [HCS.out]; exact hcv, hbq⟩, by simp [intOf]; omega⟩
            · rw [hik] at hci HCS
              go_wp2_with (
                at_builtin
                go_must (
                  refine wpList_app (W := wr) rfl _ _ 22 rfl wp.heap.size 3 (.int .i64 0) 1 8 Try.underlying22 Try.infoInt rfl (by decide) (by decide) u12 (coreTo inn k).length 1 (ints (coreTo inn k)) rfl rfl rfl hcv rfl (by simp; rfl) (by omega) hbq.size ?_
                  intro A6 c6 w6 hown6 hg6 hat6))
              refine ⟨⟨k + 1, by omega, by go_num, ?_, hbq.grown hg6 hbq.size (fun g e => (hcv.lt g e).1)⟩, by simp [intOf]; omega⟩
              rw [HCS.out]; simpa [ints] using hown6
          · obtain rfl : k = S.rels.length := by omega
            obtain ⟨Al, cl, rfl, _, _⟩ := own_slice hcv
            have hd1 : decide (S.rels.length < S.rels.length) = false := by simp
            have hbw := ext_trans hbel hbq
            have hcore := hc.ext hbw
            have hleft := Row.of_own hcv
            have hcap : CapAt wr w.heap.size w2.heap.size S inn := by
              refine ⟨A1, c1, A2, c2, A3, c3, some ⟨g5, 0, none⟩, c5, HBX.out.ext hbq, ?_, (h0.ext hbw).mono fun _ _ _ => trivial, (Row.of_own (hown.kept (grown_of_ext hbq none) (by simp [Value.ownBlock]))).any⟩
              rw [HIL.out]; exact HBY.out.ext hbq
            by_cases h2 : 2 ≤ core.length
            · cases heq : eqB core (coreTo inn S.rels.length)
              · rw [heq] at HE
                have cte := equal_any Ac Al cc cl core (coreTo inn S.rels.length) wr hcore hleft (by omega) (by omega)
                rw [heq] at cte
                have CTE := Lib.hid cte
                clear cte hcore hleft hcap
                go_wp2_with (
                  go_at_call 42
                  go_must (
                    refine CTE.out.mono ?_
                    rintro e w4 ⟨rfl, nd, rfl⟩))
                go_ret
                exact ⟨ret_bool (by rw [HE.out]; simp), below_drewN hbw _⟩
              · have heq2 : core = coreTo inn S.rels.length := by simpa [eqB] using heq
                have hmem : ∀ a ∈ core, 0 ≤ a ∧ a < S.rels.length := fun a ha => by rw [heq2] at ha; have := coreTo_mem ha; omega
                have ctc := fun nd => containsC_any Ac cc core S inn w.heap.size w2.heap.size (wr.drewN nd) (hcore.drewN nd) hcl hcap HIL.out hmem hok
                rw [heq] at HE
                have cte := equal_any Ac Al cc cl core (coreTo inn S.rels.length) wr hcore hleft (by omega) (by omega)
                rw [heq] at cte
                generalize core.any (isEar S inn) = qa at *
                have CTE := Lib.hid cte
                have CTC := Lib.hid ctc
                clear cte ctc hcore hleft hcap heq2 hmem
                go_wp2_with (first
                  | (go_at_call 42
                     go_must (
                      refine CTE.out.mono ?_
                      rintro e w4 ⟨rfl, nd, rfl⟩))
                  | (go_at_call 43
                     go_must (
                      refine (CTC.out nd).mono ?_
                      rintro e w5 ⟨rfl, hb5⟩)))
                go_ret
                exact ⟨ret_bool (by rw [HE.out]; simp [h2]), ext_trans (below_drewN hbw nd) hb5⟩
            · clear hcore hleft hcap
              go_wp2_with fail
              go_ret
              exact ⟨ret_bool (by rw [HE.out]; simp [h2]), hbw⟩
  · have hcb := ne_b hce
    have hE : closedB S ord core = false := by unfold closedB; rw [if_pos hce]
    rw [hE]
    generalize checkE S = ce at *
    have CT1 := Lib.hid ct1
    clear ct1 hce hE
    go_enter Try.func20, Try.ntmps20
    go_wp2_with (
      go_at_call 33
      go_must (
        refine (CT1.out _ ((Below.refl _ _).alloc (Nat.le_refl _) _)).mono ?_
        rintro e w1 ⟨rfl, hb1⟩))
    go_ret
    exact ⟨rfl, ext_trans ((Below.refl _ _).alloc (Nat.le_refl _) _) hb1⟩
end Go.Proofs.Ytopblgabadljdaa
namespace Go.Proofs.Ytopblgabadljdaa
open Go.RowKit
theorem row_new (w : World) (t : TypeId) (cs : Array Value) : Row (w.alloc (.cells cs t)) (w.heap.size ≤ ·) (some ⟨w.heap.size, 0, none⟩) cs.toList := by
  intro _
  refine ⟨w.heap.size, 0, rfl, Nat.le_refl _, by simp, fun j hj => ?_⟩
  rw [Nat.zero_add, (Blk.new w t cs).cell j]
  simp
theorem lists3 (w : World) (a b c d e f : Int) (t u : TypeId) :
    ListsAt ((((w.alloc (.cells #[.int .i64 a, .int .i64 b] t)).alloc (.cells #[.int .i64 c, .int .i64 d] t)).alloc (.cells #[.int .i64 e, .int .i64 f] t)).alloc
      (.cells #[.slice (some ⟨w.heap.size, 0, none⟩) 2 2, .slice (some ⟨w.heap.size + 1, 0, none⟩) 2 2, .slice (some ⟨w.heap.size + 1 + 1, 0, none⟩) 2 2] u)) (w.heap.size ≤ ·) (some ⟨w.heap.size + 1 + 1 + 1, 0, none⟩) [[a, b], [c, d], [e, f]] := by
  have r1 := row_new w t #[.int .i64 a, .int .i64 b]
  have r2 := row_new (w.alloc (.cells #[.int .i64 a, .int .i64 b] t)) t #[.int .i64 c, .int .i64 d]
  have r3 := row_new ((w.alloc (.cells #[.int .i64 a, .int .i64 b] t)).alloc (.cells #[.int .i64 c, .int .i64 d] t)) t #[.int .i64 e, .int .i64 f]
  have r4 := row_new (((w.alloc (.cells #[.int .i64 a, .int .i64 b] t)).alloc (.cells #[.int .i64 c, .int .i64 d] t)).alloc (.cells #[.int .i64 e, .int .i64 f] t)) u #[.slice (some ⟨w.heap.size, 0, none⟩) 2 2, .slice (some ⟨w.heap.size + 1, 0, none⟩) 2 2, .slice (some ⟨w.heap.size + 1 + 1, 0, none⟩) 2 2]
  simp only [World.size_alloc] at r2 r3 r4
  refine ⟨_, ?_, r4.mono fun b _ hb => by omega, fun k hk => ?_⟩
  · rfl
  · match k, hk with
    | 0, _ => exact ⟨_, 2, rfl, ((r1.alloc _).alloc _).alloc _⟩
    | 1, _ => exact ⟨_, 2, rfl, ((r2.mono fun b _ hb => by omega).alloc _).alloc _⟩
    | 2, _ => exact ⟨_, 2, rfl, (r3.mono fun b _ hb => by omega).alloc _⟩
theorem schOf_bd (ls : List (List Int)) (hn : ls.length ≤ 6) (hl : ∀ l ∈ ls, l.length ≤ 100 ∧ ∀ a ∈ l, 0 ≤ a ∧ a ≤ 20) : SBd (schOf ls) := by
  have hm := mostOf_bd ls.flatten 20 (by omega) (fun a ha => by
    obtain ⟨l, hl1, hl2⟩ := List.mem_flatten.1 ha
    exact (hl l hl1).2 a hl2)
  have hnm : ∀ p i, (nm p i).size = 2 := fun p i => rfl
  refine ⟨by simp [schOf]; omega, by simp [schOf]; omega, by simp [schOf], ?_, ?_, ?_⟩
  · intro x hx
    simp [schOf] at hx
    obtain ⟨i, _, rfl⟩ := hx
    rw [hnm]; omega
  · intro x hx
    obtain ⟨i, hi, rfl⟩ := List.getElem_of_mem hx
    simp only [schOf, List.getElem_mapIdx]
    rw [hnm]; omega
  · intro x hx
    obtain ⟨i, hi, rfl⟩ := List.getElem_of_mem hx
    simp only [schOf, List.getElem_mapIdx]
    have hi' : i < ls.length := by simpa [schOf] using hi
    have := (hl ls[i] (List.getElem_mem hi')).1
    omega
def exA : List (List Int) := [[0, 1], [1, 2], [2, 3]]
def exB : List (List Int) := [[0, 1], [1, 2], [0, 2]]
theorem exA_tree : treB (schOf exA) = true ∧ witS (schOf exA) = [1, 2, -1] := by decide +kernel
theorem exB_red : ordS (schOf exB) = [] ∧ corS (schOf exB) = [0, 1, 2] ∧ closedB (schOf exB) [] [0, 1, 2] = true := by decide +kernel
theorem exA_bd : ∀ l ∈ exA, l.length ≤ 100 ∧ ∀ a ∈ l, 0 ≤ a ∧ a ≤ 20 := by decide
theorem exB_bd : ∀ l ∈ exB, l.length ≤ 100 ∧ ∀ a ∈ l, 0 ≤ a ∧ a ≤ 20 := by decide
set_option maxRecDepth 100000 in
set_option maxHeartbeats 1000000 in
theorem sane_any (w : World) : Calls Try.prog 8 #[] w fun e w' => e = .returned (.bool true) ∧ Below w.heap.size w w' := by
  go_enter Try.func8, Try.ntmps8
  go_wp2_with fail
  refine (sch_any (some ⟨w.heap.size + 1 + 1 + 1, 0, none⟩) 3 exA _ (lists3 w 0 1 1 2 2 3 _ _) (by decide) exA_bd).mono ?_
  rintro e w1 ⟨v1, rfl, hs1, hb1⟩
  have hbel1 : Below w.heap.size w w1 := ext_trans (((((Below.refl _ _).alloc (Nat.le_refl _) _).alloc (by simp) _).alloc (by simp; omega) _).alloc (by simp; omega) _) hb1
  clear hb1
  go_wp2_with fail
  refine (tree_any v1 (schOf exA) w1 hs1 (schOf_bd exA (by decide) exA_bd)).mono ?_
  rintro e w2 ⟨Aw, cw, rfl, hrw, hb2⟩
  rw [exA_tree.1]
  rw [exA_tree.2] at hrw ⊢
  replace hrw := hrw.1
  have hbel2 := ext_trans hbel1 hb2
  clear hbel1 hb2 hs1
  have hl2 := lists3 (w2.alloc (.cells #[Value.slice Aw 3 cw] 46)) 0 1 1 2 0 2 3 22
  simp only [World.size_alloc] at hl2
  have HL2 := Lib.hid hl2
  clear hl2
  go_wp2_with fail
  refine (sch_any (some ⟨w2.heap.size + 1 + 1 + 1 + 1, 0, none⟩) 3 exB _ HL2.out (by decide) exB_bd).mono ?_
  rintro e w3 ⟨v3, rfl, hs3, hb3⟩
  have hty := ((((Blk.new w2 46 #[Value.slice Aw 3 cw]).alloc _).alloc _).alloc _).alloc _ |>.ext hb3
  have hb23 : Below w2.heap.size w2 w3 := ext_trans (((((((Below.refl _ _).alloc (Nat.le_refl _) _).alloc (by simp) _).alloc (by simp; omega) _).alloc (by simp; omega) _).alloc (by simp; omega) _)) hb3
  have HTY := Lib.hid hty
  have hbel3 := ext_trans hbel2 hb23
  clear hb3 HL2 hty
  go_wp2_with fail
  refine (reduceE_any v3 (schOf exB) w3 hs3 (schOf_bd exB (by decide) exB_bd)).mono ?_
  rintro e w4 ⟨Ao, co, Ac, cc, rfl, hro, hrc, hb4⟩
  rw [exB_red.1] at hro ⊢
  rw [exB_red.2.1] at hrc ⊢
  replace hro := hro.1
  replace hrc := hrc.1
  have t0 := (HTY.out.ext hb4).cell 0
  have hbel4 := ext_trans hbel3 hb4
  have hrw4 := hrw.ext (ext_trans hb23 hb4)
  simp at t0
  clear hro HTY hs3 hb23 hb4 hbel3 hbel2 hrw
  go_wp2_with fail
  have hra := row_new w4 3 #[.int .i64 1, .int .i64 2, .int .i64 (-1)]
  refine (ints_any Aw (some ⟨w4.heap.size, 0, none⟩) cw 3 [1, 2, -1] [1, 2, -1] _ (hrw4.alloc _) hra (by decide) (by decide)).mono ?_
  rintro e w5 ⟨rfl, n5, rfl⟩
  rw [show eqB [1, 2, -1] [1, 2, -1] = true by decide]
  have hbel5 := ext_alloc hbel4 (.cells #[.int .i64 1, .int .i64 2, .int .i64 (-1)] 3)
  have hrc5 := hrc.alloc (.cells #[.int .i64 1, .int .i64 2, .int .i64 (-1)] 3)
  generalize (w4.alloc (Obj.cells #[Value.int IntKind.i64 1, Value.int IntKind.i64 2, Value.int IntKind.i64 (-1)] 3)) = w5 at *
  clear hra hrw4 hrc t0 hbel4
  go_wp2_with fail
  have hra := row_new (w5.drewN n5) 3 #[.int .i64 0, .int .i64 1, .int .i64 2]
  refine (ints_any Ac (some ⟨w5.heap.size, 0, none⟩) cc 3 [0, 1, 2] [0, 1, 2] _ ((hrc5.drewN n5).alloc _) hra (by decide) (by decide)).mono ?_
  rintro e w6 ⟨rfl, n6, rfl⟩
  rw [show eqB [0, 1, 2] [0, 1, 2] = true by decide]
  have hbel6 : Below w.heap.size w (((w5.drewN n5).alloc (.cells #[.int .i64 0, .int .i64 1, .int .i64 2] 3)).drewN n6) := below_drewN (ext_alloc (below_drewN hbel5 n5) _) n6
  generalize (((w5.drewN n5).alloc (Obj.cells #[Value.int IntKind.i64 0, Value.int IntKind.i64 1, Value.int IntKind.i64 2] 3)).drewN n6) = w6 at *
  clear hra hrc5 hbel5
  have hl6 := lists3 w6 0 1 1 2 0 2 3 22
  have HL6 := Lib.hid hl6
  clear hl6
  go_wp2_with fail
  refine (sch_any (some ⟨w6.heap.size + 1 + 1 + 1, 0, none⟩) 3 exB _ HL6.out (by decide) exB_bd).mono ?_
  rintro e w7 ⟨v7, rfl, hs7, hb7⟩
  have hbel7 : Below w6.heap.size w6 w7 := ext_trans (((((Below.refl _ _).alloc (Nat.le_refl _) _).alloc (by simp) _).alloc (by simp; omega) _).alloc (by simp; omega) _) hb7
  clear hb7 HL6
  go_wp2_with fail
  have hra := row_new w7 3 #[.int .i64 0, .int .i64 1, .int .i64 2]
  refine (closed_any v7 (schOf exB) none 0 [] (some ⟨w7.heap.size, 0, none⟩) 3 [0, 1, 2] _ (hs7.ext ((Below.refl _ _).alloc (Nat.le_refl _) _)) (schOf_bd exB (by decide) exB_bd) (R1 := Any) Row.nil (by decide) hra (by decide)).mono ?_
  rintro e w8 ⟨rfl, hb8⟩
  rw [exB_red.2.2]
  go_wp2_with fail
  go_ret
  exact ⟨rfl, ext_trans hbel6 (ext_trans hbel7 (ext_trans ((Below.refl _ _).alloc (Nat.le_refl _) _) hb8))⟩
end Go.Proofs.Ytopblgabadljdaa
namespace Go.Proofs.Ytopblgabadljdaa
/-- What i and k share, w has. -/
def Tri (e : Nat → Nat → Prop) (i k w : Nat) : Prop := ∀ a, e i a → e k a → e w a
/-- w is a witness of i in the set I. -/
def IsWit (e : Nat → Nat → Prop) (I : List Nat) (i w : Nat) : Prop := w ∈ I ∧ w ≠ i ∧ ∀ k, k ∈ I → k ≠ i → Tri e i k w
def IsEar (e : Nat → Nat → Prop) (I : List Nat) (i : Nat) : Prop := i ∈ I ∧ ∃ w, IsWit e I i w
/-- J is what is left of I behind at most n removals, and has no ear. -/
def LeftN (e : Nat → Nat → Prop) : Nat → List Nat → List Nat → Prop
  | 0, I, J => (∀ i, ¬ IsEar e I i) ∧ J = I
  | n + 1, I, J => ((∀ i, ¬ IsEar e I i) ∧ J = I) ∨ ∃ i, IsEar e I i ∧ LeftN e n (I.erase i) J
def Left (e : Nat → Nat → Prop) (I J : List Nat) : Prop := ∃ n, LeftN e n I J
theorem Left.step {e : Nat → Nat → Prop} {I J : List Nat} (i : Nat) (h : IsEar e I i) (h' : Left e (I.erase i) J) : Left e I J := by
  obtain ⟨n, hn⟩ := h'
  exact ⟨n + 1, .inr ⟨i, h, hn⟩⟩
/-- f carries the structure on I over to e'. -/
structure Iso (e e' : Nat → Nat → Prop) (I : List Nat) (f : Nat → Nat) : Prop where
  inj : ∀ i ∈ I, ∀ k ∈ I, f i = f k → i = k
  tri : ∀ i ∈ I, ∀ k ∈ I, ∀ w ∈ I, (i ≠ k → i ≠ w → k ≠ w → (Tri e i k w ↔ Tri e' (f i) (f k) (f w)))
end Go.Proofs.Ytopblgabadljdaa
namespace Go.Proofs.Ytopblgabadljdaa
/-- Relation i has attribute a. -/
def eR (rs : List (ByteArray × List Int)) (i a : Nat) : Prop := (a : Int) ∈ (rs.getD i default).2
/-- The relations of a set. -/
def idx (inn : List Bool) (n : Nat) : List Nat := (List.range n).filter fun i => inn.getD i false
theorem mem_idx {inn : List Bool} {n i : Nat} : i ∈ idx inn n ↔ i < n ∧ inn.getD i false = true := by simp [idx]
theorem mask_bit (l : List Int) (h : ∀ a ∈ l, 0 ≤ a ∧ a < 12) (a : Nat) : (maskN l).testBit a = decide ((a : Int) ∈ l) := by
  unfold maskN
  have : ∀ (l : List Int) (m : Nat), (∀ a ∈ l, 0 ≤ a ∧ a < 12) → (l.foldl (fun m a => m ||| 2 ^ a.toNat) m).testBit a = (m.testBit a || decide ((a : Int) ∈ l)) := by
    intro l
    induction l with
    | nil => intro m _; simp
    | cons x l ih =>
      intro m hl
      have hx := hl x (by simp)
      rw [List.foldl_cons, ih _ fun b hb => hl b (by simp [hb]), Nat.testBit_or, Nat.testBit_two_pow]
      by_cases e : x.toNat = a
      · have : (a : Int) = x := by omega
        simp [e, this]
      · have : ¬ ((a : Int) = x) := by omega
        simp [e, this]
  rw [this l 0 h]; simp
theorem sub_bit (x y : Nat) (hx : x < 4096) (hy : y < 4096) : subN x y = true ↔ ∀ a, x.testBit a = true → y.testBit a = true := by
  unfold subN
  rw [beq_iff_eq]
  have hb : ∀ a, (18446744073709551615 - y).testBit a = (decide (a < 64) && !(y.testBit a)) := fun a => by
    rw [show 18446744073709551615 - y = 2 ^ 64 - (y + 1) by omega, Nat.testBit_two_pow_sub_succ (by omega)]
  constructor
  · intro h a ha
    have h1 : (x &&& (18446744073709551615 - y)).testBit a = false := by rw [h]; simp
    rw [Nat.testBit_and, ha, hb] at h1
    have ha64 : a < 64 := by
      rcases Nat.lt_or_ge a 64 with h | h
      · exact h
      · have := Nat.testBit_lt_two_pow (show x < 2 ^ a from Nat.lt_of_lt_of_le hx (Nat.le_trans (by decide : 4096 ≤ 2 ^ 64) (Nat.pow_le_pow_right (by decide) h)))
        rw [this] at ha; cases ha
    simpa [ha64] using h1
  · intro h
    apply Nat.eq_of_testBit_eq
    intro a
    rw [Nat.testBit_and, hb, Nat.zero_testBit]
    cases hxa : x.testBit a
    · rfl
    · simp [h a hxa]
theorem getD_ok {rs : List (ByteArray × List Int)} (h : RelOk rs) (i : Nat) : ∀ a ∈ (rs.getD i default).2, 0 ≤ a ∧ a < 12 := by
  rcases Nat.lt_or_ge i rs.length with hi | hi
  · have e : rs.getD i default = rs[i] := by simp [List.getD, hi]
    rw [e]; exact (h.2 _ (List.getElem_mem hi)).2
  · have e : rs.getD i default = default := by simp [List.getD, hi]
    rw [e]; intro a ha; exact absurd ha (by show a ∉ []; simp)
theorem oth_bit (rs : List (ByteArray × List Int)) (inn : List Bool) (r : Nat) (h : RelOk rs) (a : Nat) : ∀ k, (othN rs inn r k).testBit a = true ↔ ∃ i, i < k ∧ inn.getD i false = true ∧ i ≠ r ∧ eR rs i a := by
  intro k
  induction k with
  | zero => simp [othN]
  | succ k ih =>
    simp only [othN]
    split
    · rename_i hc
      simp only [Bool.and_eq_true, decide_eq_true_eq] at hc
      rw [Nat.testBit_or, Bool.or_eq_true, ih, mask_bit _ (getD_ok h k), decide_eq_true_eq]
      constructor
      · rintro (⟨i, h1, h2⟩ | h1)
        · exact ⟨i, by omega, h2⟩
        · exact ⟨k, by omega, hc.1, hc.2, h1⟩
      · rintro ⟨i, h1, h2, h3, h4⟩
        by_cases e : i = k
        · subst e; exact .inr h4
        · exact .inl ⟨i, by omega, h2, h3, h4⟩
    · rename_i hc
      simp only [Bool.and_eq_true, decide_eq_true_eq] at hc
      rw [ih]
      constructor
      · rintro ⟨i, h1, h2⟩; exact ⟨i, by omega, h2⟩
      · rintro ⟨i, h1, h2, h3, h4⟩
        by_cases e : i = k
        · subst e; exact absurd ⟨h2, h3⟩ hc
        · exact ⟨i, by omega, h2, h3, h4⟩
theorem mask_getD_lt {rs : List (ByteArray × List Int)} (h : RelOk rs) (i : Nat) : maskN (rs.getD i default).2 < 4096 := maskN_lt _ (getD_ok h i)
theorem wit_iff (rs : List (ByteArray × List Int)) (inn : List Bool) (r i : Nat) (h : RelOk rs) (hi : i < rs.length) : witAt rs inn r i = true ↔ IsWit (eR rs) (idx inn rs.length) r i := by
  unfold witAt
  simp only [Bool.and_eq_true, decide_eq_true_eq]
  rw [sub_bit _ _ (Nat.and_lt_two_pow (n := 12) _ (othN_lt rs inn r h _ (Nat.le_refl _))) (mask_getD_lt h i)]
  have key : (∀ a, (maskN (rs.getD r default).2 &&& othN rs inn r rs.length).testBit a = true → (maskN (rs.getD i default).2).testBit a = true) ↔ ∀ k, k ∈ idx inn rs.length → k ≠ r → Tri (eR rs) r k i := by
    constructor
    · intro hh k hk hkr a ha hka
      have := hh a (by
        rw [Nat.testBit_and, Bool.and_eq_true, mask_bit _ (getD_ok h r), decide_eq_true_eq, oth_bit rs inn r h]
        exact ⟨ha, k, (mem_idx.1 hk).1, (mem_idx.1 hk).2, hkr, hka⟩)
      rw [mask_bit _ (getD_ok h i), decide_eq_true_eq] at this
      exact this
    · intro hh a ha
      rw [Nat.testBit_and, Bool.and_eq_true, mask_bit _ (getD_ok h r), decide_eq_true_eq, oth_bit rs inn r h] at ha
      obtain ⟨h1, k, h2, h3, h4, h5⟩ := ha
      rw [mask_bit _ (getD_ok h i), decide_eq_true_eq]
      exact hh k (mem_idx.2 ⟨h2, h3⟩) h4 a h1 h5
  rw [key]
  constructor
  · rintro ⟨⟨h1, h2⟩, h3⟩; exact ⟨mem_idx.2 ⟨hi, h1⟩, h2, h3⟩
  · rintro ⟨h1, h2, h3⟩; exact ⟨⟨(mem_idx.1 h1).2, h2⟩, h3⟩
theorem witI_some {rs : List (ByteArray × List Int)} {inn : List Bool} {r w : Nat} (h : RelOk rs) (hw : witI rs inn r = some w) : IsWit (eR rs) (idx inn rs.length) r w := by
  unfold witI at hw
  rw [List.find?_range_eq_some] at hw
  exact (wit_iff rs inn r w h (by simpa using hw.2.1)).1 hw.1
theorem filter_erase {p : Nat → Bool} {i : Nat} : ∀ {l : List Nat}, l.Nodup → (l.filter fun k => p k && decide (k ≠ i)) = (l.filter p).erase i := by
  intro l
  induction l with
  | nil => intro _; rfl
  | cons x t ih =>
    intro hn
    have hn' := List.nodup_cons.1 hn
    have ih' := ih hn'.2
    by_cases e : x = i
    · subst e
      have hno : x ∉ t.filter p := fun hx => hn'.1 (List.mem_filter.1 hx).1
      rw [List.filter_cons, List.filter_cons]
      simp only [ne_eq, not_true_eq_false, decide_false, Bool.and_false, Bool.false_eq_true, if_false]
      have e1 : (t.filter fun k => p k && decide (k ≠ x)) = t.filter p := by
        rw [ih', List.erase_of_not_mem hno]
      split
      · rw [List.erase_cons_head]; exact e1
      · rw [List.erase_of_not_mem hno]; exact e1
    · rw [List.filter_cons, List.filter_cons]
      simp only [ne_eq, e, not_false_eq_true, decide_true, Bool.and_true]
      split
      · rw [List.erase_cons_tail (by simpa using e)]; congr 1
      · exact ih'
theorem idx_set (inn : List Bool) (n i : Nat) (hi : i < inn.length) : idx (inn.set i false) n = (idx inn n).erase i := by
  unfold idx
  rw [← filter_erase List.nodup_range]
  apply List.filter_congr
  intro k _
  by_cases e : k = i
  · subst e; simp [List.getD, hi]
  · simp [List.getD, List.getElem?_set_ne (Ne.symm e), e]
theorem idx_all (n : Nat) : idx (List.replicate n true) n = List.range n := by
  unfold idx
  rw [List.filter_eq_self]
  intro k hk
  simp at hk
  simp [List.getD, hk]
theorem core_len (rs : List (ByteArray × List Int)) : (coreS rs).length = (idx (redS rs).inn rs.length).length := by
  simp [coreS, coreTo, idx]
end Go.Proofs.Ytopblgabadljdaa
namespace Go.Proofs.Ytopblgabadljdaa
end Go.Proofs.Ytopblgabadljdaa
namespace Go.Proofs.Ytopblgabadljdaa
end Go.Proofs.Ytopblgabadljdaa
namespace Go.Proofs.Ytopblgabadljdaa
open Go.RowKit
/-- The cells of a schema's relations, with what they show. -/
def RelsV (w : World) (R : Nat → Prop) (vs : List Value) (rs : List (ByteArray × List Int)) : Prop :=
  vs.length = rs.length * 2 ∧ ∀ k (hk : k < rs.length), vs[k * 2]? = some (.string rs[k].1) ∧ ∃ (A' : Option Addr) (c' : Nat), vs[k * 2 + 1]? = some (.slice A' rs[k].2.length c') ∧ Row w R A' (ints rs[k].2)
theorem RelsV.at {w : World} {R : Nat → Prop} {A : Option Addr} {vs : List Value} {rs : List (ByteArray × List Int)} (h : RelsV w R vs rs) (hr : Row w R A vs) : RelsAt w R A rs := ⟨vs, h.1, hr, h.2⟩
theorem RelsV.keep {w w' : World} {R : Nat → Prop} {vs : List Value} {rs : List (ByteArray × List Int)} (h : RelsV w R vs rs) (hs : w.heap.size ≤ w'.heap.size) (hk : ∀ b, R b → b < w.heap.size → w'.heap[b]? = w.heap[b]?) : RelsV w' R vs rs := by
  refine ⟨h.1, fun k hk2 => ?_⟩
  obtain ⟨h6, A', c', h4, h5⟩ := h.2 k hk2
  exact ⟨h6, A', c', h4, h5.keep hs fun b _ _ => hk b⟩
theorem RelsV.mono {w : World} {R R' : Nat → Prop} {vs : List Value} {rs : List (ByteArray × List Int)} (h : RelsV w R vs rs) (hR : ∀ b, b < w.heap.size → R b → R' b) : RelsV w R' vs rs := by
  refine ⟨h.1, fun k hk2 => ?_⟩
  obtain ⟨h6, A', c', h4, h5⟩ := h.2 k hk2
  exact ⟨h6, A', c', h4, h5.mono hR⟩
theorem RelsV.one {w : World} {R : Nat → Prop} {vs : List Value} {rs : List (ByteArray × List Int)} (h : RelsV w R vs rs) : ∀ u ∈ vs, u.oneCell' = true := by
  intro u hu
  obtain ⟨p, hp, rfl⟩ := List.getElem_of_mem hu
  have hl := h.1
  have hk : p / 2 < rs.length := by omega
  obtain ⟨h1, A', c', h2, _⟩ := h.2 (p / 2) hk
  rcases Nat.mod_two_eq_zero_or_one p with e | e
  · have : p / 2 * 2 = p := by omega
    rw [this, List.getElem?_eq_getElem hp] at h1
    injection h1 with h1
    rw [h1]; rfl
  · have : p / 2 * 2 + 1 = p := by omega
    rw [this, List.getElem?_eq_getElem hp] at h2
    injection h2 with h2
    rw [h2]; rfl
theorem RelsV.snoc {w : World} {R : Nat → Prop} {vs : List Value} {rs : List (ByteArray × List Int)} (h : RelsV w R vs rs) (x : ByteArray × List Int) {A' : Option Addr} (c' : Nat) (hr : Row w R A' (ints x.2)) : RelsV w R (vs ++ [.string x.1, .slice A' x.2.length c']) (rs ++ [x]) := by
  refine ⟨by simp [h.1]; omega, fun k hk => ?_⟩
  by_cases e : k < rs.length
  · obtain ⟨h1, A2, c2, h2, h3⟩ := h.2 k e
    refine ⟨?_, A2, c2, ?_, ?_⟩
    · rw [List.getElem?_append_left (by rw [h.1]; omega), List.getElem_append_left e]; exact h1
    · rw [List.getElem?_append_left (by rw [h.1]; omega), List.getElem_append_left e]; exact h2
    · rw [List.getElem_append_left e]; exact h3
  · obtain rfl : k = rs.length := by simp at hk; omega
    refine ⟨?_, A', c', ?_, ?_⟩
    · rw [List.getElem?_append_right (by rw [h.1]; exact Nat.le_refl _), h.1]; simp
    · rw [List.getElem?_append_right (by rw [h.1]; omega), h.1]; simp [show rs.length * 2 + 1 - rs.length * 2 = 1 by omega]
    · simpa using hr
theorem sch_rels {w : World} {R : Nat → Prop} {S : Sch} {A1 : Option Addr} {c1 : Nat} {A2 : Option Addr} {c2 : Nat} {A3 : Option Addr} {c3 : Nat}
    (h : SchAt w R (.agg #[.slice A1 S.attrs.length c1, .slice A2 S.rels.length c2, .slice A3 S.feats.length c3, .int .i64 S.label]) S) : RelsAt w R A2 S.rels := by
  obtain ⟨B1, d1, B2, d2, B3, d3, e, _, _, _, h1, h2, h3⟩ := h
  simp at e
  obtain ⟨⟨rfl, rfl⟩, ⟨rfl, rfl⟩, rfl, rfl⟩ := e
  exact h2
theorem RelsAt.ext {w w' : World} {R : Nat → Prop} {A : Option Addr} {rs : List (ByteArray × List Int)} (h : RelsAt w R A rs) (hb : Below w.heap.size w w') : RelsAt w' R A rs := h.keep hb.size fun b _ hlt => hb.block b hlt
end Go.Proofs.Ytopblgabadljdaa
namespace Go.Proofs.Ytopblgabadljdaa
open Go.RowKit
/-- The relations among the first k that have an attribute. -/
def usesTo (rs : List (ByteArray × List Int)) (a : Int) (k : Nat) : List Int := ((List.range k).filter fun i => hasB (rs.getD i default).2 a).map Int.ofNat
def usesL (S : Sch) (a : Int) : List Int := usesTo S.rels a S.rels.length
theorem usesTo_succ (rs : List (ByteArray × List Int)) (a : Int) (k : Nat) : usesTo rs a (k + 1) = if hasB (rs.getD k default).2 a = true then usesTo rs a k ++ [(k : Int)] else usesTo rs a k := by
  unfold usesTo
  rw [List.range_succ, List.filter_append, List.map_append]
  cases h : hasB (rs.getD k default).2 a
  · rw [List.filter_cons, if_neg (by rw [h]; decide)]; simp
  · rw [List.filter_cons, if_pos h]; simp
theorem usesTo_len (rs : List (ByteArray × List Int)) (a : Int) (k : Nat) : (usesTo rs a k).length ≤ k := by
  unfold usesTo
  rw [List.length_map]
  exact Nat.le_trans (List.length_filter_le _ _) (by simp)
theorem usesTo_mem {rs : List (ByteArray × List Int)} {a : Int} {k : Nat} {x : Int} (h : x ∈ usesTo rs a k) : ∃ i : Nat, x = i ∧ i < k ∧ hasB (rs.getD i default).2 a = true := by
  unfold usesTo at h
  obtain ⟨i, hi, rfl⟩ := List.mem_map.1 h
  obtain ⟨h1, h2⟩ := List.mem_filter.1 hi
  exact ⟨i, rfl, by simpa using h1, h2⟩
theorem has_any (nm0 : ByteArray) (A : Option Addr) (c : Nat) (l : List Int) (a : Int) (w : World) {R : Nat → Prop} (h : Row w R A (ints l)) (hl : l.length ≤ 1000) :
    Calls Try.prog 56 #[.agg #[.string nm0, .slice A l.length c], .int .i64 a] w fun e w' => e = .returned (.bool (hasB l a)) ∧ Below w.heap.size w w' := by
  have CT := Lib.hid (contains_int A c l a _ (h.alloc (.cells #[.string nm0, .slice A l.length c] 33)) (by omega))
  clear h
  go_enter Try.func56, Try.ntmps56
  go_wp2_with (go_at_call 40; go_must (refine CT.out.mono ?_; rintro e w' ⟨rfl, rfl⟩))
  go_ret
  exact ⟨rfl, (Below.refl _ _).alloc (Nat.le_refl _) _⟩
set_option maxRecDepth 100000 in
set_option maxHeartbeats 1000000 in
theorem uses_any (v : Value) (S : Sch) (a : Int) (w : World) {R : Nat → Prop} (h : SchAt w R v S) (hb : SBd S) (hce : checkE S = 0) :
    Calls Try.prog 39 #[v, .int .i64 a] w fun e w' => ∃ A' c', e = .returned (.slice A' (usesL S a).length c') ∧ Row w' (w.heap.size ≤ ·) A' (ints (usesL S a)) ∧ Below w.heap.size w w' := by
  have h0 := h
  obtain ⟨A1, c1, A2, c2, A3, c3, rfl, l1, l2, l3, h1, h2, h3⟩ := h
  clear h1 h2 h3 l1 l2 l3
  have hcb := eq_b hce
  have hn := (check_relOk hce).1
  have hrs := h0.ext ((Below.refl _ w).alloc (Nat.le_refl _) (.cells #[Value.slice A1 S.attrs.length c1, Value.slice A2 S.rels.length c2, Value.slice A3 S.feats.length c3, Value.int IntKind.i64 S.label] 28))
  have CT1 := Lib.hid (check_any _ S _ hrs hb)
  have hrl := fun k (hk : k < S.rels.length) => hb.rl _ (List.getElem_mem hk)
  have HRL := Lib.hid hrl
  generalize hU : usesL S a = ul at *
  have HU := Lib.hid hU
  clear hU hrl
  generalize hce' : checkE S = ce at *
  clear hce' hce hrs
  go_enter Try.func39, Try.ntmps39
  go_wp2_with (
    go_at_call 33
    go_must (
      refine CT1.out.mono ?_
      rintro e w1 ⟨rfl, hb1⟩
      have hbx := (Blk.new w 28 #[Value.slice A1 S.attrs.length c1, Value.slice A2 S.rels.length c2, Value.slice A3 S.feats.length c3, Value.int IntKind.i64 S.label]).ext hb1
      have x1 := hbx.cell 1
      simp at x1
      have hbel1 : Below w.heap.size w w1 := ext_trans ((Below.refl _ _).alloc (Nat.le_refl _) _) hb1
      clear hbx hb1))
  clear CT1
  have hs1 := sch_rels (h0.ext hbel1)
  go_loopw [5, 14] (fun o i wr => ∃ (k : Nat) (A9 : Option Addr) (c9 : Nat), k ≤ S.rels.length ∧ i = .int .i64 k ∧ o = .slice A9 (usesTo S.rels a k).length c9 ∧
    wr.ownsRow w1.heap.size 3 1 (.slice A9 (usesTo S.rels a k).length c9) (usesTo S.rels a k).length (ints (usesTo S.rels a k)) ∧ Below w1.heap.size w1 wr) (fun _ i _ => S.rels.length - (intOf i).toNat)
  case atStart => exact ⟨0, none, 0, Nat.zero_le _, rfl, rfl, World.ownsRow_nil _ _ _ _, Below.refl _ _⟩
  case round =>
    obtain ⟨k, A9, c9, hk, rfl, rfl, hown, hbel⟩ := hrel
    have hlen := usesTo_len S.rels a k
    have hsz := hbel.size
    have hsz1 := hbel1.size
    by_cases hlt : k < S.rels.length
    · obtain ⟨b, off, Aq, cq, rfl, _, hbb, hk1, hk2, hrow⟩ := (hs1.ext hbel).at_ hlt
      have hq := HRL.out k hlt
      have hsu := usesTo_succ S.rels a k
      rw [show S.rels.getD k default = S.rels[k] by simp [List.getD, hlt]] at hsu
      have cth := has_any S.rels[k].1 Aq cq S.rels[k].2 a (wr.alloc (.cells #[.string S.rels[k].1, .slice Aq S.rels[k].2.length cq] 33)) (hrow.alloc _) hq
      generalize S.rels[k] = q at *
      cases hh : hasB q.2 a
      · rw [hh] at hsu cth
        simp at hsu
        have HSU := Lib.hid hsu
        have CTH := Lib.hid cth
        clear hsu cth hh hs1
        go_wp2_with (go_at_call 56; go_must (refine CTH.out.mono ?_; rintro e w2 ⟨rfl, hb2⟩))
        have hb3 : Below wr.heap.size wr w2 := ext_trans ((Below.refl _ _).alloc (Nat.le_refl _) _) hb2
        exact ⟨⟨k + 1, A9, c9, by omega, by go_num, by rw [HSU.out], by rw [HSU.out]; exact hown.kept (grown_of_ext hb3 none) (by cases A9 <;> simp [Value.ownBlock]), ext_trans hbel hb3⟩, by simp [intOf]; omega⟩
      · rw [hh] at hsu cth
        simp at hsu
        have HSU := Lib.hid hsu
        have CTH := Lib.hid cth
        clear hsu cth hh hs1
        go_wp2_with (first
          | (go_at_call 56
             go_must (
              refine CTH.out.mono ?_; rintro e w2 ⟨rfl, hb2⟩
              have hb3 : Below wr.heap.size wr w2 := ext_trans ((Below.refl _ _).alloc (Nat.le_refl _) _) hb2
              have hown3 := hown.kept (grown_of_ext hb3 none) (by cases A9 <;> simp [Value.ownBlock])
              have hsz3 := hb3.size))
          | (at_builtin
             go_must (
              refine wpList_app (W := w2) rfl _ _ 22 rfl w1.heap.size 3 (.int .i64 0) 1 8 Try.underlying22 Try.infoInt rfl (by decide) (by decide) (.slice A9 (usesTo S.rels a k).length c9) (usesTo S.rels a k).length 1 (ints (usesTo S.rels a k)) rfl rfl rfl hown3 rfl (by simp; rfl) (by omega) (by omega) ?_
              intro A6 c6 w6 hown6 hg6 hat6)))
        refine ⟨⟨k + 1, A6, c6, by omega, by go_num, by rw [HSU.out]; simp, by rw [HSU.out]; simpa [ints] using hown6, ?_⟩, by simp [intOf]; omega⟩
        exact (hbel.trans (hb3.mono hbel.size)).grown hg6 (by omega) (fun g e => (hown3.lt g e).1)
    · obtain rfl : k = S.rels.length := by omega
      go_wp2
      go_ret
      have e : usesTo S.rels a S.rels.length = ul := HU.out
      subst e
      exact ⟨A9, c9, rfl, (Row.of_own hown).mono fun b _ hb => by omega, ext_trans hbel1 hbel⟩
/-- Does the way up from a relation end? -/
def walkB (par : List Int) : Nat → Int → Bool
  | 0, a => decide (a < 0)
  | f + 1, a => if a < 0 then true else walkB par f (par.getD a.toNat 0)
theorem walkB_neg {par : List Int} {f : Nat} {a : Int} (h : a < 0) : walkB par f a = true := by cases f <;> simp [walkB, h]
def rangeB (par : List Int) : Bool := par.all fun p => decide (-1 ≤ p) && decide (p < par.length)
def treeB (par : List Int) : Bool := rangeB par && ((List.range par.length).all fun i => walkB par par.length i) && decide (par.count (-1) = 1)
theorem treeB_no {par : List Int} {k : Nat} (hk : k < par.length) (h : ¬ (-1 ≤ par[k] ∧ par[k] < par.length)) : treeB par = false := by
  have : rangeB par = false := by
    unfold rangeB
    rw [List.all_eq_false]
    exact ⟨par[k], List.getElem_mem hk, by simpa using h⟩
  simp [treeB, this]
theorem treeB_walk {par : List Int} {k : Nat} (hk : k < par.length) (h : walkB par par.length k = false) : treeB par = false := by
  have : ((List.range par.length).all fun i => walkB par par.length i) = false := by
    rw [List.all_eq_false]
    exact ⟨k, by simpa using hk, by simp [h]⟩
  simp [treeB, this]
theorem treeB_end {par : List Int} (h1 : ∀ j (hj : j < par.length), -1 ≤ par[j] ∧ par[j] < par.length) (h2 : ∀ j, j < par.length → walkB par par.length j = true) : treeB par = (((par.count (-1) : Nat) : Int) == 1) := by
  have e1 : rangeB par = true := by
    unfold rangeB
    rw [List.all_eq_true]
    intro x hx
    obtain ⟨j, hj, rfl⟩ := List.getElem_of_mem hx
    simpa using h1 j hj
  have e2 : ((List.range par.length).all fun i => walkB par par.length i) = true := by
    rw [List.all_eq_true]
    intro x hx
    exact h2 x (by simpa using hx)
  unfold treeB
  rw [e1, e2]
  simp
  rw [Bool.eq_iff_iff]
  simp
  omega
theorem count_take_succ {par : List Int} {k : Nat} (hk : k < par.length) (x : Int) : (par.take (k + 1)).count x = (par.take k).count x + if par[k] = x then 1 else 0 := by
  rw [List.take_succ_eq_append_getElem hk, List.count_append]
  simp [List.count_singleton]
set_option maxRecDepth 100000 in
set_option maxHeartbeats 1000000 in
theorem tree_walk (A : Option Addr) (c : Nat) (par : List Int) (w : World) {R : Nat → Prop} (h : Row w R A (ints par)) (hl : par.length ≤ 1000) :
    Calls Try.prog 38 #[.slice A par.length c] w fun e w' => e = .returned (.bool (treeB par)) ∧ w = w' := by
  go_enter Try.func38, Try.ntmps38
  go_wp2
  go_loop [3, 11] (fun r i => ∃ k : Nat, k ≤ par.length ∧ i = .int .i64 k ∧ r = .int .i64 ((par.take k).count (-1) : Nat) ∧ Hid (∀ j (hj : j < par.length), j < k → -1 ≤ par[j] ∧ par[j] < par.length)) (fun _ i => par.length - (intOf i).toNat)
  case atStart => exact ⟨0, Nat.zero_le _, rfl, rfl, Lib.hid fun j _ h => absurd h (by omega)⟩
  case round =>
    obtain ⟨k, hk, rfl, rfl, HB⟩ := hrel
    have hcl : (par.take k).count (-1) ≤ k := Nat.le_trans List.count_le_length (by simp; omega)
    by_cases hlt : k < par.length
    · obtain ⟨b, off, rfl, hb, hck⟩ := h.int_at hlt
      have HCS := Lib.hid (count_take_succ hlt (-1))
      have HNO := Lib.hid (treeB_no hlt)
      have HB1 := Lib.hid (fun (h1 : -1 ≤ par[k] ∧ par[k] < par.length) (j : Nat) (hj : j < par.length) (hjk : j < k + 1) => show -1 ≤ par[j] ∧ par[j] < par.length by
        by_cases e : j < k
        · exact HB.out j hj e
        · obtain rfl : j = k := by omega
          exact h1)
      generalize hcn : (par.take k).count (-1) = cn at *
      clear hcn
      generalize hpk : par[k] = p at *
      clear hpk
      by_cases h1 : p < -1
      · go_wp2
        go_ret
        exact ⟨ret_bool (HNO.out (by omega)).symm, rfl⟩
      · by_cases h2 : (par.length : Int) ≤ p
        · go_wp2
          go_ret
          exact ⟨ret_bool (HNO.out (by omega)).symm, rfl⟩
        · cases h3 : (p == -1)
          · go_wp2
            refine ⟨⟨k + 1, by omega, by go_num, by rw [HCS.out]; simp at h3; simp [h3], Lib.hid (HB1.out (by omega))⟩, by simp [intOf]; omega⟩
          · go_wp2
            refine ⟨⟨k + 1, by omega, by go_num, by rw [HCS.out]; simp at h3; simp [h3], Lib.hid (HB1.out (by omega))⟩, by simp [intOf]; omega⟩
    · obtain rfl : k = par.length := by omega
      have hd1 : decide (par.length < par.length) = false := by simp
      rw [List.take_length] at *
      have hrg : ∀ j (hj : j < par.length), -1 ≤ par[j] ∧ par[j] < par.length := fun j hj => HB.out j hj hj
      have HRG := Lib.hid hrg
      clear hrg HB
      generalize hcn : par.count (-1) = cn at *
      have HCN := Lib.hid hcn
      clear hcn
      go_wp2
      clear hd1
      go_loop [30] (fun i => ∃ k : Nat, k ≤ par.length ∧ i = .int .i64 k ∧ Hid (∀ j, j < k → walkB par par.length j = true)) (fun i => par.length - (intOf i).toNat)
      case atStart => exact ⟨0, Nat.zero_le _, rfl, Lib.hid fun j h => absurd h (by omega)⟩
      case round =>
        obtain ⟨k, hk, rfl, HW⟩ := hrel
        by_cases hlt : k < par.length
        · go_wp2
          go_loop [7, 8] (fun s t => ∃ (q : Nat) (x : Int), q ≤ par.length ∧ s = .int .i64 q ∧ t = .int .i64 x ∧ -1 ≤ x ∧ x < par.length ∧ Hid (walkB par par.length k = walkB par (par.length - q) x)) (fun s _ => par.length + 1 - (intOf s).toNat)
          case atStart => exact ⟨0, k, Nat.zero_le _, rfl, rfl, by omega, by omega, Lib.hid rfl⟩
          case round =>
            obtain ⟨q, x, hq, rfl, rfl, hx1, hx2, HX⟩ := hrel
            by_cases hx0 : x < 0
            · have hd2 : decide ((0 : Int) ≤ x) = false := by simp; omega
              have hd3 : decide (x < 0) = true := by simpa using hx0
              have hw : walkB par par.length k = true := by rw [HX.out]; exact walkB_neg hx0
              have HWK := Lib.hid hw
              clear hw
              go_wp2
              refine ⟨⟨k + 1, by omega, by go_num, Lib.hid fun j hj => ?_⟩, by simp [intOf]; omega⟩
              by_cases e : j < k
              · exact HW.out j e
              · obtain rfl : j = k := by omega
                exact HWK.out
            · obtain ⟨xn, rfl⟩ := Int.eq_ofNat_of_zero_le (show 0 ≤ x by omega)
              have hxn : xn < par.length := by omega
              obtain ⟨b, off, rfl, hb, hck⟩ := h.int_at hxn
              by_cases hqn : q < par.length
              · have hpx := HRG.out xn hxn
                have hws : walkB par par.length k = walkB par (par.length - (q + 1)) par[xn] := by
                  rw [HX.out, show par.length - q = (par.length - (q + 1)) + 1 by omega]
                  simp only [walkB]
                  rw [if_neg (by omega)]
                  simp [List.getD, hxn]
                have HWS := Lib.hid hws
                clear hws
                generalize hpk : par[xn] = p at *
                clear hpk
                go_wp2
                exact ⟨⟨q + 1, p, by omega, by go_num, rfl, hpx.1, hpx.2, HWS⟩, by simp [intOf]; omega⟩
              · obtain rfl : q = par.length := by omega
                have hws : walkB par par.length k = false := by
                  rw [HX.out, Nat.sub_self]
                  simp [walkB]
                go_wp2
                go_ret
                exact ⟨ret_bool (treeB_walk hlt hws).symm, rfl⟩
        · obtain rfl : k = par.length := by omega
          have hd1 : decide (par.length < par.length) = false := by simp
          go_wp2
          go_ret
          exact ⟨ret_bool (by rw [treeB_end HRG.out HW.out, HCN.out]), rfl⟩
def topF (S : Sch) (par : List Int) (a : Int) (r : Int) : Bool := !hasB (usesL S a) (par.getD r.toNat 0)
def chkB (S : Sch) (par : List Int) : Bool :=
  decide (checkE S = 0) && decide (par.length = S.rels.length) && treeB par && (List.range S.attrs.length).all fun a => decide ((usesL S a).countP (topF S par a) = 1)
theorem countP_take_succ {p : Int → Bool} {l : List Int} {k : Nat} (hk : k < l.length) : (l.take (k + 1)).countP p = (l.take k).countP p + if p l[k] = true then 1 else 0 := by
  rw [List.take_succ_eq_append_getElem hk, List.countP_append]
  simp [List.countP_cons]
theorem chkB_len {S : Sch} {par : List Int} (h : par.length ≠ S.rels.length) : chkB S par = false := by simp [chkB, h]
theorem chkB_tree {S : Sch} {par : List Int} (h : treeB par = false) : chkB S par = false := by simp [chkB, h]
theorem chkB_top {S : Sch} {par : List Int} {a : Nat} (ha : a < S.attrs.length) (h : (usesL S a).countP (topF S par a) ≠ 1) : chkB S par = false := by
  have : ((List.range S.attrs.length).all fun a => decide ((usesL S a).countP (topF S par a) = 1)) = false := by
    rw [List.all_eq_false]
    exact ⟨a, by simpa using ha, by simpa using h⟩
  simp [chkB, this]
theorem chkB_yes {S : Sch} {par : List Int} (h1 : checkE S = 0) (h2 : par.length = S.rels.length) (h3 : treeB par = true) (h4 : ∀ a : Nat, a < S.attrs.length → (usesL S a).countP (topF S par a) = 1) : chkB S par = true := by
  have : ((List.range S.attrs.length).all fun a => decide ((usesL S a).countP (topF S par a) = 1)) = true := by
    rw [List.all_eq_true]
    intro a ha
    simpa using h4 a (by simpa using ha)
  simp [chkB, h1, h2, h3, this]
set_option maxRecDepth 100000 in
set_option maxHeartbeats 1000000 in
theorem chk_any (v : Value) (S : Sch) (Ap : Option Addr) (cp : Nat) (par : List Int) (w : World) {R R' : Nat → Prop} (h : SchAt w R v S) (hb : SBd S) (hp : Row w R' Ap (ints par)) (hpl : par.length ≤ 1000) :
    Calls Try.prog 19 #[v, .agg #[.slice Ap par.length cp]] w fun e w' => e = .returned (.bool (chkB S par)) ∧ Below w.heap.size w w' := by
  have h0 := h
  obtain ⟨A1, c1, A2, c2, A3, c3, rfl, l1, l2, l3, h1, h2, h3⟩ := h
  clear h1 h2 h3 l1 l2 l3
  have hn := hb.r
  have hbb : Below w.heap.size w ((w.alloc (.cells #[Value.slice A1 S.attrs.length c1, Value.slice A2 S.rels.length c2, Value.slice A3 S.feats.length c3, Value.int IntKind.i64 S.label] 28)).alloc (.cells #[Value.slice Ap par.length cp] 46)) := ext_alloc ((Below.refl _ _).alloc (Nat.le_refl _) _) _
  have CT1 := Lib.hid (check_any _ S _ (h0.ext hbb) hb)
  by_cases hce : checkE S = 0
  · have hcb := eq_b hce
    have CUS := Lib.hid (fun (k : Int) (W : World) (v : Value) (hW : SchAt W R v S) => uses_any v S k W hW hb hce)
    have HYES := Lib.hid (chkB_yes (S := S) (par := par) hce)
    generalize hce' : checkE S = ce at *
    clear hce hce'
    by_cases hlen : par.length = S.rels.length
    · have hlb : ((par.length : Int) != (S.rels.length : Int)) = false := by simp [hlen]
      have HLEN := Lib.hid hlen
      clear hlen
      have CTT := Lib.hid (fun (W : World) (hW : Below w.heap.size w W) => tree_walk Ap cp par W (hp.ext hW) hpl)
      cases htr : treeB par
      · have HE := Lib.hid (chkB_tree (S := S) htr)
        have CTT2 := Lib.hid (fun (W : World) (hW : Below w.heap.size w W) => htr ▸ CTT.out W hW)
        clear htr CTT
        go_enter Try.func19, Try.ntmps19
        go_wp2_with (first
          | (go_at_call 33
             go_must (
              refine CT1.out.mono ?_
              rintro e w1 ⟨rfl, hb1⟩
              have hbx := ((Blk.new w 28 #[Value.slice A1 S.attrs.length c1, Value.slice A2 S.rels.length c2, Value.slice A3 S.feats.length c3, Value.int IntKind.i64 S.label]).alloc (.cells #[Value.slice Ap par.length cp] 46)).ext hb1
              have hby := (Blk.new (w.alloc (.cells #[Value.slice A1 S.attrs.length c1, Value.slice A2 S.rels.length c2, Value.slice A3 S.feats.length c3, Value.int IntKind.i64 S.label] 28)) 46 #[Value.slice Ap par.length cp]).ext hb1
              rw [World.size_alloc] at hby
              have x1 := hbx.cell 1
              have y0 := hby.cell 0
              simp at x1 y0
              have hbel1 : Below w.heap.size w w1 := ext_trans hbb hb1
              clear hbx hby hb1))
          | (go_at_call 38
             go_must (
              refine (CTT2.out _ hbel1).mono ?_
              rintro e w2 ⟨rfl, rfl⟩)))
        go_ret
        exact ⟨ret_bool HE.out.symm, hbel1⟩
      · have CTT2 := Lib.hid (fun (W : World) (hW : Below w.heap.size w W) => htr ▸ CTT.out W hW)
        have HNO := Lib.hid (fun (a : Nat) (ha : a < S.attrs.length) => chkB_top (par := par) ha)
        have HTR := Lib.hid htr
        clear htr CTT
        generalize hcv : chkB S par = cv at *
        clear hcv
        go_enter Try.func19, Try.ntmps19
        go_wp2_with (first
          | (go_at_call 33
             go_must (
              refine CT1.out.mono ?_
              rintro e w1 ⟨rfl, hb1⟩
              have hbx := ((Blk.new w 28 #[Value.slice A1 S.attrs.length c1, Value.slice A2 S.rels.length c2, Value.slice A3 S.feats.length c3, Value.int IntKind.i64 S.label]).alloc (.cells #[Value.slice Ap par.length cp] 46)).ext hb1
              have hby := (Blk.new (w.alloc (.cells #[Value.slice A1 S.attrs.length c1, Value.slice A2 S.rels.length c2, Value.slice A3 S.feats.length c3, Value.int IntKind.i64 S.label] 28)) 46 #[Value.slice Ap par.length cp]).ext hb1
              rw [World.size_alloc] at hby
              have x0 := hbx.cell 0
              have x1 := hbx.cell 1
              have y0 := hby.cell 0
              simp at x0 x1 y0
              have hbel1 : Below w.heap.size w w1 := ext_trans hbb hb1
              have HBX := Lib.hid hbx
              have HBY := Lib.hid hby
              clear hbx hby hb1))
          | (go_at_call 38
             go_must (
              refine (CTT2.out _ hbel1).mono ?_
              rintro e w2 ⟨rfl, rfl⟩)))
        clear x0 x1 y0 CTT2 CT1
        go_loopw [31] (fun i wr => ∃ k : Nat, k ≤ S.attrs.length ∧ i = .int .i64 k ∧ Hid (∀ a : Nat, a < k → (usesL S a).countP (topF S par a) = 1) ∧ Below w1.heap.size w1 wr) (fun i _ => S.attrs.length - (intOf i).toNat)
        case atStart => exact ⟨0, Nat.zero_le _, rfl, Lib.hid fun a ha => absurd ha (by omega), Below.refl _ _⟩
        case round =>
          obtain ⟨k, hk, rfl, HALL, hbel⟩ := hrel
          have han := hb.a
          by_cases hlt : k < S.attrs.length
          · have hbx := HBX.out.ext hbel
            have x0 := hbx.cell 0
            have x1 := hbx.cell 1
            have x2 := hbx.cell 2
            have x3 := hbx.cell 3
            simp at x0 x1 x2 x3
            have CTU := Lib.hid (CUS.out k wr _ (h0.ext (ext_trans hbel1 hbel)))
            have hul : (usesL S k).length ≤ S.rels.length := usesTo_len S.rels k S.rels.length
            have HUM := Lib.hid (fun (x : Int) (hx : x ∈ usesL S k) => usesTo_mem hx)
            have HNO2 := Lib.hid (HNO.out k hlt)
            have HST := Lib.hid (fun (hone : (usesL S k).countP (topF S par k) = 1) (a : Nat) (ha : a < k + 1) => show (usesL S a).countP (topF S par a) = 1 by
              by_cases e : a < k
              · exact HALL.out a e
              · obtain rfl : a = k := by omega
                exact hone)
            have HTF := Lib.hid (fun (r : Int) => show topF S par k r = !hasB (usesL S k) (par.getD r.toNat 0) from rfl)
            generalize usesL S k = ul at *
            generalize topF S par k = tf at *
            clear hbx
            go_wp2_with (
              go_at_call 39
              go_must (
                refine CTU.out.mono ?_
                rintro e w3 ⟨A5, c5, rfl, hrow5, hb3⟩
                have hby := (HBY.out.ext hbel).ext hb3
                have y0 := hby.cell 0
                simp at y0
                clear hby x0 x1 x2 x3))
            go_loop [7, 39] (fun t i => ∃ q : Nat, q ≤ ul.length ∧ i = .int .i64 q ∧ t = .int .i64 ((ul.take q).countP tf : Nat)) (fun _ i => ul.length - (intOf i).toNat)
            case atStart => exact ⟨0, Nat.zero_le _, rfl, rfl⟩
            case round =>
              obtain ⟨q, hq, rfl, rfl⟩ := hrel
              have hcl : (ul.take q).countP tf ≤ q := Nat.le_trans List.countP_le_length (by simp; omega)
              by_cases hql : q < ul.length
              · obtain ⟨b, off, rfl, hb5, hck⟩ := hrow5.int_at hql
                obtain ⟨i, hi, hin, _⟩ := HUM.out _ (List.getElem_mem hql)
                have HCS := Lib.hid (countP_take_succ (p := tf) hql)
                have hip : i < par.length := by rw [HLEN.out]; exact hin
                obtain ⟨b2, off2, rfl, hb6, hck2⟩ := ((hp.ext (ext_trans hbel1 hbel)).ext hb3).int_at hip
                have htf := HTF.out ul[q]
                rw [hi] at htf hck
                rw [show par.getD (i : Int).toNat 0 = par[i] by simp [List.getD, hip]] at htf
                have ctc := contains_int (some ⟨b, off, none⟩) c5 ul par[i] w3 hrow5 (by omega)
                rw [hi] at HCS
                rw [htf] at HCS
                have CTC := Lib.hid ctc
                have j1 : (0 : Int) ≤ (i : Int) := by omega
                have j2 : (i : Int) < (par.length : Int) := by omega
                clear htf hi ctc
                generalize par[i] = pi at *
                generalize hcn : (ul.take q).countP tf = cn at *
                clear hcn
                cases hh : hasB ul pi
                · rw [hh] at CTC HCS
                  go_wp2_with (go_at_call 40; go_must (refine CTC.out.mono ?_; rintro e w4 ⟨rfl, rfl⟩))
                  exact ⟨⟨q + 1, by omega, by go_num, by rw [HCS.out]; simp⟩, by simp [intOf]; omega⟩
                · rw [hh] at CTC HCS
                  go_wp2_with (go_at_call 40; go_must (refine CTC.out.mono ?_; rintro e w4 ⟨rfl, rfl⟩))
                  exact ⟨⟨q + 1, by omega, by go_num, by rw [HCS.out]; simp⟩, by simp [intOf]; omega⟩
              · obtain rfl : q = ul.length := by omega
                have hd1 : decide (ul.length < ul.length) = false := by simp
                rw [List.take_length] at *
                generalize hcn : ul.countP tf = cn at *
                clear hcn
                by_cases h1 : cn = 1
                · have h1b : ((cn : Int) != 1) = false := by simp; omega
                  have HH1 := Lib.hid h1
                  clear h1
                  go_wp2_with fail
                  exact ⟨⟨k + 1, by omega, by go_num, Lib.hid (HST.out HH1.out), ext_trans hbel hb3⟩, by simp [intOf]; omega⟩
                · have h1b : ((cn : Int) != 1) = true := by simp; omega
                  go_wp2_with fail
                  go_ret
                  exact ⟨ret_bool (HNO2.out h1).symm, ext_trans (ext_trans hbel1 hbel) hb3⟩
          · obtain rfl : k = S.attrs.length := by omega
            have hd1 : decide (S.attrs.length < S.attrs.length) = false := by simp
            go_wp2
            go_ret
            exact ⟨ret_bool (HYES.out HLEN.out HTR.out HALL.out).symm, ext_trans hbel1 hbel⟩
    · have hlb : ((par.length : Int) != (S.rels.length : Int)) = true := by simp; omega
      have HE := Lib.hid (chkB_len hlen)
      clear hlen
      go_enter Try.func19, Try.ntmps19
      go_wp2_with (
        go_at_call 33
        go_must (
          refine CT1.out.mono ?_
          rintro e w1 ⟨rfl, hb1⟩
          have hbx := ((Blk.new w 28 #[Value.slice A1 S.attrs.length c1, Value.slice A2 S.rels.length c2, Value.slice A3 S.feats.length c3, Value.int IntKind.i64 S.label]).alloc (.cells #[Value.slice Ap par.length cp] 46)).ext hb1
          have hby := (Blk.new (w.alloc (.cells #[Value.slice A1 S.attrs.length c1, Value.slice A2 S.rels.length c2, Value.slice A3 S.feats.length c3, Value.int IntKind.i64 S.label] 28)) 46 #[Value.slice Ap par.length cp]).ext hb1
          rw [World.size_alloc] at hby
          have x1 := hbx.cell 1
          have y0 := hby.cell 0
          simp at x1 y0
          clear hbx hby))
      go_ret
      exact ⟨ret_bool HE.out.symm, ext_trans hbb hb1⟩
  · have hcb := ne_b hce
    have HE := Lib.hid (show chkB S par = false by simp [chkB, hce])
    generalize hce' : checkE S = ce at *
    clear hce hce'
    go_enter Try.func19, Try.ntmps19
    go_wp2_with (
      go_at_call 33
      go_must (
        refine CT1.out.mono ?_
        rintro e w1 ⟨rfl, hb1⟩))
    go_ret
    exact ⟨ret_bool HE.out.symm, ext_trans hbb hb1⟩
end Go.Proofs.Ytopblgabadljdaa
namespace Go.Proofs.Ytopblgabadljdaa
open Go.RowKit
theorem word_at (s : ByteArray) (k : Nat) (hk : k < s.size) : s.data.toList.getD k 0 = s[k] := by
  simp only [List.getD]
  rw [List.getElem?_eq_getElem (by simpa using hk)]
  rfl
theorem word_first {s : ByteArray} (h1 : 1 ≤ s.size) (h : letterB (s.data.toList.getD 0 0) = false) : wordB s = false := word_no s 0 (by omega) (by rw [okAt_zero]; exact h)
theorem tail_ok {k : Nat} {c : UInt8} (h0 : k = 0 → letterB c = true) (h : tailB c = true) : okAt k c.toNat = true := by
  cases k with
  | zero => rw [okAt_zero]; exact h0 rfl
  | succ k => rw [okAt_succ]; exact h
theorem tail_no {k : Nat} {c : UInt8} (h : tailB c = false) : okAt k c.toNat = false := by
  cases k with
  | zero => rw [okAt_zero]; cases e : letterB c
            · rfl
            · simp [tailB, e] at h
  | succ k => rw [okAt_succ]; exact h
set_option maxHeartbeats 1000000 in
theorem word5_any (s : ByteArray) (w : World) (hs : s.size ≤ 9223372036854775807) :
    Calls Try.prog 60 #[.string s] w fun e w' => e = .returned (.bool (wordB s)) ∧ w = w' := by
  by_cases h1 : s.size < 1
  · have b0 : ((s.size : Int) == 0) = true := by rw [beq_iff_eq]; omega
    have HE : Hid (wordB s = false) := Lib.hid (by unfold wordB; rw [word_all]; simp; omega)
    go_enter Try.func60, Try.ntmps60
    go_wp2
    go_ret
    exact ⟨ret_bool HE.out.symm, rfl⟩
  · have b0 : ((s.size : Int) == 0) = false := by rw [beq_eq_false_iff_ne]; omega
    by_cases h2 : 12 < s.size
    · have HE : Hid (wordB s = false) := Lib.hid (by unfold wordB; rw [word_all]; simp; omega)
      go_enter Try.func60, Try.ntmps60
      go_wp2
      go_ret
      exact ⟨ret_bool HE.out.symm, rfl⟩
    · have hz : 0 < s.size := by omega
      have HW0 := Lib.hid (word_at s 0 hz)
      have HLF := Lib.hid (fun (h : letterB s[0] = false) => word_first (s := s) (by omega) (by rw [word_at s 0 hz]; exact h))
      by_cases h3 : 97 ≤ s[0].toNat ∧ s[0].toNat ≤ 122
      · have HL0 : Hid (letterB s[0] = true) := Lib.hid (by simp [letterB, UInt8.le_iff_toNat_le]; exact h3)
        obtain ⟨h3a, h3b⟩ := h3
        go_enter Try.func60, Try.ntmps60
        go_wp2
        go_loop [3] (fun i => ∃ k : Nat, k ≤ s.size ∧ i = .int .i64 k ∧ Hid (∀ j, j < k → okAt j (s.data.toList.getD j 0).toNat = true)) (fun i => s.size - (intOf i).toNat)
        case atStart => exact ⟨0, by omega, rfl, Lib.hid fun j hj => absurd hj (by omega)⟩
        case round =>
          obtain ⟨k, hk, rfl, HA⟩ := hrel
          by_cases hlt : k < s.size
          · have HNO := Lib.hid (fun (h : tailB s[k] = false) => word_no s k hlt (by rw [word_at s k hlt]; exact tail_no h))
            have HOK := Lib.hid (fun (h : tailB s[k] = true) (j : Nat) (hj : j < k + 1) => show okAt j (s.data.toList.getD j 0).toNat = true by
              by_cases e : j < k
              · exact HA.out j e
              · obtain rfl : j = k := by omega
                rw [word_at s j hlt]
                exact tail_ok (fun e => by subst e; exact HL0.out) h)
            have htb : tailB s[k] = (decide (97 ≤ s[k].toNat ∧ s[k].toNat ≤ 122) || decide (48 ≤ s[k].toNat ∧ s[k].toNat ≤ 57) || decide (s[k].toNat = 45)) := by
              rw [← okAt_succ 0]
              rw [Bool.eq_iff_iff]
              simp [okAt]
              omega
            have HTB := Lib.hid htb
            clear htb
            have hcase : (97 ≤ s[k].toNat ∧ s[k].toNat ≤ 122) ∨ (48 ≤ s[k].toNat ∧ s[k].toNat ≤ 57) ∨ (s[k].toNat < 48 ∧ ((s[k].toNat : Int) == 45) = true) ∨ (122 < s[k].toNat ∧ ((s[k].toNat : Int) == 45) = false) ∨ (57 < s[k].toNat ∧ s[k].toNat < 97 ∧ ((s[k].toNat : Int) == 45) = false) ∨ (s[k].toNat < 48 ∧ ((s[k].toNat : Int) == 45) = false) := by
              rw [beq_iff_eq, beq_eq_false_iff_ne]; omega
            rcases hcase with ⟨g1, g2⟩ | ⟨g1, g2⟩ | ⟨g1, g2⟩ | ⟨g1, g2⟩ | ⟨g1, g2, g3⟩ | ⟨g1, g2⟩
            · go_wp2
              exact ⟨⟨k + 1, by omega, by go_num, Lib.hid (HOK.out (by rw [HTB.out]; simp; omega))⟩, by simp [intOf]; omega⟩
            · go_wp2
              exact ⟨⟨k + 1, by omega, by go_num, Lib.hid (HOK.out (by rw [HTB.out]; simp; omega))⟩, by simp [intOf]; omega⟩
            · go_wp2
              exact ⟨⟨k + 1, by omega, by go_num, Lib.hid (HOK.out (by rw [HTB.out]; rw [beq_iff_eq] at g2; simp; omega))⟩, by simp [intOf]; omega⟩
            · have bl1 : decide ((s[k].toNat : Int) ≤ 122) = false := by simp; omega
              have bl2 : decide ((s[k].toNat : Int) ≤ 57) = false := by simp; omega
              go_wp2
              go_ret
              exact ⟨ret_bool (HNO.out (by rw [HTB.out]; rw [beq_eq_false_iff_ne] at g2; simp; omega)).symm, rfl⟩
            · have bl1 : decide ((97 : Int) ≤ s[k].toNat) = false := by simp; omega
              have bl2 : decide ((s[k].toNat : Int) ≤ 57) = false := by simp; omega
              go_wp2
              go_ret
              exact ⟨ret_bool (HNO.out (by rw [HTB.out]; rw [beq_eq_false_iff_ne] at g3; simp; omega)).symm, rfl⟩
            · have bl1 : decide ((97 : Int) ≤ s[k].toNat) = false := by simp; omega
              have bl2 : decide ((48 : Int) ≤ s[k].toNat) = false := by simp; omega
              go_wp2
              go_ret
              exact ⟨ret_bool (HNO.out (by rw [HTB.out]; rw [beq_eq_false_iff_ne] at g2; simp; omega)).symm, rfl⟩
          · obtain rfl : k = s.size := by omega
            have HE : Hid (wordB s = true) := Lib.hid (by rw [word_yes s HA.out]; simp; omega)
            have hd1 : decide (s.size < s.size) = false := by simp
            go_wp2
            go_ret
            exact ⟨ret_bool HE.out.symm, rfl⟩
      · have HE : Hid (wordB s = false) := Lib.hid (HLF.out (by rw [← Bool.not_eq_true]; simp [letterB, UInt8.le_iff_toNat_le]; omega))
        by_cases h4 : s[0].toNat < 97
        · go_enter Try.func60, Try.ntmps60
          go_wp2
          go_ret
          exact ⟨ret_bool HE.out.symm, rfl⟩
        · have h5 : 122 < s[0].toNat := by omega
          go_enter Try.func60, Try.ntmps60
          go_wp2
          go_ret
          exact ⟨ret_bool HE.out.symm, rfl⟩
end Go.Proofs.Ytopblgabadljdaa
namespace Go.Proofs.Ytopblgabadljdaa
open Go.RowKit
/-- The limits of a schema are kept. -/
def limB (S : Sch) : Prop := ¬ (S.attrs.length = 0 ∨ 12 < S.attrs.length ∨ S.rels.length = 0 ∨ 6 < S.rels.length ∨ 8 < S.feats.length)
theorem chk_lim {S : Sch} (h : ¬ limB S) : checkE S = 3 := by
  unfold limB at h
  unfold checkE
  rw [if_pos (Classical.not_not.1 h)]
theorem chk_attr {S : Sch} (h : limB S) {k : Nat} (hk : k < S.attrs.length) (h0 : scanE (attrE S) k = 0) (hne : attrE S k ≠ 0) : checkE S = attrE S k := by
  have e := scanE_at h0 hne hk
  unfold checkE
  rw [if_neg h, if_pos (by rw [e]; exact hne), e]
theorem chk_rel {S : Sch} (h : limB S) (ha : scanE (attrE S) S.attrs.length = 0) {k : Nat} (hk : k < S.rels.length) (h0 : scanE (relE S) k = 0) (hne : relE S k ≠ 0) : checkE S = relE S k := by
  have e := scanE_at h0 hne hk
  have e2 : relsE S = relE S k := by unfold relsE; rw [if_pos (by rw [e]; exact hne), e]
  unfold checkE
  rw [if_neg h, if_neg (by simp [ha]), if_pos (by rw [e2]; exact hne), e2]
theorem chk_used {S : Sch} (h : limB S) (ha : scanE (attrE S) S.attrs.length = 0) (hr : scanE (relE S) S.rels.length = 0) (hu : ((List.range S.attrs.length).all fun a => usedB S a) = false) : checkE S = 7 := by
  have e2 : relsE S = 7 := by unfold relsE; rw [if_neg (by simp [hr]), if_pos hu]
  unfold checkE
  rw [if_neg h, if_neg (by simp [ha]), if_pos (by rw [e2]; decide), e2]
theorem rels_zero {S : Sch} (hr : scanE (relE S) S.rels.length = 0) (hu : ((List.range S.attrs.length).all fun a => usedB S a) = true) : relsE S = 0 := by
  unfold relsE; rw [if_neg (by simp [hr]), if_neg (by rw [hu]; decide)]
theorem chk_feat {S : Sch} (h : limB S) (ha : scanE (attrE S) S.attrs.length = 0) (hr : relsE S = 0) {k : Nat} (hk : k < S.feats.length) (h0 : scanE (featE S) k = 0) (hne : featE S k ≠ 0) : checkE S = featE S k := by
  have e := scanE_at h0 hne hk
  unfold checkE
  rw [if_neg h, if_neg (by simp [ha]), if_neg (by simp [hr]), if_pos (by rw [e]; exact hne), e]
theorem chk_label {S : Sch} (h : limB S) (ha : scanE (attrE S) S.attrs.length = 0) (hr : relsE S = 0) (hf : scanE (featE S) S.feats.length = 0) : checkE S = if S.label < -1 ∨ (S.attrs.length : Int) ≤ S.label then 2 else if 0 ≤ S.label ∧ (S.attrs.getD S.label.toNat default).2 ≠ 2 then 7 else 0 := by
  unfold checkE
  rw [if_neg h, if_neg (by simp [ha]), if_neg (by simp [hr]), if_neg (by simp [hf])]
theorem attrE_eq (S : Sch) (k : Nat) (hk : k < S.attrs.length) : attrE S k = if wordB S.attrs[k].1 = false then 14 else if hasB ((S.attrs.map (·.1)).take k) S.attrs[k].1 = true then 9 else if S.attrs[k].2 < 1 ∨ 3 < S.attrs[k].2 then 7 else 0 := by
  have e1 : (S.attrs.map (·.1)).getD k default = S.attrs[k].1 := by simp [List.getD, hk]
  have e2 : S.attrs.getD k default = S.attrs[k] := by simp [List.getD, hk]
  unfold attrE namedE
  rw [e1, e2]
  by_cases h1 : wordB S.attrs[k].1 = false
  · simp [h1]
  · by_cases h2 : hasB ((S.attrs.map (·.1)).take k) S.attrs[k].1 = true
    · simp [h1, h2]
    · simp [h1, h2]
theorem relE_eq2 (S : Sch) (k : Nat) (hk : k < S.rels.length) : relE S k = if wordB S.rels[k].1 = false then 14 else if hasB ((S.rels.map (·.1)).take k) S.rels[k].1 = true then 9 else if S.rels[k].2 = [] then 7
    else if (S.rels[k].2.all fun a => decide (0 ≤ a) && decide (a < S.attrs.length)) = false then 2 else if ascB S.rels[k].2 = false then 10 else 0 := by
  have e1 : (S.rels.map (·.1)).getD k default = S.rels[k].1 := by simp [List.getD, hk]
  have e2 : S.rels.getD k default = S.rels[k] := by simp [List.getD, hk]
  unfold relE namedE
  rw [e1, e2]
  by_cases h1 : wordB S.rels[k].1 = false
  · simp [h1]
  · by_cases h2 : hasB ((S.rels.map (·.1)).take k) S.rels[k].1 = true
    · simp [h1, h2]
    · simp [h1, h2]
theorem featE_eq2 (S : Sch) (k : Nat) (hk : k < S.feats.length) : featE S k = if S.feats[k].1 < 0 ∨ (S.attrs.length : Int) ≤ S.feats[k].1 then 2
    else if ((S.feats[k].2.1 == 1 && (S.attrs.getD S.feats[k].1.toNat default).2 == 2 && (S.feats[k].2.2 == 0 || S.feats[k].2.2 == 1)) || (S.feats[k].2.1 == 2 && (S.attrs.getD S.feats[k].1.toNat default).2 == 3 && S.feats[k].2.2 == 0)) = false then 7
    else if (S.feats[k].1 == S.label || (S.feats.take k).any fun g => g.1 == S.feats[k].1) = true then 9 else 0 := by
  have e : S.feats.getD k default = S.feats[k] := by simp [List.getD, hk]
  unfold featE
  rw [e]
theorem any_takeL {l : List (Int × Int × Int)} {q k : Nat} {x : Int} (hq : q < l.length) (hqk : q < k) (h : (l[q].1 == x) = true) : ((l.take k).any fun g => g.1 == x) = true := by
  rw [List.any_eq_true]
  exact ⟨l[q], List.mem_take_iff_getElem.2 ⟨q, by omega, rfl⟩, h⟩
theorem any_snoc {l : List (Int × Int × Int)} {q : Nat} {x : Int} (hq : q < l.length) (h : ((l.take q).any fun g => g.1 == x) = false) (hne : (l[q].1 == x) = false) : ((l.take (q + 1)).any fun g => g.1 == x) = false := by
  rw [List.take_succ_eq_append_getElem hq, List.any_append, h]
  simp only [List.any_cons, List.any_nil, hne, Bool.or_false]
theorem has_take {α : Type} [DecidableEq α] {l : List α} {q k : Nat} {x : α} (hq : q < l.length) (hqk : q < k) (h : l[q] = x) : hasB (l.take k) x = true := by
  unfold hasB
  exact decide_eq_true (List.mem_take_iff_getElem.2 ⟨q, by omega, h⟩)
theorem has_snoc {l : List ByteArray} {q : Nat} {x : ByteArray} (hq : q < l.length) (h : hasB (l.take q) x = false) (hne : ¬ l[q] = x) : hasB (l.take (q + 1)) x = false := hasB_succ hq h hne
theorem beq_str {x y : ByteArray} {b : Bool} (h : decide (x = y) = b) : (x.toList == y.toList) = b := by rw [str_eq]; exact h
set_option maxRecDepth 100000 in
set_option maxHeartbeats 1000000 in
theorem check5_lim (v : Value) (S : Sch) (w : World) {R : Nat → Prop} (h : SchAt w R v S) (hb : SBd S) (hlim : ¬ limB S) :
    Calls Try.prog 49 #[v] w fun e w' => e = .returned (.int .i64 (checkE S)) ∧ Below w.heap.size w w' := by
  obtain ⟨A1, c1, A2, c2, A3, c3, rfl, l1, l2, l3, h1, h2, h3⟩ := h
  have hba := hb.a
  have hbr := hb.r
  have hbf := hb.f
  have HE := Lib.hid (chk_lim hlim)
  have q1 : ((S.attrs.length : Int) == 0) = true ∨ (((S.attrs.length : Int) == 0) = false ∧ 12 < S.attrs.length) ∨ (((S.attrs.length : Int) == 0) = false ∧ S.attrs.length ≤ 12 ∧ ((S.rels.length : Int) == 0) = true) ∨
    (((S.attrs.length : Int) == 0) = false ∧ S.attrs.length ≤ 12 ∧ ((S.rels.length : Int) == 0) = false ∧ 6 < S.rels.length) ∨ (((S.attrs.length : Int) == 0) = false ∧ S.attrs.length ≤ 12 ∧ ((S.rels.length : Int) == 0) = false ∧ S.rels.length ≤ 6 ∧ 8 < S.feats.length) := by
    unfold limB at hlim
    rw [Classical.not_not] at hlim
    simp only [beq_iff_eq, beq_eq_false_iff_ne]
    omega
  clear hlim
  go_enter Try.func49, Try.ntmps49
  rcases q1 with a1 | ⟨a1, a2⟩ | ⟨a1, a2, a3⟩ | ⟨a1, a2, a3, a4⟩ | ⟨a1, a2, a3, a4, a5⟩
  all_goals
    go_wp2
    go_ret
    exact ⟨ret_int HE.out.symm, (Below.refl _ _).alloc (Nat.le_refl _) _⟩
end Go.Proofs.Ytopblgabadljdaa
