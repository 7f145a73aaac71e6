/-
  The walk of the reference's Check: it answers as the plain function checkE.
-/
import Derived.Test.YtopblgabadljdaaRChkL
import Derived.Deep.DeepCutAuto
namespace Go.Proofs.Ytopblgabadljdaa
open Go.RowKit

set_option maxRecDepth 100000 in
set_option maxHeartbeats 4000000 in
theorem check5_any (v : Value) (S : Sch) (w : World) {R : Nat → Prop} (h : SchAt w R v S) (hb : SBd S) :
    Calls Try.prog 49 #[v] w fun e w' => e = .returned (.int .i64 (checkE S)) ∧ Below w.heap.size w w' := by
  by_cases hlim : ¬ limB S
  · exact check5_lim v S w h hb hlim
  rw [Classical.not_not] at hlim
  obtain ⟨A1, c1, A2, c2, A3, c3, rfl, l1, l2, l3, h1, h2, h3⟩ := h
  have h2 := h2.mono (R' := (· < w.heap.size)) fun b hlt _ => hlt
  have hba := hb.a
  have hbr := hb.r
  have hbf := hb.f
  have HLIM := Lib.hid hlim
  have q1 : 1 ≤ S.attrs.length ∧ S.attrs.length ≤ 12 ∧ 1 ≤ S.rels.length ∧ S.rels.length ≤ 6 ∧ S.feats.length ≤ 8 := by unfold limB at hlim; omega
  clear hlim
  obtain ⟨q1, q2, q3, q4, q5⟩ := q1
  have b1 : ((S.attrs.length : Int) == 0) = false := by rw [beq_eq_false_iff_ne]; omega
  have b2 : ((S.rels.length : Int) == 0) = false := by rw [beq_eq_false_iff_ne]; omega
  go_enter Try.func49, Try.ntmps49
  go_wp2
  clear b1 b2
  have hbx := Blk.new w 28 #[Value.slice A1 S.attrs.length c1, Value.slice A2 S.rels.length c2, Value.slice A3 S.feats.length c3, Value.int IntKind.i64 S.label]
  have hbel1 : Below w.heap.size w (w.alloc (.cells #[Value.slice A1 S.attrs.length c1, Value.slice A2 S.rels.length c2, Value.slice A3 S.feats.length c3, Value.int IntKind.i64 S.label] 28)) := (Below.refl _ _).alloc (Nat.le_refl _) _
  generalize (w.alloc (.cells #[Value.slice A1 S.attrs.length c1, Value.slice A2 S.rels.length c2, Value.slice A3 S.feats.length c3, Value.int IntKind.i64 S.label] 28)) = w1 at *
  have HBX := Lib.hid hbx
  clear hbx
  go_loopw [51] (fun i wr => ∃ k : Nat, k ≤ S.attrs.length ∧ i = .int .i64 k ∧ Hid (scanE (attrE S) k = 0) ∧ Below w1.heap.size w1 wr) (fun i _ => S.attrs.length - (intOf i).toNat)
  case atStart => exact ⟨0, Nat.zero_le _, rfl, Lib.hid rfl, Below.refl _ _⟩
  case round =>
    obtain ⟨k, hk, rfl, HSC, hbel⟩ := hrel
    by_cases hlt : k < S.attrs.length
    · --A{
      have hrow1 := h1.ext (ext_trans hbel1 hbel)
      obtain ⟨b, off, rfl, hbb, hc1, hc2⟩ := attr_at hrow1 hlt
      have hsz := hb.an _ (List.getElem_mem hlt)
      have HAE := Lib.hid (attrE_eq S k hlt)
      have HRET := Lib.hid (fun (h : attrE S k ≠ 0) => chk_attr HLIM.out hlt HSC.out h)
      have HNX := Lib.hid (fun (h : attrE S k = 0) => show scanE (attrE S) (k + 1) = 0 by rw [scanE_succ HSC.out]; exact h)
      generalize hnm : S.attrs[k].1 = nm0 at *
      generalize hkd : S.attrs[k].2 = kd at *
      clear hnm hkd
      cases hwd : wordB nm0
      · have HF : Hid (attrE S k = 14) := Lib.hid (by rw [HAE.out, if_pos hwd])
        have CW := Lib.hid (hwd ▸ word5_any nm0 (wr.alloc (.cells #[.string nm0, .int .i64 kd] 81)) hsz)
        clear hwd
        go_wp2_with (go_at_call 60; go_must (refine CW.out.mono ?_; rintro e w2 ⟨rfl, rfl⟩))
        go_ret
        exact ⟨ret_int (by rw [HRET.out (by rw [HF.out]; decide), HF.out]), (ext_trans hbel1 hbel).alloc (by have := (ext_trans hbel1 hbel).size; omega) _⟩
      · have CW := Lib.hid (hwd ▸ word5_any nm0 (wr.alloc (.cells #[.string nm0, .int .i64 kd] 81)) hsz)
        have HWD := Lib.hid hwd
        clear hwd
        go_wp2_with (go_at_call 60; go_must (refine CW.out.mono ?_; rintro e w2 ⟨rfl, rfl⟩))
        have hb2 : Below wr.heap.size wr (wr.alloc (.cells #[.string nm0, .int .i64 kd] 81)) := (Below.refl _ _).alloc (Nat.le_refl _) _
        have hba2 := Blk.new wr 81 #[.string nm0, .int .i64 kd]
        generalize (wr.alloc (.cells #[.string nm0, .int .i64 kd] 81)) = w2 at *
        have hbel2 := ext_trans hbel hb2
        have hrow2 := hrow1.ext hb2
        have hbx2 := HBX.out.ext hbel2
        have x0 := hbx2.cell 0
        have a0 := hba2.cell 0
        have a1 := hba2.cell 1
        simp at x0 a0 a1
        have hbw := ext_trans hbel1 hbel2
        clear hbx2 hba2 hc1 hc2 hrow1 CW
        go_loopw [5] (fun t wq => ∃ q n : Nat, q ≤ k ∧ t = .int .i64 q ∧ Hid (hasB ((S.attrs.map (·.1)).take q) nm0 = false) ∧ wq = w2.drewN n) (fun t _ => k - (intOf t).toNat)
        case atStart => exact ⟨0, 0, Nat.zero_le _, rfl, Lib.hid (by simp [hasB]), rfl⟩
        case round =>
          obtain ⟨q, n, hq, rfl, HNH, rfl⟩ := hrel
          by_cases hqk : q < k
          · have hqa : q < S.attrs.length := by omega
            obtain ⟨b', off', e', _, cq, _⟩ := attr_at hrow2 hqa
            simp at e'
            obtain ⟨rfl, rfl⟩ := e'
            have i1 : (0 : Int) ≤ (q : Int) := by omega
            have i2 : (q : Int) < (S.attrs.length : Int) := by omega
            have HTK := Lib.hid (has_take (l := S.attrs.map (·.1)) (q := q) (k := k) (x := nm0) (by simpa using hqa) hqk)
            have HSN := Lib.hid (has_snoc (l := S.attrs.map (·.1)) (q := q) (x := nm0) (by simpa using hqa) HNH.out)
            have HGE : Hid ((S.attrs.map (·.1))[q]'(by simpa using hqa) = S.attrs[q].1) := Lib.hid (by simp)
            by_cases heq : S.attrs[q].1 = nm0
            · have hbq := beq_str (decide_eq_true heq)
              have HF : Hid (attrE S k = 9) := Lib.hid (by rw [HAE.out, if_neg (by simp [HWD.out]), if_pos (HTK.out (by rw [HGE.out]; exact heq))])
              clear heq
              go_wp2
              go_quiet (fail)
              go_wp2
              go_ret
              exact ⟨ret_int (by rw [HRET.out (by rw [HF.out]; decide), HF.out]), below_drewN (below_drewN hbw _) _⟩
            · have hbq := beq_str (decide_eq_false heq)
              have HNE := Lib.hid heq
              clear heq
              go_wp2
              go_quiet (fail)
              go_wp2
              exact ⟨⟨q + 1, _, by omega, by go_num, Lib.hid (HSN.out (by rw [HGE.out]; exact HNE.out)), rfl⟩, by simp [intOf]; omega⟩
          · obtain rfl : q = k := by omega
            have hd1 : decide (q < q) = false := by simp
            have hkd : (1 ≤ kd ∧ kd ≤ 3) ∨ kd < 1 ∨ 3 < kd := by omega
            have HN0 : Hid (attrE S q = if kd < 1 ∨ 3 < kd then 7 else 0) := Lib.hid (by rw [HAE.out, if_neg (by simp [HWD.out]), if_neg (by rw [HNH.out]; decide)])
            rcases hkd with ⟨k1, k2⟩ | k1 | k1
            · go_wp2
              exact ⟨⟨q + 1, by omega, by go_num, Lib.hid (HNX.out (by rw [HN0.out, if_neg (by omega)])), below_drewN hbel2 _⟩, by simp [intOf]; omega⟩
            · have HF : Hid (attrE S q = 7) := Lib.hid (by rw [HN0.out, if_pos (by omega)])
              go_wp2
              go_ret
              exact ⟨ret_int (by rw [HRET.out (by rw [HF.out]; decide), HF.out]), below_drewN hbw _⟩
            · have HF : Hid (attrE S q = 7) := Lib.hid (by rw [HN0.out, if_pos (by omega)])
              go_wp2
              go_ret
              exact ⟨ret_int (by rw [HRET.out (by rw [HF.out]; decide), HF.out]), below_drewN hbw _⟩
      --A}
    · obtain rfl : k = S.attrs.length := by omega
      obtain ⟨wA, rfl⟩ : ∃ wA : World, wA = wr := ⟨_, rfl⟩
      have hbxA := HBX.out.ext hbel
      have x0 := hbxA.cell 0
      have x1 := hbxA.cell 1
      simp at x0 x1
      have HBXA := Lib.hid hbxA
      have hxlA := hbxA.lt
      have hbelA := ext_trans hbel1 hbel
      have HSA := HSC
      obtain ⟨ib, hib, hz0, hz1, hz2⟩ := info_parts Try.infoBool
      have hd1 : decide (S.attrs.length < S.attrs.length) = false := by simp
      clear hbxA HSC HBX
      go_wp2_with (
        at_make
        go_must (
          refine wpList_make_full _ rfl _ _ 36 rfl wA.heap.size 4 ib (.bool false) 1 Try.underlying36 hib hz0 hz1 _ _ _ _ S.attrs.length rfl rfl rfl rfl (by rw [hz2]; omega) (by simp [maxLen]; omega) (by simp) ?_
          intro w3 hown3 hg3
          have hownu3 : w3.ownsRow wA.heap.size 4 1 (.slice (some ⟨wA.heap.size, 0, none⟩) S.attrs.length S.attrs.length) S.attrs.length (bools (usedTo S 0 [])) := by
            rw [usedTo_zero, bools, List.map_replicate, ← made_one (.bool false) rfl]; exact hown3
          have hb3 := ext_of_grown hg3
          have x1' : w3.cell? ⟨w.heap.size, 1, none⟩ = _ := (hb3.cell (p := ⟨w.heap.size, 1, none⟩) hxlA).trans x1
          clear hown3 hg3 x0 x1))
      clear hd1 hib hz0 hz1 hz2 x1'
      go_loopw [90] (fun i wr => ∃ k : Nat, k ≤ S.rels.length ∧ i = .int .i64 k ∧ Hid (scanE (relE S) k = 0) ∧ wr.ownsRow wA.heap.size 4 1 (.slice (some ⟨wA.heap.size, 0, none⟩) S.attrs.length S.attrs.length) S.attrs.length (bools (usedTo S k [])) ∧ Below wA.heap.size wA wr) (fun i _ => S.rels.length - (intOf i).toNat)
      case atStart => exact ⟨0, Nat.zero_le _, rfl, Lib.hid rfl, hownu3, hb3⟩
      case round =>
        clear hownu3 hb3
        obtain ⟨k, hk, rfl, HSC, hownu, hbel3⟩ := hrel
        by_cases hlt : k < S.rels.length
        · --A{
          have hbw3 := ext_trans hbelA hbel3
          have hrows := h2.keep hbw3.size fun b _ hlt => hbw3.block b hlt
          obtain ⟨b, off, A', c', rfl, hR, hbb, hc1, hc2, hrowk⟩ := hrows.at_ hlt
          have hsz := hb.rn _ (List.getElem_mem hlt)
          have hrl := hb.rl _ (List.getElem_mem hlt)
          have HAE := Lib.hid (relE_eq2 S k hlt)
          have HUN := Lib.hid (usedTo_next S k hlt)
          have HRET := Lib.hid (fun (h : relE S k ≠ 0) => chk_rel HLIM.out HSA.out hlt HSC.out h)
          have HNX := Lib.hid (fun (h : relE S k = 0) => show scanE (relE S) (k + 1) = 0 by rw [scanE_succ HSC.out]; exact h)
          generalize hnm : S.rels[k].1 = nm0 at *
          generalize hkd : S.rels[k].2 = L at *
          clear hnm hkd
          cases hwd : wordB nm0
          · have HF : Hid (relE S k = 14) := Lib.hid (by rw [HAE.out, if_pos hwd])
            have CW := Lib.hid (hwd ▸ word5_any nm0 (wr.alloc (.cells #[.string nm0, .slice A' L.length c'] 33)) hsz)
            clear hwd
            go_wp2_with (go_at_call 60; go_must (refine CW.out.mono ?_; rintro e w2 ⟨rfl, rfl⟩))
            go_ret
            exact ⟨ret_int (by rw [HRET.out (by rw [HF.out]; decide), HF.out]), hbw3.alloc hbw3.size _⟩
          · have CW := Lib.hid (hwd ▸ word5_any nm0 (wr.alloc (.cells #[.string nm0, .slice A' L.length c'] 33)) hsz)
            have HWD := Lib.hid hwd
            clear hwd
            go_wp2_with (go_at_call 60; go_must (refine CW.out.mono ?_; rintro e w2 ⟨rfl, rfl⟩))
            have hb2 : Below wr.heap.size wr (wr.alloc (.cells #[.string nm0, .slice A' L.length c'] 33)) := (Below.refl _ _).alloc (Nat.le_refl _) _
            have hba2 := Blk.new wr 33 #[.string nm0, .slice A' L.length c']
            have hul : wA.heap.size < wr.heap.size := (hownu.lt _ rfl).2
            have hownu2 := hownu.alloc (.cells #[.string nm0, .slice A' L.length c'] 33)
            generalize (wr.alloc (.cells #[.string nm0, .slice A' L.length c'] 33)) = w2 at *
            have hbel2 := ext_trans hbel3 hb2
            have hrow2 := hrows.keep hb2.size fun b _ hlt => hb2.block b hlt
            have hrowk2 := hrowk.ext hb2
            have hbx2 := HBXA.out.ext hbel2
            have x1 := hbx2.cell 1
            have a0 := hba2.cell 0
            have a1 := hba2.cell 1
            simp at x1 a0 a1
            have hbw := ext_trans hbelA hbel2
            have HBA2 := Lib.hid hba2
            have hwrA := hbel3.size
            clear hbx2 hba2 hc1 hc2 hrows hrowk CW hownu
            go_loopw [9] (fun t wq => ∃ q n : Nat, q ≤ k ∧ t = .int .i64 q ∧ Hid (hasB ((S.rels.map (·.1)).take q) nm0 = false) ∧ wq = w2.drewN n) (fun t _ => k - (intOf t).toNat)
            case atStart => exact ⟨0, 0, Nat.zero_le _, rfl, Lib.hid (by simp [hasB]), rfl⟩
            case round =>
              obtain ⟨q, n, hq, rfl, HNH, rfl⟩ := hrel
              by_cases hqk : q < k
              · have hqa : q < S.rels.length := by omega
                obtain ⟨b', off', _, _, e', _, _, cq, _, _⟩ := hrow2.at_ hqa
                simp at e'
                obtain ⟨rfl, rfl⟩ := e'
                have i1 : (0 : Int) ≤ (q : Int) := by omega
                have i2 : (q : Int) < (S.rels.length : Int) := by omega
                have HTK := Lib.hid (has_take (l := S.rels.map (·.1)) (q := q) (k := k) (x := nm0) (by simpa using hqa) hqk)
                have HSN := Lib.hid (has_snoc (l := S.rels.map (·.1)) (q := q) (x := nm0) (by simpa using hqa) HNH.out)
                have HGE : Hid ((S.rels.map (·.1))[q]'(by simpa using hqa) = S.rels[q].1) := Lib.hid (by simp)
                by_cases heq : S.rels[q].1 = nm0
                · have hbq := beq_str (decide_eq_true heq)
                  have HF : Hid (relE S k = 9) := Lib.hid (by rw [HAE.out, if_neg (by simp [HWD.out]), if_pos (HTK.out (by rw [HGE.out]; exact heq))])
                  clear heq
                  go_wp2
                  go_quiet (fail)
                  go_wp2
                  go_ret
                  exact ⟨ret_int (by rw [HRET.out (by rw [HF.out]; decide), HF.out]), below_drewN (below_drewN hbw _) _⟩
                · have hbq := beq_str (decide_eq_false heq)
                  have HNE := Lib.hid heq
                  clear heq
                  go_wp2
                  go_quiet (fail)
                  go_wp2
                  exact ⟨⟨q + 1, _, by omega, by go_num, Lib.hid (HSN.out (by rw [HGE.out]; exact HNE.out)), rfl⟩, by simp [intOf]; omega⟩
              · obtain rfl : q = k := by omega
                have HN0 : Hid (relE S q = if L = [] then 7 else if (L.all fun a => decide (0 ≤ a) && decide (a < S.attrs.length)) = false then 2 else if ascB L = false then 10 else 0) := Lib.hid (by rw [HAE.out, if_neg (by simp [HWD.out]), if_neg (by rw [HNH.out]; decide)])
                clear HAE HNH HWD
                have hd1 : decide (q < q) = false := by simp
                have hlc : (((L.length : Nat) : Int) == 0) = true ∧ L = [] ∨ (((L.length : Nat) : Int) == 0) = false ∧ L ≠ [] ∧ 1 ≤ L.length := by
                  rcases Classical.em (L = []) with h | h
                  · subst h; exact .inl ⟨rfl, rfl⟩
                  · have : 0 < L.length := List.length_pos_iff.2 h
                    exact .inr ⟨by rw [beq_eq_false_iff_ne]; omega, h, this⟩
                rcases hlc with ⟨hl0, hle⟩ | ⟨hl0, hle, hl1⟩
                · have HF : Hid (relE S q = 7) := Lib.hid (by rw [HN0.out, if_pos hle])
                  clear hle
                  go_wp2
                  go_ret
                  exact ⟨ret_int (by rw [HRET.out (by rw [HF.out]; decide), HF.out]), below_drewN hbw _⟩
                · have HLE := Lib.hid hle
                  clear hle
                  obtain ⟨w5, hw5⟩ : ∃ w5, w5 = w2.drewN n := ⟨_, rfl⟩
                  have hb5 : Below w2.heap.size w2 w5 := by rw [hw5]; exact below_drewN (Below.refl _ _) _
                  have hu5 := hownu2.kept (grown_of_ext hb5 none) (by simp [Value.ownBlock])
                  have hrowk5 := hrowk2.ext hb5
                  have HBA5 := Lib.hid (HBA2.out.ext hb5)
                  have hbel5 := ext_trans hbel2 hb5
                  have a1' := HBA5.out.cell 1
                  simp at a1'
                  have hal := HBA2.out.lt
                  have hs5 := hb5.size
                  rw [← hw5]
                  clear hw5 x1 a0 a1 hownu2 hrowk2 HBA2 hrow2
                  go_wp2
                  clear hd1 hl0
                  go_loopw [120] (fun i wq => ∃ j : Nat, j ≤ L.length ∧ i = .int .i64 j ∧ wq.ownsRow wA.heap.size 4 1 (.slice (some ⟨wA.heap.size, 0, none⟩) S.attrs.length S.attrs.length) S.attrs.length (bools (usedTo S q (L.take j))) ∧
                    Hid (∀ a ∈ L.take j, 0 ≤ a ∧ a < S.attrs.length) ∧ w5.grownBy wq (some wA.heap.size)) (fun i _ => L.length - (intOf i).toNat)
                  case atStart => exact ⟨0, Nat.zero_le _, rfl, hu5, Lib.hid (by simp), World.grownBy.refl _ _⟩
                  case round =>
                    obtain ⟨j, hj, rfl, huj, HAJ, hgj⟩ := hrel
                    have hbelj : Below wA.heap.size wA wr := hbel5.grown hgj hbel5.size (fun g e => by injection e with e; omega)
                    have hbwj := ext_trans hbelA hbelj
                    by_cases hjl : j < L.length
                    · obtain ⟨b', off', rfl, hbb', hcj⟩ := (hrowk5.keep hgj.size fun b _ _ hRb hlt => hgj.block b hlt (by have := hbelA.size; simp; omega)).int_at hjl
                      have hrange : L[j] < 0 ∨ (0 ≤ L[j] ∧ (S.attrs.length : Int) ≤ L[j]) ∨ (0 ≤ L[j] ∧ L[j] < S.attrs.length) := by omega
                      have HF := Lib.hid (fun (h : ¬ (0 ≤ L[j] ∧ L[j] < S.attrs.length)) => show relE S q = 2 by rw [HN0.out, if_neg HLE.out, if_pos (rng_no hjl h)])
                      rcases hrange with hr | ⟨hr1, hr2⟩ | ⟨hr1, hr2⟩
                      · go_wp2
                        go_ret
                        have hf := HF.out (by omega)
                        exact ⟨ret_int (by rw [HRET.out (by rw [hf]; decide), hf]), hbwj⟩
                      · go_wp2
                        go_ret
                        have hf := HF.out (by omega)
                        exact ⟨ret_int (by rw [HRET.out (by rw [hf]; decide), hf]), hbwj⟩
                      · obtain ⟨an, han⟩ := Int.eq_ofNat_of_zero_le hr1
                        have htj : L.take (j + 1) = L.take j ++ [(an : Int)] := by rw [List.take_succ_eq_append_getElem hjl, han]
                        have HTJ := Lib.hid htj
                        rw [han] at hr1 hr2 hcj
                        have hanl : an < S.attrs.length := by omega
                        have hcu : wr.cell? ⟨wA.heap.size, an, none⟩ = some (.bool ((usedTo S q (L.take j))[an]'(by rw [usedTo_len]; exact hanl))) := by
                          rw [huj.cellAt an (by omega), List.getElem?_map, List.getElem?_eq_getElem (by rw [usedTo_len]; exact hanl)]; rfl
                        have hfu := huj.frozenAt an
                        have hst := huj.stored an (.bool true)
                        clear htj han HF
                        go_wp2
                        refine ⟨⟨j + 1, by omega, by go_num, ?_, Lib.hid ?_, ?_⟩, by simp [intOf]; omega⟩
                        · rw [HTJ.out, usedTo_step, bools, List.map_set]; exact hst.1
                        · intro a ha
                          rw [HTJ.out] at ha
                          rcases List.mem_append.1 ha with h | h
                          · exact HAJ.out a h
                          · simp at h; subst h; exact ⟨hr1, hr2⟩
                        · exact grown_trans hgj hst.2 (fun g e _ => e)
                    · have hjL : L.take j = L := List.take_of_length_le (by omega)
                      rw [hjL] at huj
                      have HALL := Lib.hid (rng_yes (l := L) (n := S.attrs.length) (fun a ha => HAJ.out a (by rw [hjL]; exact ha)))
                      have HBAj := Lib.hid (HBA5.out.grown hgj (by simp; omega))
                      have z1 := HBAj.out.cell 1
                      simp at z1
                      have hrw := hrowk5.keep hgj.size fun b _ _ hRb hlt => hgj.block b hlt (by have := hbelA.size; simp; omega)
                      clear hjL HAJ a1'
                      obtain ⟨wp, rfl⟩ : ∃ wp : World, wp = wr := ⟨_, rfl⟩
                      have hd1 : decide (j < L.length) = false := by simp; omega
                      go_wp2
                      clear hd1
                      go_loopw [12] (fun i wq => ∃ p n : Nat, 1 ≤ p ∧ p ≤ L.length ∧ i = .int .i64 p ∧ Hid (∀ x, x + 1 < p → L.getD x 0 < L.getD (x + 1) 0) ∧ wq = wp.drewN n) (fun i _ => L.length - (intOf i).toNat)
                      case atStart => exact ⟨1, 0, by omega, by omega, rfl, Lib.hid fun p hp => absurd hp (by omega), rfl⟩
                      case round =>
                        obtain ⟨p, n', hp1, hp2, rfl, HAS, rfl⟩ := hrel
                        by_cases hpl : p < L.length
                        · obtain ⟨b', off', hA, hbb', hcq⟩ := hrw.int_at hpl
                          obtain ⟨b2, off2, hA2, _, hcq2⟩ := hrw.int_at (show p - 1 < L.length by omega)
                          subst hA
                          simp at hA2
                          obtain ⟨rfl, rfl⟩ := hA2
                          have i1 : IntKind.i64.wrap ((p : Int) - 1) = ((p - 1 : Nat) : Int) := by rw [show ((p : Int) - 1) = ((p - 1 : Nat) : Int) by omega]; exact IntWalk.i64_in _ (by omega)
                          have i2 : (0 : Int) ≤ (p : Int) := by omega
                          have i3 : (p : Int) < (L.length : Int) := by omega
                          have i4 : (0 : Int) ≤ ((p - 1 : Nat) : Int) := by omega
                          have i5 : ((p - 1 : Nat) : Int) < (L.length : Int) := by omega
                          have HGQ : Hid (L.getD p 0 = L[p]) := Lib.hid (by simp [List.getD, hpl])
                          have HGQ1 : Hid (L.getD (p - 1) 0 = L[p - 1]) := Lib.hid (by simp [List.getD, show p - 1 < L.length by omega])
                          by_cases hle2 : L[p] ≤ L[p - 1]
                          · have HF : Hid (relE S q = 10) := Lib.hid (by rw [HN0.out, if_neg HLE.out, if_neg (by rw [HALL.out]; decide), if_pos (asc_no hp1 hpl hle2)])
                            go_wp2
                            go_quiet (fail)
                            go_wp2
                            go_ret
                            exact ⟨ret_int (by rw [HRET.out (by rw [HF.out]; decide), HF.out]), below_drewN (below_drewN hbwj _) _⟩
                          · go_wp2
                            go_quiet (fail)
                            go_wp2
                            refine ⟨⟨p + 1, _, by omega, by omega, by go_num, Lib.hid ?_, rfl⟩, by simp [intOf]; omega⟩
                            intro x hx
                            by_cases e : x + 1 < p
                            · exact HAS.out x e
                            · obtain rfl : p = x + 1 := by omega
                              have hg : L.getD (x + 1 - 1) 0 < L.getD (x + 1) 0 := by rw [HGQ.out, HGQ1.out]; omega
                              exact hg
                        · have HASC := Lib.hid (asc_yes (l := L) (fun x hx => HAS.out x (by omega)))
                          have hd2 : decide (p < L.length) = false := by simp; omega
                          have HF : Hid (relE S q = 0) := Lib.hid (by rw [HN0.out, if_neg HLE.out, if_neg (by rw [HALL.out]; decide), if_neg (by rw [HASC.out]; decide)])
                          go_wp2
                          exact ⟨⟨q + 1, by omega, by go_num, Lib.hid (HNX.out HF.out), by rw [← HUN.out]; exact huj, below_drewN hbelj _⟩, by simp [intOf]; omega⟩
          --A}
        · obtain rfl : k = S.rels.length := by omega
          obtain ⟨wB, rfl⟩ : ∃ wB : World, wB = wr := ⟨_, rfl⟩
          have hbwB := ext_trans hbelA hbel3
          have HSR := HSC
          have hd1 : decide (S.rels.length < S.rels.length) = false := by simp
          have hcu : ∀ a (ha : a < S.attrs.length), wB.cell? ⟨wA.heap.size, a, none⟩ = some (.bool (usedB S a)) := by
            intro a ha
            rw [hownu.cellAt a (by omega), List.getElem?_map, List.getElem?_eq_getElem (by rw [usedTo_len]; exact ha)]
            simp [usedTo, usedB, inB]
          have HCU := Lib.hid hcu
          have HBXB := Lib.hid (HBXA.out.ext hbel3)
          clear hcu HSC hownu
          go_wp2
          clear hd1
          go_loop [158] (fun i => ∃ k : Nat, k ≤ S.attrs.length ∧ i = .int .i64 k ∧ Hid (∀ a, a < k → usedB S a = true)) (fun i => S.attrs.length - (intOf i).toNat)
          case atStart => exact ⟨0, Nat.zero_le _, rfl, Lib.hid fun a ha => absurd ha (by omega)⟩
          case round =>
            obtain ⟨k, hk2, rfl, HUS⟩ := hrel
            by_cases hlt : k < S.attrs.length
            · have hck := HCU.out k hlt
              have HNO := Lib.hid (fun (h : usedB S k = false) => chk_used HLIM.out HSA.out HSR.out (by rw [List.all_eq_false]; exact ⟨k, by simpa using hlt, by simp [h]⟩))
              have HYES := Lib.hid (fun (h : usedB S k = true) (a : Nat) (ha : a < k + 1) => show usedB S a = true by
                by_cases e : a < k
                · exact HUS.out a e
                · obtain rfl : a = k := by omega
                  exact h)
              cases hu : usedB S k
              · rw [hu] at hck
                go_wp2
                go_ret
                exact ⟨ret_int (HNO.out hu).symm, hbwB⟩
              · rw [hu] at hck
                go_wp2
                exact ⟨⟨k + 1, by omega, by go_num, Lib.hid (HYES.out hu)⟩, by simp [intOf]; omega⟩
            · obtain rfl : k = S.attrs.length := by omega
              have HRZ := Lib.hid (rels_zero HSR.out (by rw [List.all_eq_true]; intro a ha; exact HUS.out a (by simpa using ha)))
              have hd1 : decide (S.attrs.length < S.attrs.length) = false := by simp
              have x2 := HBXB.out.cell 2
              simp at x2
              clear HSR HUS HCU
              go_wp2
              clear hd1
              go_loopw [168] (fun i wr => ∃ k : Nat, k ≤ S.feats.length ∧ i = .int .i64 k ∧ Hid (scanE (featE S) k = 0) ∧ Below wB.heap.size wB wr) (fun i _ => S.feats.length - (intOf i).toNat)
              case atStart => exact ⟨0, Nat.zero_le _, rfl, Lib.hid rfl, Below.refl _ _⟩
              case round =>
                clear x2
                obtain ⟨k, hk3, rfl, HSC, hbel4⟩ := hrel
                have hbw4 := ext_trans hbwB hbel4
                by_cases hlt : k < S.feats.length
                · have hrowf := h3.ext hbw4
                  obtain ⟨bf, offf, rfl, hbbf, f0, f1, f2⟩ := feat_at hrowf hlt
                  have HFE := Lib.hid (featE_eq2 S k hlt)
                  have HRET := Lib.hid (fun (h : featE S k ≠ 0) => chk_feat HLIM.out HSA.out HRZ.out hlt HSC.out h)
                  have HNX := Lib.hid (fun (h : featE S k = 0) => show scanE (featE S) (k + 1) = 0 by rw [scanE_succ HSC.out]; exact h)
                  generalize ha : S.feats[k].1 = fa at *
                  generalize hkk : S.feats[k].2.1 = fk at *
                  generalize hmm : S.feats[k].2.2 = fm at *
                  clear ha hkk hmm
                  have hrange : fa < 0 ∨ (0 ≤ fa ∧ (S.attrs.length : Int) ≤ fa) ∨ (0 ≤ fa ∧ fa < S.attrs.length) := by omega
                  rcases hrange with hr | ⟨hr1, hr2⟩ | ⟨hr1, hr2⟩
                  · have HF : Hid (featE S k = 2) := Lib.hid (by rw [HFE.out, if_pos (by omega)])
                    go_wp2
                    go_ret
                    exact ⟨ret_int (by rw [HRET.out (by rw [HF.out]; decide), HF.out]), hbw4.alloc hbw4.size _⟩
                  · have HF : Hid (featE S k = 2) := Lib.hid (by rw [HFE.out, if_pos (by omega)])
                    go_wp2
                    go_ret
                    exact ⟨ret_int (by rw [HRET.out (by rw [HF.out]; decide), HF.out]), hbw4.alloc hbw4.size _⟩
                  · obtain ⟨an, rfl⟩ := Int.eq_ofNat_of_zero_le hr1
                    have hanl : an < S.attrs.length := by omega
                    obtain ⟨ba, offa, rfl, hbba, ga, gk⟩ := attr_at (h1.ext hbw4) hanl
                    have hkd : (S.attrs.getD ((an : Int)).toNat default).2 = S.attrs[an].2 := by simp [List.getD, hanl]
                    rw [hkd] at HFE
                    clear hkd ga
                    generalize S.attrs[an].2 = kd at *
                    have hb5 : Below wr.heap.size wr (wr.alloc (.cells #[.int .i64 (an : Int), .int .i64 fk, .int .i64 fm] 83)) := (Below.refl _ _).alloc (Nat.le_refl _) _
                    have hbf5 := Blk.new wr 83 #[.int .i64 (an : Int), .int .i64 fk, .int .i64 fm]
                    go_upto_region 53 with fail
                    generalize (wr.alloc (.cells #[.int .i64 (an : Int), .int .i64 fk, .int .i64 fm] 83)) = w5 at *
                    have hbel5 := ext_trans hbel4 hb5
                    have hbw5 := ext_trans hbwB hbel5
                    have hbx5 := HBXB.out.ext hbel5
                    have x0 := hbx5.cell 0
                    have x2 := hbx5.cell 2
                    have x3 := hbx5.cell 3
                    have v0 := hbf5.cell 0
                    have v1 := hbf5.cell 1
                    have v2 := hbf5.cell 2
                    have gk5 : w5.cell? ⟨ba, offa + an * 2 + 1, none⟩ = _ := (hb5.cell (p := ⟨ba, offa + an * 2 + 1, none⟩) hbba).trans gk
                    simp at x0 x2 x3 v0 v1 v2
                    have hrowf5 := hrowf.ext hb5
                    clear hbx5 hbf5 f0 f1 f2 hrowf gk
                    go_cut [17] (fun nv wx => ∃ nb : Bool, nv = .bool nb ∧ Hid (nb = (fk == 1 && (fm == 0 || fm == 1) && kd == 2)) ∧ wx = w5)
                    case first =>
                      cases e1 : (fk == 1)
                      · have E1 := Lib.hid e1
                        go_wp2_with fail
                        go_meet
                        exact ⟨false, rfl, Lib.hid (by rw [E1.out]; rfl), rfl⟩
                      · have E1 := Lib.hid e1
                        cases e2 : (fm == 0)
                        · have E2 := Lib.hid e2
                          cases e3 : (fm == 1)
                          · have E3 := Lib.hid e3
                            go_wp2_with fail
                            go_meet
                            exact ⟨false, rfl, Lib.hid (by rw [E1.out, E2.out, E3.out]; rfl), rfl⟩
                          · have E3 := Lib.hid e3
                            go_wp2_with fail
                            go_meet
                            exact ⟨kd == 2, rfl, Lib.hid (by rw [E1.out, E2.out, E3.out]; rfl), rfl⟩
                        · have E2 := Lib.hid e2
                          go_wp2_with fail
                          go_meet
                          exact ⟨kd == 2, rfl, Lib.hid (by rw [E1.out, E2.out]; rfl), rfl⟩
                    case rest =>
                      obtain ⟨nb, rfl, HNB, rfl⟩ := hcut
                      go_upto_region 54 with fail
                      go_cut [18] (fun nv wx => ∃ hb' : Bool, nv = .bool hb' ∧ Hid (hb' = (fk == 2 && fm == 0 && kd == 3)) ∧ wx = wc)
                      case first =>
                        cases e1 : (fk == 2)
                        · have E1 := Lib.hid e1
                          go_wp2_with fail
                          go_meet
                          exact ⟨false, rfl, Lib.hid (by rw [E1.out]; rfl), rfl⟩
                        · have E1 := Lib.hid e1
                          cases e2 : (fm == 0)
                          · have E2 := Lib.hid e2
                            go_wp2_with fail
                            go_meet
                            exact ⟨false, rfl, Lib.hid (by rw [E1.out, E2.out]; rfl), rfl⟩
                          · have E2 := Lib.hid e2
                            go_wp2_with fail
                            go_meet
                            exact ⟨kd == 3, rfl, Lib.hid (by rw [E1.out, E2.out]; rfl), rfl⟩
                      case rest =>
                        obtain ⟨hb', rfl, HHB, rfl⟩ := hcut
                        have HOK : Hid ((fk == 1 && kd == 2 && (fm == 0 || fm == 1) || fk == 2 && kd == 3 && fm == 0) = (nb || hb')) := Lib.hid (by
                          rw [HNB.out, HHB.out]
                          cases (fk == 1) <;> cases (kd == 2) <;> cases (fm == 0) <;> cases (fm == 1) <;> cases (fk == 2) <;> cases (kd == 3) <;> rfl)
                        have HF1 : Hid (featE S k = if (nb || hb') = false then 7 else if ((an : Int) == S.label || (S.feats.take k).any fun g => g.1 == (an : Int)) = true then 9 else 0) := Lib.hid (by rw [HFE.out, if_neg (by omega), HOK.out])
                        clear HNB HHB HOK HFE
                        have hcase : (nb = false ∧ hb' = false) ∨ nb = true ∨ (nb = false ∧ hb' = true) := by cases nb <;> cases hb' <;> simp
                        rcases hcase with ⟨rfl, rfl⟩ | rfl | ⟨rfl, rfl⟩
                        · have HF : Hid (featE S k = 7) := Lib.hid (by rw [HF1.out]; rfl)
                          go_wp2
                          go_ret
                          exact ⟨ret_int (by rw [HRET.out (by rw [HF.out]; decide), HF.out]), hbw5⟩
                        all_goals
                          have HF2 : Hid (featE S k = if ((an : Int) == S.label || (S.feats.take k).any fun g => g.1 == (an : Int)) = true then 9 else 0) := Lib.hid (by rw [HF1.out, if_neg (by simp)])
                          clear HF1
                          go_wp2
                          go_loopw [19] (fun t wq => ∃ q n : Nat, q ≤ k ∧ t = .int .i64 q ∧ Hid (((S.feats.take q).any fun g => g.1 == (an : Int)) = false) ∧ wq = wc.drewN n) (fun t _ => k - (intOf t).toNat)
                          case atStart => exact ⟨0, 0, Nat.zero_le _, rfl, Lib.hid (by simp), rfl⟩
                          case round =>
                            obtain ⟨q, n, hq, rfl, HNH, rfl⟩ := hrel
                            by_cases hqk : q < k
                            · have hqa : q < S.feats.length := by omega
                              obtain ⟨b', off', e', _, cq, _, _⟩ := feat_at hrowf5 hqa
                              simp at e'
                              obtain ⟨rfl, rfl⟩ := e'
                              have i1 : (0 : Int) ≤ (q : Int) := by omega
                              have i2 : (q : Int) < (S.feats.length : Int) := by omega
                              have HTK := Lib.hid (any_take (l := S.feats) (q := q) (k := k) (x := (an : Int)) hqa hqk)
                              have HSN := Lib.hid (any_snoc (l := S.feats) (q := q) (x := (an : Int)) hqa HNH.out)
                              generalize S.feats[q].1 = fq at *
                              cases heq : (fq == (an : Int))
                              · have HEQ := Lib.hid heq
                                go_wp2
                                go_quiet (fail)
                                go_wp2
                                exact ⟨⟨q + 1, _, by omega, by go_num, Lib.hid (HSN.out HEQ.out), rfl⟩, by simp [intOf]; omega⟩
                              · have HF : Hid (featE S k = 9) := Lib.hid (by rw [HF2.out, HTK.out heq]; simp)
                                go_wp2
                                go_quiet (fail)
                                go_wp2
                                go_ret
                                exact ⟨ret_int (by rw [HRET.out (by rw [HF.out]; decide), HF.out]), below_drewN (below_drewN hbw5 _) _⟩
                            · obtain rfl : q = k := by omega
                              have hd1 : decide (q < q) = false := by simp
                              have HF3 : Hid (featE S q = if ((an : Int) == S.label) = true then 9 else 0) := Lib.hid (by rw [HF2.out, HNH.out, Bool.or_false])
                              cases hlb : ((an : Int) == S.label)
                              · have HF : Hid (featE S q = 0) := Lib.hid (by rw [HF3.out, hlb]; rfl)
                                go_wp2
                                exact ⟨⟨q + 1, by omega, by go_num, Lib.hid (HNX.out HF.out), below_drewN hbel5 _⟩, by simp [intOf]; omega⟩
                              · have HF : Hid (featE S q = 9) := Lib.hid (by rw [HF3.out, hlb]; rfl)
                                go_wp2
                                go_ret
                                exact ⟨ret_int (by rw [HRET.out (by rw [HF.out]; decide), HF.out]), below_drewN hbw5 _⟩
                · obtain rfl : k = S.feats.length := by omega
                  have hd1 : decide (S.feats.length < S.feats.length) = false := by simp
                  have HL := Lib.hid (chk_label HLIM.out HSA.out HRZ.out HSC.out)
                  have hbx4 := HBXB.out.ext hbel4
                  have x0 := hbx4.cell 0
                  have x3 := hbx4.cell 3
                  simp at x0 x3
                  have hrow4 := h1.ext hbw4
                  clear hbx4 HSC HRZ HSA
                  generalize hlab : S.label = lb at *
                  clear hlab
                  have hcase : lb < -1 ∨ (S.attrs.length : Int) ≤ lb ∨ lb = -1 ∨ (0 ≤ lb ∧ lb < S.attrs.length) := by omega
                  rcases hcase with hr | hr | rfl | ⟨hr1, hr2⟩
                  · have HF : Hid (checkE S = 2) := Lib.hid (by rw [HL.out, if_pos (by omega)])
                    go_wp2
                    go_ret
                    exact ⟨ret_int HF.out.symm, hbw4⟩
                  · have HF : Hid (checkE S = 2) := Lib.hid (by rw [HL.out, if_pos (by omega)])
                    go_wp2
                    go_ret
                    exact ⟨ret_int HF.out.symm, hbw4⟩
                  · have HF : Hid (checkE S = 0) := Lib.hid (by rw [HL.out, if_neg (by omega), if_neg (by omega)])
                    go_wp2
                    go_ret
                    exact ⟨ret_int HF.out.symm, hbw4⟩
                  · obtain ⟨an, rfl⟩ := Int.eq_ofNat_of_zero_le hr1
                    have hanl : an < S.attrs.length := by omega
                    obtain ⟨ba, offa, rfl, hbba, ga, gk⟩ := attr_at hrow4 hanl
                    have hkd : (S.attrs.getD ((an : Int)).toNat default).2 = S.attrs[an].2 := by simp [List.getD, hanl]
                    rw [hkd] at HL
                    clear hkd ga
                    generalize S.attrs[an].2 = kd at *
                    cases h2k : (kd != 2)
                    · have HF : Hid (checkE S = 0) := Lib.hid (by rw [HL.out, if_neg (by omega), if_neg (by simp at h2k; simp [h2k])])
                      go_wp2
                      go_ret
                      exact ⟨ret_int HF.out.symm, hbw4⟩
                    · have HF : Hid (checkE S = 7) := Lib.hid (by rw [HL.out, if_neg (by omega), if_pos (by simp at h2k; simp [h2k])])
                      go_wp2
                      go_ret
                      exact ⟨ret_int HF.out.symm, hbw4⟩

end Go.Proofs.Ytopblgabadljdaa
