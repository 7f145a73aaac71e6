/-
  Texts of ours, joined: RChk, REar, RRed, DecP, RTree, RCk, RClo, Br, YE, Ops, OpA, OpC. No statement of the program is proved here.
-/
import Derived.Deep.DeepCutAuto
import Derived.Deep.Slices
import Derived.ChangeArms
import Derived.OpenShut
import Derived.Test.YtopblgabadljdaaAe4
namespace Go.Proofs.Ytopblgabadljdaa
open Go.RowKit
set_option maxRecDepth 100000 in
set_option maxHeartbeats 4000000 in
theorem check5_any (v : Value) (S : Sch) (w : World) {R : Nat → Prop} (h : SchAt w R v S) (hb : SBd S) :
    Calls Try.prog 49 #[v] w fun e w' => e = .returned (.int .i64 (checkE S)) ∧ Below w.heap.size w w' := by
  by_cases hlim : ¬ limB S
  · exact check5_lim v S w h hb hlim
  rw [Classical.not_not] at hlim
  obtain ⟨A1, c1, A2, c2, A3, c3, rfl, l1, l2, l3, h1, h2, h3⟩ := h
  have h2 := h2.mono (R' := (· < w.heap.size)) fun b hlt _ => hlt
  have hba := hb.a
  have hbr := hb.r
  have hbf := hb.f
  have HLIM := Lib.hid hlim
  have q1 : 1 ≤ S.attrs.length ∧ S.attrs.length ≤ 12 ∧ 1 ≤ S.rels.length ∧ S.rels.length ≤ 6 ∧ S.feats.length ≤ 8 := by unfold limB at hlim; omega
  clear hlim
  obtain ⟨q1, q2, q3, q4, q5⟩ := q1
  have b1 : ((S.attrs.length : Int) == 0) = false := by rw [beq_eq_false_iff_ne]; omega
  have b2 : ((S.rels.length : Int) == 0) = false := by rw [beq_eq_false_iff_ne]; omega
  go_enter Try.func49, Try.ntmps49
  go_wp2
  clear b1 b2
  have hbx := Blk.new w 28 #[Value.slice A1 S.attrs.length c1, Value.slice A2 S.rels.length c2, Value.slice A3 S.feats.length c3, Value.int IntKind.i64 S.label]
  have hbel1 : Below w.heap.size w (w.alloc (.cells #[Value.slice A1 S.attrs.length c1, Value.slice A2 S.rels.length c2, Value.slice A3 S.feats.length c3, Value.int IntKind.i64 S.label] 28)) := (Below.refl _ _).alloc (Nat.le_refl _) _
  generalize (w.alloc (.cells #[Value.slice A1 S.attrs.length c1, Value.slice A2 S.rels.length c2, Value.slice A3 S.feats.length c3, Value.int IntKind.i64 S.label] 28)) = w1 at *
  have HBX := Lib.hid hbx
  clear hbx
  go_loopw [51] (fun i wr => ∃ k : Nat, k ≤ S.attrs.length ∧ i = .int .i64 k ∧ Hid (scanE (attrE S) k = 0) ∧ Below w1.heap.size w1 wr) (fun i _ => S.attrs.length - (intOf i).toNat)
  case atStart => exact ⟨0, Nat.zero_le _, rfl, Lib.hid rfl, Below.refl _ _⟩
  case round =>
    obtain ⟨k, hk, rfl, HSC, hbel⟩ := hrel
    by_cases hlt : k < S.attrs.length
    · --A{
      have hrow1 := h1.ext (ext_trans hbel1 hbel)
      obtain ⟨b, off, rfl, hbb, hc1, hc2⟩ := attr_at hrow1 hlt
      have hsz := hb.an _ (List.getElem_mem hlt)
      have HAE := Lib.hid (attrE_eq S k hlt)
      have HRET := Lib.hid (fun (h : attrE S k ≠ 0) => chk_attr HLIM.out hlt HSC.out h)
      have HNX := Lib.hid (fun (h : attrE S k = 0) => show scanE (attrE S) (k + 1) = 0 by rw [scanE_succ HSC.out]; exact h)
      generalize hnm : S.attrs[k].1 = nm0 at *
      generalize hkd : S.attrs[k].2 = kd at *
      clear hnm hkd
      cases hwd : wordB nm0
      · have HF : Hid (attrE S k = 14) := Lib.hid (by rw [HAE.out, if_pos hwd])
        have CW := Lib.hid (hwd ▸ word5_any nm0 (wr.alloc (.cells #[.string nm0, .int .i64 kd] 81)) hsz)
        clear hwd
        go_wp2_with (go_at_call 60; go_must (refine CW.out.mono ?_; rintro e w2 ⟨rfl, rfl⟩))
        go_ret
        exact ⟨ret_int (by rw [HRET.out (by rw [HF.out]; decide), HF.out]), (ext_trans hbel1 hbel).alloc (by have := (ext_trans hbel1 hbel).size; omega) _⟩
      · have CW := Lib.hid (hwd ▸ word5_any nm0 (wr.alloc (.cells #[.string nm0, .int .i64 kd] 81)) hsz)
        have HWD := Lib.hid hwd
        clear hwd
        go_wp2_with (go_at_call 60; go_must (refine CW.out.mono ?_; rintro e w2 ⟨rfl, rfl⟩))
        have hb2 : Below wr.heap.size wr (wr.alloc (.cells #[.string nm0, .int .i64 kd] 81)) := (Below.refl _ _).alloc (Nat.le_refl _) _
        have hba2 := Blk.new wr 81 #[.string nm0, .int .i64 kd]
        generalize (wr.alloc (.cells #[.string nm0, .int .i64 kd] 81)) = w2 at *
        have hbel2 := ext_trans hbel hb2
        have hrow2 := hrow1.ext hb2
        have hbx2 := HBX.out.ext hbel2
        have x0 := hbx2.cell 0
        have a0 := hba2.cell 0
        have a1 := hba2.cell 1
        simp at x0 a0 a1
        have hbw := ext_trans hbel1 hbel2
        clear hbx2 hba2 hc1 hc2 hrow1 CW
        go_loopw [5] (fun t wq => ∃ q n : Nat, q ≤ k ∧ t = .int .i64 q ∧ Hid (hasB ((S.attrs.map (·.1)).take q) nm0 = false) ∧ wq = w2.drewN n) (fun t _ => k - (intOf t).toNat)
        case atStart => exact ⟨0, 0, Nat.zero_le _, rfl, Lib.hid (by simp [hasB]), rfl⟩
        case round =>
          obtain ⟨q, n, hq, rfl, HNH, rfl⟩ := hrel
          by_cases hqk : q < k
          · have hqa : q < S.attrs.length := by omega
            obtain ⟨b', off', e', _, cq, _⟩ := attr_at hrow2 hqa
            simp at e'
            obtain ⟨rfl, rfl⟩ := e'
            have i1 : (0 : Int) ≤ (q : Int) := by omega
            have i2 : (q : Int) < (S.attrs.length : Int) := by omega
            have HTK := Lib.hid (has_take (l := S.attrs.map (·.1)) (q := q) (k := k) (x := nm0) (by simpa using hqa) hqk)
            have HSN := Lib.hid (has_snoc (l := S.attrs.map (·.1)) (q := q) (x := nm0) (by simpa using hqa) HNH.out)
            have HGE : Hid ((S.attrs.map (·.1))[q]'(by simpa using hqa) = S.attrs[q].1) := Lib.hid (by simp)
            by_cases heq : S.attrs[q].1 = nm0
            · have hbq := beq_str (decide_eq_true heq)
              have HF : Hid (attrE S k = 9) := Lib.hid (by rw [HAE.out, if_neg (by simp [HWD.out]), if_pos (HTK.out (by rw [HGE.out]; exact heq))])
              clear heq
              go_wp2
              go_quiet (fail)
              go_wp2
              go_ret
              exact ⟨ret_int (by rw [HRET.out (by rw [HF.out]; decide), HF.out]), below_drewN (below_drewN hbw _) _⟩
            · have hbq := beq_str (decide_eq_false heq)
              have HNE := Lib.hid heq
              clear heq
              go_wp2
              go_quiet (fail)
              go_wp2
              exact ⟨⟨q + 1, _, by omega, by go_num, Lib.hid (HSN.out (by rw [HGE.out]; exact HNE.out)), rfl⟩, by simp [intOf]; omega⟩
          · obtain rfl : q = k := by omega
            have hd1 : decide (q < q) = false := by simp
            have hkd : (1 ≤ kd ∧ kd ≤ 3) ∨ kd < 1 ∨ 3 < kd := by omega
            have HN0 : Hid (attrE S q = if kd < 1 ∨ 3 < kd then 7 else 0) := Lib.hid (by rw [HAE.out, if_neg (by simp [HWD.out]), if_neg (by rw [HNH.out]; decide)])
            rcases hkd with ⟨k1, k2⟩ | k1 | k1
            · go_wp2
              exact ⟨⟨q + 1, by omega, by go_num, Lib.hid (HNX.out (by rw [HN0.out, if_neg (by omega)])), below_drewN hbel2 _⟩, by simp [intOf]; omega⟩
            · have HF : Hid (attrE S q = 7) := Lib.hid (by rw [HN0.out, if_pos (by omega)])
              go_wp2
              go_ret
              exact ⟨ret_int (by rw [HRET.out (by rw [HF.out]; decide), HF.out]), below_drewN hbw _⟩
            · have HF : Hid (attrE S q = 7) := Lib.hid (by rw [HN0.out, if_pos (by omega)])
              go_wp2
              go_ret
              exact ⟨ret_int (by rw [HRET.out (by rw [HF.out]; decide), HF.out]), below_drewN hbw _⟩
      --A}
    · obtain rfl : k = S.attrs.length := by omega
      obtain ⟨wA, rfl⟩ : ∃ wA : World, wA = wr := ⟨_, rfl⟩
      have hbxA := HBX.out.ext hbel
      have x0 := hbxA.cell 0
      have x1 := hbxA.cell 1
      simp at x0 x1
      have HBXA := Lib.hid hbxA
      have hxlA := hbxA.lt
      have hbelA := ext_trans hbel1 hbel
      have HSA := HSC
      obtain ⟨ib, hib, hz0, hz1, hz2⟩ := info_parts Try.infoBool
      have hd1 : decide (S.attrs.length < S.attrs.length) = false := by simp
      clear hbxA HSC HBX
      go_wp2_with (
        at_make
        go_must (
          refine wpList_make_full _ rfl _ _ 36 rfl wA.heap.size 4 ib (.bool false) 1 Try.underlying36 hib hz0 hz1 _ _ _ _ S.attrs.length rfl rfl rfl rfl (by rw [hz2]; omega) (by simp [maxLen]; omega) (by simp) ?_
          intro w3 hown3 hg3
          have hownu3 : w3.ownsRow wA.heap.size 4 1 (.slice (some ⟨wA.heap.size, 0, none⟩) S.attrs.length S.attrs.length) S.attrs.length (bools (usedTo S 0 [])) := by
            rw [usedTo_zero, bools, List.map_replicate, ← made_one (.bool false) rfl]; exact hown3
          have hb3 := ext_of_grown hg3
          have x1' : w3.cell? ⟨w.heap.size, 1, none⟩ = _ := (hb3.cell (p := ⟨w.heap.size, 1, none⟩) hxlA).trans x1
          clear hown3 hg3 x0 x1))
      clear hd1 hib hz0 hz1 hz2 x1'
      go_loopw [90] (fun i wr => ∃ k : Nat, k ≤ S.rels.length ∧ i = .int .i64 k ∧ Hid (scanE (relE S) k = 0) ∧ wr.ownsRow wA.heap.size 4 1 (.slice (some ⟨wA.heap.size, 0, none⟩) S.attrs.length S.attrs.length) S.attrs.length (bools (usedTo S k [])) ∧ Below wA.heap.size wA wr) (fun i _ => S.rels.length - (intOf i).toNat)
      case atStart => exact ⟨0, Nat.zero_le _, rfl, Lib.hid rfl, hownu3, hb3⟩
      case round =>
        clear hownu3 hb3
        obtain ⟨k, hk, rfl, HSC, hownu, hbel3⟩ := hrel
        by_cases hlt : k < S.rels.length
        · --A{
          have hbw3 := ext_trans hbelA hbel3
          have hrows := h2.keep hbw3.size fun b _ hlt => hbw3.block b hlt
          obtain ⟨b, off, A', c', rfl, hR, hbb, hc1, hc2, hrowk⟩ := hrows.at_ hlt
          have hsz := hb.rn _ (List.getElem_mem hlt)
          have hrl := hb.rl _ (List.getElem_mem hlt)
          have HAE := Lib.hid (relE_eq2 S k hlt)
          have HUN := Lib.hid (usedTo_next S k hlt)
          have HRET := Lib.hid (fun (h : relE S k ≠ 0) => chk_rel HLIM.out HSA.out hlt HSC.out h)
          have HNX := Lib.hid (fun (h : relE S k = 0) => show scanE (relE S) (k + 1) = 0 by rw [scanE_succ HSC.out]; exact h)
          generalize hnm : S.rels[k].1 = nm0 at *
          generalize hkd : S.rels[k].2 = L at *
          clear hnm hkd
          cases hwd : wordB nm0
          · have HF : Hid (relE S k = 14) := Lib.hid (by rw [HAE.out, if_pos hwd])
            have CW := Lib.hid (hwd ▸ word5_any nm0 (wr.alloc (.cells #[.string nm0, .slice A' L.length c'] 33)) hsz)
            clear hwd
            go_wp2_with (go_at_call 60; go_must (refine CW.out.mono ?_; rintro e w2 ⟨rfl, rfl⟩))
            go_ret
            exact ⟨ret_int (by rw [HRET.out (by rw [HF.out]; decide), HF.out]), hbw3.alloc hbw3.size _⟩
          · have CW := Lib.hid (hwd ▸ word5_any nm0 (wr.alloc (.cells #[.string nm0, .slice A' L.length c'] 33)) hsz)
            have HWD := Lib.hid hwd
            clear hwd
            go_wp2_with (go_at_call 60; go_must (refine CW.out.mono ?_; rintro e w2 ⟨rfl, rfl⟩))
            have hb2 : Below wr.heap.size wr (wr.alloc (.cells #[.string nm0, .slice A' L.length c'] 33)) := (Below.refl _ _).alloc (Nat.le_refl _) _
            have hba2 := Blk.new wr 33 #[.string nm0, .slice A' L.length c']
            have hul : wA.heap.size < wr.heap.size := (hownu.lt _ rfl).2
            have hownu2 := hownu.alloc (.cells #[.string nm0, .slice A' L.length c'] 33)
            generalize (wr.alloc (.cells #[.string nm0, .slice A' L.length c'] 33)) = w2 at *
            have hbel2 := ext_trans hbel3 hb2
            have hrow2 := hrows.keep hb2.size fun b _ hlt => hb2.block b hlt
            have hrowk2 := hrowk.ext hb2
            have hbx2 := HBXA.out.ext hbel2
            have x1 := hbx2.cell 1
            have a0 := hba2.cell 0
            have a1 := hba2.cell 1
            simp at x1 a0 a1
            have hbw := ext_trans hbelA hbel2
            have HBA2 := Lib.hid hba2
            have hwrA := hbel3.size
            clear hbx2 hba2 hc1 hc2 hrows hrowk CW hownu
            go_loopw [9] (fun t wq => ∃ q n : Nat, q ≤ k ∧ t = .int .i64 q ∧ Hid (hasB ((S.rels.map (·.1)).take q) nm0 = false) ∧ wq = w2.drewN n) (fun t _ => k - (intOf t).toNat)
            case atStart => exact ⟨0, 0, Nat.zero_le _, rfl, Lib.hid (by simp [hasB]), rfl⟩
            case round =>
              obtain ⟨q, n, hq, rfl, HNH, rfl⟩ := hrel
              by_cases hqk : q < k
              · have hqa : q < S.rels.length := by omega
                obtain ⟨b', off', _, _, e', _, _, cq, _, _⟩ := hrow2.at_ hqa
                simp at e'
                obtain ⟨rfl, rfl⟩ := e'
                have i1 : (0 : Int) ≤ (q : Int) := by omega
                have i2 : (q : Int) < (S.rels.length : Int) := by omega
                have HTK := Lib.hid (has_take (l := S.rels.map (·.1)) (q := q) (k := k) (x := nm0) (by simpa using hqa) hqk)
                have HSN := Lib.hid (has_snoc (l := S.rels.map (·.1)) (q := q) (x := nm0) (by simpa using hqa) HNH.out)
                have HGE : Hid ((S.rels.map (·.1))[q]'(by simpa using hqa) = S.rels[q].1) := Lib.hid (by simp)
                by_cases heq : S.rels[q].1 = nm0
                · have hbq := beq_str (decide_eq_true heq)
                  have HF : Hid (relE S k = 9) := Lib.hid (by rw [HAE.out, if_neg (by simp [HWD.out]), if_pos (HTK.out (by rw [HGE.out]; exact heq))])
                  clear heq
                  go_wp2
                  go_quiet (fail)
                  go_wp2
                  go_ret
                  exact ⟨ret_int (by rw [HRET.out (by rw [HF.out]; decide), HF.out]), below_drewN (below_drewN hbw _) _⟩
                · have hbq := beq_str (decide_eq_false heq)
                  have HNE := Lib.hid heq
                  clear heq
                  go_wp2
                  go_quiet (fail)
                  go_wp2
                  exact ⟨⟨q + 1, _, by omega, by go_num, Lib.hid (HSN.out (by rw [HGE.out]; exact HNE.out)), rfl⟩, by simp [intOf]; omega⟩
              · obtain rfl : q = k := by omega
                have HN0 : Hid (relE S q = if L = [] then 7 else if (L.all fun a => decide (0 ≤ a) && decide (a < S.attrs.length)) = false then 2 else if ascB L = false then 10 else 0) := Lib.hid (by rw [HAE.out, if_neg (by simp [HWD.out]), if_neg (by rw [HNH.out]; decide)])
                clear HAE HNH HWD
                have hd1 : decide (q < q) = false := by simp
                have hlc : (((L.length : Nat) : Int) == 0) = true ∧ L = [] ∨ (((L.length : Nat) : Int) == 0) = false ∧ L ≠ [] ∧ 1 ≤ L.length := by
                  rcases Classical.em (L = []) with h | h
                  · subst h; exact .inl ⟨rfl, rfl⟩
                  · have : 0 < L.length := List.length_pos_iff.2 h
                    exact .inr ⟨by rw [beq_eq_false_iff_ne]; omega, h, this⟩
                rcases hlc with ⟨hl0, hle⟩ | ⟨hl0, hle, hl1⟩
                · have HF : Hid (relE S q = 7) := Lib.hid (by rw [HN0.out, if_pos hle])
                  clear hle
                  go_wp2
                  go_ret
                  exact ⟨ret_int (by rw [HRET.out (by rw [HF.out]; decide), HF.out]), below_drewN hbw _⟩
                · have HLE := Lib.hid hle
                  clear hle
                  obtain ⟨w5, hw5⟩ : ∃ w5, w5 = w2.drewN n := ⟨_, rfl⟩
                  have hb5 : Below w2.heap.size w2 w5 := by rw [hw5]; exact below_drewN (Below.refl _ _) _
                  have hu5 := hownu2.kept (grown_of_ext hb5 none) (by simp [Value.ownBlock])
                  have hrowk5 := hrowk2.ext hb5
                  have HBA5 := Lib.hid (HBA2.out.ext hb5)
                  have hbel5 := ext_trans hbel2 hb5
                  have a1' := HBA5.out.cell 1
                  simp at a1'
                  have hal := HBA2.out.lt
                  have hs5 := hb5.size
                  rw [← hw5]
                  clear hw5 x1 a0 a1 hownu2 hrowk2 HBA2 hrow2
                  go_wp2
                  clear hd1 hl0
                  go_loopw [120] (fun i wq => ∃ j : Nat, j ≤ L.length ∧ i = .int .i64 j ∧ wq.ownsRow wA.heap.size 4 1 (.slice (some ⟨wA.heap.size, 0, none⟩) S.attrs.length S.attrs.length) S.attrs.length (bools (usedTo S q (L.take j))) ∧
                    Hid (∀ a ∈ L.take j, 0 ≤ a ∧ a < S.attrs.length) ∧ w5.grownBy wq (some wA.heap.size)) (fun i _ => L.length - (intOf i).toNat)
                  case atStart => exact ⟨0, Nat.zero_le _, rfl, hu5, Lib.hid (by simp), World.grownBy.refl _ _⟩
                  case round =>
                    obtain ⟨j, hj, rfl, huj, HAJ, hgj⟩ := hrel
                    have hbelj : Below wA.heap.size wA wr := hbel5.grown hgj hbel5.size (fun g e => by injection e with e; omega)
                    have hbwj := ext_trans hbelA hbelj
                    by_cases hjl : j < L.length
                    · obtain ⟨b', off', rfl, hbb', hcj⟩ := (hrowk5.keep hgj.size fun b _ _ hRb hlt => hgj.block b hlt (by have := hbelA.size; simp; omega)).int_at hjl
                      have hrange : L[j] < 0 ∨ (0 ≤ L[j] ∧ (S.attrs.length : Int) ≤ L[j]) ∨ (0 ≤ L[j] ∧ L[j] < S.attrs.length) := by omega
                      have HF := Lib.hid (fun (h : ¬ (0 ≤ L[j] ∧ L[j] < S.attrs.length)) => show relE S q = 2 by rw [HN0.out, if_neg HLE.out, if_pos (rng_no hjl h)])
                      rcases hrange with hr | ⟨hr1, hr2⟩ | ⟨hr1, hr2⟩
                      · go_wp2
                        go_ret
                        have hf := HF.out (by omega)
                        exact ⟨ret_int (by rw [HRET.out (by rw [hf]; decide), hf]), hbwj⟩
                      · go_wp2
                        go_ret
                        have hf := HF.out (by omega)
                        exact ⟨ret_int (by rw [HRET.out (by rw [hf]; decide), hf]), hbwj⟩
                      · obtain ⟨an, han⟩ := Int.eq_ofNat_of_zero_le hr1
                        have htj : L.take (j + 1) = L.take j ++ [(an : Int)] := by rw [List.take_succ_eq_append_getElem hjl, han]
                        have HTJ := Lib.hid htj
                        rw [han] at hr1 hr2 hcj
                        have hanl : an < S.attrs.length := by omega
                        have hcu : wr.cell? ⟨wA.heap.size, an, none⟩ = some (.bool ((usedTo S q (L.take j))[an]'(by rw [usedTo_len]; exact hanl))) := by
                          rw [huj.cellAt an (by omega), List.getElem?_map, List.getElem?_eq_getElem (by rw [usedTo_len]; exact hanl)]; rfl
                        have hfu := huj.frozenAt an
                        have hst := huj.stored an (.bool true)
                        clear htj han HF
                        go_wp2
                        refine ⟨⟨j + 1, by omega, by go_num, ?_, Lib.hid ?_, ?_⟩, by simp [intOf]; omega⟩
                        · rw [HTJ.out, usedTo_step, bools, List.map_set]; exact hst.1
                        · intro a ha
                          rw [HTJ.out] at ha
                          rcases List.mem_append.1 ha with h | h
                          · exact HAJ.out a h
                          · simp at h; subst h; exact ⟨hr1, hr2⟩
                        · exact grown_trans hgj hst.2 (fun g e _ => e)
                    · have hjL : L.take j = L := List.take_of_length_le (by omega)
                      rw [hjL] at huj
                      have HALL := Lib.hid (rng_yes (l := L) (n := S.attrs.length) (fun a ha => HAJ.out a (by rw [hjL]; exact ha)))
                      have HBAj := Lib.hid (HBA5.out.grown hgj (by simp; omega))
                      have z1 := HBAj.out.cell 1
                      simp at z1
                      have hrw := hrowk5.keep hgj.size fun b _ _ hRb hlt => hgj.block b hlt (by have := hbelA.size; simp; omega)
                      clear hjL HAJ a1'
                      obtain ⟨wp, rfl⟩ : ∃ wp : World, wp = wr := ⟨_, rfl⟩
                      have hd1 : decide (j < L.length) = false := by simp; omega
                      go_wp2
                      clear hd1
                      go_loopw [12] (fun i wq => ∃ p n : Nat, 1 ≤ p ∧ p ≤ L.length ∧ i = .int .i64 p ∧ Hid (∀ x, x + 1 < p → L.getD x 0 < L.getD (x + 1) 0) ∧ wq = wp.drewN n) (fun i _ => L.length - (intOf i).toNat)
                      case atStart => exact ⟨1, 0, by omega, by omega, rfl, Lib.hid fun p hp => absurd hp (by omega), rfl⟩
                      case round =>
                        obtain ⟨p, n', hp1, hp2, rfl, HAS, rfl⟩ := hrel
                        by_cases hpl : p < L.length
                        · obtain ⟨b', off', hA, hbb', hcq⟩ := hrw.int_at hpl
                          obtain ⟨b2, off2, hA2, _, hcq2⟩ := hrw.int_at (show p - 1 < L.length by omega)
                          subst hA
                          simp at hA2
                          obtain ⟨rfl, rfl⟩ := hA2
                          have i1 : IntKind.i64.wrap ((p : Int) - 1) = ((p - 1 : Nat) : Int) := by rw [show ((p : Int) - 1) = ((p - 1 : Nat) : Int) by omega]; exact IntWalk.i64_in _ (by omega)
                          have i2 : (0 : Int) ≤ (p : Int) := by omega
                          have i3 : (p : Int) < (L.length : Int) := by omega
                          have i4 : (0 : Int) ≤ ((p - 1 : Nat) : Int) := by omega
                          have i5 : ((p - 1 : Nat) : Int) < (L.length : Int) := by omega
                          have HGQ : Hid (L.getD p 0 = L[p]) := Lib.hid (by simp [List.getD, hpl])
                          have HGQ1 : Hid (L.getD (p - 1) 0 = L[p - 1]) := Lib.hid (by simp [List.getD, show p - 1 < L.length by omega])
                          by_cases hle2 : L[p] ≤ L[p - 1]
                          · have HF : Hid (relE S q = 10) := Lib.hid (by rw [HN0.out, if_neg HLE.out, if_neg (by rw [HALL.out]; decide), if_pos (asc_no hp1 hpl hle2)])
                            go_wp2
                            go_quiet (fail)
                            go_wp2
                            go_ret
                            exact ⟨ret_int (by rw [HRET.out (by rw [HF.out]; decide), HF.out]), below_drewN (below_drewN hbwj _) _⟩
                          · go_wp2
                            go_quiet (fail)
                            go_wp2
                            refine ⟨⟨p + 1, _, by omega, by omega, by go_num, Lib.hid ?_, rfl⟩, by simp [intOf]; omega⟩
                            intro x hx
                            by_cases e : x + 1 < p
                            · exact HAS.out x e
                            · obtain rfl : p = x + 1 := by omega
                              have hg : L.getD (x + 1 - 1) 0 < L.getD (x + 1) 0 := by rw [HGQ.out, HGQ1.out]; omega
                              exact hg
                        · have HASC := Lib.hid (asc_yes (l := L) (fun x hx => HAS.out x (by omega)))
                          have hd2 : decide (p < L.length) = false := by simp; omega
                          have HF : Hid (relE S q = 0) := Lib.hid (by rw [HN0.out, if_neg HLE.out, if_neg (by rw [HALL.out]; decide), if_neg (by rw [HASC.out]; decide)])
                          go_wp2
                          exact ⟨⟨q + 1, by omega, by go_num, Lib.hid (HNX.out HF.out), by rw [← HUN.out]; exact huj, below_drewN hbelj _⟩, by simp [intOf]; omega⟩
          --A}
        · obtain rfl : k = S.rels.length := by omega
          obtain ⟨wB, rfl⟩ : ∃ wB : World, wB = wr := ⟨_, rfl⟩
          have hbwB := ext_trans hbelA hbel3
          have HSR := HSC
          have hd1 : decide (S.rels.length < S.rels.length) = false := by simp
          have hcu : ∀ a (ha : a < S.attrs.length), wB.cell? ⟨wA.heap.size, a, none⟩ = some (.bool (usedB S a)) := by
            intro a ha
            rw [hownu.cellAt a (by omega), List.getElem?_map, List.getElem?_eq_getElem (by rw [usedTo_len]; exact ha)]
            simp [usedTo, usedB, inB]
          have HCU := Lib.hid hcu
          have HBXB := Lib.hid (HBXA.out.ext hbel3)
          clear hcu HSC hownu
          go_wp2
          clear hd1
          go_loop [158] (fun i => ∃ k : Nat, k ≤ S.attrs.length ∧ i = .int .i64 k ∧ Hid (∀ a, a < k → usedB S a = true)) (fun i => S.attrs.length - (intOf i).toNat)
          case atStart => exact ⟨0, Nat.zero_le _, rfl, Lib.hid fun a ha => absurd ha (by omega)⟩
          case round =>
            obtain ⟨k, hk2, rfl, HUS⟩ := hrel
            by_cases hlt : k < S.attrs.length
            · have hck := HCU.out k hlt
              have HNO := Lib.hid (fun (h : usedB S k = false) => chk_used HLIM.out HSA.out HSR.out (by rw [List.all_eq_false]; exact ⟨k, by simpa using hlt, by simp [h]⟩))
              have HYES := Lib.hid (fun (h : usedB S k = true) (a : Nat) (ha : a < k + 1) => show usedB S a = true by
                by_cases e : a < k
                · exact HUS.out a e
                · obtain rfl : a = k := by omega
                  exact h)
              cases hu : usedB S k
              · rw [hu] at hck
                go_wp2
                go_ret
                exact ⟨ret_int (HNO.out hu).symm, hbwB⟩
              · rw [hu] at hck
                go_wp2
                exact ⟨⟨k + 1, by omega, by go_num, Lib.hid (HYES.out hu)⟩, by simp [intOf]; omega⟩
            · obtain rfl : k = S.attrs.length := by omega
              have HRZ := Lib.hid (rels_zero HSR.out (by rw [List.all_eq_true]; intro a ha; exact HUS.out a (by simpa using ha)))
              have hd1 : decide (S.attrs.length < S.attrs.length) = false := by simp
              have x2 := HBXB.out.cell 2
              simp at x2
              clear HSR HUS HCU
              go_wp2
              clear hd1
              go_loopw [168] (fun i wr => ∃ k : Nat, k ≤ S.feats.length ∧ i = .int .i64 k ∧ Hid (scanE (featE S) k = 0) ∧ Below wB.heap.size wB wr) (fun i _ => S.feats.length - (intOf i).toNat)
              case atStart => exact ⟨0, Nat.zero_le _, rfl, Lib.hid rfl, Below.refl _ _⟩
              case round =>
                clear x2
                obtain ⟨k, hk3, rfl, HSC, hbel4⟩ := hrel
                have hbw4 := ext_trans hbwB hbel4
                by_cases hlt : k < S.feats.length
                · have hrowf := h3.ext hbw4
                  obtain ⟨bf, offf, rfl, hbbf, f0, f1, f2⟩ := feat_at hrowf hlt
                  have HFE := Lib.hid (featE_eq2 S k hlt)
                  have HRET := Lib.hid (fun (h : featE S k ≠ 0) => chk_feat HLIM.out HSA.out HRZ.out hlt HSC.out h)
                  have HNX := Lib.hid (fun (h : featE S k = 0) => show scanE (featE S) (k + 1) = 0 by rw [scanE_succ HSC.out]; exact h)
                  generalize ha : S.feats[k].1 = fa at *
                  generalize hkk : S.feats[k].2.1 = fk at *
                  generalize hmm : S.feats[k].2.2 = fm at *
                  clear ha hkk hmm
                  have hrange : fa < 0 ∨ (0 ≤ fa ∧ (S.attrs.length : Int) ≤ fa) ∨ (0 ≤ fa ∧ fa < S.attrs.length) := by omega
                  rcases hrange with hr | ⟨hr1, hr2⟩ | ⟨hr1, hr2⟩
                  · have HF : Hid (featE S k = 2) := Lib.hid (by rw [HFE.out, if_pos (by omega)])
                    go_wp2
                    go_ret
                    exact ⟨ret_int (by rw [HRET.out (by rw [HF.out]; decide), HF.out]), hbw4.alloc hbw4.size _⟩
                  · have HF : Hid (featE S k = 2) := Lib.hid (by rw [HFE.out, if_pos (by omega)])
                    go_wp2
                    go_ret
                    exact ⟨ret_int (by rw [HRET.out (by rw [HF.out]; decide), HF.out]), hbw4.alloc hbw4.size _⟩
                  · obtain ⟨an, rfl⟩ := Int.eq_ofNat_of_zero_le hr1
                    have hanl : an < S.attrs.length := by omega
                    obtain ⟨ba, offa, rfl, hbba, ga, gk⟩ := attr_at (h1.ext hbw4) hanl
                    have hkd : (S.attrs.getD ((an : Int)).toNat default).2 = S.attrs[an].2 := by simp [List.getD, hanl]
                    rw [hkd] at HFE
                    clear hkd ga
                    generalize S.attrs[an].2 = kd at *
                    have hb5 : Below wr.heap.size wr (wr.alloc (.cells #[.int .i64 (an : Int), .int .i64 fk, .int .i64 fm] 83)) := (Below.refl _ _).alloc (Nat.le_refl _) _
                    have hbf5 := Blk.new wr 83 #[.int .i64 (an : Int), .int .i64 fk, .int .i64 fm]
                    go_upto_region 53 with fail
                    generalize (wr.alloc (.cells #[.int .i64 (an : Int), .int .i64 fk, .int .i64 fm] 83)) = w5 at *
                    have hbel5 := ext_trans hbel4 hb5
                    have hbw5 := ext_trans hbwB hbel5
                    have hbx5 := HBXB.out.ext hbel5
                    have x0 := hbx5.cell 0
                    have x2 := hbx5.cell 2
                    have x3 := hbx5.cell 3
                    have v0 := hbf5.cell 0
                    have v1 := hbf5.cell 1
                    have v2 := hbf5.cell 2
                    have gk5 : w5.cell? ⟨ba, offa + an * 2 + 1, none⟩ = _ := (hb5.cell (p := ⟨ba, offa + an * 2 + 1, none⟩) hbba).trans gk
                    simp at x0 x2 x3 v0 v1 v2
                    have hrowf5 := hrowf.ext hb5
                    clear hbx5 hbf5 f0 f1 f2 hrowf gk
                    go_cut [17] (fun nv wx => ∃ nb : Bool, nv = .bool nb ∧ Hid (nb = (fk == 1 && (fm == 0 || fm == 1) && kd == 2)) ∧ wx = w5)
                    case first =>
                      cases e1 : (fk == 1)
                      · have E1 := Lib.hid e1
                        go_wp2_with fail
                        go_meet
                        exact ⟨false, rfl, Lib.hid (by rw [E1.out]; rfl), rfl⟩
                      · have E1 := Lib.hid e1
                        cases e2 : (fm == 0)
                        · have E2 := Lib.hid e2
                          cases e3 : (fm == 1)
                          · have E3 := Lib.hid e3
                            go_wp2_with fail
                            go_meet
                            exact ⟨false, rfl, Lib.hid (by rw [E1.out, E2.out, E3.out]; rfl), rfl⟩
                          · have E3 := Lib.hid e3
                            go_wp2_with fail
                            go_meet
                            exact ⟨kd == 2, rfl, Lib.hid (by rw [E1.out, E2.out, E3.out]; rfl), rfl⟩
                        · have E2 := Lib.hid e2
                          go_wp2_with fail
                          go_meet
                          exact ⟨kd == 2, rfl, Lib.hid (by rw [E1.out, E2.out]; rfl), rfl⟩
                    case rest =>
                      obtain ⟨nb, rfl, HNB, rfl⟩ := hcut
                      go_upto_region 54 with fail
                      go_cut [18] (fun nv wx => ∃ hb' : Bool, nv = .bool hb' ∧ Hid (hb' = (fk == 2 && fm == 0 && kd == 3)) ∧ wx = wc)
                      case first =>
                        cases e1 : (fk == 2)
                        · have E1 := Lib.hid e1
                          go_wp2_with fail
                          go_meet
                          exact ⟨false, rfl, Lib.hid (by rw [E1.out]; rfl), rfl⟩
                        · have E1 := Lib.hid e1
                          cases e2 : (fm == 0)
                          · have E2 := Lib.hid e2
                            go_wp2_with fail
                            go_meet
                            exact ⟨false, rfl, Lib.hid (by rw [E1.out, E2.out]; rfl), rfl⟩
                          · have E2 := Lib.hid e2
                            go_wp2_with fail
                            go_meet
                            exact ⟨kd == 3, rfl, Lib.hid (by rw [E1.out, E2.out]; rfl), rfl⟩
                      case rest =>
                        obtain ⟨hb', rfl, HHB, rfl⟩ := hcut
                        have HOK : Hid ((fk == 1 && kd == 2 && (fm == 0 || fm == 1) || fk == 2 && kd == 3 && fm == 0) = (nb || hb')) := Lib.hid (by
                          rw [HNB.out, HHB.out]
                          cases (fk == 1) <;> cases (kd == 2) <;> cases (fm == 0) <;> cases (fm == 1) <;> cases (fk == 2) <;> cases (kd == 3) <;> rfl)
                        have HF1 : Hid (featE S k = if (nb || hb') = false then 7 else if ((an : Int) == S.label || (S.feats.take k).any fun g => g.1 == (an : Int)) = true then 9 else 0) := Lib.hid (by rw [HFE.out, if_neg (by omega), HOK.out])
                        clear HNB HHB HOK HFE
                        have hcase : (nb = false ∧ hb' = false) ∨ nb = true ∨ (nb = false ∧ hb' = true) := by cases nb <;> cases hb' <;> simp
                        rcases hcase with ⟨rfl, rfl⟩ | rfl | ⟨rfl, rfl⟩
                        · have HF : Hid (featE S k = 7) := Lib.hid (by rw [HF1.out]; rfl)
                          go_wp2
                          go_ret
                          exact ⟨ret_int (by rw [HRET.out (by rw [HF.out]; decide), HF.out]), hbw5⟩
                        all_goals
                          have HF2 : Hid (featE S k = if ((an : Int) == S.label || (S.feats.take k).any fun g => g.1 == (an : Int)) = true then 9 else 0) := Lib.hid (by rw [HF1.out, if_neg (by simp)])
                          clear HF1
                          go_wp2
                          go_loopw [19] (fun t wq => ∃ q n : Nat, q ≤ k ∧ t = .int .i64 q ∧ Hid (((S.feats.take q).any fun g => g.1 == (an : Int)) = false) ∧ wq = wc.drewN n) (fun t _ => k - (intOf t).toNat)
                          case atStart => exact ⟨0, 0, Nat.zero_le _, rfl, Lib.hid (by simp), rfl⟩
                          case round =>
                            obtain ⟨q, n, hq, rfl, HNH, rfl⟩ := hrel
                            by_cases hqk : q < k
                            · have hqa : q < S.feats.length := by omega
                              obtain ⟨b', off', e', _, cq, _, _⟩ := feat_at hrowf5 hqa
                              simp at e'
                              obtain ⟨rfl, rfl⟩ := e'
                              have i1 : (0 : Int) ≤ (q : Int) := by omega
                              have i2 : (q : Int) < (S.feats.length : Int) := by omega
                              have HTK := Lib.hid (any_takeL (l := S.feats) (q := q) (k := k) (x := (an : Int)) hqa hqk)
                              have HSN := Lib.hid (any_snoc (l := S.feats) (q := q) (x := (an : Int)) hqa HNH.out)
                              generalize S.feats[q].1 = fq at *
                              cases heq : (fq == (an : Int))
                              · have HEQ := Lib.hid heq
                                go_wp2
                                go_quiet (fail)
                                go_wp2
                                exact ⟨⟨q + 1, _, by omega, by go_num, Lib.hid (HSN.out HEQ.out), rfl⟩, by simp [intOf]; omega⟩
                              · have HF : Hid (featE S k = 9) := Lib.hid (by rw [HF2.out, HTK.out heq]; simp)
                                go_wp2
                                go_quiet (fail)
                                go_wp2
                                go_ret
                                exact ⟨ret_int (by rw [HRET.out (by rw [HF.out]; decide), HF.out]), below_drewN (below_drewN hbw5 _) _⟩
                            · obtain rfl : q = k := by omega
                              have hd1 : decide (q < q) = false := by simp
                              have HF3 : Hid (featE S q = if ((an : Int) == S.label) = true then 9 else 0) := Lib.hid (by rw [HF2.out, HNH.out, Bool.or_false])
                              cases hlb : ((an : Int) == S.label)
                              · have HF : Hid (featE S q = 0) := Lib.hid (by rw [HF3.out, hlb]; rfl)
                                go_wp2
                                exact ⟨⟨q + 1, by omega, by go_num, Lib.hid (HNX.out HF.out), below_drewN hbel5 _⟩, by simp [intOf]; omega⟩
                              · have HF : Hid (featE S q = 9) := Lib.hid (by rw [HF3.out, hlb]; rfl)
                                go_wp2
                                go_ret
                                exact ⟨ret_int (by rw [HRET.out (by rw [HF.out]; decide), HF.out]), below_drewN hbw5 _⟩
                · obtain rfl : k = S.feats.length := by omega
                  have hd1 : decide (S.feats.length < S.feats.length) = false := by simp
                  have HL := Lib.hid (chk_label HLIM.out HSA.out HRZ.out HSC.out)
                  have hbx4 := HBXB.out.ext hbel4
                  have x0 := hbx4.cell 0
                  have x3 := hbx4.cell 3
                  simp at x0 x3
                  have hrow4 := h1.ext hbw4
                  clear hbx4 HSC HRZ HSA
                  generalize hlab : S.label = lb at *
                  clear hlab
                  have hcase : lb < -1 ∨ (S.attrs.length : Int) ≤ lb ∨ lb = -1 ∨ (0 ≤ lb ∧ lb < S.attrs.length) := by omega
                  rcases hcase with hr | hr | rfl | ⟨hr1, hr2⟩
                  · have HF : Hid (checkE S = 2) := Lib.hid (by rw [HL.out, if_pos (by omega)])
                    go_wp2
                    go_ret
                    exact ⟨ret_int HF.out.symm, hbw4⟩
                  · have HF : Hid (checkE S = 2) := Lib.hid (by rw [HL.out, if_pos (by omega)])
                    go_wp2
                    go_ret
                    exact ⟨ret_int HF.out.symm, hbw4⟩
                  · have HF : Hid (checkE S = 0) := Lib.hid (by rw [HL.out, if_neg (by omega), if_neg (by omega)])
                    go_wp2
                    go_ret
                    exact ⟨ret_int HF.out.symm, hbw4⟩
                  · obtain ⟨an, rfl⟩ := Int.eq_ofNat_of_zero_le hr1
                    have hanl : an < S.attrs.length := by omega
                    obtain ⟨ba, offa, rfl, hbba, ga, gk⟩ := attr_at hrow4 hanl
                    have hkd : (S.attrs.getD ((an : Int)).toNat default).2 = S.attrs[an].2 := by simp [List.getD, hanl]
                    rw [hkd] at HL
                    clear hkd ga
                    generalize S.attrs[an].2 = kd at *
                    cases h2k : (kd != 2)
                    · have HF : Hid (checkE S = 0) := Lib.hid (by rw [HL.out, if_neg (by omega), if_neg (by simp at h2k; simp [h2k])])
                      go_wp2
                      go_ret
                      exact ⟨ret_int HF.out.symm, hbw4⟩
                    · have HF : Hid (checkE S = 7) := Lib.hid (by rw [HL.out, if_neg (by omega), if_pos (by simp at h2k; simp [h2k])])
                      go_wp2
                      go_ret
                      exact ⟨ret_int HF.out.symm, hbw4⟩
end Go.Proofs.Ytopblgabadljdaa
namespace Go.Proofs.Ytopblgabadljdaa
open Go.RowKit
/-- Is an attribute in one of the first j relations of a set, other than the r-th? -/
def shTo (rs : List (ByteArray × List Int)) (inn : List Bool) (r : Nat) (a : Int) (j : Nat) : Bool := (List.range j).any fun k => inn.getD k false && decide (k ≠ r) && inB (rs.getD k default).2 a
theorem shTo_succ (rs : List (ByteArray × List Int)) (inn : List Bool) (r : Nat) (a : Int) (j : Nat) : shTo rs inn r a (j + 1) = (shTo rs inn r a j || (inn.getD j false && decide (j ≠ r) && inB (rs.getD j default).2 a)) := by
  unfold shTo
  rw [List.range_succ, List.any_append]
  simp only [List.any_cons, List.any_nil, Bool.or_false]
/-- Has the k-th relation all of the first p attributes of the r-th that others share? -/
def okTo (rs : List (ByteArray × List Int)) (inn : List Bool) (r k p : Nat) : Bool := ((rs.getD r default).2.take p).all fun a => !shTo rs inn r a rs.length || inB (rs.getD k default).2 a
theorem okTo_succ (rs : List (ByteArray × List Int)) (inn : List Bool) (r k p : Nat) (hr : r < rs.length) (hp : p < rs[r].2.length) : okTo rs inn r k (p + 1) = (okTo rs inn r k p && (!shTo rs inn r rs[r].2[p] rs.length || inB (rs.getD k default).2 rs[r].2[p])) := by
  unfold okTo
  have e : rs.getD r default = rs[r] := by simp [List.getD, hr]
  rw [e, List.take_succ_eq_append_getElem hp, List.all_append]
  simp only [List.all_cons, List.all_nil, Bool.and_true]
def rwAt (rs : List (ByteArray × List Int)) (inn : List Bool) (r k : Nat) : Bool := inn.getD k false && decide (k ≠ r) && okTo rs inn r k (rs.getD r default).2.length
theorem sh_iff {rs : List (ByteArray × List Int)} {inn : List Bool} {r : Nat} {a : Int} : shTo rs inn r a rs.length = true ↔ ∃ k, k ∈ idx inn rs.length ∧ k ≠ r ∧ a ∈ (rs.getD k default).2 := by
  unfold shTo
  rw [List.any_eq_true]
  constructor
  · rintro ⟨k, hk, h⟩
    simp only [Bool.and_eq_true, decide_eq_true_eq, inB, List.contains_iff_mem] at h
    exact ⟨k, mem_idx.2 ⟨by simpa using hk, h.1.1⟩, h.1.2, h.2⟩
  · rintro ⟨k, hk, h1, h2⟩
    obtain ⟨h3, h4⟩ := mem_idx.1 hk
    exact ⟨k, by simpa using h3, by simp only [Bool.and_eq_true, decide_eq_true_eq, inB, List.contains_iff_mem]; exact ⟨⟨h4, h1⟩, h2⟩⟩
theorem rw_wit {rs : List (ByteArray × List Int)} (hok : RelOk rs) (inn : List Bool) (r k : Nat) (hk : k < rs.length) : rwAt rs inn r k = witAt rs inn r k := by
  rw [Bool.eq_iff_iff, wit_iff rs inn r k hok hk]
  unfold rwAt okTo
  rw [List.take_length]
  simp only [Bool.and_eq_true, decide_eq_true_eq, List.all_eq_true, Bool.or_eq_true, Bool.not_eq_true', ← Bool.not_eq_true, sh_iff, inB, List.contains_iff_mem]
  constructor
  · rintro ⟨⟨h1, h2⟩, h3⟩
    refine ⟨mem_idx.2 ⟨hk, h1⟩, h2, fun i hi hir a ha hia => ?_⟩
    rcases h3 (a : Int) ha with h | h
    · exact absurd ⟨i, hi, hir, hia⟩ h
    · exact h
  · rintro ⟨h1, h2, h3⟩
    refine ⟨⟨(mem_idx.1 h1).2, h2⟩, fun a ha => ?_⟩
    rcases Classical.em (∃ i, i ∈ idx inn rs.length ∧ i ≠ r ∧ a ∈ (rs.getD i default).2) with h | h
    · obtain ⟨i, hi, hir, hia⟩ := h
      obtain ⟨n, rfl⟩ := Int.eq_ofNat_of_zero_le (getD_ok hok r a ha).1
      exact .inr (h3 i hi hir n ha hia)
    · exact .inl h
theorem rw_find {rs : List (ByteArray × List Int)} (hok : RelOk rs) {inn : List Bool} {r : Nat} : witI rs inn r = (List.range rs.length).find? (rwAt rs inn r) := by
  unfold witI
  have : ∀ l : List Nat, (∀ x ∈ l, x < rs.length) → l.find? (witAt rs inn r) = l.find? (rwAt rs inn r) := by
    intro l
    induction l with
    | nil => intro _; rfl
    | cons x t ih =>
      intro h
      rw [List.find?_cons, List.find?_cons, rw_wit hok inn r x (h x (by simp)), ih fun y hy => h y (by simp [hy])]
  exact this _ fun x hx => by simpa using hx
theorem sch_relsE {w : World} {R : Nat → Prop} {S : Sch} {A1 : Option Addr} {c1 : Nat} {A2 : Option Addr} {c2 : Nat} {A3 : Option Addr} {c3 : Nat}
    (h : SchAt w R (.agg #[.slice A1 S.attrs.length c1, .slice A2 S.rels.length c2, .slice A3 S.feats.length c3, .int .i64 S.label]) S) : RelsAt w R A2 S.rels := by
  obtain ⟨B1, d1, B2, d2, B3, d3, e, _, _, _, h1, h2, h3⟩ := h
  simp at e
  obtain ⟨⟨rfl, rfl⟩, ⟨rfl, rfl⟩, rfl, rfl⟩ := e
  exact h2
set_option maxRecDepth 100000 in
set_option maxHeartbeats 1000000 in
theorem ear7_any (v : Value) (S : Sch) (Ai : Option Addr) (ci : Nat) (inn : List Bool) (r : Int) (w : World) {R R' : Nat → Prop} (h : SchAt w R v S) (hb : SBd S) (hi : Row w R' Ai (bools inn)) :
    Calls Try.prog 26 #[v, .slice Ai inn.length ci, .int .i64 r] w fun e w' =>
      e = .returned (.tuple #[.int .i64 (optI (earO S inn r)), .bool (earO S inn r).isSome]) ∧ Below w.heap.size w w' := by
  have h0 := h
  obtain ⟨A1, c1, A2, c2, A3, c3, rfl, l1, l2, l3, h1, h2, h3⟩ := h
  clear h1 h2 h3 l1 l2 l3
  have ct1 := fun (W : World) (hW : Below w.heap.size w W) => check5_any _ S W (h0.ext hW) hb
  have hbr := hb.r
  by_cases hc : checkE S = 0
  · have hcb := eq_b hc
    by_cases hln : inn.length = S.rels.length
    · have hlb : ((inn.length : Int) != (S.rels.length : Int)) = false := by simp [hln]
      by_cases hr0 : r < 0
      · have hE : earO S inn r = none := by unfold earO; rw [if_pos (.inr (.inr (.inl hr0)))]
        rw [hE]
        generalize checkE S = ce at *
        have CT1 := Lib.hid ct1
        clear ct1 hc hE hln
        go_enter Try.func26, Try.ntmps26
        go_wp2_with (
          go_at_call 49
          go_must (
            refine (CT1.out _ ((Below.refl _ _).alloc (Nat.le_refl _) _)).mono ?_
            rintro e w1 ⟨rfl, hb1⟩
            have hbx := (Blk.new w 28 #[Value.slice A1 S.attrs.length c1, Value.slice A2 S.rels.length c2, Value.slice A3 S.feats.length c3, Value.int IntKind.i64 S.label]).ext hb1
            have x0 := hbx.cell 0
            have x1 := hbx.cell 1
            have x2 := hbx.cell 2
            have x3 := hbx.cell 3
            simp at x0 x1 x2 x3
            clear hbx))
        go_ret2
        exact ⟨rfl, ext_trans ((Below.refl _ _).alloc (Nat.le_refl _) _) hb1⟩
      · by_cases hr1 : (inn.length : Int) ≤ r
        · have hE : earO S inn r = none := by unfold earO; rw [if_pos (.inr (.inr (.inr (.inl hr1))))]
          rw [hE]
          generalize checkE S = ce at *
          have CT1 := Lib.hid ct1
          clear ct1 hc hE hln
          go_enter Try.func26, Try.ntmps26
          go_wp2_with (
            go_at_call 49
            go_must (
              refine (CT1.out _ ((Below.refl _ _).alloc (Nat.le_refl _) _)).mono ?_
              rintro e w1 ⟨rfl, hb1⟩
              have hbx := (Blk.new w 28 #[Value.slice A1 S.attrs.length c1, Value.slice A2 S.rels.length c2, Value.slice A3 S.feats.length c3, Value.int IntKind.i64 S.label]).ext hb1
              have x0 := hbx.cell 0
              have x1 := hbx.cell 1
              have x2 := hbx.cell 2
              have x3 := hbx.cell 3
              simp at x0 x1 x2 x3
              clear hbx))
          go_ret2
          exact ⟨rfl, ext_trans ((Below.refl _ _).alloc (Nat.le_refl _) _) hb1⟩
        · obtain ⟨rn, rfl⟩ := Int.eq_ofNat_of_zero_le (show 0 ≤ r by omega)
          have hrn : rn < inn.length := by omega
          have hrs : rn < S.rels.length := by omega
          obtain ⟨b, off, rfl, hbb, hck⟩ := hi.bool_at hrn
          have hgi : inn.getD rn false = inn[rn] := by simp [List.getD, hrn]
          cases hik : inn[rn]
          · have hE : earO S inn rn = none := by unfold earO; rw [if_pos (.inr (.inr (.inr (.inr (by rw [Int.toNat_natCast, hgi, hik])))))]
            rw [hik] at hck
            rw [hE]
            generalize checkE S = ce at *
            have CT1 := Lib.hid ct1
            clear ct1 hc hE hln hgi hik
            go_enter Try.func26, Try.ntmps26
            go_wp2_with (
              go_at_call 49
              go_must (
                refine (CT1.out _ ((Below.refl _ _).alloc (Nat.le_refl _) _)).mono ?_
                rintro e w1 ⟨rfl, hb1⟩
                have hbx := (Blk.new w 28 #[Value.slice A1 S.attrs.length c1, Value.slice A2 S.rels.length c2, Value.slice A3 S.feats.length c3, Value.int IntKind.i64 S.label]).ext hb1
                have x0 := hbx.cell 0
                have x1 := hbx.cell 1
                have x2 := hbx.cell 2
                have x3 := hbx.cell 3
                simp at x0 x1 x2 x3
                clear hbx
                have hck1 : w1.cell? ⟨b, off + rn, none⟩ = some (.bool false) := by rw [hb1.cell (p := ⟨b, off + rn, none⟩) (by show b < _; simp; omega), World.cell?_alloc_lt _ _ _ hbb]; exact hck
                clear hck))
            go_ret2
            exact ⟨rfl, ext_trans ((Below.refl _ _).alloc (Nat.le_refl _) _) hb1⟩
          · have hE : earO S inn rn = witI S.rels inn rn := by
              unfold earO
              rw [if_neg, Int.toNat_natCast]
              rw [Int.toNat_natCast, hgi, hik]
              simp [hc, hln]
              omega
            rw [hik] at hck
            have hok := check_relOk hc
            have hE2 : earO S inn rn = (List.range S.rels.length).find? (rwAt S.rels inn rn) := by rw [hE]; exact rw_find hok
            rw [hE2]
            have HLN := Lib.hid hln
            have hrl := hb.rl _ (List.getElem_mem hrs)
            have HRL := Lib.hid (fun (k : Nat) (hk : k < S.rels.length) => hb.rl _ (List.getElem_mem hk))
            have HRS := Lib.hid (fun (W : World) (hW : Below w.heap.size w W) => sch_relsE (h0.ext hW))
            have HGR : Hid (S.rels.getD rn default = S.rels[rn]) := Lib.hid (by simp [List.getD, hrs])
            generalize checkE S = ce at *
            have CT1 := Lib.hid ct1
            clear ct1 hc hE hE2 hln hgi hik hok
            have hdr2 : decide (inn.length ≤ rn) = false := by rw [decide_eq_false_iff_not]; omega
            have hdr : decide ((rn : Int) < 0) = false := by rw [decide_eq_false_iff_not]; omega
            go_enter Try.func26, Try.ntmps26
            go_wp2_with (
              go_at_call 49
              go_must (
                refine (CT1.out _ ((Below.refl _ _).alloc (Nat.le_refl _) _)).mono ?_
                rintro e w1 ⟨rfl, hb1⟩
                have hbx := (Blk.new w 28 #[Value.slice A1 S.attrs.length c1, Value.slice A2 S.rels.length c2, Value.slice A3 S.feats.length c3, Value.int IntKind.i64 S.label]).ext hb1
                have x1 := hbx.cell 1
                simp at x1
                clear hbx
                have hck1 : w1.cell? ⟨b, off + rn, none⟩ = some (.bool true) := by rw [hb1.cell (p := ⟨b, off + rn, none⟩) (by show b < _; simp; omega), World.cell?_alloc_lt _ _ _ hbb]; exact hck
                have hbel1 : Below w.heap.size w w1 := ext_trans ((Below.refl _ _).alloc (Nat.le_refl _) _) hb1
                clear hck))
            have hi1 := hi.ext hbel1
            have hr1' := HRS.out w1 hbel1
            clear hck1 HRS CT1
            obtain ⟨br, offr, Ar, cr, rfl, _, hbbr, _, hkr2, hrowr⟩ := hr1'.at_ hrs
            generalize hPP : rwAt S.rels inn rn = P at *
            have HPP := Lib.hid hPP
            clear hPP
            go_loop [44] (fun i => ∃ k : Nat, k ≤ inn.length ∧ i = .int .i64 k ∧ Hid (∀ j, j < k → P j = false)) (fun i => inn.length - (intOf i).toNat)
            case atStart => exact ⟨0, Nat.zero_le _, rfl, Lib.hid fun j hj => absurd hj (by omega)⟩
            case round =>
              obtain ⟨k, hk, rfl, HNO⟩ := hrel
              by_cases hlt : k < inn.length
              · obtain ⟨b', off', e', hb', hcik⟩ := hi1.bool_at hlt
                simp at e'
                obtain ⟨rfl, rfl⟩ := e'
                have hks : k < S.rels.length := by rw [← HLN.out]; exact hlt
                have HP : Hid (P k = (inn[k] && decide (k ≠ rn) && okTo S.rels inn rn k S.rels[rn].2.length)) := Lib.hid (by rw [← HPP.out]; unfold rwAt; rw [HGR.out]; simp [List.getD, hlt])
                have HST := Lib.hid (fun (h : P k = false) (j : Nat) (hj : j < k + 1) => show P j = false by
                  by_cases e : j < k
                  · exact HNO.out j e
                  · obtain rfl : j = k := by omega
                    exact h)
                cases hik : inn[k]
                · rw [hik] at hcik HP
                  go_wp2
                  exact ⟨⟨k + 1, by omega, by go_num, Lib.hid (HST.out (by rw [HP.out]; rfl))⟩, by simp [intOf]; omega⟩
                · rw [hik] at hcik HP
                  by_cases hkr : k = rn
                  · have hkb : ((k : Int) == (rn : Int)) = true := by rw [beq_iff_eq]; omega
                    have HF : Hid (P k = false) := Lib.hid (by rw [HP.out]; simp [hkr])
                    clear hkr
                    go_wp2
                    exact ⟨⟨k + 1, by omega, by go_num, Lib.hid (HST.out HF.out)⟩, by simp [intOf]; omega⟩
                  · have hkb : ((k : Int) == (rn : Int)) = false := by rw [beq_eq_false_iff_ne]; omega
                    have HP2 : Hid (P k = okTo S.rels inn rn k S.rels[rn].2.length) := Lib.hid (by rw [HP.out]; simp [hkr])
                    have HOS := Lib.hid (fun (p : Nat) (hp : p < S.rels[rn].2.length) => okTo_succ S.rels inn rn k p hrs hp)
                    have HO0 : Hid (okTo S.rels inn rn k 0 = true) := Lib.hid (by simp [okTo])
                    obtain ⟨bk, offk, Ak, ck, ek, _, hbbk, _, hkk2, hrowk⟩ := hr1'.at_ hks
                    simp at ek
                    obtain ⟨rfl, rfl⟩ := ek
                    have hrlk := HRL.out k hks
                    have HGK : Hid (S.rels.getD k default = S.rels[k]) := Lib.hid (by simp [List.getD, hks])
                    generalize hOK : okTo S.rels inn rn k = okf at *
                    clear hOK hkr hik
                    go_wp2
                    go_loop [9, 64] (fun o i => ∃ p : Nat, p ≤ S.rels[rn].2.length ∧ i = .int .i64 p ∧ o = .bool (okf p)) (fun _ i => S.rels[rn].2.length - (intOf i).toNat)
                    case atStart => exact ⟨0, Nat.zero_le _, rfl, by rw [HO0.out]⟩
                    case round =>
                      obtain ⟨p, hp, rfl, rfl⟩ := hrel
                      by_cases hpl : p < S.rels[rn].2.length
                      · obtain ⟨bp, offp, rfl, hbp, hcp⟩ := hrowr.int_at hpl
                        have HOP := Lib.hid (HOS.out p hpl)
                        have HSS := Lib.hid (fun (j : Nat) => shTo_succ S.rels inn rn S.rels[rn].2[p] j)
                        have HS0 : Hid (shTo S.rels inn rn S.rels[rn].2[p] 0 = false) := Lib.hid rfl
                        have CIK := Lib.hid (in_any Ak ck S.rels[k].2 S.rels[rn].2[p] w1 hrowk (by omega))
                        generalize S.rels[rn].2[p] = at0 at *
                        generalize hSH : shTo S.rels inn rn at0 = shf at *
                        clear hSH
                        go_wp2
                        go_loop [12, 70] (fun sh i => ∃ j : Nat, j ≤ inn.length ∧ i = .int .i64 j ∧ sh = .bool (shf j)) (fun _ i => inn.length - (intOf i).toNat)
                        case atStart => exact ⟨0, Nat.zero_le _, rfl, by rw [HS0.out]⟩
                        case round =>
                          obtain ⟨j, hj, rfl, rfl⟩ := hrel
                          by_cases hjl : j < inn.length
                          · have hjs : j < S.rels.length := by rw [← HLN.out]; exact hjl
                            obtain ⟨b2, off2, e2, _, hcj⟩ := hi1.bool_at hjl
                            simp at e2
                            obtain ⟨rfl, rfl⟩ := e2
                            obtain ⟨bj, offj, Aj, cj, ej, _, hbbj, _, hkj2, hrowj⟩ := hr1'.at_ hjs
                            simp at ej
                            obtain ⟨rfl, rfl⟩ := ej
                            have hrlj := HRL.out j hjs
                            have HSJ : Hid (shf (j + 1) = (shf j || (inn[j] && decide (j ≠ rn) && inB S.rels[j].2 at0))) := Lib.hid (by rw [HSS.out]; simp [List.getD, hjl, hjs])
                            have cij := in_any Aj cj S.rels[j].2 at0 w1 hrowj (by omega)
                            generalize S.rels[j].2 = Lj at *
                            cases hs : shf j
                            · rw [hs] at HSJ
                              cases hij : inn[j]
                              · rw [hij] at hcj HSJ
                                go_wp2_with fail
                                exact ⟨⟨j + 1, by omega, by go_num, by rw [HSJ.out]; rfl⟩, by simp [intOf]; omega⟩
                              · rw [hij] at hcj HSJ
                                by_cases hjr : j = rn
                                · have hjb : ((j : Int) != (rn : Int)) = false := by simp; omega
                                  have HJR := Lib.hid hjr
                                  clear hjr
                                  go_wp2_with fail
                                  exact ⟨⟨j + 1, by omega, by go_num, by rw [HSJ.out]; simp [HJR.out]⟩, by simp [intOf]; omega⟩
                                · have hjb : ((j : Int) != (rn : Int)) = true := by simp; omega
                                  have HJR := Lib.hid hjr
                                  have CIJ := Lib.hid cij
                                  clear hjr cij
                                  go_wp2_with (go_at_call 36; go_must (refine CIJ.out.mono ?_; rintro e w3 ⟨rfl, rfl⟩))
                                  exact ⟨⟨j + 1, by omega, by go_num, by rw [HSJ.out]; simp [HJR.out]⟩, by simp [intOf]; omega⟩
                            · rw [hs] at HSJ
                              go_wp2_with fail
                              exact ⟨⟨j + 1, by omega, by go_num, by rw [HSJ.out]; rfl⟩, by simp [intOf]; omega⟩
                          · obtain rfl : j = inn.length := by omega
                            have hd1 : decide (inn.length < inn.length) = false := by simp
                            have HOP2 : Hid (okf (p + 1) = (okf p && (!shf inn.length || inB S.rels[k].2 at0))) := Lib.hid (by rw [HOP.out, HGK.out, HLN.out])
                            cases ho : okf p
                            · rw [ho] at HOP2
                              go_wp2_with fail
                              exact ⟨⟨p + 1, by omega, by go_num, by rw [HOP2.out]; rfl⟩, by simp [intOf]; omega⟩
                            · rw [ho] at HOP2
                              cases hs : shf inn.length
                              · rw [hs] at HOP2
                                go_wp2_with fail
                                exact ⟨⟨p + 1, by omega, by go_num, by rw [HOP2.out]; rfl⟩, by simp [intOf]; omega⟩
                              · rw [hs] at HOP2
                                go_wp2_with (go_at_call 36; go_must (refine CIK.out.mono ?_; rintro e w3 ⟨rfl, rfl⟩))
                                exact ⟨⟨p + 1, by omega, by go_num, by rw [HOP2.out]; simp⟩, by simp [intOf]; omega⟩
                      · obtain rfl : p = S.rels[rn].2.length := by omega
                        have hd1 : decide (S.rels[rn].2.length < S.rels[rn].2.length) = false := by simp
                        cases ho : okf S.rels[rn].2.length
                        · rw [ho] at HP2
                          go_wp2_with fail
                          exact ⟨⟨k + 1, by omega, by go_num, Lib.hid (HST.out HP2.out)⟩, by simp [intOf]; omega⟩
                        · rw [ho] at HP2
                          have HFD : Hid ((List.range S.rels.length).find? P = some k) := Lib.hid (find_range hks HP2.out HNO.out)
                          go_wp2_with fail
                          go_ret2
                          exact ⟨by rw [HPP.out, HFD.out]; rfl, hbel1⟩
              · obtain rfl : k = inn.length := by omega
                have hd1 : decide (inn.length < inn.length) = false := by simp
                have HFD : Hid ((List.range S.rels.length).find? P = none) := Lib.hid (find_range_none (by rw [← HLN.out]; exact HNO.out))
                go_wp2_with fail
                go_ret2
                exact ⟨by rw [HPP.out, HFD.out]; rfl, hbel1⟩
    · have hlb : ((inn.length : Int) != (S.rels.length : Int)) = true := by simp; omega
      have hE : earO S inn r = none := by unfold earO; rw [if_pos (.inr (.inl hln))]
      rw [hE]
      generalize checkE S = ce at *
      have CT1 := Lib.hid ct1
      clear ct1 hc hE hln
      go_enter Try.func26, Try.ntmps26
      go_wp2_with (
        go_at_call 49
        go_must (
          refine (CT1.out _ ((Below.refl _ _).alloc (Nat.le_refl _) _)).mono ?_
          rintro e w1 ⟨rfl, hb1⟩
          have hbx := (Blk.new w 28 #[Value.slice A1 S.attrs.length c1, Value.slice A2 S.rels.length c2, Value.slice A3 S.feats.length c3, Value.int IntKind.i64 S.label]).ext hb1
          have x0 := hbx.cell 0
          have x1 := hbx.cell 1
          have x2 := hbx.cell 2
          have x3 := hbx.cell 3
          simp at x0 x1 x2 x3
          clear hbx))
      go_ret2
      exact ⟨rfl, ext_trans ((Below.refl _ _).alloc (Nat.le_refl _) _) hb1⟩
  · have hcb := ne_b hc
    have hE : earO S inn r = none := by unfold earO; rw [if_pos (.inl hc)]
    rw [hE]
    generalize checkE S = ce at *
    have CT1 := Lib.hid ct1
    clear ct1 hc hE
    go_enter Try.func26, Try.ntmps26
    go_wp2_with (
      go_at_call 49
      go_must (
        refine (CT1.out _ ((Below.refl _ _).alloc (Nat.le_refl _) _)).mono ?_
        rintro e w1 ⟨rfl, hb1⟩))
    go_ret2
    exact ⟨rfl, ext_trans ((Below.refl _ _).alloc (Nat.le_refl _) _) hb1⟩
end Go.Proofs.Ytopblgabadljdaa
namespace Go.Proofs.Ytopblgabadljdaa
open Go.RowKit
theorem rep_at {x z : Value} {n k : Nat} (h : k < n) : (repL x z n k)[k]? = some z := by
  unfold repL
  rw [List.getElem?_append_right (by simp)]
  simp [List.getElem?_replicate]; omega
theorem rep_set {x z : Value} {n k : Nat} (h : k < n) : (repL x z n k).set k x = repL x z n (k + 1) := by
  unfold repL
  rw [List.set_append_right _ _ (by simp), List.length_replicate, Nat.sub_self]
  obtain ⟨m, hm⟩ : ∃ m, n - k = m + 1 := ⟨n - k - 1, by omega⟩
  rw [hm, show n - (k + 1) = m by omega, List.replicate_succ, List.set_cons_zero, List.replicate_succ', List.append_assoc]
  rfl
theorem rep_full {x z : Value} {n : Nat} : repL x z n n = List.replicate n x := by simp [repL]
def wit7 (S : Sch) : List Int := if checkE S = 0 then (redS S.rels).wit else []
theorem ear_at {S : Sch} (hc : checkE S = 0) {inn : List Bool} (hl : inn.length = S.rels.length) {k : Nat} (hk : k < S.rels.length) : (earO S inn (k : Int)).isSome = earAt S.rels inn k ∧ (earAt S.rels inn k = true → earO S inn (k : Int) = witI S.rels inn k) := by
  unfold earO earAt
  rw [Int.toNat_natCast]
  cases h : inn.getD k false
  · rw [if_pos (by simp)]; simp
  · rw [if_neg (by simp [hc, hl]; omega)]; simp
set_option maxRecDepth 100000 in
set_option maxHeartbeats 2000000 in
theorem reduce7_yes (v : Value) (S : Sch) (w : World) {R : Nat → Prop} (h : SchAt w R v S) (hb : SBd S) (hc : checkE S = 0) :
    Calls Try.prog 37 #[v] w fun e w' => ∃ (Ao : Option Addr) (co : Nat) (Ac : Option Addr) (cc : Nat) (Aw : Option Addr) (cw : Nat),
      e = .returned (.tuple #[.slice Ao (redS S.rels).ord.length co, .slice Ac (coreS S.rels).length cc, .slice Aw S.rels.length cw]) ∧
      RowK w' (w.heap.size ≤ ·) Ao (redS S.rels).ord.length co (ints (redS S.rels).ord) ∧ RowK w' (w.heap.size ≤ ·) Ac (coreS S.rels).length cc (ints (coreS S.rels)) ∧ RowK w' (w.heap.size ≤ ·) Aw S.rels.length cw (ints (redS S.rels).wit) ∧ Below w.heap.size w w' := by
  have h0 := h
  obtain ⟨A1, c1, A2, c2, A3, c3, rfl, l1, l2, l3, h1, h2, h3⟩ := h
  clear h1 h2 h3 l1 l2 l3
  have hok := check_relOk hc
  have hn1 := (check_zero hc).2.2.1
  have hn := hok.1
  have hcb := eq_b hc
  have CE := Lib.hid (fun (W : World) (Ai : Option Addr) (ci : Nat) (inn : List Bool) (k : Int) (R' : Nat → Prop) (hW : Below w.heap.size w W) (hi : Row W R' Ai (bools inn)) => ear7_any _ S Ai ci inn k W (h0.ext hW) hb hi)
  have HEA := Lib.hid (fun (inn : List Bool) (hl : inn.length = S.rels.length) (k : Nat) (hk : k < S.rels.length) => ear_at hc hl hk)
  have CK := Lib.hid (check5_any _ S _ (h0.ext ((Below.refl _ w).alloc (Nat.le_refl _) (.cells #[Value.slice A1 S.attrs.length c1, Value.slice A2 S.rels.length c2, Value.slice A3 S.feats.length c3, Value.int IntKind.i64 S.label] 28))) hb)
  generalize hce' : checkE S = ce at *
  clear hc hce'
  obtain ⟨ib, hib, hz0, hz1, hz2⟩ := info_parts Try.infoBool
  obtain ⟨ii, hii, hy0, hy1, hy2⟩ := info_parts Try.infoInt
  go_enter Try.func37, Try.ntmps37
  go_upto_region 4 with (first
    | (go_at_call 49
       go_must (
        refine CK.out.mono ?_
        rintro e w1 ⟨rfl, hb1⟩
        have hbx := (Blk.new w 28 #[Value.slice A1 S.attrs.length c1, Value.slice A2 S.rels.length c2, Value.slice A3 S.feats.length c3, Value.int IntKind.i64 S.label]).ext hb1
        have hbel1 : Below w.heap.size w w1 := ext_trans ((Below.refl _ _).alloc (Nat.le_refl _) _) hb1
        have x1 := hbx.cell 1
        simp at x1
        have hxl := hbx.lt
        have HBX := Lib.hid hbx
        clear hbx hb1))
    | (at_make
       go_must (
        refine wpList_make_full _ rfl _ _ 36 rfl w1.heap.size 4 ib (.bool false) 1 Try.underlying36 hib hz0 hz1 _ _ _ _ S.rels.length rfl rfl rfl rfl (by rw [hz2]; omega) (by simp [maxLen]; omega) (by simp) ?_
        intro w2 hown2 hg2
        have hownb : w2.ownsRow w1.heap.size 4 1 (.slice (some ⟨w1.heap.size, 0, none⟩) S.rels.length S.rels.length) S.rels.length (repL (.bool true) (.bool false) S.rels.length 0) := by
          rw [made_one (.bool false) rfl] at hown2; exact hown2
        have hb2 := ext_of_grown hg2
        have hl2 := (hownb.lt _ rfl).2
        clear hown2 hg2 x1)))
  go_wp2_with (
    at_make
    go_must (
      refine wpList_make_full _ rfl _ _ 22 rfl w2.heap.size 3 ii (.int .i64 0) 1 Try.underlying22 hii hy0 hy1 _ _ _ _ S.rels.length rfl rfl rfl rfl (by rw [hy2]; omega) (by simp [maxLen]; omega) (by simp) ?_
      intro w3 hown3 hg3
      have howni : w3.ownsRow w2.heap.size 3 1 (.slice (some ⟨w2.heap.size, 0, none⟩) S.rels.length S.rels.length) S.rels.length (repL (.int .i64 (-1)) (.int .i64 0) S.rels.length 0) := by
        rw [made_one (.int .i64 0) rfl] at hown3; exact hown3
      have hb3 := ext_of_grown hg3
      have hownb3 := hownb.kept (grown_of_ext hb3 none) (by simp [Value.ownBlock])
      clear hown3 hg3 hownb))
  have hs2 := hb2.size
  have hs3 := hb3.size
  have hs1 := hbel1.size
  have hownb4 := own_mono hownb3 (base' := w.heap.size + 1) (by omega)
  have howni4 := own_mono howni (base' := w.heap.size + 1) (by omega)
  have HBX3 := Lib.hid ((HBX.out.ext hb2).ext hb3)
  have hb03 := ext_trans (ext_trans hbel1 hb2) hb3
  obtain ⟨g5, hg5⟩ : ∃ g5, g5 = w1.heap.size := ⟨_, rfl⟩
  obtain ⟨g4, hg4⟩ : ∃ g4, g4 = w2.heap.size := ⟨_, rfl⟩
  have hne54 : g5 ≠ g4 := by omega
  have hg5' : w.heap.size + 1 ≤ g5 := by omega
  have hg4' : w.heap.size + 1 ≤ g4 := by omega
  rw [← hg5] at hownb4 ⊢
  rw [← hg4] at howni4 ⊢
  clear hownb3 howni HBX hib hz0 hz1 hz2 hii hy0 hy1 hy2 hg4 hg5 CK
  go_loopw [24] (fun i wr => ∃ k : Nat, k ≤ S.rels.length ∧ i = .int .i64 k ∧ wr.ownsRow (w.heap.size + 1) 4 1 (.slice (some ⟨g5, 0, none⟩) S.rels.length S.rels.length) S.rels.length (repL (.bool true) (.bool false) S.rels.length k) ∧
    wr.ownsRow (w.heap.size + 1) 3 1 (.slice (some ⟨g4, 0, none⟩) S.rels.length S.rels.length) S.rels.length (repL (.int .i64 (-1)) (.int .i64 0) S.rels.length k) ∧
    Blk wr w.heap.size 28 #[Value.slice A1 S.attrs.length c1, Value.slice A2 S.rels.length c2, Value.slice A3 S.feats.length c3, Value.int IntKind.i64 S.label] ∧ Below w.heap.size w wr) (fun i _ => S.rels.length - (intOf i).toNat)
  case atStart => exact ⟨0, Nat.zero_le _, rfl, hownb4, howni4, HBX3.out, hb03⟩
  case round =>
    clear hownb4 howni4 HBX3 hb03
    obtain ⟨k, hk, rfl, hin, hwt, hbx, hbel⟩ := hrel
    by_cases hlt : k < S.rels.length
    · have hci : wr.cell? ⟨g5, k, none⟩ = some (.bool false) := by rw [hin.cellAt k (by omega)]; exact rep_at hlt
      have hfi := hin.frozenAt k
      have hsi := hin.stored k (.bool true)
      have hwt4 := hwt.kept hsi.2 (.inr (by simp [Value.ownBlock]; omega))
      have hcw4 : (wr.setCell ⟨g5, k, none⟩ (.bool true)).cell? ⟨g4, k, none⟩ = some (.int .i64 0) := by rw [hwt4.cellAt k (by omega)]; exact rep_at hlt
      have hfw4 := hwt4.frozenAt k
      have hsw := hwt4.stored k (.int .i64 (-1))
      have hin5 := hsi.1.kept hsw.2 (.inr (by simp [Value.ownBlock]; omega))
      have HRS1 := Lib.hid (rep_set (x := Value.bool true) (z := Value.bool false) hlt)
      have HRS2 := Lib.hid (rep_set (x := Value.int .i64 (-1)) (z := Value.int .i64 0) hlt)
      have HB5 := Lib.hid ((hbx.grown hsi.2 (by simp; omega)).grown hsw.2 (by simp; omega))
      clear hbx
      go_wp2
      refine ⟨⟨k + 1, by omega, by go_num, ?_, ?_, HB5.out, (hbel.setCell (by show w.heap.size ≤ g5; omega) _).setCell (by show w.heap.size ≤ g4; omega) _⟩, by simp [intOf]; omega⟩
      · rw [← HRS1.out]; exact hin5
      · rw [← HRS2.out]; exact hsw.1
    · obtain rfl : k = S.rels.length := by omega
      rw [rep_full] at hin hwt
      have hin0 : wr.ownsRow (w.heap.size + 1) 4 1 (.slice (some ⟨g5, 0, none⟩) S.rels.length S.rels.length) S.rels.length (bools (redTo S.rels 0).inn) := by rw [show (redTo S.rels 0).inn = List.replicate S.rels.length true from rfl, bools, List.map_replicate]; exact hin
      have hwt0 : wr.ownsRow (w.heap.size + 1) 3 1 (.slice (some ⟨g4, 0, none⟩) S.rels.length S.rels.length) S.rels.length (ints (redTo S.rels 0).wit) := by rw [show (redTo S.rels 0).wit = List.replicate S.rels.length (-1) from rfl, ints, List.map_replicate]; exact hwt
      have HBX2 := Lib.hid hbx
      obtain ⟨wz, rfl⟩ : ∃ wz : World, wz = wr := ⟨_, rfl⟩
      have hd0 : decide (S.rels.length < S.rels.length) = false := by simp
      clear hin hwt hbx
      go_wp2
      clear hd0
      go_loopw [2, 7] (fun o f wr => ∃ j : Nat, (∀ k, k < j → earI S.rels (redTo S.rels k).inn ≠ none) ∧ wr.ownsRow (w.heap.size + 1) 4 1 (.slice (some ⟨g5, 0, none⟩) S.rels.length S.rels.length) S.rels.length (bools (redTo S.rels j).inn) ∧
        wr.ownsRow (w.heap.size + 1) 3 1 (.slice (some ⟨g4, 0, none⟩) S.rels.length S.rels.length) S.rels.length (ints (redTo S.rels j).wit) ∧ wr.ownsRow (w.heap.size + 1) 3 1 o (redTo S.rels j).ord.length (ints (redTo S.rels j).ord) ∧
        (o.ownBlock = none ∨ o.ownBlock ≠ some g4) ∧ (f = .bool true ∨ (f = .bool false ∧ earI S.rels (redTo S.rels j).inn = none)) ∧
        Blk wr w.heap.size 28 #[Value.slice A1 S.attrs.length c1, Value.slice A2 S.rels.length c2, Value.slice A3 S.feats.length c3, Value.int IntKind.i64 S.label] ∧ Below w.heap.size w wr)
        (fun o f _ => if boolOf f then S.rels.length + 1 - sliceLen o else 0)
      case atStart => exact ⟨0, fun k hk => absurd hk (by omega), hin0, hwt0, World.ownsRow_nil _ _ _ _, .inl rfl, .inl rfl, HBX2.out, hbel⟩
      case round =>
        clear hin0 hwt0 HBX2 hbel
        obtain ⟨j, hall, hin, hwt, hor, hnb, hf, hbx, hbel⟩ := hrel
        have hol := redTo_ord S.rels j hall
        have hcn := redTo_count S.rels j
        have hjn : j ≤ S.rels.length := by omega
        have hil := (redTo_len S.rels j).1
        have hwl := (redTo_len S.rels j).2
        have HALL := Lib.hid hall
        have HOL := Lib.hid hol
        have HIL := Lib.hid hil
        have HWL := Lib.hid hwl
        have HBX := Lib.hid hbx
        have x0 := hbx.cell 0
        have x1 := hbx.cell 1
        have x2 := hbx.cell 2
        have x3 := hbx.cell 3
        have xlt := hbx.lt
        simp at x0 x1 x2 x3
        obtain ⟨Ao, co, rfl, hco, _⟩ := own_slice hor
        have hil2 := (hin.lt g5 rfl).2
        have hwl2 := (hwt.lt g4 rfl).2
        clear hall hol hcn hil hwl hbx
        rcases hf with rfl | ⟨rfl, hend⟩
        · obtain ⟨wp, rfl⟩ : ∃ wp : World, wp = wr := ⟨_, rfl⟩
          go_wp2
          go_loopw [2, 7, 37] (fun o f i wq => ∃ k : Nat, k ≤ S.rels.length ∧ i = .int .i64 k ∧ o = .slice Ao (redTo S.rels j).ord.length co ∧ f = .bool false ∧ (∀ i', i' < k → earAt S.rels (redTo S.rels j).inn i' = false) ∧ Below wp.heap.size wp wq) (fun _ _ i _ => S.rels.length - (intOf i).toNat)
          case atStart => exact ⟨0, Nat.zero_le _, rfl, rfl, rfl, fun i' h => absurd h (by omega), Below.refl _ _⟩
          case round =>
            obtain ⟨k, hk, rfl, rfl, rfl, hno, hbq⟩ := hrel
            have HNO := Lib.hid hno
            clear hno
            have hbw := ext_trans hbel hbq
            by_cases hlt : k < S.rels.length
            · have hin2 := hin.kept (grown_of_ext hbq none) (by simp [Value.ownBlock])
              have hki : k < (redTo S.rels j).inn.length := by rw [HIL.out]; exact hlt
              have hci : wr.cell? ⟨g5, k, none⟩ = some (.bool (redTo S.rels j).inn[k]) := by rw [hin2.cellAt k (by omega), List.getElem?_map, List.getElem?_eq_getElem hki]; rfl
              have x0' : wr.cell? ⟨w.heap.size, 0, none⟩ = some (Value.slice A1 S.attrs.length c1) := by rw [hbq.cell (p := ⟨w.heap.size, 0, none⟩) xlt]; exact x0
              have x1' : wr.cell? ⟨w.heap.size, 1, none⟩ = some (Value.slice A2 S.rels.length c2) := by rw [hbq.cell (p := ⟨w.heap.size, 1, none⟩) xlt]; exact x1
              have x2' : wr.cell? ⟨w.heap.size, 2, none⟩ = some (Value.slice A3 S.feats.length c3) := by rw [hbq.cell (p := ⟨w.heap.size, 2, none⟩) xlt]; exact x2
              have x3' : wr.cell? ⟨w.heap.size, 3, none⟩ = some (Value.int IntKind.i64 S.label) := by rw [hbq.cell (p := ⟨w.heap.size, 3, none⟩) xlt]; exact x3
              have hct := CE.out wr (some ⟨g5, 0, none⟩) S.rels.length (redTo S.rels j).inn (k : Int) _ hbw (Row.of_own hin2)
              rw [HIL.out] at hct
              obtain ⟨hge, hgw⟩ := HEA.out (redTo S.rels j).inn HIL.out k hlt
              have HGW := Lib.hid hgw
              have HST := Lib.hid (fun (h : earAt S.rels (redTo S.rels j).inn k = false) (i' : Nat) (hi' : i' < k + 1) => show earAt S.rels (redTo S.rels j).inn i' = false by
                by_cases e : i' < k
                · exact HNO.out i' e
                · obtain rfl : i' = k := by omega
                  exact h)
              rw [hge] at hct
              have HCT := Lib.hid hct
              clear hct hge hgw
              cases hea : earAt S.rels (redTo S.rels j).inn k
              · rw [hea] at HCT
                have HEAF := Lib.hid hea
                clear hea
                go_wp2_with (
                  go_at_call 26
                  go_must (
                    refine HCT.out.mono ?_
                    rintro e w4 ⟨rfl, hb4⟩
                    clear hci))
                exact ⟨⟨k + 1, by omega, by go_num, rfl, rfl, HST.out HEAF.out, ext_trans hbq hb4⟩, by simp [intOf]; omega⟩
              · rw [hea, HGW.out hea] at HCT
                have hei : earI S.rels (redTo S.rels j).inn = some k := earI_at hlt hea HNO.out
                have hik : (redTo S.rels j).inn[k] = true := by unfold earAt at hea; rw [Bool.and_eq_true] at hea; simpa [List.getD, hki] using hea.1
                rw [hik] at hci
                have HNX := Lib.hid (redTo_next hei)
                have HEI := Lib.hid hei
                clear hei hea hik
                go_wp2_with (first
                  | (go_at_call 26
                     go_must (
                      refine HCT.out.mono ?_
                      rintro e w3 ⟨rfl, hb3⟩
                      have hbp := ext_trans hbq hb3
                      have hin3 := hin.kept (grown_of_ext hbp none) (by simp [Value.ownBlock])
                      have hwt3 := hwt.kept (grown_of_ext hbp none) (by simp [Value.ownBlock])
                      have hor3 := hor.kept (grown_of_ext hbp none) (by cases Ao <;> simp [Value.ownBlock])
                      have hci3 : w3.cell? ⟨g5, k, none⟩ = some (.bool true) := by rw [hb3.cell (p := ⟨g5, k, none⟩) (by show g5 < _; have := hbq.size; omega)]; exact hci
                      have hfi3 := hin3.frozenAt k
                      have hsi := hin3.stored k (.bool false)
                      have hwt4 := hwt3.kept hsi.2 (.inr (by simp [Value.ownBlock]; omega))
                      have hor4 := hor3.kept hsi.2 (own_ne_own hor3 hin3 (by decide))
                      have hkw : k < (redTo S.rels j).wit.length := by rw [HWL.out]; exact hlt
                      have hcw4 : (w3.setCell ⟨g5, k, none⟩ (.bool false)).cell? ⟨g4, k, none⟩ = some (.int .i64 (redTo S.rels j).wit[k]) := by rw [hwt4.cellAt k (by omega), List.getElem?_map, List.getElem?_eq_getElem hkw]; rfl
                      have hfw4 := hwt4.frozenAt k
                      generalize optI (witI S.rels (redTo S.rels j).inn k) = ow at *
                      have hsw := hwt4.stored k (.int .i64 ow)
                      have hin5 := hsi.1.kept hsw.2 (.inr (by simp [Value.ownBlock]; omega))
                      have hor5 := hor4.kept hsw.2 hnb
                      have HB5 := Lib.hid ((((HBX.out.ext hbp).grown hsi.2 (by simp; omega)).grown hsw.2 (by simp; omega)))
                      have hbel5 : Below w.heap.size w ((w3.setCell ⟨g5, k, none⟩ (.bool false)).setCell ⟨g4, k, none⟩ (.int .i64 ow)) := ((ext_trans hbel hbp).setCell (by show w.heap.size ≤ g5; omega) _).setCell (by show w.heap.size ≤ g4; omega) _
                      have hsz5 : wp.heap.size ≤ w3.heap.size := hbp.size
                      clear hci hin3 hwt3 hor3 hor4 hwt4))
                  | (at_builtin
                     go_must (
                      refine wpList_app rfl _ _ 22 rfl (w.heap.size + 1) 3 (.int .i64 0) 1 8 Try.underlying22 Try.infoInt rfl (by decide) (by decide) (.slice Ao (redTo S.rels j).ord.length co) (redTo S.rels j).ord.length 1 (ints (redTo S.rels j).ord) rfl rfl (by simp) hor5 rfl (by simp; rfl) (by rw [HOL.out]; omega) (by simp; omega) ?_
                      intro A6 c6 w6 hown6 hg6 hat6)))
                have hoK : ∀ g, (Value.slice Ao (redTo S.rels j).ord.length co).ownBlock = some g → w.heap.size + 1 ≤ g ∧ g < wp.heap.size := fun g e => hor.lt g e
                have hnb' : some g4 ≠ (Value.slice Ao (redTo S.rels j).ord.length co).ownBlock := own_ne_own' hnb
                refine ⟨⟨j + 1, ?_, ?_, ?_, ?_, ?_, .inl rfl, ?_, ?_⟩, ?_⟩
                · intro q hq
                  by_cases e : q < j
                  · exact HALL.out q e
                  · obtain rfl : q = j := by omega
                    rw [HEI.out]; simp
                · rw [HNX.out]
                  have := hin5.kept hg6 (own_ne_own hin5 hor5 (by decide))
                  simpa [bools, List.map_set] using this
                · rw [HNX.out]
                  have := hsw.1.kept hg6 (.inr hnb')
                  simpa [ints, List.map_set] using this
                · rw [HNX.out]
                  simpa [ints] using hown6
                · rcases hat6 with e | ⟨g, e, hge⟩
                  · rw [e]; exact hnb
                  · rw [e]; right; simp at hge; simp; omega
                · exact HB5.out.grown hg6 (fun e => by have := (hoK _ e.symm).1; omega)
                · exact hbel5.grown hg6 (by have := hbel5.size; exact this) (fun g e => by have := (hoK g e).1; omega)
                · simp [boolOf, sliceLen]; rw [HOL.out]; omega
            · have hend : earI S.rels (redTo S.rels j).inn = none := earI_no fun i' hi' => HNO.out i' (by omega)
              have HEND := Lib.hid hend
              have hd1 : decide (k < S.rels.length) = false := by simp; omega
              clear hend
              go_wp2
              refine ⟨⟨j, HALL.out, hin.kept (grown_of_ext hbq none) (by simp [Value.ownBlock]), hwt.kept (grown_of_ext hbq none) (by simp [Value.ownBlock]), hor.kept (grown_of_ext hbq none) (by cases Ao <;> simp [Value.ownBlock]), hnb, .inr ⟨rfl, HEND.out⟩, HBX.out.ext hbq, hbw⟩, ?_⟩
              simp [boolOf, sliceLen]; rw [HOL.out]; omega
        · have hfin : redS S.rels = redTo S.rels j := redTo_stop S.rels j hend S.rels.length hjn
          have HFIN := Lib.hid hfin
          obtain ⟨wp, rfl⟩ : ∃ wp : World, wp = wr := ⟨_, rfl⟩
          clear hfin hend HALL
          generalize redTo S.rels j = st at *
          obtain ⟨inn, wit, ord⟩ := st
          simp only at hin hwt hor hco
          have hil3 : inn.length = S.rels.length := HIL.out
          have HIL3 := Lib.hid hil3
          clear hil3 HIL HOL HWL
          go_wp2
          go_loopw [3, 62] (fun cv i wq => ∃ k : Nat, k ≤ S.rels.length ∧ i = .int .i64 k ∧ wq.ownsRow wp.heap.size 3 1 cv (coreTo inn k).length (ints (coreTo inn k)) ∧ Below wp.heap.size wp wq) (fun _ i _ => S.rels.length - (intOf i).toNat)
          case atStart => exact ⟨0, Nat.zero_le _, rfl, World.ownsRow_nil _ _ _ _, Below.refl _ _⟩
          case round =>
            obtain ⟨k, hk, rfl, hcv, hbq⟩ := hrel
            have hcl := coreTo_len inn k
            by_cases hlt : k < S.rels.length
            · have hin2 := hin.kept (grown_of_ext hbq none) (by simp [Value.ownBlock])
              have hki : k < inn.length := by rw [HIL3.out]; exact hlt
              have hci : wr.cell? ⟨g5, k, none⟩ = some (.bool inn[k]) := by rw [hin2.cellAt k (by omega), List.getElem?_map, List.getElem?_eq_getElem hki]; rfl
              have hcs := coreTo_succ inn k
              rw [show inn.getD k false = inn[k] by simp [List.getD, hki]] at hcs
              have HCS := Lib.hid hcs
              clear hcs
              cases hik : inn[k]
              · rw [hik] at hci HCS
                go_wp2
                exact ⟨⟨k + 1, by omega, by go_num, by rw [HCS.out]; exact hcv, hbq⟩, by simp [intOf]; omega⟩
              · rw [hik] at hci HCS
                go_wp2_with (
                  at_builtin
                  go_must (
                    refine wpList_app (W := wr) rfl _ _ 22 rfl wp.heap.size 3 (.int .i64 0) 1 8 Try.underlying22 Try.infoInt rfl (by decide) (by decide) u3 (coreTo inn k).length 1 (ints (coreTo inn k)) rfl rfl rfl hcv rfl (by simp; rfl) (by omega) hbq.size ?_
                    intro A6 c6 w6 hown6 hg6 hat6))
                refine ⟨⟨k + 1, by omega, by go_num, ?_, hbq.grown hg6 hbq.size (fun g e => (hcv.lt g e).1)⟩, by simp [intOf]; omega⟩
                rw [HCS.out]; simpa [ints] using hown6
            · obtain rfl : k = S.rels.length := by omega
              obtain ⟨Ac, cc, rfl, _, _⟩ := own_slice hcv
              have hd1 : decide (S.rels.length < S.rels.length) = false := by simp
              go_wp2
              go_ret3
              have hf := HFIN.out
              have hb0 := ext_trans hbel hbq
              have e1 : (redS S.rels).ord = ord := by rw [hf]
              have e2 : (redS S.rels).wit = wit := by rw [hf]
              have e3 : coreS S.rels = coreTo inn S.rels.length := by unfold coreS; rw [hf]
              rw [e1, e2, e3]
              refine ⟨Ao, co, Ac, cc, some ⟨g4, 0, none⟩, S.rels.length, rfl, ?_, ?_, ?_, hb0⟩
              · exact (RowK.of_own (hor.kept (grown_of_ext hbq none) (by cases Ao <;> simp [Value.ownBlock]))).mono fun b _ hb => by omega
              · exact (RowK.of_own hcv).mono fun b _ hb => by omega
              · exact (RowK.of_own (hwt.kept (grown_of_ext hbq none) (by simp [Value.ownBlock]))).mono fun b _ hb => by omega
end Go.Proofs.Ytopblgabadljdaa
namespace Go.Proofs.Ytopblgabadljdaa
/-! ### From removals to a tree -/
/-- Ears are removed, from I to J; par has their witnesses. -/
def RemN (e : Nat → Nat → Prop) (par : Nat → Int) : Nat → List Nat → List Nat → Prop
  | 0, I, J => J = I
  | n + 1, I, J => J = I ∨ ∃ i w, i ∈ I ∧ IsWit e I i w ∧ par i = (w : Int) ∧ RemN e par n (I.erase i) J
theorem walkB_mono {par : List Int} : ∀ {f : Nat} {a : Int}, walkB par f a = true → walkB par (f + 1) a = true := by
  intro f
  induction f with
  | zero => intro a h; simp [walkB] at h; exact walkB_neg h
  | succ f ih =>
    intro a h
    by_cases ha : a < 0
    · exact walkB_neg ha
    · simp only [walkB] at h ⊢
      rw [if_neg ha] at h ⊢
      exact ih h
theorem walkB_up {par : List Int} {f : Nat} {i : Nat} {p : Int} (hp : par.getD i 0 = p) : walkB par (f + 1) (i : Int) = walkB par f p := by
  simp only [walkB]
  rw [if_neg (by omega), Int.toNat_natCast, hp]
theorem rem_ne {e : Nat → Nat → Prop} {par : Nat → Int} : ∀ (n : Nat) (I J : List Nat), RemN e par n I J → I ≠ [] → J ≠ [] := by
  intro n
  induction n with
  | zero => intro I J h hI; rw [h]; exact hI
  | succ n ih =>
    intro I J h hI
    rcases h with h | ⟨i, w, hi, hw, hp, h⟩
    · rw [h]; exact hI
    · exact ih _ _ h (List.ne_nil_of_mem ((List.mem_erase_of_ne hw.2.1).2 hw.1))
theorem uses_has {S : Sch} {a : Int} {x : Int} : hasB (usesL S a) x = true ↔ ∃ k : Nat, x = (k : Int) ∧ hasB (S.rels.getD k default).2 a = true := by
  unfold hasB
  rw [decide_eq_true_eq]
  constructor
  · intro h
    obtain ⟨k, h1, _, h3⟩ := usesTo_mem h
    exact ⟨k, h1, h3⟩
  · rintro ⟨k, rfl, h⟩
    unfold usesL usesTo
    refine List.mem_map.2 ⟨k, ?_, rfl⟩
    rw [List.mem_filter]
    refine ⟨?_, h⟩
    rw [List.mem_range]
    rcases Nat.lt_or_ge k S.rels.length with hk | hk
    · exact hk
    · exfalso
      simp only [List.getD, List.getElem?_eq_none hk, Option.getD_none] at h
      exact absurd h (by simp; exact fun h => by cases h)
theorem tops_eq (S : Sch) (par : List Int) (a : Nat) : (usesL S a).countP (topF S par a) = (List.range S.rels.length).countP fun t => hasB (S.rels.getD t default).2 (a : Int) && topF S par a (t : Int) := by
  unfold usesL usesTo
  rw [List.countP_map, List.countP_filter]
  congr 1
  funext t
  simp [Bool.and_comm]
/-! ### What reduce computes -/
theorem red_rem (rs : List (ByteArray × List Int)) (hok : RelOk rs) (par : Nat → Int) (J : List Nat) : ∀ (j n : Nat), (∀ i, i < rs.length → (redTo rs j).inn.getD i false = false → par i = (redTo rs j).wit.getD i 0) →
    RemN (eR rs) par n (idx (redTo rs j).inn rs.length) J → ∃ m, RemN (eR rs) par m (List.range rs.length) J := by
  intro j
  induction j with
  | zero =>
    intro n _ h
    refine ⟨n, ?_⟩
    have : idx (redTo rs 0).inn rs.length = List.range rs.length := idx_all _
    rwa [this] at h
  | succ j ih =>
    intro n hag h
    cases he : earI rs (redTo rs j).inn with
    | none =>
      have e1 : redTo rs (j + 1) = redTo rs j := redTo_stop rs j he (j + 1) (by omega)
      rw [e1] at hag h
      exact ih n hag h
    | some i =>
      have e1 := redTo_next he
      obtain ⟨hi, hear, _⟩ := earI_some he
      have hil := (redTo_len rs j).1
      have hwl := (redTo_len rs j).2
      have hear' := hear
      unfold earAt at hear'
      rw [Bool.and_eq_true] at hear'
      obtain ⟨w, hw⟩ := Option.isSome_iff_exists.1 hear'.2
      have hwit := witI_some hok hw
      rw [e1] at hag h
      simp only at hag h
      rw [idx_set _ _ _ (by omega)] at h
      refine ih (n + 1) ?_ (.inr ⟨i, w, mem_idx.2 ⟨hi, hear'.1⟩, hwit, ?_, h⟩)
      · intro k hk hk2
        have hki : k ≠ i := by rintro rfl; rw [hear'.1] at hk2; cases hk2
        have := hag k hk (by rw [List.getD, List.getElem?_set_ne (by omega)]; exact hk2)
        rw [this, List.getD, List.getElem?_set_ne (by omega)]; rfl
      · have := hag i hi (by rw [List.getD, List.getElem?_set_self (by omega)]; rfl)
        rw [this, List.getD, List.getElem?_set_self (by omega), hw]; rfl
theorem core_pos {rs : List (ByteArray × List Int)} (hok : RelOk rs) (hn : 1 ≤ rs.length) : 1 ≤ (coreS rs).length := by
  obtain ⟨m, hm⟩ := red_rem rs hok (fun i => (redS rs).wit.getD i 0) (idx (redS rs).inn rs.length) rs.length 0 (fun i _ _ => rfl) rfl
  have hr : List.range rs.length ≠ [] := by
    intro h
    have h' : (List.range rs.length).length = 0 := by rw [h]; rfl
    rw [List.length_range] at h'
    omega
  have := rem_ne m _ _ hm hr
  rw [core_len]
  exact List.length_pos_iff.2 this
theorem closed_small {S : Sch} {ord core : List Int} (h : core.length < 2) : closedB S ord core = false := by
  unfold closedB
  split
  · rfl
  · split
    · rfl
    · have : decide (2 ≤ core.length) = false := by simp; omega
      rw [this]; rfl
/-- The depth of a relation in a tree. -/
def depN (par : List Int) : Nat → Int → Nat
  | 0, _ => 0
  | f + 1, a => if a < 0 then 0 else 1 + depN par f (par.getD a.toNat 0)
theorem depN_stay {par : List Int} : ∀ {f : Nat} {a : Int}, walkB par f a = true → depN par (f + 1) a = depN par f a := by
  intro f
  induction f with
  | zero => intro a h; simp [walkB] at h; simp [depN, h]
  | succ f ih =>
    intro a h
    by_cases ha : a < 0
    · simp [depN, ha]
    · simp only [walkB] at h
      rw [if_neg ha] at h
      have := ih h
      rw [show depN par (f + 1 + 1) a = if a < 0 then 0 else 1 + depN par (f + 1) (par.getD a.toNat 0) from rfl, show depN par (f + 1) a = if a < 0 then 0 else 1 + depN par f (par.getD a.toNat 0) from rfl, this]
end Go.Proofs.Ytopblgabadljdaa
namespace Go.Proofs.Ytopblgabadljdaa
open Go.RowKit
set_option maxRecDepth 100000 in
set_option maxHeartbeats 400000 in
theorem reduce7_any (v : Value) (S : Sch) (w : World) {R : Nat → Prop} (h : SchAt w R v S) (hb : SBd S) :
    Calls Try.prog 37 #[v] w fun e w' => ∃ (Ao : Option Addr) (co : Nat) (Ac : Option Addr) (cc : Nat) (Aw : Option Addr) (cw : Nat),
      e = .returned (.tuple #[.slice Ao (ordS S).length co, .slice Ac (corS S).length cc, .slice Aw (wit7 S).length cw]) ∧
      RowK w' (w.heap.size ≤ ·) Ao (ordS S).length co (ints (ordS S)) ∧ RowK w' (w.heap.size ≤ ·) Ac (corS S).length cc (ints (corS S)) ∧ RowK w' (w.heap.size ≤ ·) Aw (wit7 S).length cw (ints (wit7 S)) ∧ Below w.heap.size w w' := by
  by_cases hc : checkE S = 0
  · have e1 : ordS S = (redS S.rels).ord := by unfold ordS; rw [if_pos hc]
    have e2 : corS S = coreS S.rels := by unfold corS; rw [if_pos hc]
    have e3 : wit7 S = (redS S.rels).wit := by unfold wit7; rw [if_pos hc]
    have e4 : (redS S.rels).wit.length = S.rels.length := (redTo_len S.rels _).2
    rw [e1, e2, e3, e4]
    exact reduce7_yes v S w h hb hc
  · have hcb := ne_b hc
    have e1 : ordS S = [] := by unfold ordS; rw [if_neg hc]
    have e2 : corS S = [] := by unfold corS; rw [if_neg hc]
    have e3 : wit7 S = [] := by unfold wit7; rw [if_neg hc]
    rw [e1, e2, e3]
    have h0 := h
    obtain ⟨A1, c1, A2, c2, A3, c3, rfl, l1, l2, l3, h1, h2, h3⟩ := h
    have CK := Lib.hid (check5_any _ S _ (h0.ext ((Below.refl _ w).alloc (Nat.le_refl _) (.cells #[Value.slice A1 S.attrs.length c1, Value.slice A2 S.rels.length c2, Value.slice A3 S.feats.length c3, Value.int IntKind.i64 S.label] 28))) hb)
    clear h1 h2 h3 l1 l2 l3
    generalize checkE S = ce at *
    clear hc e1 e2 e3
    go_enter Try.func37, Try.ntmps37
    go_wp2_with (go_at_call 49; go_must (refine CK.out.mono ?_; rintro e w1 ⟨rfl, hb1⟩))
    go_ret3
    exact ⟨none, 0, none, 0, none, 0, rfl, RowK.nil, RowK.nil, RowK.nil, ext_trans ((Below.refl _ _).alloc (Nat.le_refl _) _) hb1⟩
set_option maxRecDepth 100000 in
set_option maxHeartbeats 400000 in
theorem reduceR_any (v : Value) (S : Sch) (w : World) {R : Nat → Prop} (h : SchAt w R v S) (hb : SBd S) :
    Calls Try.prog 17 #[v] w fun e w' => ∃ (Ao : Option Addr) (co : Nat) (Ac : Option Addr) (cc : Nat),
      e = .returned (.tuple #[.slice Ao (ordS S).length co, .slice Ac (corS S).length cc]) ∧
      RowK w' (w.heap.size ≤ ·) Ao (ordS S).length co (ints (ordS S)) ∧ RowK w' (w.heap.size ≤ ·) Ac (corS S).length cc (ints (corS S)) ∧ Below w.heap.size w w' := by
  have h0 := h
  obtain ⟨A1, c1, A2, c2, A3, c3, rfl, l1, l2, l3, h1, h2, h3⟩ := h
  have CK := Lib.hid (reduce7_any _ S _ (h0.ext ((Below.refl _ w).alloc (Nat.le_refl _) (.cells #[Value.slice A1 S.attrs.length c1, Value.slice A2 S.rels.length c2, Value.slice A3 S.feats.length c3, Value.int IntKind.i64 S.label] 28))) hb)
  clear h1 h2 h3 l1 l2 l3
  generalize ordS S = od at *
  generalize corS S = cr at *
  generalize wit7 S = wt at *
  go_enter Try.func17, Try.ntmps17
  go_wp2_with (go_at_call 37; go_must (refine CK.out.mono ?_; rintro e w2 ⟨Ao, co, Ac, cc, Aw, cw, rfl, hr1, hr2, hr3, hb2⟩))
  go_ret2
  exact ⟨Ao, co, Ac, cc, rfl, hr1.mono fun b _ hb => by simp at hb; omega, hr2.mono fun b _ hb => by simp at hb; omega, ext_trans ((Below.refl _ _).alloc (Nat.le_refl _) _) hb2⟩
set_option maxRecDepth 100000 in
set_option maxHeartbeats 400000 in
theorem treeR_any (v : Value) (S : Sch) (w : World) {R : Nat → Prop} (h : SchAt w R v S) (hb : SBd S) :
    Calls Try.prog 18 #[v] w fun e w' => ∃ (Aw : Option Addr) (cw : Nat),
      e = .returned (.tuple #[.agg #[.slice Aw (witS S).length cw], .bool (treB S)]) ∧ RowK w' (w.heap.size ≤ ·) Aw (witS S).length cw (ints (witS S)) ∧ Below w.heap.size w w' := by
  have h0 := h
  obtain ⟨A1, c1, A2, c2, A3, c3, rfl, l1, l2, l3, h1, h2, h3⟩ := h
  have hbb : Below w.heap.size w ((w.alloc (.cells #[Value.slice A1 S.attrs.length c1, Value.slice A2 S.rels.length c2, Value.slice A3 S.feats.length c3, Value.int IntKind.i64 S.label] 28)).alloc (.cells #[Value.slice none 0 0] 46)) := ext_alloc ((Below.refl _ _).alloc (Nat.le_refl _) _) _
  have ct := reduce7_any _ S _ (h0.ext hbb) hb
  clear h1 h2 h3 l1 l2 l3
  have hcases : (treB S = true ∧ (corS S).length = 1 ∧ witS S = wit7 S) ∨ (treB S = false ∧ (corS S).length ≠ 1 ∧ witS S = []) := by
    by_cases hc : checkE S = 0
    · have e2 : corS S = coreS S.rels := by unfold corS; rw [if_pos hc]
      have hp := core_pos (check_relOk hc) (check_zero hc).2.2.1
      by_cases h1 : (coreS S.rels).length = 1
      · exact .inl ⟨by unfold treB; simp [hc, h1], by rw [e2]; exact h1, by unfold witS wit7; rw [if_pos ⟨hc, by omega⟩, if_pos hc]⟩
      · exact .inr ⟨by unfold treB; simp [hc]; omega, by rw [e2]; exact h1, by unfold witS; rw [if_neg (by omega)]⟩
    · exact .inr ⟨by unfold treB; simp [hc], by unfold corS; rw [if_neg hc]; decide, by unfold witS; rw [if_neg (fun h => hc h.1)]⟩
  rcases hcases with ⟨e1, e2, e3⟩ | ⟨e1, e2, e3⟩
  · rw [← e3] at ct
    have hcb : (((corS S).length : Int) != 1) = false := by rw [e2]; rfl
    rw [e1]
    have CK := Lib.hid ct
    clear e1 e2 e3 ct
    generalize ordS S = od at *
    generalize corS S = cr at *
    generalize witS S = wt at *
    go_enter Try.func18, Try.ntmps18
    go_wp2_with (
      go_at_call 37
      go_must (
        refine CK.out.mono ?_; rintro e w2 ⟨Ao, co, Ac, cc, Aw, cw, rfl, hr1, hr2, hr3, hb2⟩
        have hby := (Blk.new (w.alloc (Obj.cells #[Value.slice A1 S.attrs.length c1, Value.slice A2 S.rels.length c2, Value.slice A3 S.feats.length c3, Value.int IntKind.i64 S.label] 28)) 46 #[.slice none 0 0]).ext hb2
        rw [World.size_alloc] at hby
        have y0 := hby.cell 0
        have z0 := hby.frozen 0
        simp at y0
        clear hby))
    refine bodyPost_ret (v := .tuple #[.agg #[.slice Aw wt.length cw], .bool true]) (by simp [results, Try.results18, go_sem, y0]) rfl ?_
    refine ⟨Aw, cw, rfl, ?_, (ext_trans hbb hb2).setCell (by simp) _⟩
    exact (hr3.mono (R' := fun b => w.heap.size + 2 ≤ b) (fun b _ hb => by simp at hb; omega)).setCell (fun b hb => by simp; omega) _ |>.mono fun b _ hb => by omega
  · have hcb : (((corS S).length : Int) != 1) = true := by simp; omega
    rw [e1, e3]
    have CK := Lib.hid ct
    clear e1 e2 e3 ct
    generalize ordS S = od at *
    generalize corS S = cr at *
    generalize wit7 S = wt at *
    go_enter Try.func18, Try.ntmps18
    go_wp2_with (
      go_at_call 37
      go_must (
        refine CK.out.mono ?_; rintro e w2 ⟨Ao, co, Ac, cc, Aw, cw, rfl, hr1, hr2, hr3, hb2⟩
        have hby := (Blk.new (w.alloc (Obj.cells #[Value.slice A1 S.attrs.length c1, Value.slice A2 S.rels.length c2, Value.slice A3 S.feats.length c3, Value.int IntKind.i64 S.label] 28)) 46 #[.slice none 0 0]).ext hb2
        rw [World.size_alloc] at hby
        have y0 := hby.cell 0
        have z0 := hby.frozen 0
        simp at y0
        clear hby))
    refine bodyPost_ret (v := .tuple #[.agg #[.slice none 0 0], .bool false]) (by simp [results, Try.results18, go_sem, y0]) rfl ?_
    exact ⟨none, 0, rfl, RowK.nil, (ext_trans hbb hb2).setCell (by simp) _⟩
set_option maxRecDepth 100000 in
set_option maxHeartbeats 400000 in
theorem acyclicR_any (v : Value) (S : Sch) (w : World) {R : Nat → Prop} (h : SchAt w R v S) (hb : SBd S) :
    Calls Try.prog 21 #[v] w fun e w' => e = .returned (.bool (treB S)) ∧ Below w.heap.size w w' := by
  have ct1 := fun (W : World) (hW : Below w.heap.size w W) => treeR_any v S W (h.ext hW) hb
  have CT1 := Lib.hid ct1
  obtain ⟨A1, c1, A2, c2, A3, c3, rfl, l1, l2, l3, h1, h2, h3⟩ := h
  clear h1 h2 h3 l1 l2 l3 ct1
  go_enter Try.func21, Try.ntmps21
  go_wp2_with (
    go_at_call 18
    go_must (
      refine (CT1.out _ ((Below.refl _ _).alloc (Nat.le_refl _) _)).mono ?_
      rintro e w1 ⟨Aw, cw, rfl, hr, hb1⟩))
  go_ret
  exact ⟨rfl, ext_alloc (ext_trans ((Below.refl _ _).alloc (Nat.le_refl _) _) hb1) _⟩
end Go.Proofs.Ytopblgabadljdaa
namespace Go.Proofs.Ytopblgabadljdaa
open Go.RowKit
theorem in_has (l : List Int) (x : Int) : inB l x = hasB l x := by
  unfold inB hasB
  rw [Bool.eq_iff_iff, decide_eq_true_eq, List.contains_iff_mem]
theorem walk_dep {par : List Int} : ∀ {f : Nat} {a : Int}, walkB par f a = true → walkB par (depN par f a) a = true := by
  intro f
  induction f with
  | zero => intro a h; exact h
  | succ f ih =>
    intro a h
    by_cases ha : a < 0
    · exact walkB_neg ha
    · simp only [walkB] at h
      rw [if_neg ha] at h
      have := ih h
      simp only [depN]
      rw [if_neg ha, Nat.add_comm]
      simp only [walkB]
      rw [if_neg ha]
      exact this
theorem walkB_more {par : List Int} {f g : Nat} {a : Int} (h : walkB par f a = true) (hg : f ≤ g) : walkB par g a = true := by
  induction g with
  | zero => obtain rfl : f = 0 := by omega
            exact h
  | succ g ih =>
    by_cases e : f = g + 1
    · rw [← e]; exact h
    · exact walkB_mono (ih (by omega))
/-- A way up that ends meets each relation once. -/
theorem dep_le {par : List Int} (hr : ∀ j (hj : j < par.length), -1 ≤ par[j] ∧ par[j] < par.length) (hw : ∀ j, j < par.length → walkB par (par.length + 1) j = true) :
    ∀ (m i : Nat), i < par.length → depN par (par.length + 1) i = m → m ≤ (List.range par.length).countP fun b => decide (depN par (par.length + 1) (b : Nat) ≤ m) := by
  have hstep : ∀ i, i < par.length → ∀ p : Nat, par.getD i 0 = (p : Int) → depN par (par.length + 1) (i : Nat) = 1 + depN par (par.length + 1) (p : Nat) := by
    intro i hi p hp
    have hwi := hw i hi
    rw [walkB_up hp] at hwi
    rw [depN_stay hwi]
    simp only [depN]
    rw [if_neg (by omega), Int.toNat_natCast, hp]
  intro m
  induction m with
  | zero => intro i _ _; exact Nat.zero_le _
  | succ m ih =>
    intro i hi hd
    have hle : (List.range par.length).countP (fun b => decide (depN par (par.length + 1) (b : Nat) ≤ m)) + 1 ≤ (List.range par.length).countP fun b => decide (depN par (par.length + 1) (b : Nat) ≤ m + 1) := by
      rw [List.countP_eq_length_filter, List.countP_eq_length_filter]
      have hnd : ((List.range par.length).filter fun b => decide (depN par (par.length + 1) (b : Nat) ≤ m + 1)).Nodup := List.nodup_range.filter _
      have hmem : i ∈ (List.range par.length).filter fun b => decide (depN par (par.length + 1) (b : Nat) ≤ m + 1) := by
        rw [List.mem_filter]; exact ⟨by simpa using hi, by simp [hd]⟩
      have hsub : ((List.range par.length).filter fun b => decide (depN par (par.length + 1) (b : Nat) ≤ m)).length ≤ (((List.range par.length).filter fun b => decide (depN par (par.length + 1) (b : Nat) ≤ m + 1)).erase i).length := by
        have e1 : (((List.range par.length).filter fun b => decide (depN par (par.length + 1) (b : Nat) ≤ m + 1)).erase i) = (List.range par.length).filter fun b => decide (depN par (par.length + 1) (b : Nat) ≤ m + 1) && decide (b ≠ i) := (filter_erase List.nodup_range).symm
        rw [e1, ← List.countP_eq_length_filter, ← List.countP_eq_length_filter]
        refine List.countP_mono_left fun x _ hx => ?_
        simp only [decide_eq_true_eq] at hx
        simp only [Bool.and_eq_true, decide_eq_true_eq]
        refine ⟨by omega, ?_⟩
        rintro rfl
        omega
      rw [List.length_erase_of_mem hmem] at hsub
      have := List.length_pos_of_mem hmem
      omega
    have hri := hr i hi
    have hg : par.getD i 0 = par[i] := by simp [List.getD, hi]
    by_cases hp : par[i] = -1
    · have hone : depN par (par.length + 1) (i : Nat) = 1 := by
        simp only [depN]
        rw [if_neg (by omega), Int.toNat_natCast, hg, hp]
        cases par.length <;> simp [depN]
      have : m = 0 := by omega
      subst this
      omega
    · obtain ⟨p, hpp⟩ := Int.eq_ofNat_of_zero_le (show 0 ≤ par[i] by omega)
      have h1 := hstep i hi p (by rw [hg]; exact hpp)
      have h2 := ih p (by omega) (by omega)
      omega
theorem treeR_eq {par : List Int} (hr : ∀ j (hj : j < par.length), -1 ≤ par[j] ∧ par[j] < par.length) (hw : ∀ j, j < par.length → walkB par (par.length + 1) j = true) : treeB par = (((par.count (-1) : Nat) : Int) == 1) := by
  refine treeB_end hr fun j hj => ?_
  have h1 := dep_le hr hw _ j hj rfl
  have h2 : (List.range par.length).countP (fun b => decide (depN par (par.length + 1) (b : Nat) ≤ depN par (par.length + 1) (j : Nat))) ≤ par.length := by
    refine Nat.le_trans List.countP_le_length ?_
    simp
  exact walkB_more (walk_dep (hw j hj)) (by omega)
theorem treeB_walk1 {par : List Int} {k : Nat} (hk : k < par.length) (h : walkB par (par.length + 1) k = false) : treeB par = false := by
  refine treeB_walk hk ?_
  cases e : walkB par par.length k
  · rfl
  · rw [walkB_mono e] at h; cases h
/-- The tops among the first k relations. -/
def topsTo (S : Sch) (par : List Int) (a k : Nat) : Nat := (List.range k).countP fun t => hasB (S.rels.getD t default).2 (a : Int) && topF S par a (t : Int)
theorem topsTo_succ (S : Sch) (par : List Int) (a k : Nat) : topsTo S par a (k + 1) = topsTo S par a k + if (hasB (S.rels.getD k default).2 (a : Int) && topF S par a (k : Int)) = true then 1 else 0 := by
  unfold topsTo
  rw [List.range_succ, List.countP_append]
  simp [List.countP_cons]
theorem topsTo_len (S : Sch) (par : List Int) (a k : Nat) : topsTo S par a k ≤ k := by
  unfold topsTo
  exact Nat.le_trans List.countP_le_length (by simp)
theorem topF_neg {S : Sch} {par : List Int} {a t : Nat} (h : par.getD t 0 = -1) : topF S par a (t : Int) = true := by
  unfold topF
  rw [Int.toNat_natCast, h, Bool.not_eq_true', ← Bool.not_eq_true, uses_has]
  rintro ⟨k, hk, _⟩
  omega
theorem topF_pos {S : Sch} {par : List Int} {a t p : Nat} (h : par.getD t 0 = (p : Int)) : topF S par a (t : Int) = !hasB (S.rels.getD p default).2 (a : Int) := by
  unfold topF
  rw [Int.toNat_natCast, h]
  congr 1
  rw [Bool.eq_iff_iff, uses_has]
  constructor
  · rintro ⟨k, hk, h1⟩
    have : k = p := by omega
    subst this; exact h1
  · intro h1; exact ⟨p, rfl, h1⟩
set_option maxRecDepth 100000 in
set_option maxHeartbeats 2000000 in
theorem chkR_any (v : Value) (S : Sch) (Ap : Option Addr) (cp : Nat) (par : List Int) (w : World) {R R' : Nat → Prop} (h : SchAt w R v S) (hb : SBd S) (hp : Row w R' Ap (ints par)) (hpl : par.length ≤ 1000) :
    Calls Try.prog 29 #[v, .agg #[.slice Ap par.length cp]] w fun e w' => e = .returned (.bool (chkB S par)) ∧ Below w.heap.size w w' := by
  have h0 := h
  obtain ⟨A1, c1, A2, c2, A3, c3, rfl, l1, l2, l3, h1, h2, h3⟩ := h
  clear h1 h2 h3 l1 l2 l3
  have hn := hb.r
  have hbb : Below w.heap.size w ((w.alloc (.cells #[Value.slice A1 S.attrs.length c1, Value.slice A2 S.rels.length c2, Value.slice A3 S.feats.length c3, Value.int IntKind.i64 S.label] 28)).alloc (.cells #[Value.slice Ap par.length cp] 46)) := ext_alloc ((Below.refl _ _).alloc (Nat.le_refl _) _) _
  have CT1 := Lib.hid (check5_any _ S _ (h0.ext hbb) hb)
  by_cases hce : checkE S = 0
  · have hcb := eq_b hce
    have HYES := Lib.hid (chkB_yes (S := S) (par := par) hce)
    generalize hce' : checkE S = ce at *
    clear hce hce'
    by_cases hlen : par.length = S.rels.length
    · have hlb : ((par.length : Int) != (S.rels.length : Int)) = false := by simp [hlen]
      have HLEN := Lib.hid hlen
      have HTN := Lib.hid (fun (h : treeB par = false) => chkB_tree (S := S) h)
      have HTOP := Lib.hid (fun (a : Nat) (ha : a < S.attrs.length) => chkB_top (par := par) ha)
      clear hlen
      generalize hcv : chkB S par = cv at *
      clear hcv
      go_enter Try.func29, Try.ntmps29
      go_wp2_with (
        go_at_call 49
        go_must (
          refine CT1.out.mono ?_
          rintro e w1 ⟨rfl, hb1⟩
          have hbx := ((Blk.new w 28 #[Value.slice A1 S.attrs.length c1, Value.slice A2 S.rels.length c2, Value.slice A3 S.feats.length c3, Value.int IntKind.i64 S.label]).alloc (.cells #[Value.slice Ap par.length cp] 46)).ext hb1
          have hby := (Blk.new (w.alloc (.cells #[Value.slice A1 S.attrs.length c1, Value.slice A2 S.rels.length c2, Value.slice A3 S.feats.length c3, Value.int IntKind.i64 S.label] 28)) 46 #[Value.slice Ap par.length cp]).ext hb1
          rw [World.size_alloc] at hby
          have x0 := hbx.cell 0
          have x1 := hbx.cell 1
          have y0 := hby.cell 0
          simp at x0 x1 y0
          have hbel1 : Below w.heap.size w w1 := ext_trans hbb hb1
          clear hbx hby hb1))
      have hp1 := hp.ext hbel1
      have hr1 := sch_relsE (h0.ext hbel1)
      clear CT1 hlb
      have hle1 : par.length ≤ S.rels.length := Nat.le_of_eq HLEN.out
      have hle2 : S.rels.length ≤ par.length := Nat.le_of_eq HLEN.out.symm
      go_loop [6, 31] (fun rv i => ∃ k : Nat, k ≤ par.length ∧ i = .int .i64 k ∧ rv = .int .i64 ((par.take k).count (-1) : Nat) ∧ Hid (∀ j (hj : j < par.length), j < k → (-1 ≤ par[j] ∧ par[j] < par.length) ∧ walkB par (par.length + 1) j = true)) (fun _ i => par.length - (intOf i).toNat)
      case atStart => exact ⟨0, Nat.zero_le _, rfl, rfl, Lib.hid fun j _ h => absurd h (by omega)⟩
      case round =>
        obtain ⟨k, hk, rfl, rfl, HB⟩ := hrel
        have hcl : (par.take k).count (-1) ≤ k := Nat.le_trans List.count_le_length (by simp; omega)
        by_cases hlt : k < par.length
        · obtain ⟨b, off, rfl, hbp, hck⟩ := hp1.int_at hlt
          have HCS := Lib.hid (count_take_succ hlt (-1))
          have HNO := Lib.hid (fun (h : ¬ (-1 ≤ par[k] ∧ par[k] < par.length)) => HTN.out (treeB_no hlt h))
          have HWN := Lib.hid (fun (h : walkB par (par.length + 1) k = false) => HTN.out (treeB_walk1 hlt h))
          have HB1 := Lib.hid (fun (h1 : -1 ≤ par[k] ∧ par[k] < par.length) (h2 : walkB par (par.length + 1) k = true) (j : Nat) (hj : j < par.length) (hjk : j < k + 1) => show (-1 ≤ par[j] ∧ par[j] < par.length) ∧ walkB par (par.length + 1) j = true by
            by_cases e : j < k
            · exact HB.out j hj e
            · obtain rfl : j = k := by omega
              exact ⟨h1, h2⟩)
          generalize hcn2 : (par.take (k + 1)).count (-1) = cn2 at *
          generalize hcn : (par.take k).count (-1) = cn at *
          have HC2 := Lib.hid hcn2
          clear hcn hcn2
          generalize hpk : par[k] = p at *
          clear hpk
          by_cases q1 : p < -1
          · go_wp2
            go_ret
            exact ⟨ret_bool (HNO.out (by omega)).symm, hbel1⟩
          · by_cases q2 : (par.length : Int) ≤ p
            · go_wp2
              go_ret
              exact ⟨ret_bool (HNO.out (by omega)).symm, hbel1⟩
            · go_upto_if 44 with fail
              go_cut [6] (fun rv wx => rv = .int .i64 (cn2 : Nat) ∧ wx = w1)
              case first =>
                cases h3 : (p == -1)
                · have HF : Hid (cn2 = cn) := Lib.hid (by rw [HCS.out]; simp at h3; simp [h3])
                  go_wp2_with fail
                  go_meet
                  exact ⟨by rw [HF.out], rfl⟩
                · have HF : Hid (cn2 = cn + 1) := Lib.hid (by rw [HCS.out]; simp at h3; simp [h3])
                  go_wp2_with fail
                  go_meet
                  exact ⟨by rw [HF.out]; go_num, rfl⟩
              case rest =>
                obtain ⟨rfl, hwc⟩ := hcut
                subst hwc
                go_wp2
                go_loop [9, 10] (fun t q => ∃ (s : Nat) (x : Int), s ≤ par.length + 1 ∧ q = .int .i64 s ∧ t = .int .i64 x ∧ -1 ≤ x ∧ x < par.length ∧ Hid (walkB par (par.length + 1) k = walkB par (par.length + 1 - s) x)) (fun _ q => par.length + 2 - (intOf q).toNat)
                case atStart => exact ⟨0, k, Nat.zero_le _, rfl, rfl, by omega, by omega, Lib.hid rfl⟩
                case round =>
                  obtain ⟨s, x, hs, rfl, rfl, hx1, hx2, HX⟩ := hrel
                  by_cases hx0 : x < 0
                  · have hd2 : decide ((0 : Int) ≤ x) = false := by simp; omega
                    have HWK : Hid (walkB par (par.length + 1) k = true) := Lib.hid (by rw [HX.out]; exact walkB_neg hx0)
                    go_wp2
                    exact ⟨⟨k + 1, by omega, by go_num, by rw [HC2.out], Lib.hid (HB1.out (by omega) HWK.out)⟩, by simp [intOf]; omega⟩
                  · obtain ⟨xn, rfl⟩ := Int.eq_ofNat_of_zero_le (show 0 ≤ x by omega)
                    have hxn : xn < par.length := by omega
                    by_cases hsn : s ≤ par.length
                    · obtain ⟨b2, off2, e2, _, hcx⟩ := hp1.int_at hxn
                      simp at e2
                      obtain ⟨rfl, rfl⟩ := e2
                      have HNX := Lib.hid (fun (h : ¬ (-1 ≤ par[xn] ∧ par[xn] < par.length)) => HTN.out (treeB_no hxn h))
                      have HWS : Hid (walkB par (par.length + 1) k = walkB par (par.length + 1 - (s + 1)) par[xn]) := Lib.hid (by
                        rw [HX.out, show par.length + 1 - s = (par.length + 1 - (s + 1)) + 1 by omega]
                        exact walkB_up (by simp [List.getD, hxn]))
                      generalize hpx : par[xn] = q at *
                      clear hpx
                      by_cases r1 : q < -1
                      · go_wp2
                        go_ret
                        exact ⟨ret_bool (HNX.out (by omega)).symm, hbel1⟩
                      · by_cases r2 : (par.length : Int) ≤ q
                        · go_wp2
                          go_ret
                          exact ⟨ret_bool (HNX.out (by omega)).symm, hbel1⟩
                        · go_wp2
                          exact ⟨⟨s + 1, q, by omega, by go_num, rfl, by omega, by omega, HWS⟩, by simp [intOf]; omega⟩
                    · obtain rfl : s = par.length + 1 := by omega
                      have hd3 : decide (((par.length + 1 : Nat) : Int) ≤ (S.rels.length : Int)) = false := by simp; omega
                      have HWF : Hid (walkB par (par.length + 1) k = false) := Lib.hid (by rw [HX.out, Nat.sub_self]; simp [walkB])
                      go_wp2
                      go_ret
                      exact ⟨ret_bool (HWN.out HWF.out).symm, hbel1⟩
        · obtain rfl : k = par.length := by omega
          have hd1 : decide (par.length < par.length) = false := by simp
          rw [List.take_length] at *
          have HTE := Lib.hid (treeR_eq (fun j hj => (HB.out j hj hj).1) (fun j hj => (HB.out j hj hj).2))
          have HRG := Lib.hid (fun (j : Nat) (hj : j < par.length) => (HB.out j hj hj).1)
          generalize hcn : par.count (-1) = cn at *
          clear hcn
          cases hone : ((cn : Int) == 1)
          · have hne : ((cn : Int) != 1) = true := by simp at hone; simp [hone]
            rw [hone] at HTE
            go_wp2
            go_ret
            exact ⟨ret_bool (HTN.out HTE.out).symm, hbel1⟩
          · have hne : ((cn : Int) != 1) = false := by simp at hone; simp [hone]
            rw [hone] at HTE
            clear hone
            go_wp2
            clear hd1 hne
            go_loop [85] (fun i => ∃ k : Nat, k ≤ S.attrs.length ∧ i = .int .i64 k ∧ Hid (∀ a : Nat, a < k → topsTo S par a S.rels.length = 1)) (fun i => S.attrs.length - (intOf i).toNat)
            case atStart => exact ⟨0, Nat.zero_le _, rfl, Lib.hid fun a ha => absurd ha (by omega)⟩
            case round =>
              obtain ⟨k, hk, rfl, HALL⟩ := hrel
              have han := hb.a
              by_cases hlt : k < S.attrs.length
              · have HNO2 := Lib.hid (fun (h : topsTo S par k S.rels.length ≠ 1) => HTOP.out k hlt (by rw [tops_eq]; exact h))
                have HST := Lib.hid (fun (hone : topsTo S par k S.rels.length = 1) (a : Nat) (ha : a < k + 1) => show topsTo S par a S.rels.length = 1 by
                  by_cases e : a < k
                  · exact HALL.out a e
                  · obtain rfl : a = k := by omega
                    exact hone)
                have HSU := Lib.hid (topsTo_succ S par k)
                have HTL := Lib.hid (topsTo_len S par k)
                have HT0 : Hid (topsTo S par k 0 = 0) := Lib.hid rfl
                generalize htt : topsTo S par k = tt at *
                clear htt
                go_wp2
                go_loop [12, 91] (fun t i => ∃ j : Nat, j ≤ par.length ∧ i = .int .i64 j ∧ t = .int .i64 (tt j : Nat)) (fun _ i => par.length - (intOf i).toNat)
                case atStart => exact ⟨0, Nat.zero_le _, rfl, by rw [HT0.out]; rfl⟩
                case round =>
                  obtain ⟨j, hj, rfl, rfl⟩ := hrel
                  have htl := HTL.out j
                  by_cases hjl : j < par.length
                  · have hjs : j < S.rels.length := by omega
                    obtain ⟨b, off, e1, hbp, hck⟩ := hp1.int_at hjl
                    subst e1
                    obtain ⟨bj, offj, Aj, cj, ej, _, hbbj, _, hkj2, hrowj⟩ := hr1.at_ hjs
                    subst ej
                    have hrlj := hb.rl _ (List.getElem_mem hjs)
                    have HSJ := Lib.hid (HSU.out j)
                    rw [show S.rels.getD j default = S.rels[j] by simp [List.getD, hjs]] at HSJ
                    have hrg := HRG.out j hjl
                    have HGP : Hid (par.getD j 0 = par[j]) := Lib.hid (by simp [List.getD, hjl])
                    have ci1 := in_any Aj cj S.rels[j].2 (k : Int) w1 hrowj (by omega)
                    rw [in_has] at ci1
                    generalize S.rels[j].2 = Lj at *
                    cases hh : hasB Lj (k : Int)
                    · rw [hh] at ci1 HSJ
                      have CI1 := Lib.hid ci1
                      clear ci1 hh
                      go_wp2_with (go_at_call 36; go_must (refine CI1.out.mono ?_; rintro e w3 ⟨rfl, rfl⟩))
                      exact ⟨⟨j + 1, by omega, by go_num, by rw [HSJ.out]; simp⟩, by simp [intOf]; omega⟩
                    · rw [hh] at ci1 HSJ
                      have CI1 := Lib.hid ci1
                      clear ci1 hh
                      by_cases hpm : par[j] = -1
                      · have hpb : (par[j] == -1) = true := by rw [beq_iff_eq]; exact hpm
                        have HTF := Lib.hid (topF_neg (S := S) (a := k) (by rw [HGP.out]; exact hpm))
                        clear hpm
                        generalize par[j] = p at *
                        go_wp2_with (go_at_call 36; go_must (refine CI1.out.mono ?_; rintro e w3 ⟨rfl, rfl⟩))
                        exact ⟨⟨j + 1, by omega, by go_num, by rw [HSJ.out, HTF.out]; go_num⟩, by simp [intOf]; omega⟩
                      · have hpb : (par[j] == -1) = false := by rw [beq_eq_false_iff_ne]; exact hpm
                        obtain ⟨pn, hpn⟩ := Int.eq_ofNat_of_zero_le (show 0 ≤ par[j] by omega)
                        have hpns : pn < S.rels.length := by omega
                        have htf := topF_pos (S := S) (a := k) (p := pn) (t := j) (by rw [HGP.out]; exact hpn)
                        rw [show S.rels.getD pn default = S.rels[pn] by simp [List.getD, hpns]] at htf
                        obtain ⟨bp, offp, Aq, cq, eq, _, hbbp, _, hkp2, hrowp⟩ := hr1.at_ hpns
                        simp at eq
                        obtain ⟨rfl, rfl⟩ := eq
                        have hrlp := hb.rl _ (List.getElem_mem hpns)
                        have ci2 := in_any Aq cq S.rels[pn].2 (k : Int) w1 hrowp (by omega)
                        rw [in_has] at ci2
                        rw [htf] at HSJ
                        rw [hpn] at hck hpb hrg
                        clear htf hpm hpn
                        generalize S.rels[pn].2 = Lp at *
                        have i1 : (0 : Int) ≤ (pn : Int) := by omega
                        have i2 : (pn : Int) < (S.rels.length : Int) := by omega
                        cases hh2 : hasB Lp (k : Int)
                        · rw [hh2] at ci2 HSJ
                          have CI2 := Lib.hid ci2
                          clear ci2 hh2
                          go_wp2_with (first
                            | (go_at_call 36; with_reducible refine CI1.out.mono ?_; rintro e w3 ⟨rfl, rfl⟩)
                            | (go_at_call 36; go_must (with_reducible refine CI2.out.mono ?_; rintro e w3 ⟨rfl, rfl⟩)))
                          exact ⟨⟨j + 1, by omega, by go_num, by rw [HSJ.out]; go_num⟩, by simp [intOf]; omega⟩
                        · rw [hh2] at ci2 HSJ
                          have CI2 := Lib.hid ci2
                          clear ci2 hh2
                          go_wp2_with (first
                            | (go_at_call 36; with_reducible refine CI1.out.mono ?_; rintro e w3 ⟨rfl, rfl⟩)
                            | (go_at_call 36; go_must (with_reducible refine CI2.out.mono ?_; rintro e w3 ⟨rfl, rfl⟩)))
                          exact ⟨⟨j + 1, by omega, by go_num, by rw [HSJ.out]; simp⟩, by simp [intOf]; omega⟩
                  · have hd1 : decide (j < par.length) = false := by simp; omega
                    have hjn : j = S.rels.length := by omega
                    have HJN := Lib.hid hjn
                    clear hjn
                    cases hone : ((tt j : Int) != 1)
                    · have HH1 : Hid (tt S.rels.length = 1) := Lib.hid (by rw [← HJN.out]; simp at hone; omega)
                      go_wp2_with fail
                      exact ⟨⟨k + 1, by omega, by go_num, Lib.hid (HST.out HH1.out)⟩, by simp [intOf]; omega⟩
                    · have HH1 : Hid (tt S.rels.length ≠ 1) := Lib.hid (by rw [← HJN.out]; simp at hone; omega)
                      go_wp2_with fail
                      go_ret
                      exact ⟨ret_bool (HNO2.out HH1.out).symm, hbel1⟩
              · obtain rfl : k = S.attrs.length := by omega
                have hd1 : decide (S.attrs.length < S.attrs.length) = false := by simp
                go_wp2
                go_ret
                exact ⟨ret_bool (HYES.out HLEN.out HTE.out (fun a ha => by rw [tops_eq]; exact HALL.out a ha)).symm, hbel1⟩
    · have hlb : ((par.length : Int) != (S.rels.length : Int)) = true := by simp; omega
      have HE := Lib.hid (chkB_len hlen)
      clear hlen
      go_enter Try.func29, Try.ntmps29
      go_wp2_with (
        go_at_call 49
        go_must (
          refine CT1.out.mono ?_
          rintro e w1 ⟨rfl, hb1⟩
          have hby := (Blk.new (w.alloc (.cells #[Value.slice A1 S.attrs.length c1, Value.slice A2 S.rels.length c2, Value.slice A3 S.feats.length c3, Value.int IntKind.i64 S.label] 28)) 46 #[Value.slice Ap par.length cp]).ext hb1
          rw [World.size_alloc] at hby
          have y0 := hby.cell 0
          simp at y0
          clear hby))
      go_ret
      exact ⟨ret_bool HE.out.symm, ext_trans hbb hb1⟩
  · have hcb := ne_b hce
    have HE := Lib.hid (show chkB S par = false by simp [chkB, hce])
    generalize hce' : checkE S = ce at *
    clear hce hce'
    go_enter Try.func29, Try.ntmps29
    go_wp2_with (
      go_at_call 49
      go_must (
        refine CT1.out.mono ?_
        rintro e w1 ⟨rfl, hb1⟩))
    go_ret
    exact ⟨ret_bool HE.out.symm, ext_trans hbb hb1⟩
end Go.Proofs.Ytopblgabadljdaa
namespace Go.Proofs.Ytopblgabadljdaa
open Go.RowKit
/-- What the reference's Closed asks, relation by relation: how many numbers of the core have been met, none if it fails. -/
def cloTo (S : Sch) (inn : List Bool) (core : List Int) : Nat → Option Nat
  | 0 => some 0
  | k + 1 => match cloTo S inn core k with
    | none => none
    | some a => if inn.getD k false = false then some a
      else if a < core.length ∧ core.getD a 0 = (k : Int) ∧ (earO S inn (k : Int)).isSome = false then some (a + 1) else none
theorem cloTo_none {S : Sch} {inn : List Bool} {core : List Int} {k : Nat} (h : cloTo S inn core k = none) : ∀ n, k ≤ n → cloTo S inn core n = none := by
  intro n
  induction n with
  | zero => intro hk; obtain rfl : k = 0 := by omega
            exact h
  | succ n ih =>
    intro hk
    by_cases e : k = n + 1
    · rw [← e]; exact h
    · simp only [cloTo, ih (by omega)]
theorem cloTo_some {S : Sch} {inn : List Bool} {core : List Int} : ∀ {k a : Nat}, cloTo S inn core k = some a → a ≤ k ∧ core.take a = coreTo inn k ∧ ∀ i, i < k → inn.getD i false = true → (earO S inn (i : Int)).isSome = false := by
  intro k
  induction k with
  | zero => intro a h; simp [cloTo] at h; subst h; exact ⟨Nat.le_refl _, by simp [coreTo], fun i hi => absurd hi (by omega)⟩
  | succ k ih =>
    intro a h
    simp only [cloTo] at h
    cases hk : cloTo S inn core k with
    | none => rw [hk] at h; cases h
    | some b =>
      rw [hk] at h
      obtain ⟨h1, h2, h3⟩ := ih hk
      simp only at h
      rw [coreTo_succ]
      by_cases hi : inn.getD k false = false
      · rw [if_pos hi] at h
        injection h with h
        subst h
        refine ⟨by omega, by rw [if_neg (by rw [hi]; decide)]; exact h2, fun i hik hin => ?_⟩
        by_cases e : i < k
        · exact h3 i e hin
        · obtain rfl : i = k := by omega
          rw [hi] at hin; cases hin
      · rw [if_neg hi] at h
        have hi' : inn.getD k false = true := by simpa using hi
        by_cases hc : b < core.length ∧ core.getD b 0 = (k : Int) ∧ (earO S inn (k : Int)).isSome = false
        · rw [if_pos hc] at h
          injection h with h
          subst h
          obtain ⟨c1, c2, c3⟩ := hc
          refine ⟨by omega, ?_, fun i hik hin => ?_⟩
          · rw [if_pos hi', List.take_succ_eq_append_getElem c1, h2]
            have : core[b] = (k : Int) := by rw [← c2]; simp [List.getD, c1]
            rw [this]
          · by_cases e : i < k
            · exact h3 i e hin
            · obtain rfl : i = k := by omega
              exact c3
        · rw [if_neg hc] at h; cases h
theorem cloTo_all {S : Sch} {inn : List Bool} {core : List Int} {n : Nat} (hcore : core = coreTo inn n) (hno : ∀ i, i < n → inn.getD i false = true → (earO S inn (i : Int)).isSome = false) : ∀ k, k ≤ n → cloTo S inn core k = some (coreTo inn k).length := by
  intro k
  induction k with
  | zero => intro _; rfl
  | succ k ih =>
    intro hk
    simp only [cloTo, ih (by omega)]
    rw [coreTo_succ]
    by_cases hi : inn.getD k false = true
    · rw [if_neg (by rw [hi]; decide), if_pos hi]
      have hpre : coreTo inn (k + 1) <+: core := by
        rw [hcore]
        have : ∀ m, k + 1 ≤ m → coreTo inn (k + 1) <+: coreTo inn m := by
          intro m
          induction m with
          | zero => intro h; omega
          | succ m ihm =>
            intro h
            by_cases e : k + 1 = m + 1
            · rw [e]; exact List.prefix_refl _
            · refine (ihm (by omega)).trans ?_
              rw [coreTo_succ inn m]
              split
              · exact List.prefix_append _ _
              · exact List.prefix_refl _
        exact this n hk
      rw [coreTo_succ, if_pos hi] at hpre
      obtain ⟨t, ht⟩ := hpre
      have hget : core.getD (coreTo inn k).length 0 = (k : Int) ∧ (coreTo inn k).length < core.length := by
        rw [← ht]
        constructor
        · simp [List.getD]
        · simp
      rw [if_pos ⟨hget.2, hget.1, hno k (by omega) hi⟩]
      simp
    · rw [if_pos (by simpa using hi), if_neg hi]
theorem ear_in {S : Sch} (hc : checkE S = 0) {inn : List Bool} (hl : inn.length = S.rels.length) {k : Nat} (hk : k < S.rels.length) (hi : inn.getD k false = true) : (earO S inn (k : Int)).isSome = isEar S inn (k : Int) := by
  have := (ear_at hc hl hk).1
  rw [this]
  unfold earAt isEar
  rw [hi, Int.toNat_natCast]; rfl
/-- The two ways to ask come to the same. -/
theorem clo_eq {S : Sch} (hc : checkE S = 0) {inn : List Bool} (hl : inn.length = S.rels.length) (core : List Int) :
    (eqB core (coreTo inn S.rels.length) && !(core.any (isEar S inn))) = match cloTo S inn core S.rels.length with | none => false | some a => decide (a = core.length) := by
  rw [Bool.eq_iff_iff]
  simp only [Bool.and_eq_true, eqB, decide_eq_true_eq, Bool.not_eq_true']
  constructor
  · rintro ⟨h1, h2⟩
    have := cloTo_all (S := S) h1 (fun i hi hin => by
      rw [ear_in hc hl hi hin]
      rw [List.any_eq_false] at h2
      have hm : (i : Int) ∈ core := by
        rw [h1]
        unfold coreTo
        exact List.mem_map.2 ⟨i, List.mem_filter.2 ⟨by simpa using hi, hin⟩, rfl⟩
      simpa using h2 (i : Int) hm) S.rels.length (Nat.le_refl _)
    rw [this]
    simp [← h1]
  · intro h
    cases hk : cloTo S inn core S.rels.length with
    | none => rw [hk] at h; cases h
    | some a =>
      rw [hk] at h
      simp at h
      obtain ⟨_, h2, h3⟩ := cloTo_some hk
      rw [h, List.take_length] at h2
      refine ⟨h2, ?_⟩
      rw [List.any_eq_false]
      intro r hr
      rw [h2] at hr
      obtain ⟨g1, g2, g3⟩ := coreTo_mem hr
      obtain ⟨n, rfl⟩ := Int.eq_ofNat_of_zero_le g1
      rw [Int.toNat_natCast] at g3
      have := h3 n (by omega) g3
      rw [ear_in hc hl (by omega) g3] at this
      simp [this]
set_option maxRecDepth 100000 in
set_option maxHeartbeats 2000000 in
theorem closedR_any (v : Value) (S : Sch) (Ao : Option Addr) (co : Nat) (ord : List Int) (Ac : Option Addr) (cc : Nat) (core : List Int) (w : World) {R R1 R2 : Nat → Prop} (h : SchAt w R v S) (hb : SBd S)
    (ho : Row w R1 Ao (ints ord)) (hol : ord.length ≤ 1000) (hc : Row w R2 Ac (ints core)) (hcl : core.length ≤ 1000) :
    Calls Try.prog 30 #[v, .slice Ao ord.length co, .slice Ac core.length cc] w fun e w' => e = .returned (.bool (closedB S ord core)) ∧ Below w.heap.size w w' := by
  have h0 := h
  obtain ⟨A1, c1, A2, c2, A3, c3, rfl, l1, l2, l3, h1, h2, h3⟩ := h
  clear h1 h2 h3 l1 l2 l3
  have CT1 := Lib.hid (check5_any _ S _ (h0.ext ((Below.refl _ w).alloc (Nat.le_refl _) (.cells #[Value.slice A1 S.attrs.length c1, Value.slice A2 S.rels.length c2, Value.slice A3 S.feats.length c3, Value.int IntKind.i64 S.label] 28))) hb)
  by_cases hce : checkE S = 0
  · have hcb := eq_b hce
    have hn1 := (check_zero hce).2.2.1
    have hn := (check_relOk hce).1
    by_cases hc2 : core.length < 2
    · have HF := Lib.hid (closed_small (S := S) (ord := ord) hc2)
      generalize checkE S = ce at *
      clear hce
      go_enter Try.func30, Try.ntmps30
      go_wp2_with (
        go_at_call 49
        go_must (
          refine CT1.out.mono ?_
          rintro e w1 ⟨rfl, hb1⟩))
      go_ret
      exact ⟨ret_bool HF.out.symm, ext_trans ((Below.refl _ _).alloc (Nat.le_refl _) _) hb1⟩
    · have hd2 : decide ((core.length : Int) < 2) = false := by simp; omega
      have hE : closedB S ord core = match clTo S ord ord.length with | none => false | some inn => match cloTo S inn core S.rels.length with | none => false | some a => decide (a = core.length) := by
        unfold closedB
        rw [if_neg (by simp [hce])]
        cases hk : clTo S ord ord.length with
        | none => rfl
        | some inn =>
          have : decide (2 ≤ core.length) = true := by simp; omega
          simp only [this, Bool.true_and]
          exact clo_eq hce (clTo_len hk) core
      have CE := Lib.hid (fun (W : World) (Ai : Option Addr) (ci : Nat) (inn : List Bool) (k : Int) (R' : Nat → Prop) (hW : Below w.heap.size w W) (hi : Row W R' Ai (bools inn)) => ear7_any _ S Ai ci inn k W (h0.ext hW) hb hi)
      generalize closedB S ord core = cb at *
      generalize checkE S = ce at *
      have HE := Lib.hid hE
      clear hce hE
      obtain ⟨ib, hib, hz0, hz1, hz2⟩ := info_parts Try.infoBool
      go_enter Try.func30, Try.ntmps30
      go_wp2_with (first
        | (go_at_call 49
           go_must (
            refine CT1.out.mono ?_
            rintro e w1 ⟨rfl, hb1⟩
            have hbx := (Blk.new w 28 #[Value.slice A1 S.attrs.length c1, Value.slice A2 S.rels.length c2, Value.slice A3 S.feats.length c3, Value.int IntKind.i64 S.label]).ext hb1
            have hbel1 : Below w.heap.size w w1 := ext_trans ((Below.refl _ _).alloc (Nat.le_refl _) _) hb1
            have x1 := hbx.cell 1
            simp at x1
            have hxl := hbx.lt
            have HBX := Lib.hid hbx
            clear hbx hb1))
        | (at_make
           go_must (
            refine wpList_make_full _ rfl _ _ 36 rfl w1.heap.size 4 ib (.bool false) 1 Try.underlying36 hib hz0 hz1 _ _ _ _ S.rels.length rfl rfl rfl rfl (by rw [hz2]; omega) (by simp [maxLen]; omega) (by simp) ?_
            intro w2 hown2 hg2
            have hownb : w2.ownsRow w1.heap.size 4 1 (.slice (some ⟨w1.heap.size, 0, none⟩) S.rels.length S.rels.length) S.rels.length (repL (.bool true) (.bool false) S.rels.length 0) := by
              rw [made_one (.bool false) rfl] at hown2; exact hown2
            have hb2 := ext_of_grown hg2
            clear hown2 hg2 x1)))
      have hs2 := hb2.size
      have hs1 := hbel1.size
      have hownb4 := own_mono hownb (base' := w.heap.size + 1) (by omega)
      have HBX3 := Lib.hid (HBX.out.ext hb2)
      have hb03 := ext_trans hbel1 hb2
      obtain ⟨g5, hg5⟩ : ∃ g5, g5 = w1.heap.size := ⟨_, rfl⟩
      have hg5' : w.heap.size + 1 ≤ g5 := by omega
      rw [← hg5] at hownb4 ⊢
      clear hownb HBX hib hz0 hz1 hz2 hg5 CT1
      go_loopw [31] (fun i wr => ∃ k : Nat, k ≤ S.rels.length ∧ i = .int .i64 k ∧ wr.ownsRow (w.heap.size + 1) 4 1 (.slice (some ⟨g5, 0, none⟩) S.rels.length S.rels.length) S.rels.length (repL (.bool true) (.bool false) S.rels.length k) ∧
        Blk wr w.heap.size 28 #[Value.slice A1 S.attrs.length c1, Value.slice A2 S.rels.length c2, Value.slice A3 S.feats.length c3, Value.int IntKind.i64 S.label] ∧ Below w.heap.size w wr) (fun i _ => S.rels.length - (intOf i).toNat)
      case atStart => exact ⟨0, Nat.zero_le _, rfl, hownb4, HBX3.out, hb03⟩
      case round =>
        clear hownb4 HBX3 hb03
        obtain ⟨k, hk, rfl, hin, hbx, hbel⟩ := hrel
        by_cases hlt : k < S.rels.length
        · have hci : wr.cell? ⟨g5, k, none⟩ = some (.bool false) := by rw [hin.cellAt k (by omega)]; exact rep_at hlt
          have hfi := hin.frozenAt k
          have hsi := hin.stored k (.bool true)
          have HRS1 := Lib.hid (rep_set (x := Value.bool true) (z := Value.bool false) hlt)
          have HB5 := Lib.hid (hbx.grown hsi.2 (by simp; omega))
          clear hbx
          go_wp2
          refine ⟨⟨k + 1, by omega, by go_num, ?_, HB5.out, hbel.setCell (by show w.heap.size ≤ g5; omega) _⟩, by simp [intOf]; omega⟩
          rw [← HRS1.out]; exact hsi.1
        · obtain rfl : k = S.rels.length := by omega
          rw [rep_full] at hin
          have hin0 : wr.ownsRow (w.heap.size + 1) 4 1 (.slice (some ⟨g5, 0, none⟩) S.rels.length S.rels.length) S.rels.length (bools (List.replicate S.rels.length true)) := by rw [bools, List.map_replicate]; exact hin
          have HBX2 := Lib.hid hbx
          obtain ⟨wz, rfl⟩ : ∃ wz : World, wz = wr := ⟨_, rfl⟩
          have hd0 : decide (S.rels.length < S.rels.length) = false := by simp
          clear hin hbx
          go_wp2
          clear hd0
          go_loopw [40] (fun i wr => ∃ (k : Nat) (inn : List Bool), k ≤ ord.length ∧ i = .int .i64 k ∧ clTo S ord k = some inn ∧ wr.ownsRow (w.heap.size + 1) 4 1 (.slice (some ⟨g5, 0, none⟩) S.rels.length S.rels.length) S.rels.length (bools inn) ∧
            Blk wr w.heap.size 28 #[Value.slice A1 S.attrs.length c1, Value.slice A2 S.rels.length c2, Value.slice A3 S.feats.length c3, Value.int IntKind.i64 S.label] ∧ Below w.heap.size w wr) (fun i _ => ord.length - (intOf i).toNat)
          case atStart => exact ⟨0, _, Nat.zero_le _, rfl, rfl, hin0, HBX2.out, hbel⟩
          case round =>
            clear hin0 HBX2 hbel
            obtain ⟨k, inn, hk, rfl, hcl2, hown, hbx, hbel⟩ := hrel
            have x0 := hbx.cell 0
            have x1 := hbx.cell 1
            have x2 := hbx.cell 2
            have x3 := hbx.cell 3
            simp at x0 x1 x2 x3
            have HIL := Lib.hid (clTo_len hcl2)
            have HCL := Lib.hid hcl2
            have HBX := Lib.hid hbx
            clear hcl2 hbx
            by_cases hlt : k < ord.length
            · obtain ⟨b, off, rfl, hbb, hck⟩ := (ho.ext hbel).int_at hlt
              have ct := CE.out wr (some ⟨g5, 0, none⟩) S.rels.length inn ord[k] _ hbel (Row.of_own hown)
              rw [HIL.out] at ct
              have HGD : Hid (ord.getD k 0 = ord[k]) := Lib.hid (by simp [List.getD, hlt])
              cases hes : (earO S inn ord[k]).isSome
              · rw [hes] at ct
                have HNONE := Lib.hid (clTo_none (clTo_succ_no HCL.out (by rw [HGD.out]; exact hes)) ord.length hlt)
                have CT := Lib.hid ct
                clear ct hes
                go_wp2_with (go_at_call 26; go_must (refine CT.out.mono ?_; rintro e w3 ⟨rfl, hb3⟩))
                go_ret
                exact ⟨ret_bool (by rw [HE.out, HNONE.out]), ext_trans hbel hb3⟩
              · have hrg := earO_range hes
                obtain ⟨rn, hrn⟩ := Int.eq_ofNat_of_zero_le hrg.1
                have hrl : rn < S.rels.length := by have := HIL.out; omega
                have hstep := clTo_succ_yes HCL.out (by rw [HGD.out]; exact hes)
                rw [HGD.out, hrn, Int.toNat_natCast] at hstep
                rw [hes, hrn] at ct
                rw [hrn] at hck
                have CT := Lib.hid ct
                have HSTEP := Lib.hid hstep
                clear ct hstep hrg hes hrn
                generalize optI (earO S inn rn) = ow at *
                go_wp2_with (
                  go_at_call 26
                  go_must (
                    refine CT.out.mono ?_
                    rintro e w3 ⟨rfl, hb3⟩
                    have hown3 := hown.kept (grown_of_ext hb3 none) (by simp [Value.ownBlock])
                    have hil3 : rn < inn.length := by rw [HIL.out]; exact hrl
                    have hci : w3.cell? ⟨g5, rn, none⟩ = some (.bool inn[rn]) := by rw [hown3.cellAt rn (by omega), List.getElem?_map, List.getElem?_eq_getElem hil3]; rfl
                    have hfi := hown3.frozenAt rn
                    have hst := hown3.stored rn (.bool false)))
                refine ⟨⟨k + 1, inn.set rn false, by omega, by go_num, HSTEP.out, ?_, (HBX.out.ext hb3).far (by simp; omega) _, (ext_trans hbel hb3).setCell (by show w.heap.size ≤ g5; omega) _⟩, by simp [intOf]; omega⟩
                simpa [bools, List.map_set] using hst.1
            · obtain rfl : k = ord.length := by omega
              have hfin := HE.out
              rw [HCL.out] at hfin
              simp only at hfin
              clear HE
              have HE := Lib.hid hfin
              clear hfin
              obtain ⟨wp, rfl⟩ : ∃ wp : World, wp = wr := ⟨_, rfl⟩
              have hd1 : decide (ord.length < ord.length) = false := by simp
              clear x0 x1 x2 x3
              go_wp2
              clear hd1
              go_loopw [13, 59] (fun av i wq => ∃ k a : Nat, k ≤ S.rels.length ∧ i = .int .i64 k ∧ av = .int .i64 a ∧ a ≤ k ∧ Hid (cloTo S inn core k = some a) ∧ Below wp.heap.size wp wq) (fun _ i _ => S.rels.length - (intOf i).toNat)
              case atStart => exact ⟨0, 0, Nat.zero_le _, rfl, rfl, Nat.le_refl _, Lib.hid rfl, Below.refl _ _⟩
              case round =>
                obtain ⟨k, a, hk, rfl, rfl, hak, HA, hbq⟩ := hrel
                have hbw := ext_trans hbel hbq
                by_cases hlt : k < S.rels.length
                · have hin2 := hown.kept (grown_of_ext hbq none) (by simp [Value.ownBlock])
                  have hki : k < inn.length := by rw [HIL.out]; exact hlt
                  have hci : wr.cell? ⟨g5, k, none⟩ = some (.bool inn[k]) := by rw [hin2.cellAt k (by omega), List.getElem?_map, List.getElem?_eq_getElem hki]; rfl
                  have HGI : Hid (inn.getD k false = inn[k]) := Lib.hid (by simp [List.getD, hki])
                  have HSU : Hid (cloTo S inn core (k + 1) = if inn[k] = false then some a else if a < core.length ∧ core.getD a 0 = (k : Int) ∧ (earO S inn (k : Int)).isSome = false then some (a + 1) else none) := Lib.hid (by simp only [cloTo, HA.out, HGI.out])
                  have HNO := Lib.hid (fun (h : cloTo S inn core (k + 1) = none) => show cb = false by rw [HE.out, cloTo_none h S.rels.length hlt])
                  cases hik : inn[k]
                  · rw [hik] at hci HSU
                    go_wp2
                    exact ⟨⟨k + 1, a, by omega, by go_num, rfl, by omega, Lib.hid (by rw [HSU.out]; rfl), hbq⟩, by simp [intOf]; omega⟩
                  · rw [hik] at hci HSU
                    by_cases ha : core.length ≤ a
                    · go_wp2
                      go_ret
                      exact ⟨ret_bool (HNO.out (by rw [HSU.out, if_neg (by decide), if_neg (by omega)])).symm, hbw⟩
                    · have hal : a < core.length := by omega
                      have hda : decide (core.length ≤ a) = false := by simp; omega
                      obtain ⟨b4, off4, rfl, hbb4, hca⟩ := (hc.ext hbw).int_at hal
                      have HGA : Hid (core.getD a 0 = core[a]) := Lib.hid (by simp [List.getD, hal])
                      cases hne : (core[a] != (k : Int))
                      · have HEQ : Hid (core[a] = (k : Int)) := Lib.hid (by simpa using hne)
                        have hbx := HBX.out.ext hbq
                        have x0 := hbx.cell 0
                        have x1 := hbx.cell 1
                        have x2 := hbx.cell 2
                        have x3 := hbx.cell 3
                        simp at x0 x1 x2 x3
                        have ct := CE.out wr (some ⟨g5, 0, none⟩) S.rels.length inn (k : Int) _ hbw (Row.of_own hin2)
                        rw [HIL.out] at ct
                        clear hbx
                        generalize core[a] = ca at *
                        cases hes : (earO S inn (k : Int)).isSome
                        · rw [hes] at ct HSU
                          have CT := Lib.hid ct
                          clear ct hes
                          generalize optI (earO S inn (k : Int)) = ow at *
                          go_wp2_with (go_at_call 26; go_must (refine CT.out.mono ?_; rintro e w3 ⟨rfl, hb3⟩))
                          exact ⟨⟨k + 1, a + 1, by omega, by go_num, by go_num, by omega, Lib.hid (by rw [HSU.out, if_neg (by decide), if_pos ⟨hal, by rw [HGA.out, HEQ.out], by first | trivial | rfl⟩]), ext_trans hbq hb3⟩, by simp [intOf]; omega⟩
                        · rw [hes] at ct HSU
                          have CT := Lib.hid ct
                          clear ct hes
                          generalize optI (earO S inn (k : Int)) = ow at *
                          go_wp2_with (go_at_call 26; go_must (refine CT.out.mono ?_; rintro e w3 ⟨rfl, hb3⟩))
                          go_ret
                          exact ⟨ret_bool (HNO.out (by rw [HSU.out, if_neg (by decide), if_neg (by simp)])).symm, ext_trans hbw hb3⟩
                      · have HNE : Hid (¬ core[a] = (k : Int)) := Lib.hid (by simpa using hne)
                        generalize core[a] = ca at *
                        go_wp2
                        go_ret
                        exact ⟨ret_bool (HNO.out (by rw [HSU.out, if_neg (by decide), if_neg (by rw [HGA.out]; exact fun h => HNE.out h.2.1)])).symm, hbw⟩
                · obtain rfl : k = S.rels.length := by omega
                  have hd1 : decide (S.rels.length < S.rels.length) = false := by simp
                  have HFN : Hid (cb = decide (a = core.length)) := Lib.hid (by rw [HE.out, HA.out])
                  go_wp2
                  go_ret
                  exact ⟨ret_bool (by rw [HFN.out, Bool.eq_iff_iff]; simp; omega), hbw⟩
  · have hcb := ne_b hce
    have HF : Hid (closedB S ord core = false) := Lib.hid (by unfold closedB; rw [if_pos hce])
    generalize checkE S = ce at *
    clear hce
    go_enter Try.func30, Try.ntmps30
    go_wp2_with (
      go_at_call 49
      go_must (
        refine CT1.out.mono ?_
        rintro e w1 ⟨rfl, hb1⟩))
    go_ret
    exact ⟨ret_bool HF.out.symm, ext_trans ((Below.refl _ _).alloc (Nat.le_refl _) _) hb1⟩
end Go.Proofs.Ytopblgabadljdaa
namespace Go.Proofs.Ytopblgabadljdaa
open Go.RowKit Mk
section
variable {w : World} {R : Nat → Prop}
theorem vals_map {α : Type} {f : α → PV} {g : α → Value} (h : ∀ a u, RelP w R (f a) u → u = g a) : ∀ {l : List α} {us : List Value}, RelPL w R (l.map f) us → us = l.map g
  | [], us, e => by simpa [RelPL] using e
  | a :: l, us, e => by
    simp only [List.map_cons, RelPL] at e
    obtain ⟨u, vs, rfl, h1, h2⟩ := e
    rw [h _ _ h1, vals_map h h2]; rfl
theorem vals_flat {α : Type} {f : α → List PV} {g : α → List Value} (h : ∀ a us, RelPL w R (f a) us → us = g a) : ∀ {l : List α} {us : List Value}, RelPL w R (l.flatMap f) us → us = l.flatMap g
  | [], us, e => by simpa [RelPL] using e
  | a :: l, us, e => by
    rw [List.flatMap_cons] at e ⊢
    have hl : (f a).length ≤ us.length := by rw [e.length]; simp
    have h1 := e.take (f a).length
    have h2 := e.drop (f a).length
    rw [List.take_left] at h1
    rw [List.drop_left] at h2
    rw [← h _ _ h1, ← vals_flat h h2, List.take_append_drop]
theorem row_sl {n : Nat} {cs : List PV} {b : Option Bool} {u : Value} {xs : List Value} (hR : ∀ b, R b → b < w.heap.size) (h : RelP w R (.sl b n cs) u) (hx : ∀ us, RelPL w R cs us → us = xs) (hne : xs ≠ [] → cs ≠ []) : ∃ A c, u = .slice A n c ∧ n ≤ c ∧ Row w R A xs := by
  simp only [RelP] at h
  obtain ⟨A, c, rfl, h1, _, _, _, h5⟩ := h
  refine ⟨A, c, rfl, h1, fun hn => ?_⟩
  obtain ⟨b, off, us, rfl, hr, hs⟩ := h5 (hne hn)
  have e := hx us hr
  subst e
  exact ⟨b, off, rfl, hs.1, hR b hs.1, hs.2⟩
theorem br_ints {l : List Int} {u : Value} (hR : ∀ b, R b → b < w.heap.size) (h : RelP w R (pints l) u) : ∃ A c, u = .slice A l.length c ∧ Row w R A (ints l) := by
  obtain ⟨A, c, e, _, r⟩ := row_sl (xs := ints l) hR h (fun us hu => vals_map (fun a u hu => by simpa only [RelP] using hu) hu) (fun hn e => hn (by
    have : l = [] := by simpa using e
    rw [this]; rfl))
  exact ⟨A, c, e, r⟩
theorem br_bools {l : List Bool} {u : Value} (hR : ∀ b, R b → b < w.heap.size) (h : RelP w R (pbools l) u) : ∃ A c, u = .slice A l.length c ∧ Row w R A (bools l) := by
  obtain ⟨A, c, e, _, r⟩ := row_sl (xs := bools l) hR h (fun us hu => vals_map (fun a u hu => by simpa only [RelP] using hu) hu) (fun hn e => hn (by
    have : l = [] := by simpa using e
    rw [this]; rfl))
  exact ⟨A, c, e, r⟩
theorem br_rels {rs : List (ByteArray × List Int)} {u : Value} (hR : ∀ b, R b → b < w.heap.size) (h : RelP w R (.sl none rs.length (relsC rs)) u) : ∃ A c, u = .slice A rs.length c ∧ rs.length ≤ c ∧ RelsAt w R A rs := by
  simp only [RelP] at h
  obtain ⟨A, c, rfl, h1, _, _, _, h5⟩ := h
  refine ⟨A, c, rfl, h1, ?_⟩
  by_cases hne : relsC rs = []
  · have hz : rs.length = 0 := by have := relsC_len rs; rw [hne] at this; simp only [List.length_nil] at this; omega
    exact ⟨[], by simp [hz], fun h => absurd rfl h, fun k hk => by omega⟩
  · obtain ⟨b, off, us, rfl, hr, hs⟩ := h5 hne
    refine ⟨us, by rw [hr.length, relsC_len], fun _ => ⟨b, off, rfl, hs.1, hR b hs.1, hs.2⟩, fun k hk => ?_⟩
    have e0 : (relsC rs)[k * 2]? = some (.str rs[k].1) := flat_at (fun r : ByteArray × List Int => [PV.str r.1, pints r.2]) 2 (fun _ => rfl) rs k 0 hk (by omega)
    have e1 : (relsC rs)[k * 2 + 1]? = some (pints rs[k].2) := flat_at (fun r : ByteArray × List Int => [PV.str r.1, pints r.2]) 2 (fun _ => rfl) rs k 1 hk (by omega)
    obtain ⟨u0, a0, b0⟩ := hr.get e0
    obtain ⟨u1, a1, b1⟩ := hr.get e1
    obtain ⟨A', c', e, r'⟩ := br_ints hR b1
    subst e
    simp only [RelP] at b0
    subst b0
    exact ⟨a0, A', c', a1, r'⟩
theorem br_sch {S : Sch} {u : Value} (hR : ∀ b, R b → b < w.heap.size) (h : RelP w R (schP S) u) : SchAt w R u S := by
  simp only [RelP, RelPL] at h
  obtain ⟨_, rfl, u1, _, rfl, k1, u2, _, rfl, k2, u3, _, rfl, k3, u4, _, rfl, rfl, rfl⟩ := h
  have k1' : RelP w R (.sl none S.attrs.length (attrsC S.attrs)) u1 := by simp only [RelP]; exact k1
  have k2' : RelP w R (.sl none S.rels.length (relsC S.rels)) u2 := by simp only [RelP]; exact k2
  have k3' : RelP w R (.sl none S.feats.length (featsC S.feats)) u3 := by simp only [RelP]; exact k3
  obtain ⟨A1, c1, rfl, l1, r1⟩ := row_sl (xs := attrCells S.attrs) hR k1' (fun us hu => vals_flat (fun a us hu => by
    simp only [RelPL, RelP] at hu
    obtain ⟨_, _, rfl, rfl, _, _, rfl, rfl, rfl⟩ := hu
    rfl) hu) (fun hn e => hn (by
      have := attrsC_len S.attrs
      rw [e] at this
      have hz : S.attrs = [] := List.eq_nil_of_length_eq_zero (by simp at this; omega)
      rw [hz]; rfl))
  obtain ⟨A2, c2, rfl, l2, r2⟩ := br_rels hR k2'
  obtain ⟨A3, c3, rfl, l3, r3⟩ := row_sl (xs := featCells S.feats) hR k3' (fun us hu => vals_flat (fun a us hu => by
    simp only [RelPL, RelP] at hu
    obtain ⟨_, _, rfl, rfl, _, _, rfl, rfl, _, _, rfl, rfl, rfl⟩ := hu
    rfl) hu) (fun hn e => hn (by
      have := featsC_len S.feats
      rw [e] at this
      have hz : S.feats = [] := List.eq_nil_of_length_eq_zero (by simp at this; omega)
      rw [hz]; rfl))
  exact ⟨A1, c1, A2, c2, A3, c3, rfl, l1, l2, l3, r1, r2, r3⟩
theorem ints_rel (l : List Int) : RelPL w R (intsP l) (ints l) := by
  induction l with
  | nil => exact RelPL.nil
  | cons a l ih => exact RelPL.cons (by simp only [RelP]) ih
theorem br_back {w' : World} {A : Option Addr} {c : Nat} {l : List Int} (h : RowK w' (w.heap.size ≤ ·) A l.length c (ints l)) : RelP w' (fun b => R b ∨ (w.heap.size ≤ b ∧ b < w'.heap.size)) (pints l) (.slice A l.length c) := by
  simp only [pints, RelP]
  refine ⟨A, c, rfl, h.2.1, h.2.2, (fun _ e => by cases e), (fun e => by cases e), fun hne => ?_⟩
  obtain ⟨b, off, rfl, h1, h2, h3⟩ := h.1 (fun e => hne (by
    have : l = [] := by simpa using e
    rw [this]; rfl))
  exact ⟨b, off, ints l, rfl, ints_rel l, .inr ⟨h1, h2⟩, h3⟩
end
section
variable (S : Sch) (hb : SBd S)
include hb
theorem ear_fn (inn : List Bool) (r : Int) : FnP Try.prog 12 [schP S, pbools inn, .int .i64 r] (· = .tup [.int .i64 (optI (earO S inn r)), .bool (earO S inn r).isSome]) := by
  intro w R us hR hrel
  simp only [RelPL] at hrel
  obtain ⟨u0, _, rfl, h0, u1, _, rfl, h1, u2, _, rfl, h2, rfl⟩ := hrel
  obtain ⟨Ai, ci, rfl, hi⟩ := br_bools hR h1
  simp only [RelP] at h2
  subst h2
  exact (ear_any u0 S Ai ci inn r w (br_sch hR h0) hb hi).mono fun e w' ⟨he, hbl⟩ => ⟨_, _, he, rfl, hbl, by simp [RelP, RelPL]⟩
theorem ear7_fn (inn : List Bool) (r : Int) : FnP Try.prog 26 [schP S, pbools inn, .int .i64 r] (· = .tup [.int .i64 (optI (earO S inn r)), .bool (earO S inn r).isSome]) := by
  intro w R us hR hrel
  simp only [RelPL] at hrel
  obtain ⟨u0, _, rfl, h0, u1, _, rfl, h1, u2, _, rfl, h2, rfl⟩ := hrel
  obtain ⟨Ai, ci, rfl, hi⟩ := br_bools hR h1
  simp only [RelP] at h2
  subst h2
  exact (ear7_any u0 S Ai ci inn r w (br_sch hR h0) hb hi).mono fun e w' ⟨he, hbl⟩ => ⟨_, _, he, rfl, hbl, by simp [RelP, RelPL]⟩
theorem red_fn : FnP Try.prog 11 [schP S] (· = .tup [pints (ordS S), pints (corS S)]) := by
  intro w R us hR hrel
  simp only [RelPL] at hrel
  obtain ⟨u0, _, rfl, h0, rfl⟩ := hrel
  refine (reduceE_any u0 S w (br_sch hR h0) hb).mono fun e w' ⟨Ao, co, Ac, cc, he, r1, r2, hbl⟩ => ⟨_, _, he, rfl, hbl, ?_⟩
  rw [RelP]
  exact ⟨_, rfl, RelPL.cons (br_back r1) (RelPL.cons (br_back r2) RelPL.nil)⟩
theorem red7_fn : FnP Try.prog 17 [schP S] (· = .tup [pints (ordS S), pints (corS S)]) := by
  intro w R us hR hrel
  simp only [RelPL] at hrel
  obtain ⟨u0, _, rfl, h0, rfl⟩ := hrel
  refine (reduceR_any u0 S w (br_sch hR h0) hb).mono fun e w' ⟨Ao, co, Ac, cc, he, r1, r2, hbl⟩ => ⟨_, _, he, rfl, hbl, ?_⟩
  rw [RelP]
  exact ⟨_, rfl, RelPL.cons (br_back r1) (RelPL.cons (br_back r2) RelPL.nil)⟩
theorem tree_fn : FnP Try.prog 27 [schP S] (· = .tup [.agg [pints (witS S)], .bool (treB S)]) := by
  intro w R us hR hrel
  simp only [RelPL] at hrel
  obtain ⟨u0, _, rfl, h0, rfl⟩ := hrel
  refine (tree_any u0 S w (br_sch hR h0) hb).mono fun e w' ⟨Aw, cw, he, r1, hbl⟩ => ⟨_, _, he, rfl, hbl, ?_⟩
  rw [RelP]
  refine ⟨_, rfl, RelPL.cons ?_ (RelPL.cons (by simp only [RelP]) RelPL.nil)⟩
  rw [RelP]
  exact ⟨_, rfl, RelPL.cons (br_back r1) RelPL.nil⟩
theorem tree7_fn : FnP Try.prog 18 [schP S] (· = .tup [.agg [pints (witS S)], .bool (treB S)]) := by
  intro w R us hR hrel
  simp only [RelPL] at hrel
  obtain ⟨u0, _, rfl, h0, rfl⟩ := hrel
  refine (treeR_any u0 S w (br_sch hR h0) hb).mono fun e w' ⟨Aw, cw, he, r1, hbl⟩ => ⟨_, _, he, rfl, hbl, ?_⟩
  rw [RelP]
  refine ⟨_, rfl, RelPL.cons ?_ (RelPL.cons (by simp only [RelP]) RelPL.nil)⟩
  rw [RelP]
  exact ⟨_, rfl, RelPL.cons (br_back r1) RelPL.nil⟩
theorem acy_fn : FnP Try.prog 15 [schP S] (· = .bool (treB S)) := by
  intro w R us hR hrel
  simp only [RelPL] at hrel
  obtain ⟨u0, _, rfl, h0, rfl⟩ := hrel
  exact (acyclic_any u0 S w (br_sch hR h0) hb).mono fun e w' ⟨he, hbl⟩ => ⟨_, _, he, rfl, hbl, by simp only [RelP]⟩
theorem acy7_fn : FnP Try.prog 21 [schP S] (· = .bool (treB S)) := by
  intro w R us hR hrel
  simp only [RelPL] at hrel
  obtain ⟨u0, _, rfl, h0, rfl⟩ := hrel
  exact (acyclicR_any u0 S w (br_sch hR h0) hb).mono fun e w' ⟨he, hbl⟩ => ⟨_, _, he, rfl, hbl, by simp only [RelP]⟩
theorem chk_fn (par : List Int) (hp : par.length ≤ 1000) : FnP Try.prog 19 [schP S, .agg [pints par]] (· = .bool (chkB S par)) := by
  intro w R us hR hrel
  simp only [RelPL] at hrel
  obtain ⟨u0, _, rfl, h0, u1, _, rfl, h1, rfl⟩ := hrel
  rw [RelP] at h1
  obtain ⟨_, rfl, h1⟩ := h1
  simp only [RelPL] at h1
  obtain ⟨u2, _, rfl, h2, rfl⟩ := h1
  obtain ⟨Ap, cp, rfl, hpr⟩ := br_ints hR h2
  exact (chk_any u0 S Ap cp par w (br_sch hR h0) hb hpr hp).mono fun e w' ⟨he, hbl⟩ => ⟨_, _, he, rfl, hbl, by simp only [RelP]⟩
theorem chk7_fn (par : List Int) (hp : par.length ≤ 1000) : FnP Try.prog 29 [schP S, .agg [pints par]] (· = .bool (chkB S par)) := by
  intro w R us hR hrel
  simp only [RelPL] at hrel
  obtain ⟨u0, _, rfl, h0, u1, _, rfl, h1, rfl⟩ := hrel
  rw [RelP] at h1
  obtain ⟨_, rfl, h1⟩ := h1
  simp only [RelPL] at h1
  obtain ⟨u2, _, rfl, h2, rfl⟩ := h1
  obtain ⟨Ap, cp, rfl, hpr⟩ := br_ints hR h2
  exact (chkR_any u0 S Ap cp par w (br_sch hR h0) hb hpr hp).mono fun e w' ⟨he, hbl⟩ => ⟨_, _, he, rfl, hbl, by simp only [RelP]⟩
theorem clo_fn (ord core : List Int) (ho : ord.length ≤ 1000) (hc : core.length ≤ 1000) : FnP Try.prog 20 [schP S, pints ord, pints core] (· = .bool (closedB S ord core)) := by
  intro w R us hR hrel
  simp only [RelPL] at hrel
  obtain ⟨u0, _, rfl, h0, u1, _, rfl, h1, u2, _, rfl, h2, rfl⟩ := hrel
  obtain ⟨Ao, co, rfl, hor⟩ := br_ints hR h1
  obtain ⟨Ac, cc, rfl, hcr⟩ := br_ints hR h2
  exact (closed_any u0 S Ao co ord Ac cc core w (br_sch hR h0) hb hor ho hcr hc).mono fun e w' ⟨he, hbl⟩ => ⟨_, _, he, rfl, hbl, by simp only [RelP]⟩
theorem clo7_fn (ord core : List Int) (ho : ord.length ≤ 1000) (hc : core.length ≤ 1000) : FnP Try.prog 30 [schP S, pints ord, pints core] (· = .bool (closedB S ord core)) := by
  intro w R us hR hrel
  simp only [RelPL] at hrel
  obtain ⟨u0, _, rfl, h0, u1, _, rfl, h1, u2, _, rfl, h2, rfl⟩ := hrel
  obtain ⟨Ao, co, rfl, hor⟩ := br_ints hR h1
  obtain ⟨Ac, cc, rfl, hcr⟩ := br_ints hR h2
  exact (closedR_any u0 S Ao co ord Ac cc core w (br_sch hR h0) hb hor ho hcr hc).mono fun e w' ⟨he, hbl⟩ => ⟨_, _, he, rfl, hbl, by simp only [RelP]⟩
end
theorem sane7_fn : FnP Try.prog 8 [] (· = .bool true) := by
  intro w R us hR hrel
  simp only [RelPL] at hrel
  subst hrel
  exact (sane_any w).mono fun e w' ⟨he, hbl⟩ => ⟨_, _, he, rfl, hbl, by simp only [RelP]⟩
end Go.Proofs.Ytopblgabadljdaa
namespace Go.Proofs.Ytopblgabadljdaa
open Go.RowKit Mk
set_option maxRecDepth 100000
set_option maxHeartbeats 4000000
theorem SB.bd {S : Sch} (h : SB S) (h1 : S.attrs.length ≤ 1000) (h2 : S.rels.length ≤ 1000) (h3 : S.feats.length ≤ 1000) (h4 : ∀ x ∈ S.rels, x.2.length ≤ 1000) : SBd S := ⟨h1, h2, h3, h.an, h.rn, h4⟩
theorem ex7 (Y : Sch) (hb : SBd Y) : ∃ (od cr wt : List Int) (tb : Bool), od.length ≤ 1000 ∧ cr.length ≤ 1000 ∧ wt.length ≤ 1000 ∧
    FnP Try.prog 11 [schP Y] (· = .tup [pints od, pints cr]) ∧ FnP Try.prog 17 [schP Y] (· = .tup [pints od, pints cr]) ∧
    FnP Try.prog 27 [schP Y] (· = .tup [.agg [pints wt], .bool tb]) ∧ FnP Try.prog 18 [schP Y] (· = .tup [.agg [pints wt], .bool tb]) ∧
    FnP Try.prog 15 [schP Y] (· = .bool tb) ∧ FnP Try.prog 21 [schP Y] (· = .bool tb) := by
  have hr := hb.r
  refine ⟨_, _, _, _, ?_, ?_, ?_, red_fn Y hb, red7_fn Y hb, tree_fn Y hb, tree7_fn Y hb, acy_fn Y hb, acy7_fn Y hb⟩
  · unfold ordS
    split
    · have := redTo_count Y.rels Y.rels.length
      show (redTo Y.rels Y.rels.length).ord.length ≤ 1000
      omega
    · simp
  · unfold corS
    split
    · exact Nat.le_trans (coreTo_len _ _) hr
    · simp
  · unfold witS
    split
    · rw [show (redS Y.rels).wit.length = Y.rels.length from (redTo_len Y.rels _).2]; exact hr
    · simp
theorem bools_snoc (l : List Bool) (x : Bool) : boolsP (l ++ [x]) = boolsP l ++ [.bool x] := by simp
def YOk7 (Y : Sch) : Prop := SBd Y ∧ Y.rels.length ≤ 6
theorem made_ok7 {Sm : Sch} (hMm : Made Sm 5) : YOk7 Sm := by
  have q1 := hMm.a2
  have q2 := hMm.r2
  have q3 := featsOk_len hMm.fs
  refine ⟨(made_SB hMm (by omega)).bd (by omega) (by omega) (by omega) (fun x hx => ?_), by omega⟩
  obtain ⟨i, hi, rfl⟩ := List.getElem_of_mem hx
  have := Go.Proofs.Ytopblgabadljdaa.asc_len (hMm.rs i hi).2.2.1 (hMm.rs i hi).2.2.2
  omega
theorem bent_ok7 {S S' : Sch} (hB : Bent S S') (hM : Made7 S) : YOk7 S' := by
  have q1 := hB.a2
  have q2 := hB.r2
  have q3 := hB.f2
  have p1 := hM.a2
  have p2 := hM.r2
  have p3 := hM.f
  refine ⟨(hB.SB hM.SB (by omega) (by omega) (by omega)).bd (by omega) (by omega) (by omega) (fun x hx => ?_), by omega⟩
  rcases hB.rl x hx with e | ⟨y, hy, e⟩
  · omega
  · rw [← e]; exact hM.rl y hy
theorem acyExact_spec (t : List Int) (Sr : Sch) (inn : List Bool) (Pt ord core : List Int) (rel : Int) (ht : t.length ≤ 9223372036854775807) (h1 : Sr.attrs.length ≤ 9223372036854775807) (h2 : Sr.rels.length ≤ 9223372036854775807) (h3 : Sr.feats.length ≤ 9223372036854775807)
    (h4 : ∀ r ∈ Sr.rels, r.2.length ≤ 9223372036854775807) (h5 : ∀ x ∈ Sr.attrs, x.1.size ≤ 9223372036854775807) (h6 : ∀ x ∈ Sr.rels, x.1.size ≤ 9223372036854775807) (hinn : inn.length ≤ 9223372036854775807) (hPt : Pt.length ≤ 9223372036854775807) (hord : ord.length ≤ 9223372036854775807) (hcore : core.length ≤ 9223372036854775807) :
    FnP Try.prog 6 [pints t, schP Sr, pbools inn, .agg [pints Pt], pints ord, pints core, .int .i64 rel] (· = .bool true) := by
  refine FnP.of Try.func6 rfl Try.ntmps6 (by simp) fun m0 w0 F R0 => ?_
  have hsm := small_spec Sr h1 h2 h3 h4
  repeat refine AW.seq ?_
  refine AW.region ?_
  iterate 3 refine A1 rfl ?_
  repeat refine AW.seq ?_
  refine AW.region ?_
  iterate 4 refine A1 rfl ?_
  apply RL.orB 4 45 49 [46, 47, 48] rfl (by first | exact MonoK.le | exact MonoK.aw | exact MonoK.back)
  · intro hb3
    iterate 4 refine A1 rfl ?_
    exact St.le_fg (fEq.upd (fEq.upd (fEq.upd (fEq.upd (fEq.upd (fEq.refl) rfl) rfl) rfl) rfl) rfl) rfl rfl rfl
  · intro hb3
    refine A1 rfl ?_
    refine RL.stepG (d := some 47) rfl rfl rfl (xj_call Try.call22 hsm rfl) ?_
    iterate 2 refine A1 rfl ?_
    exact St.le_fg (fEq.upd (fEq.upd (fEq.upd (fEq.upd (fEq.upd (fEq.refl) rfl) rfl) rfl) rfl) rfl) rfl rfl rfl
  refine A1 rfl ?_
  apply RL.orB 4 50 54 [51, 52, 53] rfl (by first | exact MonoK.le | exact MonoK.aw | exact MonoK.back)
  · intro hb8
    iterate 4 refine A1 rfl ?_
    exact St.le_fg (fEq.upd (fEq.upd (fEq.upd (fEq.upd (fEq.upd (fEq.refl) rfl) rfl) rfl) rfl) rfl) rfl rfl rfl
  · intro hb8
    iterate 4 refine A1 rfl ?_
    exact St.le_fg (fEq.upd (fEq.upd (fEq.upd (fEq.upd (fEq.upd (fEq.refl) rfl) rfl) rfl) rfl) rfl) rfl rfl rfl
  refine A1 rfl ?_
  apply RL.orB 5 55 60 [56, 57, 58, 59] rfl (by first | exact MonoK.le | exact MonoK.aw | exact MonoK.back)
  · intro hb13
    iterate 5 refine A1 rfl ?_
    exact St.le_fg (fEq.upd (fEq.upd (fEq.upd (fEq.upd (fEq.upd (fEq.upd (fEq.refl) rfl) rfl) rfl) rfl) rfl) rfl) rfl rfl rfl
  · intro hb13
    iterate 5 refine A1 rfl ?_
    exact St.le_fg (fEq.upd (fEq.upd (fEq.upd (fEq.upd (fEq.upd (fEq.upd (fEq.refl) rfl) rfl) rfl) rfl) rfl) rfl) rfl rfl rfl
  refine A1 rfl ?_
  apply RL.orB 4 61 65 [62, 63, 64] rfl (by first | exact MonoK.le | exact MonoK.aw | exact MonoK.back)
  · intro hb19
    iterate 4 refine A1 rfl ?_
    exact St.le_fg (fEq.upd (fEq.upd (fEq.upd (fEq.upd (fEq.upd (fEq.refl) rfl) rfl) rfl) rfl) rfl) rfl rfl rfl
  · intro hb19
    iterate 4 refine A1 rfl ?_
    exact St.le_fg (fEq.upd (fEq.upd (fEq.upd (fEq.upd (fEq.upd (fEq.refl) rfl) rfl) rfl) rfl) rfl) rfl rfl rfl
  refine A1 rfl ?_
  apply RL.orB 4 66 70 [67, 68, 69] rfl (by first | exact MonoK.le | exact MonoK.aw | exact MonoK.back)
  · intro hb24
    iterate 4 refine A1 rfl ?_
    exact St.le_fg (fEq.upd (fEq.upd (fEq.upd (fEq.upd (fEq.upd (fEq.refl) rfl) rfl) rfl) rfl) rfl) rfl rfl rfl
  · intro hb24
    iterate 4 refine A1 rfl ?_
    exact St.le_fg (fEq.upd (fEq.upd (fEq.upd (fEq.upd (fEq.upd (fEq.refl) rfl) rfl) rfl) rfl) rfl) rfl rfl rfl
  repeat refine AW.seq ?_
  refine AW.cond rfl (fun hc70 => ?_) (fun hc70 => ?_)
  · repeat refine AW.seq ?_
    refine AW.region ?_
    refine RL.step (d := some 71) rfl rfl (xj_call Try.call8 sane7_fn rfl) ?_
    refine A1 rfl ?_
    repeat refine AW.seq ?_
    refine AW.ret ?_
    exact ⟨_, _, rfl, rfl, rfl⟩
  · have hq : t.length ≤ 300 ∧ smallB Sr = true ∧ inn.length ≤ 10 ∧ Pt.length ≤ 10 ∧ ord.length ≤ 10 ∧ core.length ≤ 10 := by
      simp only [Bool.or_eq_false_iff, decide_eq_false_iff_not, Bool.not_eq_false'] at hc70
      exact ⟨by omega, hc70.1.1.1.1.2, by omega, by omega, by omega, by omega⟩
    obtain ⟨hL, hsmall, hi10, hp10, ho10, hc10⟩ := hq
    have hYr : YOk7 Sr := by
      have h7 := (small_SB hsmall h5 h6).1
      simp only [smallB, Bool.and_eq_true, Bool.not_eq_true', Bool.or_eq_false_iff, decide_eq_false_iff_not, List.all_eq_true, decide_eq_true_eq] at hsmall
      exact ⟨h7.bd (by omega) (by omega) (by omega) (fun x hx => by have := hsmall.2 x hx; omega), by omega⟩
    refine AW.skip ?_
    repeat refine AW.seq ?_
    refine AW.region ?_
    refine A1 rfl ?_
    refine RL.call rfl (oj_callF1 [] 2 Try.call10 (new_spec t (by omega)) rfl rfl rfl rfl trivial (by decide) rfl ?_)
    rintro _ _ ⟨rfl, rfl⟩
    refine A1 rfl ?_
    repeat refine AW.seq ?_
    refine AW.region ?_
    refine A1 rfl ?_
    refine RL.call rfl (oj_callM Try.call9 (rels7_spec t 0 (by omega) (by omega)) rfl rfl ?_)
    rintro _ _ ⟨⟨S, hM, rfl⟩, k1, hk1, rfl⟩
    have hSB := hM.SB
    have ha1 := hM.a1
    have ha2 := hM.a2
    have hr1 := hM.r1
    have hr2 := hM.r2
    have hf0 := hM.f
    have hYs : YOk7 S := ⟨hSB.bd (by omega) (by omega) (by omega) hM.rl, by omega⟩
    iterate 2 refine A1 rfl ?_
    repeat refine AW.seq ?_
    refine AW.draw follows [[], [], [1], [], [], [2, 4, 3, 1], [], [6, 5, 2, 0, 1, 4, 3], []] [0, 1, 3, 4, 6, 8, 2, 5, 7] (by kernel_rfl) (by kernel_rfl) ?_
    iterate 6 refine D1 rfl rfl ?_
    refine DL.rel (RM 66 2 (fun v c => (∃ S', Made S' 5 ∧ v = schP S') ∧ ∃ k', k' ≤ t.length ∧ c = srcC t k')) [2] [] [2] rfl rfl rfl (fun τ h => relM Try.call23 (schema_spec t k1 5 (by omega) hk1 (by omega) (by omega)) (h.args.trans rfl) ((h.o 0 _ rfl).trans rfl)) rfl (by kernel_rfl) (by kernel_rfl) (by kernel_rfl) ?_
    rintro _ ⟨_, _, ⟨⟨Sm, hMm, rfl⟩, k2, hk2, rfl⟩, rfl⟩ _ _
    have hYm := made_ok7 hMm
    refine DL.rel (RM 66 2 (fun v c => (∃ S' : Sch, Bent S S' ∧ v = schP S') ∧ ∃ k', k' ≤ t.length ∧ c = srcC t k')) [2] [] [2] rfl rfl rfl (fun τ h => relM Try.call24 (bentSchema_spec t k2 (by omega) hk2 S ha1 (by omega) hr1 (by omega) (by omega)) (h.args.trans rfl) ((h.o 0 _ rfl).trans rfl)) rfl (by kernel_rfl) (by kernel_rfl) (by kernel_rfl) ?_
    rintro _ ⟨_, _, ⟨⟨Sb, hB, rfl⟩, k3, hk3, rfl⟩, rfl⟩ _ _
    have hYb := bent_ok7 hB hM
    have hget : ∀ i : Nat, i < 4 → ∃ Y, YOk7 Y ∧ ((schC S ++ (schC Sm ++ (schC Sb ++ schC Sr))).drop (i * 4)).take 4 = schC Y := fun i hi => (match i with | 0 => ⟨S, hYs, rfl⟩ | 1 => ⟨Sm, hYm, rfl⟩ | 2 => ⟨Sb, hYb, rfl⟩ | 3 => ⟨Sr, hYr, rfl⟩ | k + 4 => absurd hi (by omega))
    refine D1 rfl rfl ?_
    refine ⟨by kernel_rfl, ?_⟩
    repeat refine AW.seq ?_
    refine AW.block ?_
    repeat refine AW.seq ?_
    refine AW.loop (st := fun x_0 : Nat × Nat => mkS [(2, .pv (pbools inn)), (4, .pv (pints ord)), (5, .pv (pints core)), (6, .pv (.int .i64 rel)), (10, .ptr 1 0), (15, .ptr 2 0), (83, .pv (.agg (schC S ++ (schC Sm ++ (schC Sb ++ schC Sr))))), (84, .pv (.int .i64 x_0.1))] [(1, .mix 46 [.pv (pints Pt)]), (2, srcO t x_0.2)] 4)
      (I := fun x_0 => x_0.1 ≤ 4 ∧ x_0.2 ≤ t.length) (μ := fun x_0 => 4 - x_0.1) (x0 := (0, k3)) (St.le_mk ⟨rfl, rfl, rfl, rfl, rfl, rfl, rfl, rfl, trivial⟩ ⟨rfl, rfl, trivial⟩ rfl rfl) (⟨Nat.zero_le _, hk3⟩) ?_
    rintro ⟨i, k4⟩ ⟨hi, hk4⟩
    try simp only at hi hk4 ⊢
    repeat refine AW.seq ?_
    refine AW.region ?_
    refine A1 rfl ?_
    repeat refine AW.seq ?_
    refine AW.condP rfl (fun hc85 => ?_) (fun hc85 => ?_)
    · have hi4 : i < 4 := by omega
      obtain ⟨Y, ⟨hY, hY6⟩, hYi⟩ := hget i hi4
      obtain ⟨od, cr, wt, tb, hod, hcr, hwt, f1, f2, f3, f4, f5, f6⟩ := ex7 Y hY
      refine AW.skip ?_
      repeat refine AW.seq ?_
      refine AW.block ?_
      repeat refine AW.seq ?_
      refine AW.region ?_
      refine RL.step (d := some 86) rfl rfl (xj_indexAP i Try.underlying55 sz28 ⟨_, Try.underlying28, rfl⟩ rfl rfl rfl hi4 hYi) ?_
      iterate 2 refine A1 rfl ?_
      repeat refine AW.seq ?_
      refine AW.region ?_
      iterate 4 refine A1 rfl ?_
      repeat refine AW.seq ?_
      refine AW.region ?_
      refine A1 rfl ?_
      refine AW.weaken (St.le_gro 20 5 1 4 rfl rfl) ?_
      repeat refine AW.seq ?_
      refine AW.region ?_
      refine A1 rfl ?_
      repeat refine AW.seq ?_
      refine AW.block ?_
      repeat refine AW.seq ?_
      refine AW.loop (st := fun x_1 : Nat × List Bool × Nat => mkS [(2, .pv (pbools inn)), (4, .pv (pints ord)), (5, .pv (pints core)), (6, .pv (.int .i64 rel)), (10, .ptr 1 0), (15, .ptr 2 0), (18, .ptr 4 0), (19, .pv (.int .i64 Y.rels.length)), (20, .gsl 5 1 x_1.2.1.length), (21, .pv (.int .i64 x_1.1)), (83, .pv (.agg (schC S ++ (schC Sm ++ (schC Sb ++ schC Sr))))), (84, .pv (.int .i64 i))] [(1, .mix 46 [.pv (pints Pt)]), (2, srcO t x_1.2.2), (4, .mix 28 [.pv (.sl none Y.attrs.length (attrsC Y.attrs)), .pv (.sl none Y.rels.length (relsC Y.rels)), .pv (.sl none Y.feats.length (featsC Y.feats)), .pv (.int .i64 Y.label)]), (5, .gro 4 (boolsP x_1.2.1))] 6)
        (I := fun x_1 => x_1.1 ≤ Y.rels.length ∧ x_1.2.1.length = x_1.1 ∧ x_1.2.2 ≤ t.length) (μ := fun x_1 => Y.rels.length - x_1.1) (x0 := (0, [], k4)) (St.le_mk ⟨rfl, rfl, rfl, rfl, rfl, rfl, rfl, rfl, rfl, rfl, rfl, rfl, trivial⟩ ⟨rfl, rfl, rfl, rfl, trivial⟩ rfl rfl) (⟨Nat.zero_le _, rfl, hk4⟩) ?_
      rintro ⟨j, z, k5⟩ ⟨hj, hzl, hk5⟩
      try simp only at hj hzl hk5 ⊢
      repeat refine AW.seq ?_
      refine AW.region ?_
      iterate 3 refine A1 rfl ?_
      repeat refine AW.seq ?_
      refine AW.condP rfl (fun hc92 => ?_) (fun hc92 => ?_)
      · have hsl : (boolsP z).length = z.length * 1 := by simp
        have hk6 := sNk_le hk5
        refine AW.skip ?_
        repeat refine AW.seq ?_
        refine AW.block ?_
        repeat refine AW.seq ?_
        refine AW.region ?_
        iterate 2 refine A1 rfl ?_
        refine RL.step (d := some 97) rfl rfl (xj_callM Try.call25 (n_spec t k5 4 (by omega) hk5 (by omega) (by omega)) rfl rfl) ?_
        iterate 4 refine A1 rfl ?_
        repeat refine AW.seq ?_
        refine AW.region ?_
        iterate 3 refine A1 rfl ?_
        exact ⟨(j + 1, z ++ [decide (sNv t k5 4 > 0)], sNk t k5), St.le_mkR [0, 1, 2, 3, 4, 7] ⟨rfl, rfl, rfl, rfl, rfl, rfl, rfl, rfl, by simp; rfl, rfl, rfl, rfl, trivial⟩ ⟨rfl, rfl, rfl, congrArg (fun c => some (Ob.gro 4 c)) (bools_snoc z _).symm, trivial⟩ rfl rfl (by decide) rfl, ⟨by simp only; omega, by simp; omega, hk6⟩, by simp only; omega⟩
      · repeat refine AW.seq ?_
        refine AW.exit ?_
        refine AW.weaken (St.le_pubA 5 rfl rfl) ?_
        have hget1 : ∀ a : Nat, a < 2 → ∃ zz : List Bool, [pbools z, pbools inn][a * 1]? = some (pbools zz) := fun a ha => (match a with | 0 => ⟨z, rfl⟩ | 1 => ⟨inn, rfl⟩ | k + 2 => absurd ha (by omega))
        repeat refine AW.seq ?_
        refine AW.region ?_
        iterate 4 refine A1 rfl ?_
        repeat refine AW.seq ?_
        refine AW.block ?_
        repeat refine AW.seq ?_
        refine AW.loop (st := fun x_2 : Nat × Nat => mkS [(2, .pv (pbools inn)), (4, .pv (pints ord)), (5, .pv (pints core)), (6, .pv (.int .i64 rel)), (10, .ptr 1 0), (15, .ptr 2 0), (18, .ptr 4 0), (19, .pv (.int .i64 Y.rels.length)), (83, .pv (.agg (schC S ++ (schC Sm ++ (schC Sb ++ schC Sr))))), (84, .pv (.int .i64 i)), (103, .pv (.agg [pbools z, pbools inn])), (104, .pv (.int .i64 x_2.1))] [(1, .mix 46 [.pv (pints Pt)]), (2, srcO t x_2.2), (4, .mix 28 [.pv (.sl none Y.attrs.length (attrsC Y.attrs)), .pv (.sl none Y.rels.length (relsC Y.rels)), .pv (.sl none Y.feats.length (featsC Y.feats)), .pv (.int .i64 Y.label)])] 6)
          (I := fun x_2 => x_2.1 ≤ 2 ∧ x_2.2 ≤ t.length) (μ := fun x_2 => 2 - x_2.1) (x0 := (0, k5)) (St.le_mk ⟨rfl, rfl, rfl, rfl, rfl, rfl, rfl, rfl, rfl, rfl, rfl, rfl, trivial⟩ ⟨rfl, rfl, rfl, trivial⟩ rfl rfl) (⟨Nat.zero_le _, hk5⟩) ?_
        rintro ⟨a, k6⟩ ⟨ha, hk6⟩
        try simp only at ha hk6 ⊢
        repeat refine AW.seq ?_
        refine AW.region ?_
        refine A1 rfl ?_
        repeat refine AW.seq ?_
        refine AW.condP rfl (fun hc105 => ?_) (fun hc105 => ?_)
        · have ha2 : a < 2 := by omega
          obtain ⟨zz, hza⟩ := hget1 a ha2
          have hk7 := sNk_le hk6
          have hget2 : ∀ b : Nat, b < 2 → ∃ r : Int, [PV.int .i64 rel, .int .i64 (sNv t k6 5)][b * 1]? = some (.int .i64 r) := fun b hb => (match b with | 0 => ⟨rel, rfl⟩ | 1 => ⟨_, rfl⟩ | k + 2 => absurd hb (by omega))
          refine AW.skip ?_
          repeat refine AW.seq ?_
          refine AW.block ?_
          repeat refine AW.seq ?_
          refine AW.region ?_
          refine RL.step (d := some 106) rfl rfl (xj_indexAP1 a Try.underlying57 sz36 ⟨_, Try.underlying36, rfl⟩ rfl rfl rfl ha2 hza) ?_
          refine A1 rfl ?_
          repeat refine AW.seq ?_
          refine AW.region ?_
          iterate 2 refine A1 rfl ?_
          refine RL.step (d := some 109) rfl rfl (xj_callM Try.call25 (n_spec t k6 5 (by omega) hk6 (by omega) (by omega)) rfl rfl) ?_
          iterate 2 refine A1 rfl ?_
          repeat refine AW.seq ?_
          refine AW.block ?_
          repeat refine AW.seq ?_
          refine AW.loop (st := fun x_3 : Nat => mkS [(2, .pv (pbools inn)), (4, .pv (pints ord)), (5, .pv (pints core)), (6, .pv (.int .i64 rel)), (10, .ptr 1 0), (15, .ptr 2 0), (18, .ptr 4 0), (19, .pv (.int .i64 Y.rels.length)), (23, .pv (pbools zz)), (83, .pv (.agg (schC S ++ (schC Sm ++ (schC Sb ++ schC Sr))))), (84, .pv (.int .i64 i)), (103, .pv (.agg [pbools z, pbools inn])), (104, .pv (.int .i64 a)), (110, .pv (.agg [.int .i64 rel, .int .i64 (sNv t k6 5)])), (111, .pv (.int .i64 x_3))] [(1, .mix 46 [.pv (pints Pt)]), (2, srcO t (sNk t k6)), (4, .mix 28 [.pv (.sl none Y.attrs.length (attrsC Y.attrs)), .pv (.sl none Y.rels.length (relsC Y.rels)), .pv (.sl none Y.feats.length (featsC Y.feats)), .pv (.int .i64 Y.label)])] 6)
            (I := fun x_3 => x_3 ≤ 2) (μ := fun x_3 => 2 - x_3) (x0 := (0)) (St.le_mk ⟨rfl, rfl, rfl, rfl, rfl, rfl, rfl, rfl, rfl, rfl, rfl, rfl, rfl, rfl, rfl, trivial⟩ ⟨rfl, rfl, rfl, trivial⟩ rfl rfl) (Nat.zero_le _) ?_
          rintro b hb
          repeat refine AW.seq ?_
          refine AW.region ?_
          refine A1 rfl ?_
          repeat refine AW.seq ?_
          refine AW.condP rfl (fun hc112 => ?_) (fun hc112 => ?_)
          · have hb2 : b < 2 := by omega
            obtain ⟨r, hrb⟩ := hget2 b hb2
            have g1 := ear_fn Y hY zz r
            have g2 := ear7_fn Y hY zz r
            generalize (earO Y zz r).isSome = eb at *
            generalize optI (earO Y zz r) = ei at *
            refine AW.skip ?_
            repeat refine AW.seq ?_
            refine AW.block ?_
            repeat refine AW.seq ?_
            refine AW.region ?_
            refine RL.step (d := some 113) rfl rfl (xj_indexAP1 b Try.underlying58 sz3 ⟨_, Try.underlying3, rfl⟩ rfl rfl rfl hb2 hrb) ?_
            refine A1 rfl ?_
            repeat refine AW.seq ?_
            refine AW.region ?_
            iterate 3 refine A1 rfl ?_
            refine RL.step (d := some 118) rfl rfl (xj_call Try.call12 g1 rfl) ?_
            iterate 5 refine A1 rfl ?_
            repeat refine AW.seq ?_
            refine AW.region ?_
            iterate 3 refine A1 rfl ?_
            refine RL.step (d := some 125) rfl rfl (xj_call Try.call26 g2 rfl) ?_
            iterate 5 refine A1 rfl ?_
            repeat refine AW.seq ?_
            refine AW.region ?_
            iterate 4 refine A1 rfl ?_
            apply RL.orB 4 131 135 [132, 133, 134] rfl (by first | exact MonoK.le | exact MonoK.aw | exact MonoK.back)
            · intro hb3
              iterate 4 refine A1 rfl ?_
              exact St.le_fg (fEq.upd (fEq.upd (fEq.upd (fEq.upd (fEq.upd (fEq.refl) rfl) rfl) rfl) rfl) rfl) rfl rfl rfl
            · intro hb3
              iterate 4 refine A1 rfl ?_
              exact St.le_fg (fEq.upd (fEq.upd (fEq.upd (fEq.upd (fEq.upd (fEq.refl) rfl) rfl) rfl) rfl) rfl) rfl rfl rfl
            repeat refine AW.seq ?_
            refine AW.cond rfl (fun hc135 => absurd hc135 (by simp)) (fun hc135 => ?_)
            refine AW.skip ?_
            repeat refine AW.seq ?_
            refine AW.region ?_
            iterate 2 refine A1 rfl ?_
            exact ⟨(b + 1), St.le_mk ⟨rfl, rfl, rfl, rfl, rfl, rfl, rfl, rfl, rfl, rfl, rfl, rfl, rfl, rfl, rfl, trivial⟩ ⟨rfl, rfl, rfl, trivial⟩ rfl rfl, by omega, by omega⟩
          · repeat refine AW.seq ?_
            refine AW.exit ?_
            repeat refine AW.seq ?_
            refine AW.region ?_
            iterate 2 refine A1 rfl ?_
            exact ⟨(a + 1, sNk t k6), St.le_mk ⟨rfl, rfl, rfl, rfl, rfl, rfl, rfl, rfl, rfl, rfl, rfl, rfl, trivial⟩ ⟨rfl, rfl, rfl, trivial⟩ rfl rfl, ⟨by simp only; omega, hk7⟩, by simp only; omega⟩
        · repeat refine AW.seq ?_
          refine AW.exit ?_
          repeat refine AW.seq ?_
          refine AW.region ?_
          refine A1 rfl ?_
          refine RL.step (d := some 140) rfl rfl (xj_call Try.call11 f1 rfl) ?_
          iterate 5 refine A1 rfl ?_
          repeat refine AW.seq ?_
          refine AW.region ?_
          refine A1 rfl ?_
          refine RL.step (d := some 145) rfl rfl (xj_call Try.call17 f2 rfl) ?_
          iterate 5 refine A1 rfl ?_
          repeat refine AW.seq ?_
          refine AW.region ?_
          refine A1 rfl ?_
          refine RL.step (d := some 150) rfl rfl (xj_call Try.call27 f3 rfl) ?_
          iterate 6 refine A1 rfl ?_
          repeat refine AW.seq ?_
          refine AW.region ?_
          refine A1 rfl ?_
          refine RL.step (d := some 155) rfl rfl (xj_call Try.call18 f4 rfl) ?_
          iterate 6 refine A1 rfl ?_
          repeat refine AW.seq ?_
          refine AW.draw follows [[], [], [1, 0], [2, 1, 0], [3, 2, 1, 0], [4, 3, 2, 1, 0], [4, 3, 2, 1, 0], [6, 5, 4, 3, 2, 1, 0], [7, 6, 5, 4, 3, 2, 1, 0], [8, 4, 3, 2, 1, 0, 7, 6, 5], [9, 8, 4, 3, 2, 1, 0, 7, 6, 5], [10, 9, 8, 4, 3, 2, 1, 0, 7, 6, 5], [11, 10, 9, 8, 4, 3, 2, 1, 0, 7, 6, 5], [10, 9, 8, 4, 3, 2, 1, 0, 7, 6, 5], [13, 10, 9, 8, 4, 3, 2, 1, 0, 7, 6, 5], [14, 12, 11, 10, 9, 8, 4, 3, 2, 1, 0, 7, 6, 5, 13], [15, 14, 12, 11, 10, 9, 8, 4, 3, 2, 1, 0, 7, 6, 5, 13], [16, 10, 9, 8, 4, 3, 2, 1, 0, 7, 6, 5, 15, 14, 12, 11, 13], [17, 16, 10, 9, 8, 4, 3, 2, 1, 0, 7, 6, 5, 15, 14, 12, 11, 13], [18, 17, 16, 10, 9, 8, 4, 3, 2, 1, 0, 7, 6, 5, 15, 14, 12, 11, 13], [18, 17, 16, 10, 9, 8, 4, 3, 2, 1, 0, 7, 6, 5, 15, 14, 12, 11, 13], [20, 19, 18, 17, 16, 10, 9, 8, 4, 3, 2, 1, 0, 7, 6, 5, 15, 14, 12, 11, 13], [21, 18, 17, 16, 10, 9, 8, 4, 3, 2, 1, 0, 7, 6, 5, 15, 14, 12, 11, 13, 20, 19], [22, 21, 18, 17, 16, 10, 9, 8, 4, 3, 2, 1, 0, 7, 6, 5, 15, 14, 12, 11, 13, 20, 19], [23, 22, 21, 18, 17, 16, 10, 9, 8, 4, 3, 2, 1, 0, 7, 6, 5, 15, 14, 12, 11, 13, 20, 19], [24, 23, 22, 21, 18, 17, 16, 10, 9, 8, 4, 3, 2, 1, 0, 7, 6, 5, 15, 14, 12, 11, 13, 20, 19], [23, 22, 21, 18, 17, 16, 10, 9, 8, 4, 3, 2, 1, 0, 7, 6, 5, 15, 14, 12, 11, 13, 20, 19], [25, 26, 23, 22, 21, 18, 17, 16, 10, 9, 8, 4, 3, 2, 1, 0, 7, 6, 5, 15, 14, 12, 11, 13, 20, 19, 24], [27, 25, 24, 23, 22, 21, 18, 17, 16, 10, 9, 8, 4, 3, 2, 1, 0, 7, 6, 5, 15, 14, 12, 11, 13, 20, 19, 26], [28, 23, 22, 21, 18, 17, 16, 10, 9, 8, 4, 3, 2, 1, 0, 7, 6, 5, 15, 14, 12, 11, 13, 20, 19, 27, 25, 24, 26]] [0, 1, 2, 3, 4, 5, 6, 7, 8, 9, 10, 11, 12, 13, 14, 15, 16, 17, 18, 19, 20, 21, 22, 23, 24, 25, 26, 27, 28, 29] (by kernel_rfl) (by kernel_rfl) ?_
          iterate 2 refine D1 rfl rfl ?_
          refine DL.step (d := some 160) [] rfl rfl rfl (fun τ h => xj_call Try.call28 (ints_same od (by omega)) (h.argsP rfl)) rfl (by kernel_rfl) ?_
          iterate 4 refine D1 rfl rfl ?_
          refine DL.stepG (d := some 165) [] rfl rfl rfl rfl (fun τ h => xj_call Try.call28 (ints_same cr (by omega)) (h.argsP rfl)) rfl (by kernel_rfl) ?_
          iterate 7 refine D1 rfl rfl ?_
          refine DL.stepG (d := some 173) [] rfl rfl rfl rfl (fun τ h => xj_call Try.call28 (ints_same wt (by omega)) (h.argsP rfl)) rfl (by kernel_rfl) ?_
          iterate 5 refine D1 rfl rfl ?_
          refine DL.stepG (d := some 179) [] rfl rfl rfl rfl (fun τ h => XJ.cast (v' := .pv (.bool false)) (xj_neqB Try.underlying4 ((h.e 0 _ rfl).trans rfl) ((h.e 1 _ rfl).trans rfl)) (by simp)) rfl (by kernel_rfl) ?_
          iterate 3 refine D1 rfl rfl ?_
          refine DL.stepG (d := some 183) [] rfl rfl rfl rfl (fun τ h => xj_call Try.call15 f5 (h.argsP rfl)) rfl (by kernel_rfl) ?_
          refine D1 rfl rfl ?_
          refine DL.stepG (d := some 185) [] rfl rfl rfl rfl (fun τ h => xj_call Try.call21 f6 (h.argsP rfl)) rfl (by kernel_rfl) ?_
          refine DL.stepG (d := some 186) [] rfl rfl rfl rfl (fun τ h => XJ.cast (v' := .pv (.bool false)) (xj_neqB Try.underlying4 ((h.e 0 _ rfl).trans rfl) ((h.e 1 _ rfl).trans rfl)) (by simp)) rfl (by kernel_rfl) ?_
          refine D1 rfl rfl ?_
          refine ⟨by kernel_rfl, ?_⟩
          repeat refine AW.seq ?_
          refine AW.cond rfl (fun hc187 => absurd hc187 (by simp)) (fun hc187 => ?_)
          refine AW.skip ?_
          repeat refine AW.seq ?_
          refine AW.region ?_
          refine A1 rfl ?_
          refine AW.weaken (St.le_groC 8 0 9 1 3 rfl rfl rfl) ?_
          repeat refine AW.seq ?_
          refine AW.region ?_
          refine A1 rfl ?_
          repeat refine AW.seq ?_
          refine AW.block ?_
          repeat refine AW.seq ?_
          refine AW.loop (st := fun x_4 : Nat × List Int × Nat => mkS [(2, .pv (pbools inn)), (4, .pv (pints ord)), (5, .pv (pints core)), (6, .pv (.int .i64 rel)), (10, .ptr 1 0), (15, .ptr 2 0), (18, .ptr 4 0), (19, .pv (.int .i64 Y.rels.length)), (32, .pv (pints od)), (33, .pv (pints cr)), (36, .ptr 7 0), (38, .ptr 8 0), (39, .pv (.int .i64 x_4.1)), (83, .pv (.agg (schC S ++ (schC Sm ++ (schC Sb ++ schC Sr))))), (84, .pv (.int .i64 i))] [(1, .mix 46 [.pv (pints Pt)]), (2, srcO t x_4.2.2), (4, .mix 28 [.pv (.sl none Y.attrs.length (attrsC Y.attrs)), .pv (.sl none Y.rels.length (relsC Y.rels)), .pv (.sl none Y.feats.length (featsC Y.feats)), .pv (.int .i64 Y.label)]), (7, .mix 46 [.pv (pints wt)]), (8, .mix 46 [.gsl 9 1 x_4.2.1.length]), (9, .gro 3 (intsP x_4.2.1))] 10)
            (I := fun x_4 => x_4.1 ≤ Y.rels.length ∧ x_4.2.1.length = x_4.1 ∧ x_4.2.2 ≤ t.length) (μ := fun x_4 => Y.rels.length - x_4.1) (x0 := (0, [], k6)) (St.le_mk ⟨rfl, rfl, rfl, rfl, rfl, rfl, rfl, rfl, rfl, rfl, rfl, rfl, rfl, rfl, rfl, trivial⟩ ⟨rfl, rfl, rfl, rfl, rfl, rfl, trivial⟩ rfl rfl) (⟨Nat.zero_le _, rfl, hk6⟩) ?_
          rintro ⟨j2, oth, k7⟩ ⟨hj2, hol, hk7⟩
          try simp only at hj2 hol hk7 ⊢
          repeat refine AW.seq ?_
          refine AW.region ?_
          iterate 3 refine A1 rfl ?_
          repeat refine AW.seq ?_
          refine AW.condP rfl (fun hc190 => ?_) (fun hc190 => ?_)
          · have hsl : (intsP oth).length = oth.length * 1 := by simp
            have hk8 := sNk_le hk7
            refine AW.skip ?_
            repeat refine AW.seq ?_
            refine AW.block ?_
            repeat refine AW.seq ?_
            refine AW.draw follows [[], [0], [], [], [3], [4, 2, 3], [5, 4, 2, 3], [6, 1, 0, 5, 4, 2, 3], [7, 6, 5, 4, 3, 2, 1, 0], [8, 7, 6, 5, 4, 3, 2, 1, 0]] [0, 1, 2, 3, 4, 5, 6, 7, 8, 9] (by kernel_rfl) (by kernel_rfl) ?_
            iterate 5 refine D1 rfl rfl ?_
            refine DL.step (d := some 198) [_] rfl rfl rfl (fun τ h => xj_callM Try.call16 (range_spec t k7 (-1) ((Y.rels.length : Int) - 1) (by omega) hk7 (by omega) (by omega) (by omega)) (h.args.trans rfl) ((h.o 0 _ rfl).trans rfl)) rfl (by kernel_rfl) ?_
            iterate 4 refine D1 rfl rfl ?_
            refine ⟨by kernel_rfl, ?_⟩
            repeat refine AW.seq ?_
            refine AW.region ?_
            iterate 3 refine A1 rfl ?_
            exact ⟨(j2 + 1, oth ++ [-1 + sNv t k7 ((Y.rels.length : Int) - 1 - -1 + 1)], sNk t k7), St.le_mkR [0, 1, 2, 3, 4, 5, 6, 7, 8, 11] ⟨rfl, rfl, rfl, rfl, rfl, rfl, rfl, rfl, rfl, rfl, rfl, rfl, rfl, rfl, rfl, trivial⟩ ⟨rfl, rfl, rfl, rfl, by simp; rfl, congrArg (fun c => some (Ob.gro 3 c)) (ints_snoc oth _).symm, trivial⟩ rfl rfl (by decide) rfl, ⟨by simp only; omega, by simp; omega, hk8⟩, by simp only; omega⟩
          · repeat refine AW.seq ?_
            refine AW.exit ?_
            refine AW.weaken (St.le_pubA 9 rfl rfl) ?_
            have hget3 : ∀ c : Nat, c < 3 → ∃ W : List Int, W.length ≤ 1000 ∧ ([pints wt, pints Pt, pints oth].drop (c * 1)).take 1 = [pints W] := fun c hc => (match c with | 0 => ⟨wt, hwt, rfl⟩ | 1 => ⟨Pt, by omega, rfl⟩ | 2 => ⟨oth, by omega, rfl⟩ | k + 3 => absurd hc (by omega))
            repeat refine AW.seq ?_
            refine AW.region ?_
            iterate 5 refine A1 rfl ?_
            repeat refine AW.seq ?_
            refine AW.block ?_
            repeat refine AW.seq ?_
            refine AW.loop (st := fun x_5 : Nat => mkS [(2, .pv (pbools inn)), (4, .pv (pints ord)), (5, .pv (pints core)), (6, .pv (.int .i64 rel)), (10, .ptr 1 0), (15, .ptr 2 0), (18, .ptr 4 0), (32, .pv (pints od)), (33, .pv (pints cr)), (83, .pv (.agg (schC S ++ (schC Sm ++ (schC Sb ++ schC Sr))))), (84, .pv (.int .i64 i)), (205, .pv (.agg [pints wt, pints Pt, pints oth])), (206, .pv (.int .i64 x_5))] [(1, .mix 46 [.pv (pints Pt)]), (2, srcO t k7), (4, .mix 28 [.pv (.sl none Y.attrs.length (attrsC Y.attrs)), .pv (.sl none Y.rels.length (relsC Y.rels)), .pv (.sl none Y.feats.length (featsC Y.feats)), .pv (.int .i64 Y.label)])] 10)
              (I := fun x_5 => x_5 ≤ 3) (μ := fun x_5 => 3 - x_5) (x0 := (0)) (St.le_mk ⟨rfl, rfl, rfl, rfl, rfl, rfl, rfl, rfl, rfl, rfl, rfl, rfl, rfl, trivial⟩ ⟨rfl, rfl, rfl, trivial⟩ rfl rfl) (Nat.zero_le _) ?_
            rintro c hc
            repeat refine AW.seq ?_
            refine AW.region ?_
            refine A1 rfl ?_
            repeat refine AW.seq ?_
            refine AW.condP rfl (fun hc207 => ?_) (fun hc207 => ?_)
            · have hc3 : c < 3 := by omega
              obtain ⟨W, hW, hWc⟩ := hget3 c hc3
              have c1 := chk_fn Y hY W hW
              have c2 := chk7_fn Y hY W hW
              generalize chkB Y W = cb at *
              refine AW.skip ?_
              repeat refine AW.seq ?_
              refine AW.block ?_
              repeat refine AW.seq ?_
              refine AW.region ?_
              refine RL.step (d := some 208) rfl rfl (xj_indexAP c Try.underlying60 sz46 ⟨_, Try.underlying46, rfl⟩ rfl rfl rfl hc3 hWc) ?_
              iterate 2 refine A1 rfl ?_
              repeat refine AW.seq ?_
              refine AW.draw follows [[], [], [1, 0], [], [], [2, 4, 3, 1, 0], [5, 2, 1, 0, 4, 3]] [0, 1, 2, 3, 4, 5, 6] (by kernel_rfl) (by kernel_rfl) ?_
              iterate 2 refine D1 rfl rfl ?_
              refine DL.step (d := some 211) [] rfl rfl rfl (fun τ h => xj_call Try.call19 c1 (h.argsP rfl)) rfl (by kernel_rfl) ?_
              iterate 2 refine D1 rfl rfl ?_
              refine DL.step (d := some 214) [] rfl rfl rfl (fun τ h => xj_call Try.call29 c2 (h.argsP rfl)) rfl (by kernel_rfl) ?_
              refine DL.step (d := some 215) [] rfl rfl rfl (fun τ h => XJ.cast (v' := .pv (.bool false)) (xj_neqB Try.underlying4 ((h.e 0 _ rfl).trans rfl) ((h.e 1 _ rfl).trans rfl)) (by simp)) rfl (by kernel_rfl) ?_
              refine ⟨by kernel_rfl, ?_⟩
              repeat refine AW.seq ?_
              refine AW.cond rfl (fun hc215 => absurd hc215 (by simp)) (fun hc215 => ?_)
              refine AW.skip ?_
              repeat refine AW.seq ?_
              refine AW.region ?_
              iterate 2 refine A1 rfl ?_
              exact ⟨(c + 1), St.le_mk ⟨rfl, rfl, rfl, rfl, rfl, rfl, rfl, rfl, rfl, rfl, rfl, rfl, rfl, trivial⟩ ⟨rfl, rfl, rfl, trivial⟩ rfl rfl, by omega, by omega⟩
            · repeat refine AW.seq ?_
              refine AW.exit ?_
              have l1 := clo_fn Y hY ord core (by omega) (by omega)
              have l2 := clo7_fn Y hY ord core (by omega) (by omega)
              have l3 := clo_fn Y hY od cr hod hcr
              have l4 := clo7_fn Y hY od cr hod hcr
              generalize closedB Y ord core = lb at *
              generalize closedB Y od cr = lb2 at *
              repeat refine AW.seq ?_
              refine AW.draw follows [[], [], [], [2, 1, 0], [], [], [], [3, 6, 5, 4, 2, 1, 0], [7, 3, 2, 1, 0, 6, 5, 4], [8, 7, 3, 2, 1, 0, 6, 5, 4], [9, 8, 7, 3, 2, 1, 0, 6, 5, 4], [9, 8, 7, 3, 2, 1, 0, 6, 5, 4], [9, 8, 7, 3, 2, 1, 0, 6, 5, 4], [12, 11, 10, 9, 8, 7, 3, 2, 1, 0, 6, 5, 4], [9, 8, 7, 3, 2, 1, 0, 6, 5, 4], [9, 8, 7, 3, 2, 1, 0, 6, 5, 4], [9, 8, 7, 3, 2, 1, 0, 6, 5, 4], [13, 16, 15, 14, 9, 8, 7, 3, 2, 1, 0, 6, 5, 4, 12, 11, 10], [17, 13, 12, 11, 10, 9, 8, 7, 3, 2, 1, 0, 6, 5, 4, 16, 15, 14], [18, 9, 8, 7, 3, 2, 1, 0, 6, 5, 4, 17, 13, 12, 11, 10, 16, 15, 14]] [0, 1, 2, 3, 4, 5, 6, 7, 8, 9, 10, 11, 12, 13, 14, 15, 16, 17, 18, 19] (by kernel_rfl) (by kernel_rfl) ?_
              iterate 3 refine D1 rfl rfl ?_
              refine DL.step (d := some 220) [] rfl rfl rfl (fun τ h => xj_call Try.call20 l1 (h.argsP rfl)) rfl (by kernel_rfl) ?_
              iterate 3 refine D1 rfl rfl ?_
              refine DL.step (d := some 224) [] rfl rfl rfl (fun τ h => xj_call Try.call30 l2 (h.argsP rfl)) rfl (by kernel_rfl) ?_
              refine DL.step (d := some 225) [] rfl rfl rfl (fun τ h => XJ.cast (v' := .pv (.bool false)) (xj_neqB Try.underlying4 ((h.e 0 _ rfl).trans rfl) ((h.e 1 _ rfl).trans rfl)) (by simp)) rfl (by kernel_rfl) ?_
              iterate 4 refine D1 rfl rfl ?_
              refine DL.stepG (d := some 230) [] rfl rfl rfl rfl (fun τ h => xj_call Try.call20 l3 (h.argsP rfl)) rfl (by kernel_rfl) ?_
              iterate 3 refine D1 rfl rfl ?_
              refine DL.stepG (d := some 234) [] rfl rfl rfl rfl (fun τ h => xj_call Try.call30 l4 (h.argsP rfl)) rfl (by kernel_rfl) ?_
              refine DL.stepG (d := some 235) [] rfl rfl rfl rfl (fun τ h => XJ.cast (v' := .pv (.bool false)) (xj_neqB Try.underlying4 ((h.e 0 _ rfl).trans rfl) ((h.e 1 _ rfl).trans rfl)) (by simp)) rfl (by kernel_rfl) ?_
              refine D1 rfl rfl ?_
              refine ⟨by kernel_rfl, ?_⟩
              repeat refine AW.seq ?_
              refine AW.cond rfl (fun hc236 => absurd hc236 (by simp)) (fun hc236 => ?_)
              refine AW.skip ?_
              repeat refine AW.seq ?_
              refine AW.region ?_
              iterate 2 refine A1 rfl ?_
              exact ⟨(i + 1, k7), St.le_mk ⟨rfl, rfl, rfl, rfl, rfl, rfl, rfl, rfl, trivial⟩ ⟨rfl, rfl, trivial⟩ rfl rfl, ⟨by simp only; omega, by simp only; omega⟩, by simp only; omega⟩
    · repeat refine AW.seq ?_
      refine AW.exit ?_
      repeat refine AW.seq ?_
      refine AW.region ?_
      refine RL.step (d := some 238) rfl rfl (xj_call Try.call8 sane7_fn rfl) ?_
      refine A1 rfl ?_
      repeat refine AW.seq ?_
      refine AW.ret ?_
      exact ⟨_, _, rfl, rfl, rfl⟩
end Go.Proofs.Ytopblgabadljdaa
namespace Go.Proofs.Ytopblgabadljdaa
open Go.RowKit Go.ChangeShapes Go.WideShapes Go.Deep
/-- A type whose readings are the cells f a of some a with I a. -/
def OpT (P : Program) (t : TypeId) {α : Type} (f : α → List PV) (I : α → Prop) : Prop :=
  ∀ (H : Type) (enc : TypeId × Value → H) (w : World) (base : Nat) (spare : Nat → Bool) (held : Bool) (fuel : Nat) (cs : List Value) (x : DataW H × List MemPlace),
    DataW.trod enc P w base spare held fuel t cs = some x → ∃ a, I a ∧ RelPL w (fun b => b < w.heap.size) (f a) cs
section
variable {P : Program} {t : TypeId}
theorem OpT.map {α β : Type} {f : α → List PV} {I : α → Prop} {f' : β → List PV} {I' : β → Prop} (h : OpT P t f I) (g : α → β) (hf : ∀ a, f' (g a) = f a) (hI : ∀ a, I a → I' (g a)) : OpT P t f' I' :=
  fun H enc w base spare held fuel cs x hx => by
    obtain ⟨a, ha, hr⟩ := h H enc w base spare held fuel cs x hx
    exact ⟨g a, hI a ha, by rw [hf]; exact hr⟩
theorem RelPL.one {w : World} {R : Nat → Prop} {p : PV} {u : Value} (h : RelP w R p u) : RelPL w R [p] [u] := RelPL.cons h RelPL.nil
theorem OpT.int (ht : P.underlying t = some (.int .i64)) : OpT P t (fun n : Int => [.int .i64 n]) (fun n => -9223372036854775808 ≤ n ∧ n ≤ 9223372036854775807) :=
  fun H enc w base spare held fuel cs x hx => by
    obtain ⟨n, rfl, _, hw⟩ := DataW.trod_int ht hx
    exact ⟨n, bounds_i64 hw, RelPL.one (by simp only [RelP])⟩
theorem OpT.bool (ht : P.underlying t = some .bool) : OpT P t (fun b : Bool => [.bool b]) (fun _ => True) :=
  fun H enc w base spare held fuel cs x hx => by
    obtain ⟨n, rfl, _⟩ := DataW.trod_bool ht hx
    exact ⟨n, trivial, RelPL.one (by simp only [RelP])⟩
theorem OpT.str (ht : P.underlying t = some .string) : OpT P t (fun s : ByteArray => [.str s]) (fun s => s.size ≤ maxLen) :=
  fun H enc w base spare held fuel cs x hx => by
    obtain ⟨n, rfl, _, hs⟩ := DataW.trod_string ht hx
    exact ⟨n, hs, RelPL.one (by simp only [RelP])⟩
theorem relPL_flat {w : World} {R : Nat → Prop} {α : Type} {f : α → List PV} : ∀ {n : Nat} {A : Nat → α} {us : Nat → List Value}, (∀ i, i < n → RelPL w R (f (A i)) (us i)) → RelPL w R (((List.range n).map A).flatMap f) ((List.range n).flatMap us) := by
  intro n A us h
  induction n with
  | zero => simpa using RelPL.nil
  | succ n ih =>
    rw [List.range_succ, List.map_append, List.flatMap_append, List.flatMap_append]
    refine RelPL.append (ih fun i hi => h i (by omega)) ?_
    simpa using h n (by omega)
theorem flat_range_at {c : Nat} {us : Nat → List Value} : ∀ {n : Nat}, (∀ i, i < n → (us i).length = c) → ((List.range n).flatMap us).length = n * c ∧ ∀ i j, i < n → j < c → ((List.range n).flatMap us)[i * c + j]? = (us i)[j]? := by
  intro n h
  induction n with
  | zero => exact ⟨by simp, fun i j hi => absurd hi (by omega)⟩
  | succ n ih =>
    obtain ⟨h1, h2⟩ := ih fun i hi => h i (by omega)
    rw [List.range_succ, List.flatMap_append]
    refine ⟨by rw [List.length_append, h1, List.flatMap_singleton, h n (by omega), Nat.succ_mul], fun i j hi hj => ?_⟩
    by_cases e : i < n
    · rw [List.getElem?_append_left (by rw [h1]; calc i * c + j < i * c + c := by omega
        _ = (i + 1) * c := by rw [Nat.succ_mul]
        _ ≤ n * c := Nat.mul_le_mul_right c e)]
      exact h2 i j e hj
    · obtain rfl : i = n := by omega
      rw [List.getElem?_append_right (by rw [h1]; omega), h1, List.flatMap_singleton, show i * c + j - i * c = j by omega]
theorem OpT.sl {e : TypeId} {α : Type} {f : α → List PV} {I : α → Prop} (c : Nat) [Inhabited α] (ht : P.underlying t = some (.slice e)) (hc : P.cellsOf e = c) (h : OpT P e f I) :
    OpT P t (fun l : List α => [.sl none l.length (l.flatMap f)]) (fun l => l.length ≤ maxLen ∧ ∀ a ∈ l, I a) :=
  fun H enc w base spare held fuel cs x hx => by
    rcases open_slice ht hx with ⟨rfl, rfl⟩ | ⟨a, len, cap, m, n, D, Pl, rfl, hb, hl, hm, hmm, hxe, hel⟩
    · refine ⟨[], ⟨by simp, by simp⟩, RelPL.one ?_⟩
      simp only [RelP]
      exact ⟨none, 0, rfl, Nat.le_refl _, by simp [maxLen], (fun _ e => by cases e), (fun e => by cases e), fun e => absurd rfl e⟩
    · have hlm : len ≤ m := by rw [hmm]; split <;> omega
      rw [hc] at hel
      have hx2 : ∀ i, i < len → ∃ p : α × List Value, I p.1 ∧ RelPL w (fun b => b < w.heap.size) (f p.1) p.2 ∧ p.2.length = c ∧ ∀ j, j < c → w.cell? (a.add (i * c + j)) = p.2[j]? := fun i hi => by
        obtain ⟨cs', h1, h2⟩ := hel i (by omega)
        obtain ⟨y, hy, hr⟩ := h H enc w base spare held n cs' _ h2
        obtain ⟨_, h3, h4⟩ := World.cells?_some h1
        exact ⟨(y, cs'), hy, hr, h3, fun j hj => by rw [← add_add]; exact h4 j hj⟩
      obtain ⟨F, hF⟩ := choose_lt hx2
      have hlen : ((List.range len).map fun i => (F i).1).length = len := by simp
      refine ⟨(List.range len).map fun i => (F i).1, ⟨by rw [hlen]; omega, fun y hy => ?_⟩, RelPL.one ?_⟩
      · obtain ⟨i, hi, rfl⟩ := List.mem_map.1 hy
        exact (hF i (List.mem_range.1 hi)).1
      · rw [hlen]
        simp only [RelP]
        refine ⟨some a, cap, rfl, hl, hm, (fun _ e => by cases e), (fun e => by cases e), fun hne => ?_⟩
        have hrel := relPL_flat (w := w) (R := fun b => b < w.heap.size) (f := f) (A := fun i => (F i).1) (us := fun i => (F i).2) fun i hi => (hF i hi).2.1
        obtain ⟨hL, hat⟩ := flat_range_at (us := fun i => (F i).2) (c := c) (n := len) fun i hi => (hF i hi).2.2.1
        generalize hU : (List.range len).flatMap (fun i => (F i).2) = U at hrel hL hat
        have hpos : 0 < len * c := by
          rw [← hL, RelPL.length hrel]
          exact List.length_pos_iff.2 hne
        have hlen0 : 0 < len := Nat.pos_of_mul_pos_right hpos
        have hc0 : 0 < c := Nat.pos_of_mul_pos_left hpos
        have hcell : ∀ k, k < len * c → w.cell? (a.add k) = U[k]? := fun k hk => by
          have e : k = k / c * c + k % c := by rw [Nat.mul_comm]; exact (Nat.div_add_mod k c).symm
          have h1 : k / c < len := Nat.div_lt_of_lt_mul (by rw [Nat.mul_comm]; exact hk)
          have h2 : k % c < c := Nat.mod_lt _ hc0
          rw [e, hat _ _ h1 h2]
          exact (hF _ h1).2.2.2 _ h2
        have h0 := hcell 0 hpos
        rw [List.getElem?_eq_getElem (by omega)] at h0
        obtain ⟨b, off, sp⟩ := a
        have hsp : sp = none := by
          cases sp with
          | none => rfl
          | some s =>
            exfalso
            have e : (⟨b, off, some s⟩ : Addr).add 0 = ⟨b, off, some s⟩ := rfl
            rw [e] at h0
            unfold World.cell? at h0
            split at h0
            · simp at h0
            · cases h0
        subst hsp
        rw [Addr.add_lit] at h0
        refine ⟨b, off, U, rfl, hrel, World.block_lt_of_cell? w _ h0, fun j hj => ?_⟩
        have := hcell j (by omega)
        rw [Addr.add_lit] at this
        exact this
/-- The fields of a struct from an offset on. -/
def OpF (P : Program) (off : Nat) (fs : List Field) {α : Type} (f : α → List PV) (I : α → Prop) : Prop :=
  ∀ (H : Type) (enc : TypeId × Value → H) (w : World) (base : Nat) (spare : Nat → Bool) (held : Bool) (n : Nat) (cs : List Value),
    (∀ fld ∈ fs, ∃ y, DataW.trod enc P w base spare held n fld.type ((cs.drop fld.offset).take (P.cellsOf fld.type)) = some y) → cs.length = off + (fs.map fun fld => P.cellsOf fld.type).sum → ∃ a, I a ∧ RelPL w (fun b => b < w.heap.size) (f a) (cs.drop off)
theorem OpF.nil {off : Nat} : OpF P off [] (fun _ : Unit => []) (fun _ => True) :=
  fun H enc w base spare held n cs _ hl => ⟨(), trivial, by rw [List.drop_of_length_le (by simp at hl; omega)]; exact RelPL.nil⟩
theorem OpF.cons {off : Nat} {fld : Field} {fs : List Field} {α β : Type} {f : α → List PV} {I : α → Prop} {g : β → List PV} {J : β → Prop} (c : Nat) (ho : fld.offset = off) (hc : P.cellsOf fld.type = c) (h1 : OpT P fld.type f I) (h2 : OpF P (off + c) fs g J) :
    OpF P off (fld :: fs) (fun p : α × β => f p.1 ++ g p.2) (fun p => I p.1 ∧ J p.2) :=
  fun H enc w base spare held n cs hall hl => by
    obtain ⟨y, hy⟩ := hall fld (by simp)
    obtain ⟨a, ha, hra⟩ := h1 H enc w base spare held n _ y hy
    obtain ⟨b, hb, hrb⟩ := h2 H enc w base spare held n cs (fun k hk => hall k (by simp [hk])) (by simp [hc] at hl; omega)
    refine ⟨(a, b), ⟨ha, hb⟩, ?_⟩
    rw [ho, hc] at hra
    have e : cs.drop off = (cs.drop off).take c ++ cs.drop (off + c) := by rw [← List.drop_drop, List.take_append_drop]
    rw [e]
    exact RelPL.append hra hrb
theorem OpT.struct {fs : Array Field} {α : Type} {f : α → List PV} {I : α → Prop} (ht : P.underlying t = some (.struct fs)) (hc : P.cellsOf t = (fs.toList.map fun fld => P.cellsOf fld.type).sum) (h : OpF P 0 fs.toList f I) : OpT P t f I :=
  fun H enc w base spare held fuel cs x hx => by
    obtain ⟨xs, n, _, _, hl, hxl, hf⟩ := DataW.trod_struct ht hx
    obtain ⟨a, ha, hr⟩ := h H enc w base spare held n cs (fun fld hk => by
      obtain ⟨i, hi, rfl⟩ := List.getElem_of_mem hk
      have hi2 : i < fs.size := by simpa using hi
      have := hf i fs[i] (Array.getElem?_eq_getElem hi2)
      rw [List.getElem?_eq_getElem (by omega)] at this
      exact ⟨_, by simpa using this⟩) (by rw [hl, hc]; omega)
    exact ⟨a, ha, by simpa using hr⟩
end
section
variable {H : Type} {enc : TypeId × Value → H} {P : Program} {w : World} {base : Nat} {spare : Nat → Bool} {held : Bool} {t : TypeId} {v : Value} {d : DataW H} {ps : List MemPlace} {r : Go.Reach} {b0 : Nat}
/-- An argument that is a struct. -/
theorem OpT.agg {α : Type} {f : α → List PV} {I : α → Prop} {fs : Array Field} (ho : OpT P t f I) (ht : P.underlying t = some (.struct fs)) (hv : Value.okWide P w r b0 t v) (h : DataW.Trod enc P w base spare held t v d ps) :
    ∃ a, I a ∧ RelP w (fun b => b < w.heap.size) (.agg (f a)) v := by
  obtain ⟨cs, rfl, _⟩ := okWide_struct ht hv
  obtain ⟨fuel, hf⟩ := h
  obtain ⟨a, ha, hr⟩ := ho _ _ _ _ _ _ _ _ _ hf
  refine ⟨a, ha, ?_⟩
  simp only [RelP]
  exact ⟨cs.toList, by simp, by simpa [Value.cells] using hr⟩
/-- An argument of one cell. -/
theorem OpT.one {α : Type} {p : α → PV} {I : α → Prop} (ho : OpT P t (fun a => [p a]) I) (hv : v.cells = #[v]) (h : DataW.Trod enc P w base spare held t v d ps) : ∃ a, I a ∧ RelP w (fun b => b < w.heap.size) (p a) v := by
  obtain ⟨fuel, hf⟩ := h
  obtain ⟨a, ha, hr⟩ := ho _ _ _ _ _ _ _ _ _ hf
  refine ⟨a, ha, ?_⟩
  rw [hv] at hr
  simp only [RelPL] at hr
  obtain ⟨u, vs, e, h1, _⟩ := hr
  simp at e
  rw [e.1]; exact h1
end
#print axioms OpT.sl
end Go.Proofs.Ytopblgabadljdaa
namespace Go.Proofs.Ytopblgabadljdaa
open Go.RowKit
theorem op_int : OpT Try.prog 3 (fun n : Int => [.int .i64 n]) (fun n => -9223372036854775808 ≤ n ∧ n ≤ 9223372036854775807) := OpT.int Try.underlying3
theorem op_ints : OpT Try.prog 22 (fun l : List Int => [pints l]) (fun l => l.length ≤ 9223372036854775807) :=
  (OpT.sl 1 Try.underlying22 (by kernel_rfl) op_int).map id (fun l => by
    show [PV.sl none l.length (intsP l)] = [PV.sl none l.length (l.flatMap fun n => [PV.int .i64 n])]
    congr 2
    induction l with
    | nil => rfl
    | cons x l ih => simp [← ih]) (fun l h => h.1)
theorem op_attr : OpT Try.prog 81 (fun a : ByteArray × Int => [.str a.1, .int .i64 a.2]) (fun a => a.1.size ≤ 9223372036854775807) :=
  (OpT.struct Try.underlying81 (by kernel_rfl) (OpF.cons 1 rfl (by kernel_rfl) (OpT.str Try.underlying9) (OpF.cons 1 rfl (by kernel_rfl) op_int OpF.nil))).map (fun p => (p.1, p.2.1)) (fun _ => rfl) (fun p h => h.1)
theorem op_rel : OpT Try.prog 33 (fun a : ByteArray × List Int => [.str a.1, pints a.2]) (fun a => a.1.size ≤ 9223372036854775807 ∧ a.2.length ≤ 9223372036854775807) :=
  (OpT.struct Try.underlying33 (by kernel_rfl) (OpF.cons 1 rfl (by kernel_rfl) (OpT.str Try.underlying9) (OpF.cons 1 rfl (by kernel_rfl) op_ints OpF.nil))).map (fun p => (p.1, p.2.1)) (fun _ => rfl) (fun p h => ⟨h.1, h.2.1⟩)
theorem op_feat : OpT Try.prog 83 (fun a : Int × Int × Int => [.int .i64 a.1, .int .i64 a.2.1, .int .i64 a.2.2]) (fun _ => True) :=
  (OpT.struct Try.underlying83 (by kernel_rfl) (OpF.cons 1 rfl (by kernel_rfl) op_int (OpF.cons 1 rfl (by kernel_rfl) op_int (OpF.cons 1 rfl (by kernel_rfl) op_int OpF.nil)))).map (fun p => (p.1, p.2.1, p.2.2.1)) (fun _ => rfl) (fun p h => trivial)
/-- What is known of a schema that came in. -/
structure RawS (S : Sch) : Prop where
  a : S.attrs.length ≤ 9223372036854775807
  r : S.rels.length ≤ 9223372036854775807
  f : S.feats.length ≤ 9223372036854775807
  an : ∀ x ∈ S.attrs, x.1.size ≤ 9223372036854775807
  rn : ∀ x ∈ S.rels, x.1.size ≤ 9223372036854775807
  rl : ∀ x ∈ S.rels, x.2.length ≤ 9223372036854775807
theorem op_schema : OpT Try.prog 28 schC RawS :=
  (OpT.struct Try.underlying28 (by kernel_rfl) (OpF.cons 1 rfl (by kernel_rfl) (OpT.sl 2 Try.underlying24 (by kernel_rfl) op_attr) (OpF.cons 1 rfl (by kernel_rfl) (OpT.sl 2 Try.underlying25 (by kernel_rfl) op_rel)
    (OpF.cons 1 rfl (by kernel_rfl) (OpT.sl 3 Try.underlying26 (by kernel_rfl) op_feat) (OpF.cons 1 rfl (by kernel_rfl) op_int OpF.nil))))).map (fun p => (⟨p.1, p.2.1, p.2.2.1, p.2.2.2.1⟩ : Sch)) (fun _ => rfl)
    (fun p h => ⟨h.1.1, h.2.1.1, h.2.2.1.1, h.1.2, fun x hx => (h.2.1.2 x hx).1, fun x hx => (h.2.1.2 x hx).2⟩)
end Go.Proofs.Ytopblgabadljdaa
namespace Go.Proofs.Ytopblgabadljdaa
open Go.RowKit
theorem op_bools : OpT Try.prog 36 (fun l : List Bool => [pbools l]) (fun l => l.length ≤ 9223372036854775807) :=
  (OpT.sl 1 Try.underlying36 (by kernel_rfl) (OpT.bool Try.underlying4)).map id (fun l => by
    show [PV.sl none l.length (boolsP l)] = [PV.sl none l.length (l.flatMap fun n => [PV.bool n])]
    congr 2
    induction l with
    | nil => rfl
    | cons x l ih => simp [← ih]) (fun l h => h.1)
theorem op_tree : OpT Try.prog 46 (fun P : List Int => [pints P]) (fun P => P.length ≤ 9223372036854775807) :=
  (OpT.struct Try.underlying46 (by kernel_rfl) (OpF.cons 1 rfl (by kernel_rfl) op_ints OpF.nil)).map (fun p => p.1) (fun _ => rfl) (fun p h => h.1)
end Go.Proofs.Ytopblgabadljdaa
