/-
  The walk of AcyclicOrder.
-/
import Derived.Test.YtopblgabadljdaaRelsV
import Derived.Test.YtopblgabadljdaaOrderP
import Derived.Test.YtopblgabadljdaaShuf
namespace Go.Proofs.Ytopblgabadljdaa
open Go.RowKit

theorem perm_eq {ls : List (List Int)} {S : Sch} (hS : schOf ls = S) (p : List Nat) : permS ls p = { S with rels := p.map fun i => S.rels.getD i default } := by subst hS; rfl
theorem perm_get {p : List Nat} {n k : Nat} (hp : p.Perm (List.range n)) (hk : k < p.length) : p[k] < n := by
  have := hp.mem_iff.1 (List.getElem_mem hk)
  simpa using this

set_option maxRecDepth 100000 in
set_option maxHeartbeats 1000000 in
theorem order_any (A : Option Addr) (c : Nat) (l : List Int) (w : World) {R : Nat → Prop} (h : Row w R A (ints l)) (hl : l.length ≤ 9223372036854775807) (hc : l.length ≤ c) :
    Calls Try.prog 4 #[.slice A l.length c] w fun e w' => e = .returned (.bool true) ∧ Below w.heap.size w w' := by
  by_cases hbig : 300 < l.length
  · go_enter Try.func4, Try.ntmps4
    go_wp2_with (
      go_at_call 8
      go_must (
        refine (sane_any _).mono ?_
        rintro e w1 ⟨rfl, hb1⟩))
    go_ret
    exact ⟨rfl, hb1⟩
  · have hd1 : decide (300 < (l.length : Int)) = false := by simp; omega
    go_enter Try.func4, Try.ntmps4
    go_upto_region 7 with (first
      | (go_at_call 10
         go_must (
          refine (new_any A c l w h (by omega) hc).mono ?_
          rintro e w1 ⟨bs, rfl, hsrc, hbs, hb1⟩))
      | (go_at_call 9
         go_must (
          refine (relations_any bs l w1 hsrc).mono ?_
          rintro e w2 ⟨v, ls, r', rfl, hgood, hsch, hsrc2, hg2⟩
          have hb2 : Below w.heap.size w w2 := hb1.grown hg2 hb1.size (fun g e => by injection e with e; omega)
          have hsch0 := hsch
          have hbl := hsrc2.lt
          obtain ⟨A1, c1, A2, c2, A3, c3, rfl, l1, l2, l3, h1, h2, h3⟩ := hsch
          clear h1 h2 h3 l1 l2 l3 hsrc hg2 hb1)))
    have hn1 : 1 ≤ (schOf ls).rels.length := by rw [rels_len]; exact hgood.1
    have hn5 : (schOf ls).rels.length ≤ 5 := by rw [rels_len]; exact hgood.2.1
    have hsb := good_bd hgood
    have hnls := rels_len ls
    have HN := Lib.hid hnls
    generalize hS : schOf ls = S at *
    have HS := Lib.hid hS
    clear hS hnls hd1
    have hat : S.attrs.length = 5 := by rw [← HS.out, attrs_good hgood]; simp
    have HAT := Lib.hid hat
    clear hat
    have hbx := (Blk.new w2 28 #[Value.slice A1 S.attrs.length c1, Value.slice A2 S.rels.length c2, Value.slice A3 S.feats.length c3, Value.int IntKind.i64 S.label]).alloc (.cells #[Value.slice A1 S.attrs.length c1, Value.slice none 0 0, Value.slice A3 S.feats.length c3, Value.int IntKind.i64 S.label] 28)
    have hby := Blk.new (w2.alloc (.cells #[Value.slice A1 S.attrs.length c1, Value.slice A2 S.rels.length c2, Value.slice A3 S.feats.length c3, Value.int IntKind.i64 S.label] 28)) 28 #[Value.slice A1 S.attrs.length c1, Value.slice none 0 0, Value.slice A3 S.feats.length c3, Value.int IntKind.i64 S.label]
    rw [World.size_alloc] at hby
    have hb3 : Below w2.heap.size w2 ((w2.alloc (.cells #[Value.slice A1 S.attrs.length c1, Value.slice A2 S.rels.length c2, Value.slice A3 S.feats.length c3, Value.int IntKind.i64 S.label] 28)).alloc (.cells #[Value.slice A1 S.attrs.length c1, Value.slice none 0 0, Value.slice A3 S.feats.length c3, Value.int IntKind.i64 S.label] 28)) := ((Below.refl _ _).alloc (Nat.le_refl _) _).alloc (by simp) _
    have hsz3 : ((w2.alloc (.cells #[Value.slice A1 S.attrs.length c1, Value.slice A2 S.rels.length c2, Value.slice A3 S.feats.length c3, Value.int IntKind.i64 S.label] 28)).alloc (.cells #[Value.slice A1 S.attrs.length c1, Value.slice none 0 0, Value.slice A3 S.feats.length c3, Value.int IntKind.i64 S.label] 28)).heap.size = w2.heap.size + 2 := by simp
    generalize ((w2.alloc (Obj.cells #[Value.slice A1 S.attrs.length c1, Value.slice A2 S.rels.length c2, Value.slice A3 S.feats.length c3, Value.int IntKind.i64 S.label] 28)).alloc (Obj.cells #[Value.slice A1 S.attrs.length c1, Value.slice none 0 0, Value.slice A3 S.feats.length c3, Value.int IntKind.i64 S.label] 28)) = w3 at *
    have hs3' := (hsch0.mono (R' := fun b => b < w2.heap.size ∧ b ≠ bs) fun b hlt hb => ⟨hlt, hb⟩).ext hb3
    have hsrc3 := hsrc2.keep (grown_of_ext hb3 none) (fun g e => by cases e)
    have x1 := hbx.cell 1
    simp at x1
    have HBX := Lib.hid hbx
    have HBY := Lib.hid hby
    have CS := Lib.hid (shuffle_any bs r' S.rels.length w3 hsrc3 hn1 (by omega))
    clear hbx hby hsrc2 hsrc3 hsch0 h
    go_wp2_with (
      go_at_call 14
      go_must (
        refine CS.out.mono ?_
        rintro e w4 ⟨Ap, cp, p, rfl, hp, hprow, hg4⟩
        have hpl : p.length = S.rels.length := by rw [hp.length_eq]; simp
        clear x1 CS))
    have hs4 : w3.heap.size ≤ w4.heap.size := hg4.size
    have hbx4 := HBX.out.grown hg4 (by simp; omega)
    have hby4 := HBY.out.grown hg4 (by simp; omega)
    have hsx4 := hs3'.keep hs4 fun b hb hlt => hg4.block b hlt (by simp; exact hb.2)
    obtain ⟨rs, hrs⟩ : ∃ rs, rs = p.map fun i => S.rels.getD i default := ⟨_, rfl⟩
    have hrl : rs.length = S.rels.length := by rw [hrs]; simp [hpl]
    have hrg : ∀ k (hk : k < S.rels.length), ∃ m : Nat, ∃ hm : m < S.rels.length, p[k]? = some m ∧ rs[k]? = some S.rels[m] := by
      intro k hk
      have hk2 : k < p.length := by omega
      have hm := perm_get hp hk2
      refine ⟨p[k], hm, List.getElem?_eq_getElem hk2, ?_⟩
      rw [hrs, List.getElem?_map, List.getElem?_eq_getElem hk2]
      simp [List.getD, hm]
    have HRS := Lib.hid hrs
    have HRG := Lib.hid hrg
    have HRL := Lib.hid hrl
    have HP := Lib.hid hp
    have HB3 := Lib.hid hb3
    have HBY4 := Lib.hid hby4
    have HBX4 := Lib.hid hbx4
    have e1 : w2.heap.size + 2 ≤ w4.heap.size := by omega
    clear hrs hrg hp HBX HBY hs3' hby4 hbx4 hrl hb3
    go_loopw [31] (fun i wr => ∃ (k : Nat) (A9 : Option Addr) (c9 : Nat) (vs : List Value), k ≤ S.rels.length ∧ i = .int .i64 k ∧
      Blk wr (w2.heap.size + 1) 28 #[Value.slice A1 S.attrs.length c1, Value.slice A9 k c9, Value.slice A3 S.feats.length c3, Value.int IntKind.i64 S.label] ∧
      wr.ownsRow w4.heap.size 33 2 (.slice A9 k c9) k vs ∧ RelsV wr (fun b => b < w2.heap.size ∧ b ≠ bs) vs (rs.take k) ∧ w4.grownBy wr (some (w2.heap.size + 1))) (fun i _ => S.rels.length - (intOf i).toNat)
    case atStart => exact ⟨0, none, 0, [], Nat.zero_le _, rfl, HBY4.out, World.ownsRow_nil _ _ _ _, ⟨by simp, fun k hk => by simp at hk⟩, World.grownBy.refl _ _⟩
    case round =>
      obtain ⟨k, A9, c9, vs, hk, rfl, hby, hown, hvv, hg⟩ := hrel
      have hbx := HBX4.out.grown hg (by simp)
      have hsx := hsx4.keep hg.size fun b hb hlt => hg.block b hlt (by simp; omega)
      have hgs := hg.size
      by_cases hlt : k < S.rels.length
      · obtain ⟨m, hm, hpk, hrk⟩ := HRG.out k hlt
        have hpk2 : k < (p.map Int.ofNat).length := by simp; omega
        obtain ⟨bp, offp, rfl, hbp, hcp⟩ := (hprow.grown hg fun b hb _ e => by injection e with e; omega).int_at hpk2
        have hcp2 : wr.cell? ⟨bp, offp + k, none⟩ = some (.int .i64 (m : Int)) := by
          rw [hcp, List.getElem_map]
          rw [List.getElem?_eq_some_iff] at hpk
          obtain ⟨_, hpk⟩ := hpk
          rw [hpk]; rfl
        obtain ⟨b, off, Aq, cq, rfl, hRb, hbb, hk1, hk2, hrowq⟩ := (sch_rels hsx).at_ hm
        have x1 := hbx.cell 1
        have y1 := hby.cell 1
        have yf := hby.frozen 1
        simp at x1 y1
        have i1 : (0 : Int) ≤ (m : Int) := by omega
        have i2 : (m : Int) < (S.rels.length : Int) := by omega
        have HRK := Lib.hid hrk
        have HBX := Lib.hid hbx
        have HBY := Lib.hid hby
        have HHM := Lib.hid hown
        have z1 : w2.heap.size < wr.heap.size := by omega
        have z2 : w2.heap.size + 1 < wr.heap.size := by omega
        generalize hq : S.rels[m] = q at *
        clear hcp hpk hpk2 hsx hbx hby hq hrk
        go_upto_region 10 with fail
        go_region_law (first
          | (refine step_appS rfl (.tmp 36) (.tmp 42) 25 rfl w4.heap.size 33 _ 2 40 Try.underlying25 Try.infoRel rfl (by decide) (by decide) (.slice A9 k c9) k 1 1 (some ⟨wr.heap.size, 0, none⟩) vs [Value.string q.1, Value.slice Aq q.2.length cq] ?_ ?_ ?_ (R := fun _ => True) ?_ rfl ?_ ?_ ?_ ?_
             · simp [Act.eval]
             · simp [Act.eval]
             · exact hown.alloc _
             · exact (row_new wr _ _).any
             · simp; exact ⟨rfl, rfl⟩
             · omega
             · simp; omega
             intro A6 c6 w6 hown6 hg6 hat6
             have hne : ∀ g, (Value.slice A9 k c9).ownBlock = some g → w4.heap.size ≤ g := fun g e => (hown.lt g e).1
             have hg6' : wr.grownBy w6 (Value.slice A9 k c9).ownBlock := (by first | exact grown_trans (grown_alloc (World.grownBy.refl wr _) _) hg6 (fun _ h _ => h) | exact grown_trans (grown_drewN (grown_alloc (World.grownBy.refl wr _) _) 1) hg6 (fun _ h _ => h) | exact grown_trans (grown_alloc (grown_drewN (World.grownBy.refl wr _) 1) _) hg6 (fun _ h _ => h))
             have hby6 := HBY.out.grown hg6' (fun e => by have := hne _ e.symm; omega)
             have y1' := hby6.cell 1
             have yf' := hby6.frozen 1
             simp at y1'
             have HBY6 := Lib.hid hby6
             have hs6 := hg6'.size
             clear hby6 y1 yf))
        all_goals
          go_wp2
          obtain ⟨_, _, hsl, hcl, _⟩ := own_slice hown6
          have hgw : w4.grownBy w6 (some (w2.heap.size + 1)) := grown_trans hg hg6' (fun g e hlt => by have := hne g e; omega)
          refine ⟨⟨k + 1, A6, c6, _, by omega, by go_num, HBY6.out.set 1 _, hown6.kept (grown_set (World.grownBy.refl w6 _) (.inl rfl) _) (.inr (own_ne_blk hown6 HBY6.out (by decide))), ?_, grown_set hgw (.inl rfl) _⟩, by simp [intOf]; omega⟩
          obtain ⟨hk3, hrk3⟩ := List.getElem?_eq_some_iff.1 HRK.out
          rw [List.take_succ_eq_append_getElem hk3, hrk3]
          refine ((hvv.snoc q cq hrowq).keep hs6 fun b hb hlt => hg6'.block b hlt (fun e => by have := hne b e.symm; omega)).keep (by simp) fun b hb hlt => Below.heap_setCell _ _ _ b (by simp; omega)
      · obtain rfl : k = S.rels.length := by omega
        obtain ⟨w5, rfl⟩ : ∃ w5 : World, w5 = wr := ⟨_, rfl⟩
        have hd0 : decide (S.rels.length < S.rels.length) = false := by simp
        rw [← HRL.out, List.take_length] at hvv
        have hcl : S.rels.length ≤ c9 := by
          obtain ⟨_, _, e9, h9, _⟩ := own_slice hown
          injection e9 with _ _ e9
          omega
        have hsy := sch_swap (c9 := c9) hsx hvv (Row.of_own hown) (by rw [HRL.out]; exact hcl)
        have htw : permS ls p = { S with rels := rs } := by rw [HRS.out]; exact perm_eq HS.out p
        have hp' : p.Perm (List.range ls.length) := by rw [← HN.out]; exact HP.out
        have hbdy := perm_bd hgood hp'
        have hcore := perm_core hgood hp'
        rw [htw] at hbdy hcore
        rw [HS.out] at hcore
        rw [HRL.out] at hsy
        have x0 := hbx.cell 0
        have x1 := hbx.cell 1
        have x2 := hbx.cell 2
        have x3 := hbx.cell 3
        have y0 := hby.cell 0
        have y1 := hby.cell 1
        have y2 := hby.cell 2
        have y3 := hby.cell 3
        simp at x0 x1 x2 x3 y0 y1 y2 y3
        have hxlt := hbx.lt
        have hylt := hby.lt
        have CT1 := Lib.hid (reduceE_any _ S w5 hsx hsb)
        have ct2 := fun (W : World) (hW : Below w5.heap.size w5 W) => reduceE_any _ { S with rels := rs } W (hsy.ext hW) hbdy
        rw [← hcore] at ct2
        have CT2 := Lib.hid ct2
        have HBX5 := Lib.hid hbx
        have hws := hb2.size
        have hb05 : Below w.heap.size w w5 := ((hb2.trans (HB3.out.mono hb2.size)).grown hg4 (by omega) (fun g e => by injection e with e; omega)).grown hg (by omega) (fun g e => by injection e with e; omega)
        clear ct2 hcore hbdy htw hsy hvv hown hby hbx hcl
        generalize hCX : (corS S).length = cx at *
        clear hCX
        go_upto_region 14 with (first
          | (go_at_call 11
             with_reducible refine CT1.out.mono ?_
             rintro e w6 ⟨Ao, co, Ac, cc, rfl, hro, hrc, hb6⟩
             have y0' : w6.cell? ⟨w2.heap.size + 1, 0, none⟩ = _ := (hb6.cell (p := ⟨w2.heap.size + 1, 0, none⟩) hylt).trans y0
             have y1' : w6.cell? ⟨w2.heap.size + 1, 1, none⟩ = _ := (hb6.cell (p := ⟨w2.heap.size + 1, 1, none⟩) hylt).trans y1
             have y2' : w6.cell? ⟨w2.heap.size + 1, 2, none⟩ = _ := (hb6.cell (p := ⟨w2.heap.size + 1, 2, none⟩) hylt).trans y2
             have y3' : w6.cell? ⟨w2.heap.size + 1, 3, none⟩ = _ := (hb6.cell (p := ⟨w2.heap.size + 1, 3, none⟩) hylt).trans y3
             clear x0 x1 x2 x3 y0 y1 y2 y3 hro hrc)
          | (go_at_call 11
             go_must (
              with_reducible refine (CT2.out w6 hb6).mono ?_
              rintro e w7 ⟨Ao', co', Ac', cc', rfl, hro', hrc', hb7⟩
              clear hro' hrc' y0' y1' y2' y3')))
        have hb57 := ext_trans hb6 hb7
        have HBX7 := Lib.hid (HBX5.out.ext hb57)
        have hs7 := hsx.ext hb57
        have hb07 := ext_trans hb05 hb57
        have v0 := HBX7.out.cell 0
        have v1 := HBX7.out.cell 1
        have v2 := HBX7.out.cell 2
        have v3 := HBX7.out.cell 3
        simp at v0 v1 v2 v3
        have hxl7 := HBX7.out.lt
        clear CT1 CT2 HBX5 hsx hd0
        go_wp2
        have hbz0 := (Blk.new w7 28 #[Value.slice A1 S.attrs.length c1, Value.slice A2 S.rels.length c2, Value.slice A3 S.feats.length c3, Value.int IntKind.i64 S.label]).alloc (.cells #[Value.string allB, Value.slice none 0 0] 33)
        have hba0 := Blk.new (w7.alloc (.cells #[Value.slice A1 S.attrs.length c1, Value.slice A2 S.rels.length c2, Value.slice A3 S.feats.length c3, Value.int IntKind.i64 S.label] 28)) 33 #[Value.string allB, Value.slice none 0 0]
        rw [World.size_alloc] at hba0
        have hb8 : Below w7.heap.size w7 ((w7.alloc (.cells #[Value.slice A1 S.attrs.length c1, Value.slice A2 S.rels.length c2, Value.slice A3 S.feats.length c3, Value.int IntKind.i64 S.label] 28)).alloc (.cells #[Value.string allB, Value.slice none 0 0] 33)) := ((Below.refl _ _).alloc (Nat.le_refl _) _).alloc (by simp) _
        have hsz8 : ((w7.alloc (.cells #[Value.slice A1 S.attrs.length c1, Value.slice A2 S.rels.length c2, Value.slice A3 S.feats.length c3, Value.int IntKind.i64 S.label] 28)).alloc (.cells #[Value.string allB, Value.slice none 0 0] 33)).heap.size = w7.heap.size + 2 := by simp
        clear v0 v1 v2 v3
        go_loopw [61] (fun i wr => ∃ (k : Nat) (Aa : Option Addr) (ca : Nat), k ≤ S.attrs.length ∧ i = .int .i64 k ∧
          Blk wr w7.heap.size 28 #[Value.slice A1 S.attrs.length c1, Value.slice A2 S.rels.length c2, Value.slice A3 S.feats.length c3, Value.int IntKind.i64 S.label] ∧ Blk wr (w7.heap.size + 1) 33 #[Value.string allB, Value.slice Aa k ca] ∧
          wr.ownsRow (w7.heap.size + 2) 3 1 (.slice Aa k ca) k (ints (upL k)) ∧ w7.heap.size + 2 ≤ wr.heap.size ∧ Below w7.heap.size w7 wr) (fun i _ => S.attrs.length - (intOf i).toNat)
        case atStart => exact ⟨0, none, 0, Nat.zero_le _, rfl, hbz0, hba0, World.ownsRow_nil _ _ _ _, Nat.le_of_eq hsz8.symm, hb8⟩
        case round =>
          clear hbz0 hba0 hb8 hsz8
          obtain ⟨k, Aa, ca, hk, rfl, hbz, hba, hown, hsz, hb8⟩ := hrel
          by_cases hlt : k < S.attrs.length
          · have a1 := hba.cell 1
            simp at a1
            have hal := hba.lt
            have h5 := HAT.out
            have HBA := Lib.hid hba
            have HBZ := Lib.hid hbz
            clear hba hbz
            have hk5 : k < 5 := by omega
            clear h5
            go_wp2_with (at_builtin; refine wpList_app rfl _ _ 22 rfl (w7.heap.size + 2) 3 (.int .i64 0) 1 8 Try.underlying22 Try.infoInt rfl (by decide) (by decide) _ k 1 (ints (upL k)) rfl rfl rfl hown rfl (by simp; rfl) (by omega) hsz ?_; intro A10 c10 w10 hown10 hg10 hat10
                         have hne : ∀ g, (Value.slice Aa k ca).ownBlock = some g → w7.heap.size + 2 ≤ g := fun g e => (hown.lt g e).1
                         have hba10 := HBA.out.grown hg10 (fun e => by have := hne _ e.symm; omega)
                         have hbz10 := HBZ.out.grown hg10 (fun e => by have := hne _ e.symm; omega)
                         have a1' := hba10.cell 1
                         have af' := hba10.frozen 1
                         simp at a1'
                         have HBA10 := Lib.hid hba10
                         have HBZ10 := Lib.hid hbz10
                         have hs10 := hg10.size
                         clear hba10 hbz10 a1)
            have hown11 : w10.ownsRow (w7.heap.size + 2) 3 1 (.slice A10 (k + 1) c10) (k + 1) (ints (upL (k + 1))) := by rw [upL_succ]; simpa [ints] using hown10
            refine ⟨⟨k + 1, A10, c10, by omega, by go_num, HBZ10.out.far (by simp) _, HBA10.out.set 1 _, hown11.kept (grown_set (World.grownBy.refl w10 _) (.inl rfl) _) (.inr (own_ne_blk hown11 HBA10.out (by decide))), by simp; omega, ?_⟩, by simp [intOf]; omega⟩
            exact (hb8.grown hg10 hb8.size (fun g e => by have := hne g e; omega)).setCell (by simp) _
          · obtain rfl : k = S.attrs.length := by omega
            obtain ⟨w8, rfl⟩ : ∃ w8 : World, w8 = wr := ⟨_, rfl⟩
            have hd5 : decide (S.attrs.length < S.attrs.length) = false := by simp
            have hsx8 := hs7.ext hb8
            obtain ⟨vs, hvrow, hvv⟩ := relsV_of (sch_rels hsx8)
            have HVL := Lib.hid hvv.1
            have HONE := Lib.hid hvv.one
            have hbx8 := HBX7.out.ext hb8
            have x1 := hbx8.cell 1
            have a0 := hba.cell 0
            have a1 := hba.cell 1
            have zc := hbz.cell 1
            have zf := hbz.frozen 1
            simp at x1 a0 a1 zc
            have z1 : w2.heap.size < w8.heap.size := hbx8.lt
            have z2 : w7.heap.size < w8.heap.size := hbz.lt
            have z3 : w7.heap.size + 1 < w8.heap.size := hba.lt
            have HBZ := Lib.hid hbz
            have HOWN := Lib.hid hown
            have HB8 := Lib.hid hb8
            clear hbx8 hba hbz hown hb8 hsx8
            go_upto_region 21 with fail
            clear hd5
            go_cut [76] (fun _ wx => ∃ (A9 : Option Addr) (c9 : Nat),
              Blk wx w7.heap.size 28 #[Value.slice A1 S.attrs.length c1, Value.slice A9 (S.rels.length + 1) c9, Value.slice A3 S.feats.length c3, Value.int IntKind.i64 S.label] ∧
              Row wx (w8.heap.size ≤ ·) A9 (vs ++ [Value.string allB, Value.slice Aa S.attrs.length ca]) ∧ S.rels.length + 1 ≤ c9 ∧ w8.grownBy wx (some w7.heap.size))
            case first =>
              go_region_law (first
                | (refine step_appS rfl (.const (.slice none 0 0)) (.tmp 72) 25 rfl w8.heap.size 33 _ 2 40 Try.underlying25 Try.infoRel rfl (by decide) (by decide) (.slice none 0 0) 0 S.rels.length c2 A2 [] vs rfl (by simp [Act.eval]) (World.ownsRow_nil _ _ _ _) (R := fun b => b < w2.heap.size ∧ b ≠ bs) (by first | exact hvrow | exact hvrow.alloc _) HVL.out HONE.out (by omega) (by simp) ?_
                   intro A5 c5 w5' hown5 hg5 hat5
                   have hb5 : Below w8.heap.size w8 w5' := (by first | exact below_nil hg5 | exact below_nil_alloc hg5)
                   have a0' : w5'.cell? ⟨w7.heap.size + 1, 0, none⟩ = some (.string allB) := by rw [hb5.cell (p := ⟨w7.heap.size + 1, 0, none⟩) z3]; exact a0
                   have a1' : w5'.cell? ⟨w7.heap.size + 1, 1, none⟩ = some (.slice Aa S.attrs.length ca) := by rw [hb5.cell (p := ⟨w7.heap.size + 1, 1, none⟩) z3]; exact a1
                   have hs5 := hb5.size)
                | (refine step_appS rfl (.tmp 73) (.tmp 75) 25 rfl w8.heap.size 33 _ 2 40 Try.underlying25 Try.infoRel rfl (by decide) (by decide) (.slice A5 (0 + S.rels.length) c5) (0 + S.rels.length) 1 1 (some ⟨w5'.heap.size, 0, none⟩) ([] ++ vs) [Value.string allB, Value.slice Aa S.attrs.length ca] (by simp [Act.eval]) (by simp [Act.eval]) (hown5.alloc _) (by exact row_new w5' _ _) rfl (by simp; exact ⟨rfl, rfl⟩) (by omega) (by simp; omega) ?_
                   intro A6 c6 w6' hown6 hg6 hat6
                   have hb6' : Below w8.heap.size w8 w6' := (hb5.alloc hb5.size _).grown hg6 (by simp; omega) (fun g e => (hown5.lt g e).1)
                   have zc' : w6'.cell? ⟨w7.heap.size, 1, none⟩ = some (Value.slice A2 S.rels.length c2) := by rw [hb6'.cell (p := ⟨w7.heap.size, 1, none⟩) z2]; exact zc
                   have hown7 : w6'.ownsRow w8.heap.size 33 2 (.slice A6 (S.rels.length + 1) c6) (S.rels.length + 1) (vs ++ [Value.string allB, Value.slice Aa S.attrs.length ca]) := by simpa using hown6
                   have zf' : w6'.frozen? ⟨w7.heap.size, 1, none⟩ = false := by rw [hb6'.frozen (p := ⟨w7.heap.size, 1, none⟩) z2]; exact zf)
                | (refine step_appS rfl (.tmp 73) (.tmp 75) 25 rfl w8.heap.size 33 _ 2 40 Try.underlying25 Try.infoRel rfl (by decide) (by decide) (.slice A5 (0 + S.rels.length) c5) (0 + S.rels.length) 1 1 (some ⟨w8.heap.size, 0, none⟩) ([] ++ vs) [Value.string allB, Value.slice Aa S.attrs.length ca] (by simp [Act.eval]) (by simp [Act.eval]) hown5 (by exact (row_new w8.drew _ _).grown hg5 (fun b _ _ => by simp [Value.ownBlock])) rfl (by simp; exact ⟨rfl, rfl⟩) (by omega) (by omega) ?_
                   intro A6 c6 w6' hown6 hg6 hat6
                   have hb6' : Below w8.heap.size w8 w6' := hb5.grown hg6 hb5.size (fun g e => (hown5.lt g e).1)
                   have zc' : w6'.cell? ⟨w7.heap.size, 1, none⟩ = some (Value.slice A2 S.rels.length c2) := by rw [hb6'.cell (p := ⟨w7.heap.size, 1, none⟩) z2]; exact zc
                   have hown7 : w6'.ownsRow w8.heap.size 33 2 (.slice A6 (S.rels.length + 1) c6) (S.rels.length + 1) (vs ++ [Value.string allB, Value.slice Aa S.attrs.length ca]) := by simpa using hown6
                   have zf' : w6'.frozen? ⟨w7.heap.size, 1, none⟩ = false := by rw [hb6'.frozen (p := ⟨w7.heap.size, 1, none⟩) z2]; exact zf))
              all_goals
                go_wp2_with fail
                go_meet
                obtain ⟨_, _, hsl, hcl, _⟩ := own_slice hown7
                injection hsl with _ _ hsl
                refine ⟨A6, c6, (HBZ.out.ext hb6').set 1 _, ?_, by omega, grown_set (grown_of_ext hb6' _) (.inl rfl) _⟩
                exact ((Row.of_own hown7).mono (R' := (w8.heap.size ≤ ·)) fun b _ hb => hb.1).setCell (fun b hb => by simp; omega) _
            case rest =>
              obtain ⟨A9, c9, hbz, hrow9, hc9, hg9⟩ := hcut
              have hv9 := (hvv.keep hg9.size (fun b hb hlt => hg9.block b hlt (by simp; omega))).mono (R' := Any) fun _ _ _ => trivial
              have hra9 := ((Row.of_own HOWN.out).grown hg9 (fun b hb _ e => by injection e with e; omega)).any
              have hvv9 := hv9.snoc (allB, upL S.attrs.length) ca hra9
              have hsx9 := (hs7.ext HB8.out).grown hg9 (fun b hb e => by injection e with e; omega)
              rw [show ((allB, upL S.attrs.length) : ByteArray × List Int).2.length = S.attrs.length from upL_len _] at hvv9
              have hsz9 := sch_swap hsx9 hvv9 hrow9 (c9 := c9) (by simpa using hc9)
              have hall : ({ S with rels := S.rels ++ [(allB, upL S.attrs.length)] } : Sch) = allS ls := by
                rw [HAT.out]
                have hS := HS.out
                subst hS
                rfl
              have hrl9 : (S.rels ++ [(allB, upL S.attrs.length)]).length = S.rels.length + 1 := by simp
              rw [hrl9, hall] at hsz9
              have cta := acyclic_any _ (allS ls) wc hsz9 (all_bd hgood)
              rw [all_acyclic hgood] at cta
              have CTA := Lib.hid cta
              have hbw : Below w.heap.size w wc := (ext_trans hb07 HB8.out).grown hg9 (by have := hb07.size; omega) (fun g e => by injection e with e; have := hb07.size; omega)
              have c0 := hbz.cell 0
              have c1' := hbz.cell 1
              have c2' := hbz.cell 2
              have c3' := hbz.cell 3
              simp at c0 c1' c2' c3'
              have hcb : ((cx : Int) == (cx : Int)) = true := by simp
              clear hv9 hra9 hvv9 hsx9 hsz9 hall hrl9 cta hbz
              go_wp2_with (first
                | (go_at_call 15
                   go_must (
                    refine CTA.out.mono ?_
                    rintro e w11 ⟨rfl, hb11⟩))
                | (go_at_call 8
                   go_must (
                    refine (sane_any _).mono ?_
                    rintro e w12 ⟨rfl, hb12⟩)))
              go_ret
              exact ⟨rfl, ext_trans (ext_trans hbw hb11) hb12⟩

end Go.Proofs.Ytopblgabadljdaa
