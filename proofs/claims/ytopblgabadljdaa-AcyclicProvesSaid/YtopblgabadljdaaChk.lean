/-
  The walks of schema.has, schema.Uses, acyclic.tree and acyclic.Check.
-/
import Derived.Test.YtopblgabadljdaaRelsV
namespace Go.Proofs.Ytopblgabadljdaa
open Go.RowKit

/-- The relations among the first k that have an attribute. -/
def usesTo (rs : List (ByteArray × List Int)) (a : Int) (k : Nat) : List Int := ((List.range k).filter fun i => hasB (rs.getD i default).2 a).map Int.ofNat
def usesL (S : Sch) (a : Int) : List Int := usesTo S.rels a S.rels.length
theorem usesTo_succ (rs : List (ByteArray × List Int)) (a : Int) (k : Nat) : usesTo rs a (k + 1) = if hasB (rs.getD k default).2 a = true then usesTo rs a k ++ [(k : Int)] else usesTo rs a k := by
  unfold usesTo
  rw [List.range_succ, List.filter_append, List.map_append]
  cases h : hasB (rs.getD k default).2 a
  · rw [List.filter_cons, if_neg (by rw [h]; decide)]; simp
  · rw [List.filter_cons, if_pos h]; simp
theorem usesTo_len (rs : List (ByteArray × List Int)) (a : Int) (k : Nat) : (usesTo rs a k).length ≤ k := by
  unfold usesTo
  rw [List.length_map]
  exact Nat.le_trans (List.length_filter_le _ _) (by simp)
theorem usesTo_mem {rs : List (ByteArray × List Int)} {a : Int} {k : Nat} {x : Int} (h : x ∈ usesTo rs a k) : ∃ i : Nat, x = i ∧ i < k ∧ hasB (rs.getD i default).2 a = true := by
  unfold usesTo at h
  obtain ⟨i, hi, rfl⟩ := List.mem_map.1 h
  obtain ⟨h1, h2⟩ := List.mem_filter.1 hi
  exact ⟨i, rfl, by simpa using h1, h2⟩

theorem has_any (nm0 : ByteArray) (A : Option Addr) (c : Nat) (l : List Int) (a : Int) (w : World) {R : Nat → Prop} (h : Row w R A (ints l)) (hl : l.length ≤ 1000) :
    Calls Try.prog 56 #[.agg #[.string nm0, .slice A l.length c], .int .i64 a] w fun e w' => e = .returned (.bool (hasB l a)) ∧ Below w.heap.size w w' := by
  have CT := Lib.hid (contains_int A c l a _ (h.alloc (.cells #[.string nm0, .slice A l.length c] 33)) (by omega))
  clear h
  go_enter Try.func56, Try.ntmps56
  go_wp2_with (go_at_call 40; go_must (refine CT.out.mono ?_; rintro e w' ⟨rfl, rfl⟩))
  go_ret
  exact ⟨rfl, (Below.refl _ _).alloc (Nat.le_refl _) _⟩

set_option maxRecDepth 100000 in
set_option maxHeartbeats 1000000 in
theorem uses_any (v : Value) (S : Sch) (a : Int) (w : World) {R : Nat → Prop} (h : SchAt w R v S) (hb : SBd S) (hce : checkE S = 0) :
    Calls Try.prog 39 #[v, .int .i64 a] w fun e w' => ∃ A' c', e = .returned (.slice A' (usesL S a).length c') ∧ Row w' (w.heap.size ≤ ·) A' (ints (usesL S a)) ∧ Below w.heap.size w w' := by
  have h0 := h
  obtain ⟨A1, c1, A2, c2, A3, c3, rfl, l1, l2, l3, h1, h2, h3⟩ := h
  clear h1 h2 h3 l1 l2 l3
  have hcb := eq_b hce
  have hn := (check_relOk hce).1
  have hrs := h0.ext ((Below.refl _ w).alloc (Nat.le_refl _) (.cells #[Value.slice A1 S.attrs.length c1, Value.slice A2 S.rels.length c2, Value.slice A3 S.feats.length c3, Value.int IntKind.i64 S.label] 28))
  have CT1 := Lib.hid (check_any _ S _ hrs hb)
  have hrl := fun k (hk : k < S.rels.length) => hb.rl _ (List.getElem_mem hk)
  have HRL := Lib.hid hrl
  generalize hU : usesL S a = ul at *
  have HU := Lib.hid hU
  clear hU hrl
  generalize hce' : checkE S = ce at *
  clear hce' hce hrs
  go_enter Try.func39, Try.ntmps39
  go_wp2_with (
    go_at_call 33
    go_must (
      refine CT1.out.mono ?_
      rintro e w1 ⟨rfl, hb1⟩
      have hbx := (Blk.new w 28 #[Value.slice A1 S.attrs.length c1, Value.slice A2 S.rels.length c2, Value.slice A3 S.feats.length c3, Value.int IntKind.i64 S.label]).ext hb1
      have x1 := hbx.cell 1
      simp at x1
      have hbel1 : Below w.heap.size w w1 := ext_trans ((Below.refl _ _).alloc (Nat.le_refl _) _) hb1
      clear hbx hb1))
  clear CT1
  have hs1 := sch_rels (h0.ext hbel1)
  go_loopw [5, 14] (fun o i wr => ∃ (k : Nat) (A9 : Option Addr) (c9 : Nat), k ≤ S.rels.length ∧ i = .int .i64 k ∧ o = .slice A9 (usesTo S.rels a k).length c9 ∧
    wr.ownsRow w1.heap.size 3 1 (.slice A9 (usesTo S.rels a k).length c9) (usesTo S.rels a k).length (ints (usesTo S.rels a k)) ∧ Below w1.heap.size w1 wr) (fun _ i _ => S.rels.length - (intOf i).toNat)
  case atStart => exact ⟨0, none, 0, Nat.zero_le _, rfl, rfl, World.ownsRow_nil _ _ _ _, Below.refl _ _⟩
  case round =>
    obtain ⟨k, A9, c9, hk, rfl, rfl, hown, hbel⟩ := hrel
    have hlen := usesTo_len S.rels a k
    have hsz := hbel.size
    have hsz1 := hbel1.size
    by_cases hlt : k < S.rels.length
    · obtain ⟨b, off, Aq, cq, rfl, _, hbb, hk1, hk2, hrow⟩ := (hs1.ext hbel).at_ hlt
      have hq := HRL.out k hlt
      have hsu := usesTo_succ S.rels a k
      rw [show S.rels.getD k default = S.rels[k] by simp [List.getD, hlt]] at hsu
      have cth := has_any S.rels[k].1 Aq cq S.rels[k].2 a (wr.alloc (.cells #[.string S.rels[k].1, .slice Aq S.rels[k].2.length cq] 33)) (hrow.alloc _) hq
      generalize S.rels[k] = q at *
      cases hh : hasB q.2 a
      · rw [hh] at hsu cth
        simp at hsu
        have HSU := Lib.hid hsu
        have CTH := Lib.hid cth
        clear hsu cth hh hs1
        go_wp2_with (go_at_call 56; go_must (refine CTH.out.mono ?_; rintro e w2 ⟨rfl, hb2⟩))
        have hb3 : Below wr.heap.size wr w2 := ext_trans ((Below.refl _ _).alloc (Nat.le_refl _) _) hb2
        exact ⟨⟨k + 1, A9, c9, by omega, by go_num, by rw [HSU.out], by rw [HSU.out]; exact hown.kept (grown_of_ext hb3 none) (by cases A9 <;> simp [Value.ownBlock]), ext_trans hbel hb3⟩, by simp [intOf]; omega⟩
      · rw [hh] at hsu cth
        simp at hsu
        have HSU := Lib.hid hsu
        have CTH := Lib.hid cth
        clear hsu cth hh hs1
        go_wp2_with (first
          | (go_at_call 56
             go_must (
              refine CTH.out.mono ?_; rintro e w2 ⟨rfl, hb2⟩
              have hb3 : Below wr.heap.size wr w2 := ext_trans ((Below.refl _ _).alloc (Nat.le_refl _) _) hb2
              have hown3 := hown.kept (grown_of_ext hb3 none) (by cases A9 <;> simp [Value.ownBlock])
              have hsz3 := hb3.size))
          | (at_builtin
             go_must (
              refine wpList_app (W := w2) rfl _ _ 22 rfl w1.heap.size 3 (.int .i64 0) 1 8 Try.underlying22 Try.infoInt rfl (by decide) (by decide) (.slice A9 (usesTo S.rels a k).length c9) (usesTo S.rels a k).length 1 (ints (usesTo S.rels a k)) rfl rfl rfl hown3 rfl (by simp; rfl) (by omega) (by omega) ?_
              intro A6 c6 w6 hown6 hg6 hat6)))
        refine ⟨⟨k + 1, A6, c6, by omega, by go_num, by rw [HSU.out]; simp, by rw [HSU.out]; simpa [ints] using hown6, ?_⟩, by simp [intOf]; omega⟩
        exact (hbel.trans (hb3.mono hbel.size)).grown hg6 (by omega) (fun g e => (hown3.lt g e).1)
    · obtain rfl : k = S.rels.length := by omega
      go_wp2
      go_ret
      have e : usesTo S.rels a S.rels.length = ul := HU.out
      subst e
      exact ⟨A9, c9, rfl, (Row.of_own hown).mono fun b _ hb => by omega, ext_trans hbel1 hbel⟩

/-- Does the way up from a relation end? -/
def walkB (par : List Int) : Nat → Int → Bool
  | 0, a => decide (a < 0)
  | f + 1, a => if a < 0 then true else walkB par f (par.getD a.toNat 0)
theorem walkB_neg {par : List Int} {f : Nat} {a : Int} (h : a < 0) : walkB par f a = true := by cases f <;> simp [walkB, h]
def rangeB (par : List Int) : Bool := par.all fun p => decide (-1 ≤ p) && decide (p < par.length)
def treeB (par : List Int) : Bool := rangeB par && ((List.range par.length).all fun i => walkB par par.length i) && decide (par.count (-1) = 1)
theorem treeB_no {par : List Int} {k : Nat} (hk : k < par.length) (h : ¬ (-1 ≤ par[k] ∧ par[k] < par.length)) : treeB par = false := by
  have : rangeB par = false := by
    unfold rangeB
    rw [List.all_eq_false]
    exact ⟨par[k], List.getElem_mem hk, by simpa using h⟩
  simp [treeB, this]
theorem treeB_walk {par : List Int} {k : Nat} (hk : k < par.length) (h : walkB par par.length k = false) : treeB par = false := by
  have : ((List.range par.length).all fun i => walkB par par.length i) = false := by
    rw [List.all_eq_false]
    exact ⟨k, by simpa using hk, by simp [h]⟩
  simp [treeB, this]
theorem treeB_end {par : List Int} (h1 : ∀ j (hj : j < par.length), -1 ≤ par[j] ∧ par[j] < par.length) (h2 : ∀ j, j < par.length → walkB par par.length j = true) : treeB par = (((par.count (-1) : Nat) : Int) == 1) := by
  have e1 : rangeB par = true := by
    unfold rangeB
    rw [List.all_eq_true]
    intro x hx
    obtain ⟨j, hj, rfl⟩ := List.getElem_of_mem hx
    simpa using h1 j hj
  have e2 : ((List.range par.length).all fun i => walkB par par.length i) = true := by
    rw [List.all_eq_true]
    intro x hx
    exact h2 x (by simpa using hx)
  unfold treeB
  rw [e1, e2]
  simp
  rw [Bool.eq_iff_iff]
  simp
  omega
theorem count_take_succ {par : List Int} {k : Nat} (hk : k < par.length) (x : Int) : (par.take (k + 1)).count x = (par.take k).count x + if par[k] = x then 1 else 0 := by
  rw [List.take_succ_eq_append_getElem hk, List.count_append]
  simp [List.count_singleton]

set_option maxRecDepth 100000 in
set_option maxHeartbeats 1000000 in
theorem tree_walk (A : Option Addr) (c : Nat) (par : List Int) (w : World) {R : Nat → Prop} (h : Row w R A (ints par)) (hl : par.length ≤ 1000) :
    Calls Try.prog 38 #[.slice A par.length c] w fun e w' => e = .returned (.bool (treeB par)) ∧ w = w' := by
  go_enter Try.func38, Try.ntmps38
  go_wp2
  go_loop [3, 11] (fun r i => ∃ k : Nat, k ≤ par.length ∧ i = .int .i64 k ∧ r = .int .i64 ((par.take k).count (-1) : Nat) ∧ Hid (∀ j (hj : j < par.length), j < k → -1 ≤ par[j] ∧ par[j] < par.length)) (fun _ i => par.length - (intOf i).toNat)
  case atStart => exact ⟨0, Nat.zero_le _, rfl, rfl, Lib.hid fun j _ h => absurd h (by omega)⟩
  case round =>
    obtain ⟨k, hk, rfl, rfl, HB⟩ := hrel
    have hcl : (par.take k).count (-1) ≤ k := Nat.le_trans List.count_le_length (by simp; omega)
    by_cases hlt : k < par.length
    · obtain ⟨b, off, rfl, hb, hck⟩ := h.int_at hlt
      have HCS := Lib.hid (count_take_succ hlt (-1))
      have HNO := Lib.hid (treeB_no hlt)
      have HB1 := Lib.hid (fun (h1 : -1 ≤ par[k] ∧ par[k] < par.length) (j : Nat) (hj : j < par.length) (hjk : j < k + 1) => show -1 ≤ par[j] ∧ par[j] < par.length by
        by_cases e : j < k
        · exact HB.out j hj e
        · obtain rfl : j = k := by omega
          exact h1)
      generalize hcn : (par.take k).count (-1) = cn at *
      clear hcn
      generalize hpk : par[k] = p at *
      clear hpk
      by_cases h1 : p < -1
      · go_wp2
        go_ret
        exact ⟨ret_bool (HNO.out (by omega)).symm, rfl⟩
      · by_cases h2 : (par.length : Int) ≤ p
        · go_wp2
          go_ret
          exact ⟨ret_bool (HNO.out (by omega)).symm, rfl⟩
        · cases h3 : (p == -1)
          · go_wp2
            refine ⟨⟨k + 1, by omega, by go_num, by rw [HCS.out]; simp at h3; simp [h3], Lib.hid (HB1.out (by omega))⟩, by simp [intOf]; omega⟩
          · go_wp2
            refine ⟨⟨k + 1, by omega, by go_num, by rw [HCS.out]; simp at h3; simp [h3], Lib.hid (HB1.out (by omega))⟩, by simp [intOf]; omega⟩
    · obtain rfl : k = par.length := by omega
      have hd1 : decide (par.length < par.length) = false := by simp
      rw [List.take_length] at *
      have hrg : ∀ j (hj : j < par.length), -1 ≤ par[j] ∧ par[j] < par.length := fun j hj => HB.out j hj hj
      have HRG := Lib.hid hrg
      clear hrg HB
      generalize hcn : par.count (-1) = cn at *
      have HCN := Lib.hid hcn
      clear hcn
      go_wp2
      clear hd1
      go_loop [30] (fun i => ∃ k : Nat, k ≤ par.length ∧ i = .int .i64 k ∧ Hid (∀ j, j < k → walkB par par.length j = true)) (fun i => par.length - (intOf i).toNat)
      case atStart => exact ⟨0, Nat.zero_le _, rfl, Lib.hid fun j h => absurd h (by omega)⟩
      case round =>
        obtain ⟨k, hk, rfl, HW⟩ := hrel
        by_cases hlt : k < par.length
        · go_wp2
          go_loop [7, 8] (fun s t => ∃ (q : Nat) (x : Int), q ≤ par.length ∧ s = .int .i64 q ∧ t = .int .i64 x ∧ -1 ≤ x ∧ x < par.length ∧ Hid (walkB par par.length k = walkB par (par.length - q) x)) (fun s _ => par.length + 1 - (intOf s).toNat)
          case atStart => exact ⟨0, k, Nat.zero_le _, rfl, rfl, by omega, by omega, Lib.hid rfl⟩
          case round =>
            obtain ⟨q, x, hq, rfl, rfl, hx1, hx2, HX⟩ := hrel
            by_cases hx0 : x < 0
            · have hd2 : decide ((0 : Int) ≤ x) = false := by simp; omega
              have hd3 : decide (x < 0) = true := by simpa using hx0
              have hw : walkB par par.length k = true := by rw [HX.out]; exact walkB_neg hx0
              have HWK := Lib.hid hw
              clear hw
              go_wp2
              refine ⟨⟨k + 1, by omega, by go_num, Lib.hid fun j hj => ?_⟩, by simp [intOf]; omega⟩
              by_cases e : j < k
              · exact HW.out j e
              · obtain rfl : j = k := by omega
                exact HWK.out
            · obtain ⟨xn, rfl⟩ := Int.eq_ofNat_of_zero_le (show 0 ≤ x by omega)
              have hxn : xn < par.length := by omega
              obtain ⟨b, off, rfl, hb, hck⟩ := h.int_at hxn
              by_cases hqn : q < par.length
              · have hpx := HRG.out xn hxn
                have hws : walkB par par.length k = walkB par (par.length - (q + 1)) par[xn] := by
                  rw [HX.out, show par.length - q = (par.length - (q + 1)) + 1 by omega]
                  simp only [walkB]
                  rw [if_neg (by omega)]
                  simp [List.getD, hxn]
                have HWS := Lib.hid hws
                clear hws
                generalize hpk : par[xn] = p at *
                clear hpk
                go_wp2
                exact ⟨⟨q + 1, p, by omega, by go_num, rfl, hpx.1, hpx.2, HWS⟩, by simp [intOf]; omega⟩
              · obtain rfl : q = par.length := by omega
                have hws : walkB par par.length k = false := by
                  rw [HX.out, Nat.sub_self]
                  simp [walkB]
                go_wp2
                go_ret
                exact ⟨ret_bool (treeB_walk hlt hws).symm, rfl⟩
        · obtain rfl : k = par.length := by omega
          have hd1 : decide (par.length < par.length) = false := by simp
          go_wp2
          go_ret
          exact ⟨ret_bool (by rw [treeB_end HRG.out HW.out, HCN.out]), rfl⟩

def topF (S : Sch) (par : List Int) (a : Int) (r : Int) : Bool := !hasB (usesL S a) (par.getD r.toNat 0)
def chkB (S : Sch) (par : List Int) : Bool :=
  decide (checkE S = 0) && decide (par.length = S.rels.length) && treeB par && (List.range S.attrs.length).all fun a => decide ((usesL S a).countP (topF S par a) = 1)

theorem countP_take_succ {p : Int → Bool} {l : List Int} {k : Nat} (hk : k < l.length) : (l.take (k + 1)).countP p = (l.take k).countP p + if p l[k] = true then 1 else 0 := by
  rw [List.take_succ_eq_append_getElem hk, List.countP_append]
  simp [List.countP_cons]
theorem chkB_len {S : Sch} {par : List Int} (h : par.length ≠ S.rels.length) : chkB S par = false := by simp [chkB, h]
theorem chkB_tree {S : Sch} {par : List Int} (h : treeB par = false) : chkB S par = false := by simp [chkB, h]
theorem chkB_top {S : Sch} {par : List Int} {a : Nat} (ha : a < S.attrs.length) (h : (usesL S a).countP (topF S par a) ≠ 1) : chkB S par = false := by
  have : ((List.range S.attrs.length).all fun a => decide ((usesL S a).countP (topF S par a) = 1)) = false := by
    rw [List.all_eq_false]
    exact ⟨a, by simpa using ha, by simpa using h⟩
  simp [chkB, this]
theorem chkB_yes {S : Sch} {par : List Int} (h1 : checkE S = 0) (h2 : par.length = S.rels.length) (h3 : treeB par = true) (h4 : ∀ a : Nat, a < S.attrs.length → (usesL S a).countP (topF S par a) = 1) : chkB S par = true := by
  have : ((List.range S.attrs.length).all fun a => decide ((usesL S a).countP (topF S par a) = 1)) = true := by
    rw [List.all_eq_true]
    intro a ha
    simpa using h4 a (by simpa using ha)
  simp [chkB, h1, h2, h3, this]

set_option maxRecDepth 100000 in
set_option maxHeartbeats 1000000 in
theorem chk_any (v : Value) (S : Sch) (Ap : Option Addr) (cp : Nat) (par : List Int) (w : World) {R R' : Nat → Prop} (h : SchAt w R v S) (hb : SBd S) (hp : Row w R' Ap (ints par)) (hpl : par.length ≤ 1000) :
    Calls Try.prog 19 #[v, .agg #[.slice Ap par.length cp]] w fun e w' => e = .returned (.bool (chkB S par)) ∧ Below w.heap.size w w' := by
  have h0 := h
  obtain ⟨A1, c1, A2, c2, A3, c3, rfl, l1, l2, l3, h1, h2, h3⟩ := h
  clear h1 h2 h3 l1 l2 l3
  have hn := hb.r
  have hbb : Below w.heap.size w ((w.alloc (.cells #[Value.slice A1 S.attrs.length c1, Value.slice A2 S.rels.length c2, Value.slice A3 S.feats.length c3, Value.int IntKind.i64 S.label] 28)).alloc (.cells #[Value.slice Ap par.length cp] 46)) := ext_alloc ((Below.refl _ _).alloc (Nat.le_refl _) _) _
  have CT1 := Lib.hid (check_any _ S _ (h0.ext hbb) hb)
  by_cases hce : checkE S = 0
  · have hcb := eq_b hce
    have CUS := Lib.hid (fun (k : Int) (W : World) (v : Value) (hW : SchAt W R v S) => uses_any v S k W hW hb hce)
    have HYES := Lib.hid (chkB_yes (S := S) (par := par) hce)
    generalize hce' : checkE S = ce at *
    clear hce hce'
    by_cases hlen : par.length = S.rels.length
    · have hlb : ((par.length : Int) != (S.rels.length : Int)) = false := by simp [hlen]
      have HLEN := Lib.hid hlen
      clear hlen
      have CTT := Lib.hid (fun (W : World) (hW : Below w.heap.size w W) => tree_walk Ap cp par W (hp.ext hW) hpl)
      cases htr : treeB par
      · have HE := Lib.hid (chkB_tree (S := S) htr)
        have CTT2 := Lib.hid (fun (W : World) (hW : Below w.heap.size w W) => htr ▸ CTT.out W hW)
        clear htr CTT
        go_enter Try.func19, Try.ntmps19
        go_wp2_with (first
          | (go_at_call 33
             go_must (
              refine CT1.out.mono ?_
              rintro e w1 ⟨rfl, hb1⟩
              have hbx := ((Blk.new w 28 #[Value.slice A1 S.attrs.length c1, Value.slice A2 S.rels.length c2, Value.slice A3 S.feats.length c3, Value.int IntKind.i64 S.label]).alloc (.cells #[Value.slice Ap par.length cp] 46)).ext hb1
              have hby := (Blk.new (w.alloc (.cells #[Value.slice A1 S.attrs.length c1, Value.slice A2 S.rels.length c2, Value.slice A3 S.feats.length c3, Value.int IntKind.i64 S.label] 28)) 46 #[Value.slice Ap par.length cp]).ext hb1
              rw [World.size_alloc] at hby
              have x1 := hbx.cell 1
              have y0 := hby.cell 0
              simp at x1 y0
              have hbel1 : Below w.heap.size w w1 := ext_trans hbb hb1
              clear hbx hby hb1))
          | (go_at_call 38
             go_must (
              refine (CTT2.out _ hbel1).mono ?_
              rintro e w2 ⟨rfl, rfl⟩)))
        go_ret
        exact ⟨ret_bool HE.out.symm, hbel1⟩
      · have CTT2 := Lib.hid (fun (W : World) (hW : Below w.heap.size w W) => htr ▸ CTT.out W hW)
        have HNO := Lib.hid (fun (a : Nat) (ha : a < S.attrs.length) => chkB_top (par := par) ha)
        have HTR := Lib.hid htr
        clear htr CTT
        generalize hcv : chkB S par = cv at *
        clear hcv
        go_enter Try.func19, Try.ntmps19
        go_wp2_with (first
          | (go_at_call 33
             go_must (
              refine CT1.out.mono ?_
              rintro e w1 ⟨rfl, hb1⟩
              have hbx := ((Blk.new w 28 #[Value.slice A1 S.attrs.length c1, Value.slice A2 S.rels.length c2, Value.slice A3 S.feats.length c3, Value.int IntKind.i64 S.label]).alloc (.cells #[Value.slice Ap par.length cp] 46)).ext hb1
              have hby := (Blk.new (w.alloc (.cells #[Value.slice A1 S.attrs.length c1, Value.slice A2 S.rels.length c2, Value.slice A3 S.feats.length c3, Value.int IntKind.i64 S.label] 28)) 46 #[Value.slice Ap par.length cp]).ext hb1
              rw [World.size_alloc] at hby
              have x0 := hbx.cell 0
              have x1 := hbx.cell 1
              have y0 := hby.cell 0
              simp at x0 x1 y0
              have hbel1 : Below w.heap.size w w1 := ext_trans hbb hb1
              have HBX := Lib.hid hbx
              have HBY := Lib.hid hby
              clear hbx hby hb1))
          | (go_at_call 38
             go_must (
              refine (CTT2.out _ hbel1).mono ?_
              rintro e w2 ⟨rfl, rfl⟩)))
        clear x0 x1 y0 CTT2 CT1
        go_loopw [31] (fun i wr => ∃ k : Nat, k ≤ S.attrs.length ∧ i = .int .i64 k ∧ Hid (∀ a : Nat, a < k → (usesL S a).countP (topF S par a) = 1) ∧ Below w1.heap.size w1 wr) (fun i _ => S.attrs.length - (intOf i).toNat)
        case atStart => exact ⟨0, Nat.zero_le _, rfl, Lib.hid fun a ha => absurd ha (by omega), Below.refl _ _⟩
        case round =>
          obtain ⟨k, hk, rfl, HALL, hbel⟩ := hrel
          have han := hb.a
          by_cases hlt : k < S.attrs.length
          · have hbx := HBX.out.ext hbel
            have x0 := hbx.cell 0
            have x1 := hbx.cell 1
            have x2 := hbx.cell 2
            have x3 := hbx.cell 3
            simp at x0 x1 x2 x3
            have CTU := Lib.hid (CUS.out k wr _ (h0.ext (ext_trans hbel1 hbel)))
            have hul : (usesL S k).length ≤ S.rels.length := usesTo_len S.rels k S.rels.length
            have HUM := Lib.hid (fun (x : Int) (hx : x ∈ usesL S k) => usesTo_mem hx)
            have HNO2 := Lib.hid (HNO.out k hlt)
            have HST := Lib.hid (fun (hone : (usesL S k).countP (topF S par k) = 1) (a : Nat) (ha : a < k + 1) => show (usesL S a).countP (topF S par a) = 1 by
              by_cases e : a < k
              · exact HALL.out a e
              · obtain rfl : a = k := by omega
                exact hone)
            have HTF := Lib.hid (fun (r : Int) => show topF S par k r = !hasB (usesL S k) (par.getD r.toNat 0) from rfl)
            generalize usesL S k = ul at *
            generalize topF S par k = tf at *
            clear hbx
            go_wp2_with (
              go_at_call 39
              go_must (
                refine CTU.out.mono ?_
                rintro e w3 ⟨A5, c5, rfl, hrow5, hb3⟩
                have hby := (HBY.out.ext hbel).ext hb3
                have y0 := hby.cell 0
                simp at y0
                clear hby x0 x1 x2 x3))
            go_loop [7, 39] (fun t i => ∃ q : Nat, q ≤ ul.length ∧ i = .int .i64 q ∧ t = .int .i64 ((ul.take q).countP tf : Nat)) (fun _ i => ul.length - (intOf i).toNat)
            case atStart => exact ⟨0, Nat.zero_le _, rfl, rfl⟩
            case round =>
              obtain ⟨q, hq, rfl, rfl⟩ := hrel
              have hcl : (ul.take q).countP tf ≤ q := Nat.le_trans List.countP_le_length (by simp; omega)
              by_cases hql : q < ul.length
              · obtain ⟨b, off, rfl, hb5, hck⟩ := hrow5.int_at hql
                obtain ⟨i, hi, hin, _⟩ := HUM.out _ (List.getElem_mem hql)
                have HCS := Lib.hid (countP_take_succ (p := tf) hql)
                have hip : i < par.length := by rw [HLEN.out]; exact hin
                obtain ⟨b2, off2, rfl, hb6, hck2⟩ := ((hp.ext (ext_trans hbel1 hbel)).ext hb3).int_at hip
                have htf := HTF.out ul[q]
                rw [hi] at htf hck
                rw [show par.getD (i : Int).toNat 0 = par[i] by simp [List.getD, hip]] at htf
                have ctc := contains_int (some ⟨b, off, none⟩) c5 ul par[i] w3 hrow5 (by omega)
                rw [hi] at HCS
                rw [htf] at HCS
                have CTC := Lib.hid ctc
                have j1 : (0 : Int) ≤ (i : Int) := by omega
                have j2 : (i : Int) < (par.length : Int) := by omega
                clear htf hi ctc
                generalize par[i] = pi at *
                generalize hcn : (ul.take q).countP tf = cn at *
                clear hcn
                cases hh : hasB ul pi
                · rw [hh] at CTC HCS
                  go_wp2_with (go_at_call 40; go_must (refine CTC.out.mono ?_; rintro e w4 ⟨rfl, rfl⟩))
                  exact ⟨⟨q + 1, by omega, by go_num, by rw [HCS.out]; simp⟩, by simp [intOf]; omega⟩
                · rw [hh] at CTC HCS
                  go_wp2_with (go_at_call 40; go_must (refine CTC.out.mono ?_; rintro e w4 ⟨rfl, rfl⟩))
                  exact ⟨⟨q + 1, by omega, by go_num, by rw [HCS.out]; simp⟩, by simp [intOf]; omega⟩
              · obtain rfl : q = ul.length := by omega
                have hd1 : decide (ul.length < ul.length) = false := by simp
                rw [List.take_length] at *
                generalize hcn : ul.countP tf = cn at *
                clear hcn
                by_cases h1 : cn = 1
                · have h1b : ((cn : Int) != 1) = false := by simp; omega
                  have HH1 := Lib.hid h1
                  clear h1
                  go_wp2_with fail
                  exact ⟨⟨k + 1, by omega, by go_num, Lib.hid (HST.out HH1.out), ext_trans hbel hb3⟩, by simp [intOf]; omega⟩
                · have h1b : ((cn : Int) != 1) = true := by simp; omega
                  go_wp2_with fail
                  go_ret
                  exact ⟨ret_bool (HNO2.out h1).symm, ext_trans (ext_trans hbel1 hbel) hb3⟩
          · obtain rfl : k = S.attrs.length := by omega
            have hd1 : decide (S.attrs.length < S.attrs.length) = false := by simp
            go_wp2
            go_ret
            exact ⟨ret_bool (HYES.out HLEN.out HTR.out HALL.out).symm, ext_trans hbel1 hbel⟩
    · have hlb : ((par.length : Int) != (S.rels.length : Int)) = true := by simp; omega
      have HE := Lib.hid (chkB_len hlen)
      clear hlen
      go_enter Try.func19, Try.ntmps19
      go_wp2_with (
        go_at_call 33
        go_must (
          refine CT1.out.mono ?_
          rintro e w1 ⟨rfl, hb1⟩
          have hbx := ((Blk.new w 28 #[Value.slice A1 S.attrs.length c1, Value.slice A2 S.rels.length c2, Value.slice A3 S.feats.length c3, Value.int IntKind.i64 S.label]).alloc (.cells #[Value.slice Ap par.length cp] 46)).ext hb1
          have hby := (Blk.new (w.alloc (.cells #[Value.slice A1 S.attrs.length c1, Value.slice A2 S.rels.length c2, Value.slice A3 S.feats.length c3, Value.int IntKind.i64 S.label] 28)) 46 #[Value.slice Ap par.length cp]).ext hb1
          rw [World.size_alloc] at hby
          have x1 := hbx.cell 1
          have y0 := hby.cell 0
          simp at x1 y0
          clear hbx hby))
      go_ret
      exact ⟨ret_bool HE.out.symm, ext_trans hbb hb1⟩
  · have hcb := ne_b hce
    have HE := Lib.hid (show chkB S par = false by simp [chkB, hce])
    generalize hce' : checkE S = ce at *
    clear hce hce'
    go_enter Try.func19, Try.ntmps19
    go_wp2_with (
      go_at_call 33
      go_must (
        refine CT1.out.mono ?_
        rintro e w1 ⟨rfl, hb1⟩))
    go_ret
    exact ⟨ret_bool HE.out.symm, ext_trans hbb hb1⟩

end Go.Proofs.Ytopblgabadljdaa
