/-
  order.Of, order.Walk, in our step logic. No statement of the program is proved here.
-/
import Derived.Test.YtkalgjnhaicabaaB3
namespace Go.Proofs.Ytkalgjnhaicabaa
open Go.RowKit Mk
set_option maxRecDepth 100000
set_option maxHeartbeats 1000000

/-- The graph of a schema. -/
noncomputable def gr (S : Sch) : List B64 := (List.range S.attrs.length).map fun a => bitsOf fun b => decide (a ≠ b) && linkB S a b
theorem gr_len (S : Sch) : (gr S).length = S.attrs.length := by simp [gr]
theorem link_lt {S : Sch} (hV : Valid S) {a b : Int} (h : linkB S a b = true) : (0 ≤ a ∧ a < S.attrs.length) ∧ (0 ≤ b ∧ b < S.attrs.length) := by
  unfold linkB at h
  obtain ⟨r, hr, h2⟩ := List.any_eq_true.1 h
  simp at h2
  exact ⟨hV.rng r hr a h2.1, hV.rng r hr b h2.2⟩
theorem gr_bit {S : Sch} (hV : Valid S) {a : Nat} (ha : a < S.attrs.length) (b : Nat) : ((gr S).getD a 0#64).getLsbD b = (decide (a ≠ b) && linkB S a b) := by
  have e : (gr S).getD a 0#64 = bitsOf fun b => decide (a ≠ b) && linkB S a b := by simp [gr, List.getD, ha]
  rw [e]
  by_cases hb : b < 64
  · rw [bitsOf_bit _ hb]
  · rw [BitVec.getLsbD_of_ge _ _ (by omega)]
    cases hl : linkB S a b with
    | false => simp
    | true => have := (link_lt hV hl).2; have := hV.n2; omega
theorem isG_eq {S : Sch} (hV : Valid S) {G : List B64} (h : IsG S G) : G = gr S := by
  apply List.ext_getElem
  · rw [h.len, gr_len]
  · intro a h1 h2
    apply BitVec.eq_of_getLsbD_eq
    intro b _
    have e1 := h.bit a h1 b
    have e2 := gr_bit hV (a := a) (by rw [← h.len]; exact h1) b
    rw [getD_eq h1] at e1
    rw [getD_eq h2] at e2
    rw [e1, e2]
noncomputable def ordL (S : Sch) (q : List Int) : List Int := ofL (gr S) q
theorem ouOf_sp (S : Sch) (hS : SB S) (hV : Valid S) (q : List Int) (hq : ∀ a ∈ q, 0 ≤ a ∧ a < S.attrs.length) (hql : q.length ≤ 1000) : FnP Try.prog 30 [schP S, pints q] (· = ordP (ordL S q)) :=
  (ouOf_spec S hS hV q hq hql).mono fun v ⟨G, hG, e⟩ => by rw [e, isG_eq hV hG]; rfl
theorem ordL_len (S : Sch) (q : List Int) : (ordL S q).length = S.attrs.length := by rw [ordL, ofL_len, gr_len]

def dupB (q : List Int) : Nat → Bool
  | 0 => false
  | k + 1 => dupB q k || decide (q.getD k 0 ∈ q.take k)
theorem dup_at {q : List Int} {k n : Nat} (hk : k < n) (h : decide (q.getD k 0 ∈ q.take k) = true) : dupB q n = true := by
  induction n with
  | zero => omega
  | succ n ih =>
    simp only [dupB, Bool.or_eq_true]
    by_cases e : k = n
    · subst e; exact .inr h
    · exact .inl (ih (by omega))
/-- What order.Of says of a permutation. -/
def ofE (S : Sch) (q : List Int) : Int :=
  if checkE S ≠ 0 then checkE S
  else if q.length ≠ S.attrs.length then 5
  else if (q.any fun a => decide (a < 0) || decide (a ≥ (q.length : Int))) = true then 2
  else if dupB q q.length = true then 9 else 0
noncomputable def ofV (S : Sch) (q : List Int) : PV := .tup [ordP (if ofE S q = 0 then ordL S q else []), .int .i64 (ofE S q)]
theorem ofV_bad {S : Sch} {q : List Int} {e : Int} (h : ofE S q = e) (h0 : e ≠ 0) : ofV S q = .tup [ordP [], .int .i64 e] := by
  unfold ofV; rw [h, if_neg h0]
theorem oof_spec (S : Sch) (hS : SB S) (q : List Int) (hql : q.length ≤ 1000000) : FnP Try.prog 9 [schP S, pints q] (· = ofV S q) := by
  refine FnP.fg2 (FnP.ofC Try.func9 rfl Try.ntmps9 (by simp) fun m0 w0 F R0 => ?_)
  have hb := hS.a
  repeat refine AW.seq ?_
  refine AW.region ?_
  refine RL.step (d := some 2) rfl rfl (xj_box 0 rfl rfl rfl (by rintro _ _ ⟨⟩) (by rintro _ _ _ ⟨⟩) (by rintro _ ⟨⟩)) ?_
  refine RL.step (d := some 4) rfl rfl (xj_alloc 1 zero33 rfl rfl) ?_
  refine RL.step (d := some 5) rfl rfl (xj_assignE rfl) ?_
  repeat refine AW.seq ?_
  refine AW.region ?_
  first | refine RL.step (d := some 11) rfl rfl (xj_loadA ⟨_, Try.underlying30, rfl⟩ sz30 rfl rfl rfl rfl) ?_ | refine RL.step (d := some 11) rfl rfl (xj_loadAP ⟨_, Try.underlying30, rfl⟩ sz30 rfl rfl rfl rfl) ?_ | refine RL.step (d := some 11) rfl rfl (xj_loadAR ⟨_, Try.underlying30, rfl⟩ sz30 rfl rfl rfl) ?_
  refine RL.step (d := some 12) rfl rfl (xj_call Try.call28 (chk_spec S hS) rfl) ?_
  refine RL.step (d := some 6) rfl rfl (xj_assignE rfl) ?_
  repeat refine AW.seq ?_
  refine AW.region ?_
  refine RL.step (d := some 13) rfl rfl (xj_moveE rfl) ?_
  refine RL.step (d := some 14) rfl rfl (xj_bin rfl rfl rfl) ?_
  repeat refine AW.seq ?_
  refine AW.cond rfl (fun hc14 => ?_) (fun hc14 => ?_)
  · repeat refine AW.seq ?_
    refine AW.region ?_
    refine RL.step (d := some 15) rfl rfl (xj_build bi33 rfl) ?_
    refine RL.step (d := some 16) rfl rfl (xj_moveE rfl) ?_
    first | refine RL.step (d := none) rfl rfl (xj_store sz33 rfl rfl rfl rfl (by first | (simp; done) | exact Nat.le_of_ble_eq_true rfl) rfl rfl) ?_ | refine RL.step (d := none) rfl rfl (xj_storeP sz33 rfl rfl rfl rfl (by simp; omega)) ?_
    refine RL.step (d := some 5) rfl rfl (xj_assignE rfl) ?_
    repeat refine AW.seq ?_
    refine AW.ret ?_
    exact ⟨_, _, rfl, rfl, ⟨cellOk1 ⟨_, Try.underlying33, rfl⟩ sz33 rfl rfl rfl, trivial⟩, (ofV_bad (by unfold ofE; rw [if_pos (inT hc14)]) (inT hc14)).symm⟩
  · have h0 : checkE S = 0 := inF hc14
    have hV := valid_of h0
    refine AW.skip ?_
    repeat refine AW.seq ?_
    refine AW.region ?_
    refine RL.step (d := some 17) rfl rfl (xj_moveE rfl) ?_
    first | refine RL.step (d := some 18) rfl rfl (xj_len Try.underlying22 rfl) ?_ | refine RL.step (d := some 18) rfl rfl (xj_lenO Try.underlying22 rfl rfl) ?_ | refine RL.step (d := some 18) rfl rfl (xj_lenG Try.underlying22 rfl) ?_
    first | refine RL.step (d := some 19) rfl rfl (xj_fieldAddr fo30_0 rfl rfl) ?_ | refine RL.step (d := some 19) rfl rfl (xj_fieldAddrR fo30_0 rfl) ?_
    first | refine RL.step (d := some 20) rfl rfl (xj_load1 ⟨_, Try.underlying26, rfl⟩ rfl rfl rfl) ?_ | refine RL.step (d := some 20) rfl rfl (xj_load1P ⟨_, Try.underlying26, rfl⟩ rfl rfl (by first | rfl | assumption)) ?_ | refine RL.step (d := some 20) rfl rfl (xj_loadR ⟨_, Try.underlying26, rfl⟩ rfl (by first | rfl | assumption)) ?_
    first | refine RL.step (d := some 21) rfl rfl (xj_len Try.underlying26 rfl) ?_ | refine RL.step (d := some 21) rfl rfl (xj_lenO Try.underlying26 rfl rfl) ?_ | refine RL.step (d := some 21) rfl rfl (xj_lenG Try.underlying26 rfl) ?_
    refine RL.step (d := some 22) rfl rfl (xj_bin rfl rfl rfl) ?_
    repeat refine AW.seq ?_
    refine AW.cond rfl (fun hc22 => ?_) (fun hc22 => ?_)
    · have hne0 : ¬ q.length = S.attrs.length := by have := inT hc22; omega
      repeat refine AW.seq ?_
      refine AW.region ?_
      refine RL.step (d := some 23) rfl rfl (xj_build bi33 rfl) ?_
      first | refine RL.step (d := none) rfl rfl (xj_store sz33 rfl rfl rfl rfl (by first | (simp; done) | exact Nat.le_of_ble_eq_true rfl) rfl rfl) ?_ | refine RL.step (d := none) rfl rfl (xj_storeP sz33 rfl rfl rfl rfl (by simp; omega)) ?_
      refine RL.step (d := some 5) rfl rfl (xj_assignE rfl) ?_
      repeat refine AW.seq ?_
      refine AW.ret ?_
      exact ⟨_, _, rfl, rfl, ⟨cellOk1 ⟨_, Try.underlying33, rfl⟩ sz33 rfl rfl rfl, trivial⟩, (ofV_bad (by unfold ofE; rw [if_neg (fun h => h h0), if_pos hne0]) (by decide)).symm⟩
    · have heq : q.length = S.attrs.length := by have := inF hc22; omega
      refine AW.skip ?_
      repeat refine AW.seq ?_
      refine AW.region ?_
      refine RL.step (d := some 24) rfl rfl (xj_moveE rfl) ?_
      first | refine RL.step (d := some 25) rfl rfl (xj_len Try.underlying22 rfl) ?_ | refine RL.step (d := some 25) rfl rfl (xj_lenO Try.underlying22 rfl rfl) ?_ | refine RL.step (d := some 25) rfl rfl (xj_lenG Try.underlying22 rfl) ?_
      refine RL.step (d := some 26) rfl rfl (xj_moveE rfl) ?_
      repeat refine AW.seq ?_
      refine AW.block ?_
      repeat refine AW.seq ?_
      refine AW.loop (st := fun x_0 : Nat => mkS [(1, .pv (pints q)), (2, .ptr 0 0), (4, .ptr 1 0), (24, .pv (pints q)), (25, .pv (.int .i64 q.length)), (26, .pv (.int .i64 x_0))] [(0, .mix 30 [.pv (.sl none S.attrs.length (attrsC S.attrs)), .pv (.sl none S.rels.length (relsC S.rels)), .pv (.sl none S.feats.length (featsC S.feats)), .pv (.int .i64 S.label)]), (1, .mix 33 [.pv (.sl (some true) 0 [])])] 2)
        (I := fun x_0 => x_0 ≤ q.length ∧ ((q.take x_0).any fun a => decide (a < 0) || decide (a ≥ (q.length : Int))) = false) (μ := fun x_0 => q.length - x_0) (x0 := (0)) (St.le_mk ⟨rfl, rfl, rfl, rfl, rfl, rfl, trivial⟩ ⟨rfl, rfl, trivial⟩ rfl rfl) (⟨Nat.zero_le _, rfl⟩) ?_
      rintro k ⟨hk, hany⟩
      repeat refine AW.seq ?_
      refine AW.region ?_
      refine RL.step (d := some 27) rfl rfl (xj_bin rfl rfl rfl) ?_
      repeat refine AW.seq ?_
      refine AW.condP rfl (fun hc27 => ?_) (fun hc27 => ?_)
      · have hlt : k < q.length := by omega
        have hva := pints_at hlt
        have hne := pints_ne hlt
        refine AW.skip ?_
        repeat refine AW.seq ?_
        refine AW.block ?_
        repeat refine AW.seq ?_
        refine AW.region ?_
        first | refine RL.step (d := some 28) rfl rfl (xj_indexAddr _ Try.underlying22 sz3 rfl rfl rfl (by omega) (by assumption)) ?_ | refine RL.step (d := some 28) rfl rfl (xj_indexAddrO _ Try.underlying22 sz3 rfl rfl rfl rfl (by omega)) ?_
        first | refine RL.step (d := some 29) rfl rfl (xj_load1 ⟨_, Try.underlying3, rfl⟩ rfl rfl rfl) ?_ | refine RL.step (d := some 29) rfl rfl (xj_load1P ⟨_, Try.underlying3, rfl⟩ rfl rfl (by first | rfl | assumption)) ?_ | refine RL.step (d := some 29) rfl rfl (xj_loadR ⟨_, Try.underlying3, rfl⟩ rfl (by first | rfl | assumption)) ?_
        refine RL.step (d := some 8) rfl rfl (xj_assignE rfl) ?_
        repeat refine AW.seq ?_
        refine AW.region ?_
        refine RL.step (d := some 30) rfl rfl (xj_moveE rfl) ?_
        refine RL.step (d := some 31) rfl rfl (xj_bin rfl rfl rfl) ?_
        refine RL.step (d := some 32) rfl rfl (xj_moveE rfl) ?_
        apply RL.orB 5 32 37 [33, 34, 35, 36] rfl (by first | exact MonoK.le | exact MonoK.aw | exact MonoK.back)
        · intro hb2
          refine RL.skipG rfl rfl rfl ?_
          refine RL.skipG rfl rfl rfl ?_
          refine RL.skipG rfl rfl rfl ?_
          refine RL.skipG rfl rfl rfl ?_
          refine RL.step (d := some 37) rfl rfl (xj_pick rfl) ?_
          exact St.le_fg (fEq.upd (fEq.upd (fEq.upd (fEq.upd (fEq.upd (fEq.upd (fEq.refl) rfl) rfl) rfl) rfl) rfl) rfl) rfl rfl rfl
        · intro hb2
          refine RL.stepG (d := some 33) rfl rfl rfl (xj_moveE rfl) ?_
          refine RL.stepG (d := some 34) rfl rfl rfl (xj_moveE rfl) ?_
          first | refine RL.stepG (d := some 35) rfl rfl rfl (xj_len Try.underlying22 rfl) ?_ | refine RL.stepG (d := some 35) rfl rfl rfl (xj_lenO Try.underlying22 rfl rfl) ?_ | refine RL.stepG (d := some 35) rfl rfl rfl (xj_lenG Try.underlying22 rfl) ?_
          refine RL.stepG (d := some 36) rfl rfl rfl (xj_bin rfl rfl rfl) ?_
          refine RL.step (d := some 37) rfl rfl (xj_pick rfl) ?_
          exact St.le_fg (fEq.upd (fEq.upd (fEq.upd (fEq.upd (fEq.upd (fEq.upd (fEq.refl) rfl) rfl) rfl) rfl) rfl) rfl) rfl rfl rfl
        repeat refine AW.seq ?_
        refine AW.cond rfl (fun hc37 => ?_) (fun hc37 => ?_)
        · repeat refine AW.seq ?_
          refine AW.region ?_
          refine RL.step (d := some 38) rfl rfl (xj_build bi33 rfl) ?_
          first | refine RL.step (d := none) rfl rfl (xj_store sz33 rfl rfl rfl rfl (by first | (simp; done) | exact Nat.le_of_ble_eq_true rfl) rfl rfl) ?_ | refine RL.step (d := none) rfl rfl (xj_storeP sz33 rfl rfl rfl rfl (by simp; omega)) ?_
          refine RL.step (d := some 5) rfl rfl (xj_assignE rfl) ?_
          repeat refine AW.seq ?_
          refine AW.ret ?_
          exact ⟨_, _, rfl, rfl, ⟨cellOk1 ⟨_, Try.underlying33, rfl⟩ sz33 rfl rfl rfl, trivial⟩, (ofV_bad (by unfold ofE; rw [if_neg (fun h => h h0), if_neg (fun h => h heq), if_pos (any_at hlt hc37)]) (by decide)).symm⟩
        · refine AW.skip ?_
          repeat refine AW.seq ?_
          refine AW.region ?_
          refine RL.step (d := some 39) rfl rfl (xj_add rfl rfl (by omega)) ?_
          refine RL.step (d := some 26) rfl rfl (xj_moveE rfl) ?_
          exact ⟨(k + 1), St.le_mk ⟨rfl, rfl, rfl, rfl, rfl, rfl, trivial⟩ ⟨rfl, rfl, trivial⟩ rfl rfl, ⟨by omega, any_take hlt hany hc37⟩, by omega⟩
      · rw [List.take_of_length_le (by omega)] at hany
        have hq : ∀ a ∈ q, 0 ≤ a ∧ a < S.attrs.length := fun a ha => by have := List.any_eq_false.1 hany a ha; simp at this; omega
        repeat refine AW.seq ?_
        refine AW.exit ?_
        repeat refine AW.seq ?_
        refine AW.region ?_
        refine RL.step (d := some 40) rfl rfl (xj_moveE rfl) ?_
        first | refine RL.step (d := some 41) rfl rfl (xj_len Try.underlying22 rfl) ?_ | refine RL.step (d := some 41) rfl rfl (xj_lenO Try.underlying22 rfl rfl) ?_ | refine RL.step (d := some 41) rfl rfl (xj_lenG Try.underlying22 rfl) ?_
        refine RL.step (d := some 42) rfl rfl (xj_moveE rfl) ?_
        repeat refine AW.seq ?_
        refine AW.block ?_
        repeat refine AW.seq ?_
        refine AW.loop (st := fun x_1 : Nat => mkS [(1, .pv (pints q)), (2, .ptr 0 0), (4, .ptr 1 0), (40, .pv (pints q)), (41, .pv (.int .i64 q.length)), (42, .pv (.int .i64 x_1))] [(0, .mix 30 [.pv (.sl none S.attrs.length (attrsC S.attrs)), .pv (.sl none S.rels.length (relsC S.rels)), .pv (.sl none S.feats.length (featsC S.feats)), .pv (.int .i64 S.label)]), (1, .mix 33 [.pv (.sl (some true) 0 [])])] 2)
          (I := fun x_1 => x_1 ≤ q.length ∧ dupB q x_1 = false) (μ := fun x_1 => q.length - x_1) (x0 := (0)) (St.le_mk ⟨rfl, rfl, rfl, rfl, rfl, rfl, trivial⟩ ⟨rfl, rfl, trivial⟩ rfl rfl) (⟨Nat.zero_le _, rfl⟩) ?_
        rintro j ⟨hj, hdup⟩
        repeat refine AW.seq ?_
        refine AW.region ?_
        refine RL.step (d := some 43) rfl rfl (xj_bin rfl rfl rfl) ?_
        repeat refine AW.seq ?_
        refine AW.condP rfl (fun hc43 => ?_) (fun hc43 => ?_)
        · have hlt : j < q.length := by omega
          have hva := pints_at hlt
          have hne := pints_ne hlt
          have hgd := getD_eq hlt (0 : Int)
          have htk : PV.sl none j ((intsP q).take (j * 1)) = pints (q.take j) := by simp [pints, List.map_take]; omega
          refine AW.skip ?_
          repeat refine AW.seq ?_
          refine AW.block ?_
          repeat refine AW.seq ?_
          refine AW.region ?_
          refine RL.step (d := some 44) rfl rfl (xj_moveE rfl) ?_
          first | refine RL.step (d := some 45) rfl rfl (xj_indexAddr _ Try.underlying22 sz3 rfl rfl rfl (by omega) (by assumption)) ?_ | refine RL.step (d := some 45) rfl rfl (xj_indexAddrO _ Try.underlying22 sz3 rfl rfl rfl rfl (by omega)) ?_
          first | refine RL.step (d := some 46) rfl rfl (xj_load1 ⟨_, Try.underlying3, rfl⟩ rfl rfl rfl) ?_ | refine RL.step (d := some 46) rfl rfl (xj_load1P ⟨_, Try.underlying3, rfl⟩ rfl rfl (by first | rfl | assumption)) ?_ | refine RL.step (d := some 46) rfl rfl (xj_loadR ⟨_, Try.underlying3, rfl⟩ rfl (by first | rfl | assumption)) ?_
          refine RL.step (d := some 9) rfl rfl (xj_assignE rfl) ?_
          refine RL.step (d := some 10) rfl rfl (xj_assignE rfl) ?_
          repeat refine AW.seq ?_
          refine AW.region ?_
          refine RL.step (d := some 47) rfl rfl (xj_moveE rfl) ?_
          refine RL.step (d := some 48) rfl rfl (xj_moveE rfl) ?_
          refine RL.step (d := some 49) rfl rfl (XJ.cast (v' := .pv (pints (q.take j))) (xj_sliceTo j Try.underlying22 sz3 rfl rfl rfl (by omega) (by simp)) (by rw [← htk])) ?_
          refine RL.step (d := some 50) rfl rfl (xj_moveE rfl) ?_
          refine RL.step (d := some 51) rfl rfl (xj_call Try.call29 (contains_spec (q.take j) q[j] (by simp; omega)) rfl) ?_
          repeat refine AW.seq ?_
          refine AW.cond rfl (fun hc51 => ?_) (fun hc51 => ?_)
          · repeat refine AW.seq ?_
            refine AW.region ?_
            refine RL.step (d := some 52) rfl rfl (xj_build bi33 rfl) ?_
            first | refine RL.step (d := none) rfl rfl (xj_store sz33 rfl rfl rfl rfl (by first | (simp; done) | exact Nat.le_of_ble_eq_true rfl) rfl rfl) ?_ | refine RL.step (d := none) rfl rfl (xj_storeP sz33 rfl rfl rfl rfl (by simp; omega)) ?_
            refine RL.step (d := some 5) rfl rfl (xj_assignE rfl) ?_
            repeat refine AW.seq ?_
            refine AW.ret ?_
            exact ⟨_, _, rfl, rfl, ⟨cellOk1 ⟨_, Try.underlying33, rfl⟩ sz33 rfl rfl rfl, trivial⟩, (ofV_bad (by unfold ofE; rw [if_neg (fun h => h h0), if_neg (fun h => h heq), if_neg (by rw [hany]; decide), if_pos (dup_at hlt (by rw [hgd]; exact hc51))]) (by decide)).symm⟩
          · refine AW.skip ?_
            repeat refine AW.seq ?_
            refine AW.region ?_
            refine RL.step (d := some 53) rfl rfl (xj_add rfl rfl (by omega)) ?_
            refine RL.step (d := some 42) rfl rfl (xj_moveE rfl) ?_
            exact ⟨(j + 1), St.le_mk ⟨rfl, rfl, rfl, rfl, rfl, rfl, trivial⟩ ⟨rfl, rfl, trivial⟩ rfl rfl, ⟨by omega, by simp only [dupB, hdup, hgd, hc51]; rfl⟩, by omega⟩
        · have he : ofE S q = 0 := by unfold ofE; rw [if_neg (fun h => h h0), if_neg (fun h => h heq), if_neg (by rw [hany]; decide), if_neg (by rw [show q.length = j by omega, hdup]; decide)]
          have hn12 := hV.n2
          repeat refine AW.seq ?_
          refine AW.exit ?_
          repeat refine AW.seq ?_
          refine AW.region ?_
          first | refine RL.step (d := some 54) rfl rfl (xj_loadA ⟨_, Try.underlying30, rfl⟩ sz30 rfl rfl rfl rfl) ?_ | refine RL.step (d := some 54) rfl rfl (xj_loadAP ⟨_, Try.underlying30, rfl⟩ sz30 rfl rfl rfl rfl) ?_ | refine RL.step (d := some 54) rfl rfl (xj_loadAR ⟨_, Try.underlying30, rfl⟩ sz30 rfl rfl rfl) ?_
          refine RL.step (d := some 55) rfl rfl (xj_moveE rfl) ?_
          refine RL.step (d := some 56) rfl rfl (xj_call Try.call30 (ouOf_sp S hS hV q hq (by omega)) rfl) ?_
          first | refine RL.step (d := none) rfl rfl (xj_store sz33 rfl rfl rfl rfl (by first | (simp; done) | exact Nat.le_of_ble_eq_true rfl) rfl rfl) ?_ | refine RL.step (d := none) rfl rfl (xj_storeP sz33 rfl rfl rfl rfl (by simp; omega)) ?_
          refine RL.step (d := some 5) rfl rfl (xj_assignE rfl) ?_
          repeat refine AW.seq ?_
          refine AW.ret ?_
          exact ⟨_, _, rfl, rfl, ⟨cellOk1 ⟨_, Try.underlying33, rfl⟩ sz33 rfl rfl rfl, trivial⟩, by unfold ofV; rw [he, if_pos rfl]; rfl⟩

theorem perm_ofE {S : Sch} {q : List Int} (h0 : checkE S = 0) (hq : q.Perm (upZ S.attrs.length)) : ofE S q = 0 := by
  have hl : q.length = S.attrs.length := by rw [hq.length_eq, upZ_len]
  have hr : ∀ a ∈ q, 0 ≤ a ∧ a < S.attrs.length := by
    intro a ha
    have := hq.mem_iff.1 ha
    unfold upZ at this
    obtain ⟨i, hi, rfl⟩ := List.mem_map.1 this
    have := List.mem_range.1 hi
    simp; omega
  have hnd : q.Nodup := hq.nodup_iff.2 (by unfold upZ; exact List.Pairwise.map _ (fun a b h e => h (Int.ofNat.inj e)) List.nodup_range)
  have hd : ∀ k, k ≤ q.length → dupB q k = false := by
    intro k
    induction k with
    | zero => intro _; rfl
    | succ k ih =>
      intro hk
      simp only [dupB, ih (by omega), Bool.false_or, decide_eq_false_iff_not, getD_eq (show k < q.length by omega)]
      intro hm
      obtain ⟨i, hi, e⟩ := List.mem_take_iff_getElem.1 hm
      have hi2 : i < k := by omega
      have := List.pairwise_iff_getElem.1 hnd i k (by omega) (by omega) hi2
      exact this e
  unfold ofE
  rw [if_neg (fun h => h h0), if_neg (fun h => h hl), if_neg, if_neg (by rw [hd _ (Nat.le_refl _)]; decide)]
  rw [List.any_eq_true]
  rintro ⟨a, ha, h⟩
  have := hr a ha
  simp at h; omega

end Go.Proofs.Ytkalgjnhaicabaa
