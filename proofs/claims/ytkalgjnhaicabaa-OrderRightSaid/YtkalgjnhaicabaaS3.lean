/-
  The relations of a schema (schema.relations), in our step logic. No statement of the program is proved here.
-/
import Derived.Test.YtkalgjnhaicabaaS2
namespace Go.Proofs.Ytkalgjnhaicabaa
open Go.RowKit Mk
set_option maxRecDepth 100000
set_option maxHeartbeats 1000000

theorem rel_row {l : List (ByteArray × List Int)} {k : Nat} (h : k < l.length) : ((relsC l).drop (k * 2)).take 2 = [.str l[k].1, pints l[k].2] := flat_row _ 2 (fun _ => rfl) l k h
theorem rel_ne {l : List (ByteArray × List Int)} {k : Nat} (h : k < l.length) : relsC l ≠ [] := fun e => by have := relsC_len l; rw [e] at this; simp at this; omega
/-- Which attributes are used, as a list. -/
def UsedIs (n : Nat) (U : List Bool) (p : Nat → Bool) : Prop := U.length = n ∧ ∀ a, a < n → U[a]? = some (p a)
theorem UsedIs.zero (n : Nat) : UsedIs n (List.replicate n false) (fun _ => false) := ⟨by simp, fun a ha => by simp [ha]⟩
theorem UsedIs.set {n : Nat} {U : List Bool} {p : Nat → Bool} (h : UsedIs n U p) {a : Nat} (ha : a < n) : UsedIs n (U.set a true) (fun b => p b || (b == a)) := by
  refine ⟨by simp [h.1], fun b hb => ?_⟩
  by_cases e : b = a
  · subst e; simp [h.1, hb]
  · rw [List.getElem?_set_ne (fun e' => e e'.symm), h.2 b hb]; simp [e]
theorem UsedIs.congr {n : Nat} {U : List Bool} {p q : Nat → Bool} (h : UsedIs n U p) (e : ∀ a, a < n → p a = q a) : UsedIs n U q := ⟨h.1, fun a ha => by rw [h.2 a ha, e a ha]⟩
theorem UsedIs.mem {n : Nat} {U : List Bool} {p : Nat → Bool} (h : UsedIs n U p) : decide (false ∈ U) = !((List.range n).all p) := by
  rw [Bool.eq_iff_iff]
  simp only [decide_eq_true_eq, Bool.not_eq_true', List.all_eq_false, List.mem_range]
  constructor
  · intro hm
    obtain ⟨a, ha, e⟩ := List.getElem_of_mem hm
    refine ⟨a, by rw [← h.1]; exact ha, ?_⟩
    have := h.2 a (by rw [← h.1]; exact ha)
    rw [List.getElem?_eq_getElem ha, e] at this
    simpa using this.symm
  · rintro ⟨a, ha, e⟩
    have := h.2 a ha
    have e' : p a = false := by simpa using e
    rw [e'] at this
    exact List.mem_of_getElem? this
theorem bools_set (U : List Bool) (a : Nat) : (boolsP U).set a (.bool true) = boolsP (U.set a true) := by simp [List.map_set]

theorem used_next {b : Bool} {l : List Int} {q j a : Nat} (hq : q < l.length) (hj : l[q] = (j : Int)) : ((b || inB (l.take q) a) || (a == j)) = (b || inB (l.take (q + 1)) a) := by
  rw [take_snoc hq, Bool.or_assoc]
  congr 1
  rw [Bool.eq_iff_iff]
  simp [inB, hj]
  exact or_congr Iff.rfl ⟨fun h => by rw [h], fun h => by omega⟩
theorem rng_next {l : List Int} {q n : Nat} (hq : q < l.length) (h : ∀ a ∈ l.take q, 0 ≤ a ∧ a < (n : Int)) (hx : 0 ≤ l[q] ∧ l[q] < n) : ∀ a ∈ l.take (q + 1), 0 ≤ a ∧ a < (n : Int) := by
  rw [take_snoc hq]
  intro a ha
  rcases List.mem_append.1 ha with h1 | h1
  · exact h a h1
  · rw [List.mem_singleton.1 h1]; exact hx
theorem asc_next {l : List Int} {p : Nat} (hp : p < l.length) (hp1 : 1 ≤ p) (h : ∀ i, i + 1 < p → i + 1 < l.length → l.getD i 0 < l.getD (i + 1) 0) (hx : l[p - 1]'(by omega) < l[p]) : ∀ i, i + 1 < p + 1 → i + 1 < l.length → l.getD i 0 < l.getD (i + 1) 0 := by
  intro i h1 h2
  by_cases e : i + 1 = p
  · have e2 : i = p - 1 := by omega
    subst e2
    have e3 : p - 1 + 1 = p := by omega
    simp only [e3, List.getD, List.getElem?_eq_getElem hp, List.getElem?_eq_getElem (show p - 1 < l.length by omega)]
    exact hx
  · exact h i (by omega) h2
theorem used_rel {rs : List (ByteArray × List Int)} {k q a : Nat} (hk : k < rs.length) (hq : rs[k].2.length ≤ q) : (((rs.take k).any fun r => inB r.2 a) || inB (rs[k].2.take q) a) = ((rs.take (k + 1)).any fun r => inB r.2 a) := by
  rw [take_snoc hk, List.take_of_length_le hq]
  simp only [List.any_append, List.any_cons, List.any_nil, Bool.or_false]
theorem relations_spec (S : Sch) (hS : SB S) : FnP Try.prog 45 [schP S] (· = .int .i64 (relsE S)) := by
  refine FnP.of Try.func45 rfl Try.ntmps45 (by simp) fun m0 w0 F R0 => ?_
  have hb := hS.a
  have hb2 := hS.r
  repeat refine AW.seq ?_
  refine AW.region ?_
  refine RL.step (d := some 1) rfl rfl (xj_box 0 rfl rfl rfl (by rintro _ _ ⟨⟩) (by rintro _ _ _ ⟨⟩) (by rintro _ ⟨⟩)) ?_
  refine RL.step (d := some 2) rfl rfl (xj_assignE rfl) ?_
  repeat refine AW.seq ?_
  refine AW.region ?_
  refine RL.step (d := some 3) rfl rfl (xj_assignE rfl) ?_
  refine AW.weaken (St.le_gro 3 1 1 9 rfl rfl) ?_
  repeat refine AW.seq ?_
  refine AW.region ?_
  first | refine RL.step (d := some 11) rfl rfl (xj_fieldAddr fo30_0 rfl rfl) ?_ | refine RL.step (d := some 11) rfl rfl (xj_fieldAddrR fo30_0 rfl) ?_
  first | refine RL.step (d := some 12) rfl rfl (xj_load1 ⟨_, Try.underlying26, rfl⟩ rfl rfl rfl) ?_ | refine RL.step (d := some 12) rfl rfl (xj_load1P ⟨_, Try.underlying26, rfl⟩ rfl rfl (by first | rfl | assumption)) ?_ | refine RL.step (d := some 12) rfl rfl (xj_loadR ⟨_, Try.underlying26, rfl⟩ rfl (by first | rfl | assumption)) ?_
  first | refine RL.step (d := some 13) rfl rfl (xj_len Try.underlying26 rfl) ?_ | refine RL.step (d := some 13) rfl rfl (xj_lenO Try.underlying26 rfl rfl) ?_ | refine RL.step (d := some 13) rfl rfl (xj_lenG Try.underlying26 rfl) ?_
  refine RL.step (d := some 14) rfl rfl (xj_make 2 _ el100 rfl rfl rfl rfl rfl (by omega) rfl) ?_
  refine RL.step (d := some 4) rfl rfl (xj_assignE rfl) ?_
  repeat refine AW.seq ?_
  refine AW.region ?_
  first | refine RL.step (d := some 15) rfl rfl (xj_fieldAddr fo30_1 rfl rfl) ?_ | refine RL.step (d := some 15) rfl rfl (xj_fieldAddrR fo30_1 rfl) ?_
  first | refine RL.step (d := some 16) rfl rfl (xj_load1 ⟨_, Try.underlying27, rfl⟩ rfl rfl rfl) ?_ | refine RL.step (d := some 16) rfl rfl (xj_load1P ⟨_, Try.underlying27, rfl⟩ rfl rfl (by first | rfl | assumption)) ?_ | refine RL.step (d := some 16) rfl rfl (xj_loadR ⟨_, Try.underlying27, rfl⟩ rfl (by first | rfl | assumption)) ?_
  first | refine RL.step (d := some 17) rfl rfl (xj_len Try.underlying27 rfl) ?_ | refine RL.step (d := some 17) rfl rfl (xj_lenO Try.underlying27 rfl rfl) ?_ | refine RL.step (d := some 17) rfl rfl (xj_lenG Try.underlying27 rfl) ?_
  refine RL.step (d := some 18) rfl rfl (xj_moveE rfl) ?_
  repeat refine AW.seq ?_
  refine AW.block ?_
  repeat refine AW.seq ?_
  refine AW.loop (st := fun x_0 : Nat × List ByteArray × List Bool => mkS [(3, .gsl 1 1 x_0.2.1.length), (4, .osl 2 1 S.attrs.length), (16, .pv (.sl none S.rels.length (relsC S.rels))), (17, .pv (.int .i64 S.rels.length)), (18, .pv (.int .i64 x_0.1))] [(1, .gro 9 (strsP x_0.2.1)), (2, .cells 4 (boolsP x_0.2.2))] 3)
    (I := fun x_0 => x_0.1 ≤ S.rels.length ∧ x_0.2.1 = (S.rels.map (·.1)).take x_0.1 ∧ UsedIs S.attrs.length x_0.2.2 (fun a => (S.rels.take x_0.1).any fun r => inB r.2 a) ∧ scanE (relE S) x_0.1 = 0) (μ := fun x_0 => S.rels.length - x_0.1) (x0 := (0, [], List.replicate S.attrs.length false)) (St.le_mk ⟨rfl, rfl, rfl, rfl, rfl, trivial⟩ ⟨rfl, congrArg (fun c => some (Ob.cells 4 c)) ((mkZ_one (.bool false) (S.attrs.length * 1)).trans (by simp)), trivial⟩ rfl rfl) (⟨Nat.zero_le _, rfl, UsedIs.zero _, rfl⟩) ?_
  rintro ⟨k, L, U⟩ ⟨hk, hL, hU, hs⟩
  try simp only at hk hL hU hs ⊢
  repeat refine AW.seq ?_
  refine AW.region ?_
  refine RL.step (d := some 19) rfl rfl (xj_bin rfl rfl rfl) ?_
  repeat refine AW.seq ?_
  refine AW.condP rfl (fun hc19 => ?_) (fun hc19 => ?_)
  · have hlt : k < S.rels.length := by omega
    have hrow := rel_row hlt
    have hne := rel_ne hlt
    have hnl : L.length = k := by rw [hL]; simp; omega
    have htk : L ++ [S.rels[k].1] = (S.rels.map (·.1)).take (k + 1) := by rw [take_snoc (by simpa using hlt), hL]; simp
    have hns := named_spec (L ++ [S.rels[k].1]) k (by simp; omega) (by simp; omega) (by simp only [← hnl]; simp; exact hS.rn _ (List.getElem_mem _))
    rw [pstrs_snoc, htk, named_take (by omega)] at hns
    have hre := relE_eq2 S k hlt
    have hgd : S.rels.getD k default = S.rels[k] := by simp [List.getD, hlt]
    have hsl : (strsP L).length = L.length * 1 := by simp
    have hll := hS.rl _ (List.getElem_mem hlt)
    have hul := hU.1
    refine AW.skip ?_
    repeat refine AW.seq ?_
    refine AW.block ?_
    repeat refine AW.seq ?_
    refine AW.region ?_
    refine RL.step (d := some 20) rfl rfl (xj_moveE rfl) ?_
    first | refine RL.step (d := some 21) rfl rfl (xj_indexAddr _ Try.underlying27 sz40 rfl rfl rfl (by omega) (by assumption)) ?_ | refine RL.step (d := some 21) rfl rfl (xj_indexAddrO _ Try.underlying27 sz40 rfl rfl rfl rfl (by omega)) ?_
    refine RL.step (d := some 22) rfl rfl (xj_loadAR ⟨_, Try.underlying40, rfl⟩ sz40 rfl hrow rfl) ?_
    refine RL.step (d := some 6) rfl rfl (xj_alloc 3 zero40 rfl rfl) ?_
    refine RL.step (d := some 5) rfl rfl (xj_assignE rfl) ?_
    first | refine RL.step (d := none) rfl rfl (xj_store sz40 rfl rfl rfl rfl (by first | (simp; done) | exact Nat.le_of_ble_eq_true rfl) rfl rfl) ?_ | refine RL.step (d := none) rfl rfl (xj_storeP sz40 rfl rfl rfl rfl (by simp; omega)) ?_
    repeat refine AW.seq ?_
    refine AW.region ?_
    refine RL.step (d := some 23) rfl rfl (xj_moveE rfl) ?_
    first | refine RL.step (d := some 24) rfl rfl (xj_fieldAddr fo40_0 rfl rfl) ?_ | refine RL.step (d := some 24) rfl rfl (xj_fieldAddrR fo40_0 rfl) ?_
    first | refine RL.step (d := some 25) rfl rfl (xj_load1 ⟨_, Try.underlying9, rfl⟩ rfl rfl rfl) ?_ | refine RL.step (d := some 25) rfl rfl (xj_load1P ⟨_, Try.underlying9, rfl⟩ rfl rfl (by first | rfl | assumption)) ?_ | refine RL.step (d := some 25) rfl rfl (xj_loadR ⟨_, Try.underlying9, rfl⟩ rfl (by first | rfl | assumption)) ?_
    refine RL.step (d := some 26) rfl rfl (xj_buildSlice 4 el98 rfl (by decide) (by decide) rfl rfl rfl) ?_
    first | refine RL.step (d := some 27) rfl rfl (xj_append1 5 el98 rfl rfl (by first | assumption | simp) rfl rfl rfl rfl (by omega) rfl) ?_ | refine RL.step (d := some 27) rfl rfl (xj_append01 5 el98 rfl rfl rfl rfl rfl rfl) ?_ | refine RL.step (d := some 27) rfl rfl (xj_appendG1 5 el98 rfl rfl (by first | assumption | simp) rfl rfl rfl rfl (by omega) rfl) ?_
    refine RL.step (d := some 3) rfl rfl (xj_assignE rfl) ?_
    repeat refine AW.seq ?_
    refine AW.region ?_
    refine RL.step (d := some 28) rfl rfl (xj_moveE rfl) ?_
    refine RL.step (d := some 29) rfl rfl (xj_moveE rfl) ?_
    refine RL.step (d := some 30) rfl rfl (xj_callF Try.call63 hns rfl rfl) ?_
    refine RL.step (d := some 7) rfl rfl (xj_assignE rfl) ?_
    repeat refine AW.seq ?_
    refine AW.region ?_
    refine RL.step (d := some 31) rfl rfl (xj_moveE rfl) ?_
    refine RL.step (d := some 32) rfl rfl (xj_bin rfl rfl rfl) ?_
    repeat refine AW.seq ?_
    refine AW.cond rfl (fun hc32 => ?_) (fun hc32 => ?_)
    · repeat refine AW.seq ?_
      refine AW.region ?_
      refine RL.step (d := some 33) rfl rfl (xj_moveE rfl) ?_
      refine RL.step (d := some 2) rfl rfl (xj_assignE rfl) ?_
      repeat refine AW.seq ?_
      refine AW.ret ?_
      exact ⟨_, _, rfl, rfl, congrArg (PV.int .i64) (by have e : relE S k = namedE (S.rels.map (·.1)) k := (by unfold relE; rw [if_pos (inT hc32)]); unfold relsE; rw [scanE_at hs (by rw [e]; exact inT hc32) hlt, if_pos (by rw [e]; exact inT hc32), e])⟩
    · have hn0 : namedE (S.rels.map (·.1)) k = 0 := inF hc32
      have hre : relE S k = if S.rels[k].2 = [] then 7 else if (S.rels[k].2.all fun a => decide (0 ≤ a) && decide (a < S.attrs.length)) = false then 2 else if ascB S.rels[k].2 = false then 10 else 0 := by unfold relE; rw [if_neg (by simp [hn0]), hgd]
      have hfin : ∀ e : Int, e ≠ 0 → relE S k = e → PV.int .i64 e = .int .i64 (relsE S) := fun e h0 h1 => congrArg (PV.int .i64) (by unfold relsE; rw [scanE_at hs (by rw [h1]; exact h0) hlt, if_pos (by rw [h1]; exact h0), h1])
      refine AW.skip ?_
      repeat refine AW.seq ?_
      refine AW.region ?_
      first | refine RL.step (d := some 34) rfl rfl (xj_fieldAddr fo40_1 rfl rfl) ?_ | refine RL.step (d := some 34) rfl rfl (xj_fieldAddrR fo40_1 rfl) ?_
      first | refine RL.step (d := some 35) rfl rfl (xj_load1 ⟨_, Try.underlying22, rfl⟩ rfl rfl rfl) ?_ | refine RL.step (d := some 35) rfl rfl (xj_load1P ⟨_, Try.underlying22, rfl⟩ rfl rfl (by first | rfl | assumption)) ?_ | refine RL.step (d := some 35) rfl rfl (xj_loadR ⟨_, Try.underlying22, rfl⟩ rfl (by first | rfl | assumption)) ?_
      first | refine RL.step (d := some 36) rfl rfl (xj_len Try.underlying22 rfl) ?_ | refine RL.step (d := some 36) rfl rfl (xj_lenO Try.underlying22 rfl rfl) ?_ | refine RL.step (d := some 36) rfl rfl (xj_lenG Try.underlying22 rfl) ?_
      refine RL.step (d := some 37) rfl rfl (xj_bin rfl rfl rfl) ?_
      repeat refine AW.seq ?_
      refine AW.cond rfl (fun hc37 => ?_) (fun hc37 => ?_)
      · repeat refine AW.seq ?_
        refine AW.region ?_
        refine RL.step (d := some 2) rfl rfl (xj_assignE rfl) ?_
        repeat refine AW.seq ?_
        refine AW.ret ?_
        exact ⟨_, _, rfl, rfl, hfin 7 (by decide) (by rw [hre, if_pos (by have := ibT hc37; apply List.eq_nil_of_length_eq_zero; omega)])⟩
      · have hl0 : ¬ S.rels[k].2 = [] := fun e => by rw [e] at hc37; simp at hc37
        refine AW.skip ?_
        repeat refine AW.seq ?_
        refine AW.region ?_
        first | refine RL.step (d := some 38) rfl rfl (xj_fieldAddr fo40_1 rfl rfl) ?_ | refine RL.step (d := some 38) rfl rfl (xj_fieldAddrR fo40_1 rfl) ?_
        first | refine RL.step (d := some 39) rfl rfl (xj_load1 ⟨_, Try.underlying22, rfl⟩ rfl rfl rfl) ?_ | refine RL.step (d := some 39) rfl rfl (xj_load1P ⟨_, Try.underlying22, rfl⟩ rfl rfl (by first | rfl | assumption)) ?_ | refine RL.step (d := some 39) rfl rfl (xj_loadR ⟨_, Try.underlying22, rfl⟩ rfl (by first | rfl | assumption)) ?_
        first | refine RL.step (d := some 40) rfl rfl (xj_len Try.underlying22 rfl) ?_ | refine RL.step (d := some 40) rfl rfl (xj_lenO Try.underlying22 rfl rfl) ?_ | refine RL.step (d := some 40) rfl rfl (xj_lenG Try.underlying22 rfl) ?_
        refine RL.step (d := some 41) rfl rfl (xj_moveE rfl) ?_
        repeat refine AW.seq ?_
        refine AW.block ?_
        repeat refine AW.seq ?_
        refine AW.loop (st := fun x_1 : Nat × List Bool => mkS [(3, .gsl 5 1 (L.length + 1)), (4, .osl 2 1 S.attrs.length), (6, .ptr 3 0), (16, .pv (.sl none S.rels.length (relsC S.rels))), (17, .pv (.int .i64 S.rels.length)), (18, .pv (.int .i64 k)), (39, .pv (pints S.rels[k].2)), (40, .pv (.int .i64 S.rels[k].2.length)), (41, .pv (.int .i64 x_1.1))] [(2, .cells 4 (boolsP x_1.2)), (3, .mix 40 [.pv (.str S.rels[k].1), .pv (pints S.rels[k].2)]), (5, .gro 9 (strsP L ++ [.str S.rels[k].1]))] 6)
          (I := fun x_1 => x_1.1 ≤ S.rels[k].2.length ∧ UsedIs S.attrs.length x_1.2 (fun a => ((S.rels.take k).any fun r => inB r.2 a) || inB (S.rels[k].2.take x_1.1) a) ∧ ∀ a ∈ S.rels[k].2.take x_1.1, 0 ≤ a ∧ a < S.attrs.length) (μ := fun x_1 => S.rels[k].2.length - x_1.1) (x0 := (0, U)) (St.le_mk ⟨rfl, rfl, rfl, rfl, rfl, rfl, rfl, rfl, rfl, trivial⟩ ⟨rfl, rfl, rfl, trivial⟩ rfl rfl) (⟨Nat.zero_le _, hU.congr (fun a _ => by simp [inB]), by simp⟩) ?_
        rintro ⟨q, U2⟩ ⟨hq, hU2, hr⟩
        try simp only at hq hU2 hr ⊢
        repeat refine AW.seq ?_
        refine AW.region ?_
        refine RL.step (d := some 42) rfl rfl (xj_bin rfl rfl rfl) ?_
        repeat refine AW.seq ?_
        refine AW.condP rfl (fun hc42 => ?_) (fun hc42 => ?_)
        · have hql : q < S.rels[k].2.length := by omega
          have hv := pints_at hql
          have hne2 := pints_ne hql
          have hul2 := hU2.1
          refine AW.skip ?_
          repeat refine AW.seq ?_
          refine AW.block ?_
          repeat refine AW.seq ?_
          refine AW.region ?_
          first | refine RL.step (d := some 43) rfl rfl (xj_indexAddr _ Try.underlying22 sz3 rfl rfl rfl (by omega) (by assumption)) ?_ | refine RL.step (d := some 43) rfl rfl (xj_indexAddrO _ Try.underlying22 sz3 rfl rfl rfl rfl (by omega)) ?_
          first | refine RL.step (d := some 44) rfl rfl (xj_load1 ⟨_, Try.underlying3, rfl⟩ rfl rfl rfl) ?_ | refine RL.step (d := some 44) rfl rfl (xj_load1P ⟨_, Try.underlying3, rfl⟩ rfl rfl (by first | rfl | assumption)) ?_ | refine RL.step (d := some 44) rfl rfl (xj_loadR ⟨_, Try.underlying3, rfl⟩ rfl (by first | rfl | assumption)) ?_
          refine RL.step (d := some 9) rfl rfl (xj_assignE rfl) ?_
          repeat refine AW.seq ?_
          refine AW.region ?_
          refine RL.step (d := some 45) rfl rfl (xj_moveE rfl) ?_
          refine RL.step (d := some 46) rfl rfl (xj_bin rfl rfl rfl) ?_
          refine RL.step (d := some 47) rfl rfl (xj_moveE rfl) ?_
          apply RL.orB 5 47 52 [48, 49, 50, 51] rfl (by first | exact MonoK.le | exact MonoK.aw | exact MonoK.back)
          · intro hb2
            refine RL.skipG rfl rfl rfl ?_
            refine RL.skipG rfl rfl rfl ?_
            refine RL.skipG rfl rfl rfl ?_
            refine RL.skipG rfl rfl rfl ?_
            refine RL.step (d := some 52) rfl rfl (xj_pick rfl) ?_
            exact St.le_fg (fEq.upd (fEq.upd (fEq.upd (fEq.upd (fEq.upd (fEq.upd (fEq.refl) rfl) rfl) rfl) rfl) rfl) rfl) rfl rfl rfl
          · intro hb2
            refine RL.stepG (d := some 48) rfl rfl rfl (xj_moveE rfl) ?_
            refine RL.stepG (d := some 49) rfl rfl rfl (xj_moveE rfl) ?_
            first | refine RL.stepG (d := some 50) rfl rfl rfl (xj_len Try.underlying100 rfl) ?_ | refine RL.stepG (d := some 50) rfl rfl rfl (xj_lenO Try.underlying100 rfl rfl) ?_ | refine RL.stepG (d := some 50) rfl rfl rfl (xj_lenG Try.underlying100 rfl) ?_
            refine RL.stepG (d := some 51) rfl rfl rfl (xj_bin rfl rfl rfl) ?_
            refine RL.step (d := some 52) rfl rfl (xj_pick rfl) ?_
            exact St.le_fg (fEq.upd (fEq.upd (fEq.upd (fEq.upd (fEq.upd (fEq.upd (fEq.refl) rfl) rfl) rfl) rfl) rfl) rfl) rfl rfl rfl
          repeat refine AW.seq ?_
          refine AW.cond rfl (fun hc52 => ?_) (fun hc52 => ?_)
          · repeat refine AW.seq ?_
            refine AW.region ?_
            refine RL.step (d := some 2) rfl rfl (xj_assignE rfl) ?_
            repeat refine AW.seq ?_
            refine AW.ret ?_
            exact ⟨_, _, rfl, rfl, hfin 2 (by decide) (by rw [hre, if_neg hl0, if_pos (rng_no hql (by simp at hc52; omega))])⟩
          · have hx : 0 ≤ S.rels[k].2[q] ∧ S.rels[k].2[q] < S.attrs.length := by simp only [Bool.or_eq_false_iff, decide_eq_false_iff_not] at hc52; omega
            obtain ⟨j, hj⟩ := Int.eq_ofNat_of_zero_le hx.1
            refine AW.skip ?_
            repeat refine AW.seq ?_
            refine AW.region ?_
            refine RL.step (d := some 53) rfl rfl (xj_moveE rfl) ?_
            refine RL.step (d := some 54) rfl rfl (xj_moveE rfl) ?_
            refine RL.step (d := some 55) rfl rfl (xj_indexAddrO j Try.underlying100 sz4 rfl rfl rfl hj (by omega)) ?_
            first | refine RL.step (d := none) rfl rfl (xj_store sz4 rfl rfl rfl rfl (by first | (simp; done) | exact Nat.le_of_ble_eq_true rfl) rfl rfl) ?_ | refine RL.step (d := none) rfl rfl (xj_storeP sz4 rfl rfl rfl rfl (by simp; omega)) ?_
            repeat refine AW.seq ?_
            refine AW.region ?_
            refine RL.step (d := some 56) rfl rfl (xj_add rfl rfl (by omega)) ?_
            refine RL.step (d := some 41) rfl rfl (xj_moveE rfl) ?_
            exact ⟨(q + 1, U2.set j true), St.le_mk ⟨rfl, rfl, rfl, rfl, rfl, rfl, rfl, rfl, rfl, trivial⟩ ⟨by show some (Ob.cells _ _) = _; rw [← bools_set]; simp; rfl, rfl, rfl, trivial⟩ rfl rfl, ⟨by simp only; omega, (hU2.set (a := j) (by omega)).congr (fun a _ => used_next hql hj), rng_next hql hr hx⟩, by simp only; omega⟩
        · have hrng : (S.rels[k].2.all fun a => decide (0 ≤ a) && decide (a < S.attrs.length)) = true := rng_yes (fun a ha => hr a (by rw [List.take_of_length_le (by omega)]; exact ha))
          repeat refine AW.seq ?_
          refine AW.exit ?_
          repeat refine AW.seq ?_
          refine AW.region ?_
          refine RL.step (d := some 10) rfl rfl (xj_assignE rfl) ?_
          repeat refine AW.seq ?_
          refine AW.block ?_
          repeat refine AW.seq ?_
          refine AW.loop (st := fun x_2 : Nat => mkS [(3, .gsl 5 1 (L.length + 1)), (4, .osl 2 1 S.attrs.length), (6, .ptr 3 0), (10, .pv (.int .i64 x_2)), (16, .pv (.sl none S.rels.length (relsC S.rels))), (17, .pv (.int .i64 S.rels.length)), (18, .pv (.int .i64 k))] [(2, .cells 4 (boolsP U2)), (3, .mix 40 [.pv (.str S.rels[k].1), .pv (pints S.rels[k].2)]), (5, .gro 9 (strsP L ++ [.str S.rels[k].1]))] 6)
            (I := fun x_2 => 1 ≤ x_2 ∧ ∀ i, i + 1 < x_2 → i + 1 < S.rels[k].2.length → S.rels[k].2.getD i 0 < S.rels[k].2.getD (i + 1) 0) (μ := fun x_2 => S.rels[k].2.length - x_2) (x0 := (1)) (St.le_mk ⟨rfl, rfl, rfl, rfl, rfl, rfl, rfl, trivial⟩ ⟨rfl, rfl, rfl, trivial⟩ rfl rfl) (⟨Nat.le_refl _, fun i hi => by omega⟩) ?_
          rintro p ⟨hp1, hasc⟩
          repeat refine AW.seq ?_
          refine AW.region ?_
          refine RL.step (d := some 57) rfl rfl (xj_moveE rfl) ?_
          first | refine RL.step (d := some 58) rfl rfl (xj_fieldAddr fo40_1 rfl rfl) ?_ | refine RL.step (d := some 58) rfl rfl (xj_fieldAddrR fo40_1 rfl) ?_
          first | refine RL.step (d := some 59) rfl rfl (xj_load1 ⟨_, Try.underlying22, rfl⟩ rfl rfl rfl) ?_ | refine RL.step (d := some 59) rfl rfl (xj_load1P ⟨_, Try.underlying22, rfl⟩ rfl rfl (by first | rfl | assumption)) ?_ | refine RL.step (d := some 59) rfl rfl (xj_loadR ⟨_, Try.underlying22, rfl⟩ rfl (by first | rfl | assumption)) ?_
          first | refine RL.step (d := some 60) rfl rfl (xj_len Try.underlying22 rfl) ?_ | refine RL.step (d := some 60) rfl rfl (xj_lenO Try.underlying22 rfl rfl) ?_ | refine RL.step (d := some 60) rfl rfl (xj_lenG Try.underlying22 rfl) ?_
          refine RL.step (d := some 61) rfl rfl (xj_bin rfl rfl rfl) ?_
          repeat refine AW.seq ?_
          refine AW.condP rfl (fun hc61 => ?_) (fun hc61 => ?_)
          · have hpl : p < S.rels[k].2.length := by omega
            have hpl1 : p - 1 < S.rels[k].2.length := by omega
            have hv := pints_at hpl
            have hv1 := pints_at hpl1
            have hne2 := pints_ne hpl
            refine AW.skip ?_
            repeat refine AW.seq ?_
            refine AW.block ?_
            repeat refine AW.seq ?_
            refine AW.draw follows [[], [0], [], [2, 1, 0], [3, 2, 1, 0], [], [5], [], [7], [8, 6, 5, 7], [9, 8, 6, 5, 7], [10, 4, 3, 2, 1, 0, 9, 8, 6, 5, 7]] [0, 1, 2, 3, 4, 5, 6, 7, 8, 9, 10, 11] (by kernel_rfl) (by kernel_rfl) ?_
            first | refine DL.step (d := some 64) [_] rfl rfl rfl (fun τ h => xj_fieldAddr fo40_1 ((h.e 0 _ rfl).trans rfl) ((h.o 0 _ rfl).trans rfl)) rfl (by kernel_rfl) ?_ | refine DL.step (d := some 64) [] rfl rfl rfl (fun τ h => xj_fieldAddrR fo40_1 ((h.e 0 _ rfl).trans rfl)) rfl (by kernel_rfl) ?_
            first | refine DL.step (d := some 65) [_] rfl rfl rfl (fun τ h => xj_load1 ⟨_, Try.underlying22, rfl⟩ ((h.e 0 _ rfl).trans rfl) ((h.o 0 _ rfl).trans rfl) rfl) rfl (by kernel_rfl) ?_ | refine DL.step (d := some 65) [_] rfl rfl rfl (fun τ h => xj_load1P ⟨_, Try.underlying22, rfl⟩ ((h.e 0 _ rfl).trans rfl) ((h.o 0 _ rfl).trans rfl) (by first | rfl | assumption)) rfl (by kernel_rfl) ?_ | refine DL.step (d := some 65) [] rfl rfl rfl (fun τ h => xj_loadR ⟨_, Try.underlying22, rfl⟩ ((h.e 0 _ rfl).trans rfl) (by first | rfl | assumption)) rfl (by kernel_rfl) ?_
            refine DL.step (d := some 66) [] rfl rfl rfl (fun τ h => xj_moveE ((h.e 0 _ rfl).trans rfl)) rfl (by kernel_rfl) ?_
            first | refine DL.step (d := some 67) [] rfl rfl rfl (fun τ h => xj_indexAddr _ Try.underlying22 sz3 ((h.e 0 _ rfl).trans rfl) ((h.e 1 _ rfl).trans rfl) rfl (by omega) (by assumption)) rfl (by kernel_rfl) ?_ | refine DL.step (d := some 67) [_] rfl rfl rfl (fun τ h => xj_indexAddrO _ Try.underlying22 sz3 ((h.e 0 _ rfl).trans rfl) ((h.o 0 _ rfl).trans rfl) ((h.e 1 _ rfl).trans rfl) rfl (by omega)) rfl (by kernel_rfl) ?_
            first | refine DL.step (d := some 68) [_] rfl rfl rfl (fun τ h => xj_load1 ⟨_, Try.underlying3, rfl⟩ ((h.e 0 _ rfl).trans rfl) ((h.o 0 _ rfl).trans rfl) rfl) rfl (by kernel_rfl) ?_ | refine DL.step (d := some 68) [_] rfl rfl rfl (fun τ h => xj_load1P ⟨_, Try.underlying3, rfl⟩ ((h.e 0 _ rfl).trans rfl) ((h.o 0 _ rfl).trans rfl) (by first | rfl | assumption)) rfl (by kernel_rfl) ?_ | refine DL.step (d := some 68) [] rfl rfl rfl (fun τ h => xj_loadR ⟨_, Try.underlying3, rfl⟩ ((h.e 0 _ rfl).trans rfl) (by first | rfl | assumption)) rfl (by kernel_rfl) ?_
            first | refine DL.step (d := some 69) [_] rfl rfl rfl (fun τ h => xj_fieldAddr fo40_1 ((h.e 0 _ rfl).trans rfl) ((h.o 0 _ rfl).trans rfl)) rfl (by kernel_rfl) ?_ | refine DL.step (d := some 69) [] rfl rfl rfl (fun τ h => xj_fieldAddrR fo40_1 ((h.e 0 _ rfl).trans rfl)) rfl (by kernel_rfl) ?_
            first | refine DL.step (d := some 70) [_] rfl rfl rfl (fun τ h => xj_load1 ⟨_, Try.underlying22, rfl⟩ ((h.e 0 _ rfl).trans rfl) ((h.o 0 _ rfl).trans rfl) rfl) rfl (by kernel_rfl) ?_ | refine DL.step (d := some 70) [_] rfl rfl rfl (fun τ h => xj_load1P ⟨_, Try.underlying22, rfl⟩ ((h.e 0 _ rfl).trans rfl) ((h.o 0 _ rfl).trans rfl) (by first | rfl | assumption)) rfl (by kernel_rfl) ?_ | refine DL.step (d := some 70) [] rfl rfl rfl (fun τ h => xj_loadR ⟨_, Try.underlying22, rfl⟩ ((h.e 0 _ rfl).trans rfl) (by first | rfl | assumption)) rfl (by kernel_rfl) ?_
            refine DL.step (d := some 71) [] rfl rfl rfl (fun τ h => xj_moveE ((h.e 0 _ rfl).trans rfl)) rfl (by kernel_rfl) ?_
            refine DL.step (d := some 72) [] rfl rfl rfl (fun τ h => xj_sub ((h.e 0 _ rfl).trans rfl) ((h.e 1 _ rfl).trans rfl) (by omega)) rfl (by kernel_rfl) ?_
            refine DL.step (d := some 73) [] rfl rfl rfl (fun τ h => xj_indexAddr (p - 1) Try.underlying22 sz3 ((h.e 0 _ rfl).trans rfl) ((h.e 1 _ rfl).trans rfl) (by omega) (by omega) hne2) rfl (by kernel_rfl) ?_
            first | refine DL.step (d := some 74) [_] rfl rfl rfl (fun τ h => xj_load1 ⟨_, Try.underlying3, rfl⟩ ((h.e 0 _ rfl).trans rfl) ((h.o 0 _ rfl).trans rfl) rfl) rfl (by kernel_rfl) ?_ | refine DL.step (d := some 74) [_] rfl rfl rfl (fun τ h => xj_load1P ⟨_, Try.underlying3, rfl⟩ ((h.e 0 _ rfl).trans rfl) ((h.o 0 _ rfl).trans rfl) (by first | rfl | assumption)) rfl (by kernel_rfl) ?_ | refine DL.step (d := some 74) [] rfl rfl rfl (fun τ h => xj_loadR ⟨_, Try.underlying3, rfl⟩ ((h.e 0 _ rfl).trans rfl) (by first | rfl | assumption)) rfl (by kernel_rfl) ?_
            refine DL.step (d := some 75) [] rfl rfl rfl (fun τ h => xj_bin ((h.e 0 _ rfl).trans rfl) ((h.e 1 _ rfl).trans rfl) rfl) rfl (by kernel_rfl) ?_
            refine ⟨by kernel_rfl, ?_⟩
            repeat refine AW.seq ?_
            refine AW.condP rfl (fun hc75 => ?_) (fun hc75 => ?_)
            · repeat refine AW.seq ?_
              refine AW.region ?_
              refine RL.step (d := some 2) rfl rfl (xj_assignE rfl) ?_
              repeat refine AW.seq ?_
              refine AW.ret ?_
              exact ⟨_, _, rfl, rfl, hfin 10 (by decide) (by rw [hre, if_neg hl0, if_neg (by rw [hrng]; decide), if_pos (asc_no hp1 hpl hc75)])⟩
            · refine AW.skip ?_
              repeat refine AW.seq ?_
              refine AW.region ?_
              refine RL.step (d := some 62) rfl rfl (xj_moveE rfl) ?_
              refine RL.step (d := some 63) rfl rfl (xj_add rfl rfl (by omega)) ?_
              refine RL.step (d := some 10) rfl rfl (xj_assignE rfl) ?_
              exact ⟨(p + 1), St.le_mk ⟨rfl, rfl, rfl, rfl, rfl, rfl, rfl, trivial⟩ ⟨rfl, rfl, rfl, trivial⟩ rfl rfl, ⟨by omega, asc_next hpl hp1 hasc (by omega)⟩, by omega⟩
          · repeat refine AW.seq ?_
            refine AW.exit ?_
            repeat refine AW.seq ?_
            refine AW.region ?_
            refine RL.step (d := some 76) rfl rfl (xj_add rfl rfl (by omega)) ?_
            refine RL.step (d := some 18) rfl rfl (xj_moveE rfl) ?_
            exact ⟨(k + 1, L ++ [S.rels[k].1], U2), St.le_mkR [0, 5, 2] ⟨by simp; rfl, rfl, rfl, rfl, rfl, trivial⟩ ⟨congrArg (fun c => some (Ob.gro 9 c)) (strs_snoc L S.rels[k].1).symm, rfl, trivial⟩ rfl rfl (by decide) rfl, ⟨by simp only; omega, htk, hU2.congr (fun a _ => used_rel hlt (by omega)), by simp only; rw [scanE_succ hs, hre, if_neg hl0, if_neg (by rw [hrng]; decide), if_neg (by rw [asc_yes (fun i hi => hasc i (by omega) hi)]; decide)]⟩, by simp only; omega⟩
  · have hfull : ((List.range S.attrs.length).all fun a => (S.rels.take k).any fun r => inB r.2 a) = ((List.range S.attrs.length).all fun a => usedB S a) := by rw [List.take_of_length_le (by omega)]; rfl
    repeat refine AW.seq ?_
    refine AW.exit ?_
    repeat refine AW.seq ?_
    refine AW.region ?_
    refine RL.step (d := some 77) rfl rfl (xj_moveE rfl) ?_
    refine RL.step (d := some 78) rfl rfl (xj_callF Try.call64 (containsB_spec U false (by have := hU.1; omega)) (by rw [pbools, hU.1]; rfl) rfl) ?_
    repeat refine AW.seq ?_
    refine AW.cond rfl (fun hc78 => ?_) (fun hc78 => ?_)
    · repeat refine AW.seq ?_
      refine AW.region ?_
      refine RL.step (d := some 2) rfl rfl (xj_assignE rfl) ?_
      repeat refine AW.seq ?_
      refine AW.ret ?_
      exact ⟨_, _, rfl, rfl, congrArg (PV.int .i64) (by unfold relsE; rw [show S.rels.length = k by omega, if_neg (by simp [hs]), if_pos (by rw [← hfull]; rw [hU.mem] at hc78; simpa using hc78)])⟩
    · refine AW.skip ?_
      repeat refine AW.seq ?_
      refine AW.region ?_
      refine RL.step (d := some 2) rfl rfl (xj_assignE rfl) ?_
      repeat refine AW.seq ?_
      refine AW.ret ?_
      exact ⟨_, _, rfl, rfl, congrArg (PV.int .i64) (by unfold relsE; rw [show S.rels.length = k by omega, if_neg (by simp [hs]), if_neg (by rw [← hfull]; rw [hU.mem] at hc78; simpa using hc78)])⟩

end Go.Proofs.Ytkalgjnhaicabaa
