/-
  outline.New, component, components, in our step logic. No statement of the program is proved here.
-/
import Derived.Test.YtkalgjnhaicabaaB1
import Derived.Test.YtkalgjnhaicabaaGr
namespace Go.Proofs.Ytkalgjnhaicabaa
open Go.RowKit Mk
set_option maxRecDepth 100000
set_option maxHeartbeats 1000000

theorem getD_eq {α : Type} {l : List α} {k : Nat} (h : k < l.length) (d : α) : l.getD k d = l[k] := by simp [List.getD, h]
/-- A graph under way. -/
def GInv (n : Nat) (G : List B64) (p : Nat → Nat → Bool) : Prop := G.length = n ∧ ∀ a, a < n → ∀ b : Nat, (G.getD a 0#64).getLsbD b = p a b
theorem GInv.zero (n : Nat) : GInv n (List.replicate n 0#64) (fun _ _ => false) := ⟨by simp, fun a ha b => by simp [List.getD, ha]⟩
theorem GInv.congr {n : Nat} {G : List B64} {p q : Nat → Nat → Bool} (h : GInv n G p) (e : ∀ a, a < n → ∀ b, p a b = q a b) : GInv n G q := ⟨h.1, fun a ha b => by rw [h.2 a ha b, e a ha b]⟩
theorem GInv.or {n : Nat} {G : List B64} {p : Nat → Nat → Bool} (h : GInv n G p) {i : Nat} (hi : i < n) (x : B64) : GInv n (G.set i (G[i]'(by rw [h.1]; exact hi) ||| x)) (fun a b => p a b || (decide (a = i) && x.getLsbD b)) := by
  refine ⟨by simp [h.1], fun a ha b => ?_⟩
  have hl : i < G.length := by rw [h.1]; exact hi
  by_cases e : a = i
  · subst e
    have := h.2 a ha b
    rw [getD_eq hl] at this
    simp [List.getD, hl, BitVec.getLsbD_or, this]
  · have := h.2 a ha b
    simp only [List.getD] at this ⊢
    rw [List.getElem?_set_ne (fun e' => e e'.symm), this]; simp [e]
def linkA (rs : List (ByteArray × List Int)) (a b : Nat) : Bool := rs.any fun r => decide ((a : Int) ∈ r.2) && decide ((b : Int) ∈ r.2)
theorem mem_take_succ {l : List Int} {q i : Nat} (hq : q < l.length) (hi : l[q] = (i : Int)) (a : Nat) : (a : Int) ∈ l.take (q + 1) ↔ (a : Int) ∈ l.take q ∨ a = i := by
  rw [take_snoc hq, List.mem_append, List.mem_singleton, hi]
  exact or_congr Iff.rfl ⟨fun h => by omega, fun h => by rw [h]⟩
theorem new_next {rs : List (ByteArray × List Int)} {l : List Int} {q i a b : Nat} {all : B64} (hq : q < l.length) (hi : l[q] = (i : Int)) (hall : ∀ b : Nat, all.getLsbD b = decide ((b : Int) ∈ l)) :
    ((decide (a ≠ b) && (linkA rs a b || (decide ((a : Int) ∈ l.take q) && decide ((b : Int) ∈ l)))) || (decide (a = i) && (all &&& ~~~(BitVec.twoPow 64 i)).getLsbD b)) =
    (decide (a ≠ b) && (linkA rs a b || (decide ((a : Int) ∈ l.take (q + 1)) && decide ((b : Int) ∈ l)))) := by
  have hm : decide ((a : Int) ∈ l.take (q + 1)) = (decide ((a : Int) ∈ l.take q) || decide (a = i)) := by
    rw [Bool.eq_iff_iff, Bool.or_eq_true, decide_eq_true_iff, decide_eq_true_iff, decide_eq_true_iff, mem_take_succ hq hi]
  rw [hm, BitVec.getLsbD_and, BitVec.getLsbD_not, BitVec.getLsbD_twoPow, hall]
  by_cases hb : (b : Int) ∈ l
  · have hb64 : b < 64 := bits_lt (x := all) (by rw [hall]; simpa using hb)
    by_cases e : a = i
    · subst e
      by_cases e2 : a = b
      · subst e2; simp [hb64]
      · simp [e2, hb, hb64]
    · simp [e]
  · simp [hb]
theorem linkA_succ {rs : List (ByteArray × List Int)} {k a b : Nat} (hk : k < rs.length) : linkA (rs.take (k + 1)) a b = (linkA (rs.take k) a b || (decide ((a : Int) ∈ rs[k].2) && decide ((b : Int) ∈ rs[k].2))) := by
  unfold linkA
  rw [take_snoc hk]; simp only [List.any_append, List.any_cons, List.any_nil, Bool.or_false]

theorem ounew_spec (S : Sch) (hS : SB S) (hV : Valid S) : FnP Try.prog 48 [schP S] (fun v => ∃ G, v = psets G ∧ IsG S G) := by
  refine FnP.of Try.func48 rfl Try.ntmps48 (by simp) fun m0 w0 F R0 => ?_
  have hb := hV.n2
  have hb2 := hV.r2
  repeat refine AW.seq ?_
  refine AW.region ?_
  refine RL.step (d := some 1) rfl rfl (xj_box 0 rfl rfl rfl (by rintro _ _ ⟨⟩) (by rintro _ _ _ ⟨⟩) (by rintro _ ⟨⟩)) ?_
  refine RL.step (d := some 2) rfl rfl (xj_assignE rfl) ?_
  repeat refine AW.seq ?_
  refine AW.region ?_
  first | refine RL.step (d := some 11) rfl rfl (xj_fieldAddr fo30_0 rfl rfl) ?_ | refine RL.step (d := some 11) rfl rfl (xj_fieldAddrR fo30_0 rfl) ?_
  first | refine RL.step (d := some 12) rfl rfl (xj_load1 ⟨_, Try.underlying26, rfl⟩ rfl rfl rfl) ?_ | refine RL.step (d := some 12) rfl rfl (xj_load1P ⟨_, Try.underlying26, rfl⟩ rfl rfl (by first | rfl | assumption)) ?_ | refine RL.step (d := some 12) rfl rfl (xj_loadR ⟨_, Try.underlying26, rfl⟩ rfl (by first | rfl | assumption)) ?_
  first | refine RL.step (d := some 13) rfl rfl (xj_len Try.underlying26 rfl) ?_ | refine RL.step (d := some 13) rfl rfl (xj_lenO Try.underlying26 rfl rfl) ?_ | refine RL.step (d := some 13) rfl rfl (xj_lenG Try.underlying26 rfl) ?_
  refine RL.step (d := some 14) rfl rfl (xj_make 1 _ el80 rfl rfl rfl rfl rfl (by omega) rfl) ?_
  refine RL.step (d := some 3) rfl rfl (xj_assignE rfl) ?_
  repeat refine AW.seq ?_
  refine AW.region ?_
  first | refine RL.step (d := some 15) rfl rfl (xj_fieldAddr fo30_1 rfl rfl) ?_ | refine RL.step (d := some 15) rfl rfl (xj_fieldAddrR fo30_1 rfl) ?_
  first | refine RL.step (d := some 16) rfl rfl (xj_load1 ⟨_, Try.underlying27, rfl⟩ rfl rfl rfl) ?_ | refine RL.step (d := some 16) rfl rfl (xj_load1P ⟨_, Try.underlying27, rfl⟩ rfl rfl (by first | rfl | assumption)) ?_ | refine RL.step (d := some 16) rfl rfl (xj_loadR ⟨_, Try.underlying27, rfl⟩ rfl (by first | rfl | assumption)) ?_
  first | refine RL.step (d := some 17) rfl rfl (xj_len Try.underlying27 rfl) ?_ | refine RL.step (d := some 17) rfl rfl (xj_lenO Try.underlying27 rfl rfl) ?_ | refine RL.step (d := some 17) rfl rfl (xj_lenG Try.underlying27 rfl) ?_
  refine RL.step (d := some 18) rfl rfl (xj_moveE rfl) ?_
  repeat refine AW.seq ?_
  refine AW.block ?_
  repeat refine AW.seq ?_
  refine AW.loop (st := fun x_0 : Nat × List B64 => mkS [(3, .osl 1 1 S.attrs.length), (16, .pv (.sl none S.rels.length (relsC S.rels))), (17, .pv (.int .i64 S.rels.length)), (18, .pv (.int .i64 x_0.1))] [(1, .cells 84 (setsP x_0.2))] 2)
    (I := fun x_0 => x_0.1 ≤ S.rels.length ∧ GInv S.attrs.length x_0.2 (fun a b => decide (a ≠ b) && linkA (S.rels.take x_0.1) a b)) (μ := fun x_0 => S.rels.length - x_0.1) (x0 := (0, List.replicate S.attrs.length 0#64)) (St.le_mk ⟨rfl, rfl, rfl, rfl, trivial⟩ ⟨congrArg (fun c => some (Ob.cells 84 c)) ((mkZ_one (.int .u64 0) (S.attrs.length * 1)).trans (by simp)), trivial⟩ rfl rfl) (⟨Nat.zero_le _, (GInv.zero _).congr (fun a _ b => by simp [linkA])⟩) ?_
  rintro ⟨k, G⟩ ⟨hk, hG⟩
  try simp only at hk hG ⊢
  repeat refine AW.seq ?_
  refine AW.region ?_
  refine RL.step (d := some 19) rfl rfl (xj_bin rfl rfl rfl) ?_
  repeat refine AW.seq ?_
  refine AW.condP rfl (fun hc19 => ?_) (fun hc19 => ?_)
  · have hlt : k < S.rels.length := by omega
    have hrow := rel_row hlt
    have hne := rel_ne hlt
    have hll := hS.rl _ (List.getElem_mem hlt)
    have hrng := hV.rng _ (List.getElem_mem hlt)
    refine AW.skip ?_
    repeat refine AW.seq ?_
    refine AW.block ?_
    repeat refine AW.seq ?_
    refine AW.region ?_
    first | refine RL.step (d := some 20) rfl rfl (xj_indexAddr _ Try.underlying27 sz40 rfl rfl rfl (by omega) (by assumption)) ?_ | refine RL.step (d := some 20) rfl rfl (xj_indexAddrO _ Try.underlying27 sz40 rfl rfl rfl rfl (by omega)) ?_
    refine RL.step (d := some 21) rfl rfl (xj_loadAR ⟨_, Try.underlying40, rfl⟩ sz40 rfl hrow rfl) ?_
    refine RL.step (d := some 5) rfl rfl (xj_alloc 2 zero40 rfl rfl) ?_
    first | refine RL.step (d := none) rfl rfl (xj_store sz40 rfl rfl rfl rfl (by first | (simp; done) | exact Nat.le_of_ble_eq_true rfl) rfl rfl) ?_ | refine RL.step (d := none) rfl rfl (xj_storeP sz40 rfl rfl rfl rfl (by simp; omega)) ?_
    repeat refine AW.seq ?_
    refine AW.region ?_
    refine RL.step (d := some 6) rfl rfl (xj_assignE rfl) ?_
    repeat refine AW.seq ?_
    refine AW.region ?_
    first | refine RL.step (d := some 22) rfl rfl (xj_fieldAddr fo40_1 rfl rfl) ?_ | refine RL.step (d := some 22) rfl rfl (xj_fieldAddrR fo40_1 rfl) ?_
    first | refine RL.step (d := some 23) rfl rfl (xj_load1 ⟨_, Try.underlying22, rfl⟩ rfl rfl rfl) ?_ | refine RL.step (d := some 23) rfl rfl (xj_load1P ⟨_, Try.underlying22, rfl⟩ rfl rfl (by first | rfl | assumption)) ?_ | refine RL.step (d := some 23) rfl rfl (xj_loadR ⟨_, Try.underlying22, rfl⟩ rfl (by first | rfl | assumption)) ?_
    first | refine RL.step (d := some 24) rfl rfl (xj_len Try.underlying22 rfl) ?_ | refine RL.step (d := some 24) rfl rfl (xj_lenO Try.underlying22 rfl rfl) ?_ | refine RL.step (d := some 24) rfl rfl (xj_lenG Try.underlying22 rfl) ?_
    refine RL.step (d := some 25) rfl rfl (xj_moveE rfl) ?_
    repeat refine AW.seq ?_
    refine AW.block ?_
    repeat refine AW.seq ?_
    refine AW.loop (st := fun x_1 : Nat × B64 => mkS [(3, .osl 1 1 S.attrs.length), (5, .ptr 2 0), (6, .pv (setP x_1.2)), (16, .pv (.sl none S.rels.length (relsC S.rels))), (17, .pv (.int .i64 S.rels.length)), (18, .pv (.int .i64 k)), (23, .pv (pints S.rels[k].2)), (24, .pv (.int .i64 S.rels[k].2.length)), (25, .pv (.int .i64 x_1.1))] [(1, .cells 84 (setsP G)), (2, .mix 40 [.pv (.str S.rels[k].1), .pv (pints S.rels[k].2)])] 3)
      (I := fun x_1 => x_1.1 ≤ S.rels[k].2.length ∧ ∀ b : Nat, x_1.2.getLsbD b = decide ((b : Int) ∈ S.rels[k].2.take x_1.1)) (μ := fun x_1 => S.rels[k].2.length - x_1.1) (x0 := (0, 0#64)) (St.le_mk ⟨rfl, rfl, rfl, rfl, rfl, rfl, rfl, rfl, rfl, trivial⟩ ⟨rfl, rfl, trivial⟩ rfl rfl) (⟨Nat.zero_le _, fun b => by simp⟩) ?_
    rintro ⟨q, all⟩ ⟨hq, hall⟩
    try simp only at hq hall ⊢
    repeat refine AW.seq ?_
    refine AW.region ?_
    refine RL.step (d := some 26) rfl rfl (xj_bin rfl rfl rfl) ?_
    repeat refine AW.seq ?_
    refine AW.condP rfl (fun hc26 => ?_) (fun hc26 => ?_)
    · have hql : q < S.rels[k].2.length := by omega
      have hv := pints_at hql
      have hne2 := pints_ne hql
      have hrq := hrng _ (List.getElem_mem hql)
      obtain ⟨i, hi⟩ := Int.eq_ofNat_of_zero_le hrq.1
      have hof : FnP Try.prog 52 [.int .i64 S.rels[k].2[q]] (· = setP (BitVec.twoPow 64 i)) := by rw [hi]; exact of_spec i (by omega)
      refine AW.skip ?_
      repeat refine AW.seq ?_
      refine AW.block ?_
      repeat refine AW.seq ?_
      refine AW.region ?_
      first | refine RL.step (d := some 27) rfl rfl (xj_indexAddr _ Try.underlying22 sz3 rfl rfl rfl (by omega) (by assumption)) ?_ | refine RL.step (d := some 27) rfl rfl (xj_indexAddrO _ Try.underlying22 sz3 rfl rfl rfl rfl (by omega)) ?_
      first | refine RL.step (d := some 28) rfl rfl (xj_load1 ⟨_, Try.underlying3, rfl⟩ rfl rfl rfl) ?_ | refine RL.step (d := some 28) rfl rfl (xj_load1P ⟨_, Try.underlying3, rfl⟩ rfl rfl (by first | rfl | assumption)) ?_ | refine RL.step (d := some 28) rfl rfl (xj_loadR ⟨_, Try.underlying3, rfl⟩ rfl (by first | rfl | assumption)) ?_
      refine RL.step (d := some 8) rfl rfl (xj_assignE rfl) ?_
      repeat refine AW.seq ?_
      refine AW.region ?_
      refine RL.step (d := some 29) rfl rfl (xj_moveE rfl) ?_
      refine RL.step (d := some 30) rfl rfl (xj_moveE rfl) ?_
      refine RL.step (d := some 31) rfl rfl (xj_call Try.call52 hof rfl) ?_
      refine RL.step (d := some 32) rfl rfl (xj_orV rfl rfl) ?_
      refine RL.step (d := some 6) rfl rfl (xj_assignE rfl) ?_
      repeat refine AW.seq ?_
      refine AW.region ?_
      refine RL.step (d := some 33) rfl rfl (xj_add rfl rfl (by omega)) ?_
      refine RL.step (d := some 25) rfl rfl (xj_moveE rfl) ?_
      exact ⟨(q + 1, all ||| BitVec.twoPow 64 i), St.le_mk ⟨rfl, rfl, rfl, rfl, rfl, rfl, rfl, rfl, rfl, trivial⟩ ⟨rfl, rfl, trivial⟩ rfl rfl, ⟨by simp only; omega, fun b => by simp only; rw [BitVec.getLsbD_or, hall, BitVec.getLsbD_twoPow, Bool.eq_iff_iff, Bool.or_eq_true, decide_eq_true_iff, decide_eq_true_iff, mem_take_succ hql hi, Bool.and_eq_true, decide_eq_true_iff, decide_eq_true_iff]; exact or_congr Iff.rfl ⟨fun h => h.2.symm, fun h => ⟨by omega, h.symm⟩⟩⟩, by simp only; omega⟩
    · rw [List.take_of_length_le (by omega)] at hall
      repeat refine AW.seq ?_
      refine AW.exit ?_
      repeat refine AW.seq ?_
      refine AW.region ?_
      first | refine RL.step (d := some 34) rfl rfl (xj_fieldAddr fo40_1 rfl rfl) ?_ | refine RL.step (d := some 34) rfl rfl (xj_fieldAddrR fo40_1 rfl) ?_
      first | refine RL.step (d := some 35) rfl rfl (xj_load1 ⟨_, Try.underlying22, rfl⟩ rfl rfl rfl) ?_ | refine RL.step (d := some 35) rfl rfl (xj_load1P ⟨_, Try.underlying22, rfl⟩ rfl rfl (by first | rfl | assumption)) ?_ | refine RL.step (d := some 35) rfl rfl (xj_loadR ⟨_, Try.underlying22, rfl⟩ rfl (by first | rfl | assumption)) ?_
      first | refine RL.step (d := some 36) rfl rfl (xj_len Try.underlying22 rfl) ?_ | refine RL.step (d := some 36) rfl rfl (xj_lenO Try.underlying22 rfl rfl) ?_ | refine RL.step (d := some 36) rfl rfl (xj_lenG Try.underlying22 rfl) ?_
      refine RL.step (d := some 37) rfl rfl (xj_moveE rfl) ?_
      repeat refine AW.seq ?_
      refine AW.block ?_
      repeat refine AW.seq ?_
      refine AW.loop (st := fun x_2 : Nat × List B64 => mkS [(3, .osl 1 1 S.attrs.length), (6, .pv (setP all)), (16, .pv (.sl none S.rels.length (relsC S.rels))), (17, .pv (.int .i64 S.rels.length)), (18, .pv (.int .i64 k)), (35, .pv (pints S.rels[k].2)), (36, .pv (.int .i64 S.rels[k].2.length)), (37, .pv (.int .i64 x_2.1))] [(1, .cells 84 (setsP x_2.2))] 3)
        (I := fun x_2 => x_2.1 ≤ S.rels[k].2.length ∧ GInv S.attrs.length x_2.2 (fun a b => decide (a ≠ b) && (linkA (S.rels.take k) a b || (decide ((a : Int) ∈ S.rels[k].2.take x_2.1) && decide ((b : Int) ∈ S.rels[k].2))))) (μ := fun x_2 => S.rels[k].2.length - x_2.1) (x0 := (0, G)) (St.le_mk ⟨rfl, rfl, rfl, rfl, rfl, rfl, rfl, rfl, trivial⟩ ⟨rfl, trivial⟩ rfl rfl) (⟨Nat.zero_le _, hG.congr (fun a _ b => by simp)⟩) ?_
      rintro ⟨q2, G2⟩ ⟨hq2, hG2⟩
      try simp only at hq2 hG2 ⊢
      repeat refine AW.seq ?_
      refine AW.region ?_
      refine RL.step (d := some 38) rfl rfl (xj_bin rfl rfl rfl) ?_
      repeat refine AW.seq ?_
      refine AW.condP rfl (fun hc38 => ?_) (fun hc38 => ?_)
      · have hql : q2 < S.rels[k].2.length := by omega
        have hv := pints_at hql
        have hne2 := pints_ne hql
        have hrq := hrng _ (List.getElem_mem hql)
        obtain ⟨i, hi⟩ := Int.eq_ofNat_of_zero_le hrq.1
        have hil : i < G2.length := by rw [hG2.1]; omega
        have hgl := hG2.1
        have hvi := psets_at hil
        have hof : FnP Try.prog 52 [.int .i64 S.rels[k].2[q2]] (· = setP (BitVec.twoPow 64 i)) := by rw [hi]; exact of_spec i (by omega)
        refine AW.skip ?_
        repeat refine AW.seq ?_
        refine AW.block ?_
        repeat refine AW.seq ?_
        refine AW.region ?_
        first | refine RL.step (d := some 39) rfl rfl (xj_indexAddr _ Try.underlying22 sz3 rfl rfl rfl (by omega) (by assumption)) ?_ | refine RL.step (d := some 39) rfl rfl (xj_indexAddrO _ Try.underlying22 sz3 rfl rfl rfl rfl (by omega)) ?_
        first | refine RL.step (d := some 40) rfl rfl (xj_load1 ⟨_, Try.underlying3, rfl⟩ rfl rfl rfl) ?_ | refine RL.step (d := some 40) rfl rfl (xj_load1P ⟨_, Try.underlying3, rfl⟩ rfl rfl (by first | rfl | assumption)) ?_ | refine RL.step (d := some 40) rfl rfl (xj_loadR ⟨_, Try.underlying3, rfl⟩ rfl (by first | rfl | assumption)) ?_
        refine RL.step (d := some 10) rfl rfl (xj_assignE rfl) ?_
        repeat refine AW.seq ?_
        refine AW.draw follows [[], [], [1, 0], [2, 1, 0], [], [], [5], [6, 4, 5], [7, 3, 2, 1, 0, 6, 4, 5], [8, 7, 6, 5, 4, 3, 2, 1, 0], [9, 8, 7, 6, 5, 4, 3, 2, 1, 0]] [0, 1, 2, 3, 4, 5, 6, 7, 8, 9, 10] (by kernel_rfl) (by kernel_rfl) ?_
        refine DL.step (d := some 41) [] rfl rfl rfl (fun τ h => xj_moveE ((h.e 0 _ rfl).trans rfl)) rfl (by kernel_rfl) ?_
        refine DL.step (d := some 42) [] rfl rfl rfl (fun τ h => xj_moveE ((h.e 0 _ rfl).trans rfl)) rfl (by kernel_rfl) ?_
        refine DL.step (d := some 43) [_] rfl rfl rfl (fun τ h => xj_indexAddrO i Try.underlying80 sz84 ((h.e 0 _ rfl).trans rfl) ((h.o 0 _ rfl).trans rfl) ((h.e 1 _ rfl).trans rfl) hi (by omega)) rfl (by kernel_rfl) ?_
        refine DL.step (d := some 44) [_] rfl rfl rfl (fun τ h => xj_load1P ⟨_, Try.underlying84, rfl⟩ ((h.e 0 _ rfl).trans rfl) ((h.o 0 _ rfl).trans rfl) hvi) rfl (by kernel_rfl) ?_
        refine DL.step (d := some 45) [] rfl rfl rfl (fun τ h => xj_moveE ((h.e 0 _ rfl).trans rfl)) rfl (by kernel_rfl) ?_
        refine DL.step (d := some 46) [] rfl rfl rfl (fun τ h => xj_moveE ((h.e 0 _ rfl).trans rfl)) rfl (by kernel_rfl) ?_
        refine DL.step (d := some 47) [] rfl rfl rfl (fun τ h => xj_call Try.call52 hof (h.argsP rfl)) rfl (by kernel_rfl) ?_
        refine DL.step (d := some 48) [] rfl rfl rfl (fun τ h => xj_andNotV ((h.e 0 _ rfl).trans rfl) ((h.e 1 _ rfl).trans rfl)) rfl (by kernel_rfl) ?_
        refine DL.step (d := some 49) [] rfl rfl rfl (fun τ h => xj_orV ((h.e 0 _ rfl).trans rfl) ((h.e 1 _ rfl).trans rfl)) rfl (by kernel_rfl) ?_
        refine DL.step (d := some 50) [_] rfl rfl rfl (fun τ h => xj_indexAddrO i Try.underlying80 sz84 ((h.e 0 _ rfl).trans rfl) ((h.o 0 _ rfl).trans rfl) ((h.e 1 _ rfl).trans rfl) hi (by omega)) rfl (by kernel_rfl) ?_
        refine DL.step (d := none) [_] rfl rfl rfl (fun τ h => xj_storeP sz84 ((h.e 0 _ rfl).trans rfl) ((h.o 0 _ rfl).trans rfl) ((h.e 1 _ rfl).trans rfl) rfl (by simp; omega)) rfl (by kernel_rfl) ?_
        refine ⟨by kernel_rfl, ?_⟩
        repeat refine AW.seq ?_
        refine AW.region ?_
        refine RL.step (d := some 51) rfl rfl (xj_add rfl rfl (by omega)) ?_
        refine RL.step (d := some 37) rfl rfl (xj_moveE rfl) ?_
        exact ⟨(q2 + 1, G2.set i (G2[i] ||| (all &&& ~~~(BitVec.twoPow 64 i)))), St.le_mk ⟨rfl, rfl, rfl, rfl, rfl, rfl, rfl, rfl, trivial⟩ ⟨by show some (Ob.cells _ _) = _; simp [List.map_set], trivial⟩ rfl rfl, ⟨by simp only; omega, (hG2.or (by omega) _).congr (fun a _ b => new_next hql hi hall)⟩, by simp only; omega⟩
      · have hG3 := hG2.congr (q := fun a b => decide (a ≠ b) && linkA (S.rels.take (k + 1)) a b) (fun a _ b => by rw [show S.rels[k].2.take q2 = S.rels[k].2 from List.take_of_length_le (by omega), linkA_succ hlt])
        repeat refine AW.seq ?_
        refine AW.exit ?_
        repeat refine AW.seq ?_
        refine AW.region ?_
        refine RL.step (d := some 52) rfl rfl (xj_add rfl rfl (by omega)) ?_
        refine RL.step (d := some 18) rfl rfl (xj_moveE rfl) ?_
        exact ⟨(k + 1, G2), St.le_mk ⟨rfl, rfl, rfl, rfl, trivial⟩ ⟨rfl, trivial⟩ rfl rfl, ⟨by simp only; omega, hG3⟩, by simp only; omega⟩
  · rw [List.take_of_length_le (by omega)] at hG
    repeat refine AW.seq ?_
    refine AW.exit ?_
    refine AW.weaken (St.le_pubA 1 rfl rfl) ?_
    repeat refine AW.seq ?_
    refine AW.region ?_
    refine RL.step (d := some 53) rfl rfl (xj_moveE rfl) ?_
    refine RL.step (d := some 2) rfl rfl (xj_assignE rfl) ?_
    refine AW.weaken (St.le_fgS [2]) ?_
    repeat refine AW.seq ?_
    refine AW.ret ?_
    exact ⟨_, _, rfl, rfl, G, by show PV.sl none S.attrs.length (setsP G) = _; rw [← hG.1], hG.1, fun a ha b => by rw [hG.2 a (by rw [← hG.1]; exact ha) b]; rfl⟩

theorem near_next {G : List B64} {next : B64} {k c : Nat} {near : B64} (h : near.getLsbD c = (List.range k).any fun b => next.getLsbD b && (G.getD b 0#64).getLsbD c) (hk : k < G.length) :
    (next.getLsbD k = true → (near ||| G[k]).getLsbD c = (List.range (k + 1)).any fun b => next.getLsbD b && (G.getD b 0#64).getLsbD c) ∧
    (next.getLsbD k = false → near.getLsbD c = (List.range (k + 1)).any fun b => next.getLsbD b && (G.getD b 0#64).getLsbD c) := by
  rw [List.range_succ, List.any_append, ← h, BitVec.getLsbD_or]
  simp only [List.any_cons, List.any_nil, Bool.or_false, getD_eq hk]
  exact ⟨fun e => by rw [e]; simp, fun e => by rw [e]; simp⟩
theorem comp_spec (G : List B64) (hG : G.length ≤ 12) (rest : B64) (a : Nat) (ha : a < 64) : FnP Try.prog 62 [psets G, setP rest, .int .i64 a] (· = setP (compB G rest a)) := by
  refine FnP.of Try.func62 rfl Try.ntmps62 (by simp) fun m0 w0 F R0 => ?_
  repeat refine AW.seq ?_
  refine AW.region ?_
  refine RL.step (d := some 6) rfl rfl (xj_assignE rfl) ?_
  repeat refine AW.seq ?_
  refine AW.region ?_
  refine RL.step (d := some 12) rfl rfl (xj_moveE rfl) ?_
  refine RL.step (d := some 13) rfl rfl (xj_call Try.call52 (of_spec a ha) rfl) ?_
  refine RL.step (d := some 7) rfl rfl (xj_assignE rfl) ?_
  repeat refine AW.seq ?_
  refine AW.region ?_
  refine RL.step (d := some 14) rfl rfl (xj_moveE rfl) ?_
  refine RL.step (d := some 8) rfl rfl (xj_assignE rfl) ?_
  repeat refine AW.seq ?_
  refine AW.block ?_
  repeat refine AW.seq ?_
  refine AW.loop (st := fun x_0 : B64 × B64 => mkS [(0, .pv (psets G)), (1, .pv (setP rest)), (7, .pv (setP x_0.1)), (8, .pv (setP x_0.2))] [] 0)
    (I := fun x_0 => CInv G rest a x_0.1 x_0.2) (μ := fun x_0 => measB x_0.1 x_0.2) (x0 := (BitVec.twoPow 64 a, BitVec.twoPow 64 a)) (St.le_mk ⟨rfl, rfl, rfl, rfl, trivial⟩ trivial rfl rfl) (CInv.first ha) ?_
  rintro ⟨out, next⟩ hI
  try simp only at hI ⊢
  repeat refine AW.seq ?_
  refine AW.region ?_
  refine RL.step (d := some 15) rfl rfl (xj_moveE rfl) ?_
  refine RL.step (d := some 16) rfl rfl (xj_neqV (Y := 0#64) rfl rfl) ?_
  repeat refine AW.seq ?_
  refine AW.condP rfl (fun hc16 => ?_) (fun hc16 => ?_)
  · refine AW.skip ?_
    repeat refine AW.seq ?_
    refine AW.block ?_
    repeat refine AW.seq ?_
    refine AW.region ?_
    refine RL.step (d := some 9) rfl rfl (xj_assignE rfl) ?_
    repeat refine AW.seq ?_
    refine AW.region ?_
    refine RL.step (d := some 17) rfl rfl (xj_moveE rfl) ?_
    first | refine RL.step (d := some 18) rfl rfl (xj_len Try.underlying80 rfl) ?_ | refine RL.step (d := some 18) rfl rfl (xj_lenO Try.underlying80 rfl rfl) ?_ | refine RL.step (d := some 18) rfl rfl (xj_lenG Try.underlying80 rfl) ?_
    refine RL.step (d := some 19) rfl rfl (xj_moveE rfl) ?_
    repeat refine AW.seq ?_
    refine AW.block ?_
    repeat refine AW.seq ?_
    refine AW.loop (st := fun x_1 : Nat × B64 => mkS [(0, .pv (psets G)), (1, .pv (setP rest)), (7, .pv (setP out)), (8, .pv (setP next)), (9, .pv (setP x_1.2)), (17, .pv (psets G)), (18, .pv (.int .i64 G.length)), (19, .pv (.int .i64 x_1.1))] [] 0)
      (I := fun x_1 => x_1.1 ≤ G.length ∧ ∀ c, x_1.2.getLsbD c = (List.range x_1.1).any fun b => next.getLsbD b && (G.getD b 0#64).getLsbD c) (μ := fun x_1 => G.length - x_1.1) (x0 := (0, 0#64)) (St.le_mk ⟨rfl, rfl, rfl, rfl, rfl, rfl, rfl, rfl, trivial⟩ trivial rfl rfl) (⟨Nat.zero_le _, fun c => by simp⟩) ?_
    rintro ⟨k, near⟩ ⟨hk, hnear⟩
    try simp only at hk hnear ⊢
    repeat refine AW.seq ?_
    refine AW.region ?_
    refine RL.step (d := some 20) rfl rfl (xj_bin rfl rfl rfl) ?_
    repeat refine AW.seq ?_
    refine AW.condP rfl (fun hc20 => ?_) (fun hc20 => ?_)
    · have hlt : k < G.length := by omega
      have hv := psets_at hlt
      have hne := psets_ne hlt
      refine AW.skip ?_
      repeat refine AW.seq ?_
      refine AW.block ?_
      repeat refine AW.seq ?_
      refine AW.region ?_
      refine RL.step (d := some 21) rfl rfl (xj_moveE rfl) ?_
      first | refine RL.step (d := some 22) rfl rfl (xj_indexAddr _ Try.underlying80 sz84 rfl rfl rfl (by omega) (by assumption)) ?_ | refine RL.step (d := some 22) rfl rfl (xj_indexAddrO _ Try.underlying80 sz84 rfl rfl rfl rfl (by omega)) ?_
      first | refine RL.step (d := some 23) rfl rfl (xj_load1 ⟨_, Try.underlying84, rfl⟩ rfl rfl rfl) ?_ | refine RL.step (d := some 23) rfl rfl (xj_load1P ⟨_, Try.underlying84, rfl⟩ rfl rfl (by first | rfl | assumption)) ?_ | refine RL.step (d := some 23) rfl rfl (xj_loadR ⟨_, Try.underlying84, rfl⟩ rfl (by first | rfl | assumption)) ?_
      refine RL.step (d := some 10) rfl rfl (xj_assignE rfl) ?_
      refine RL.step (d := some 11) rfl rfl (xj_assignE rfl) ?_
      repeat refine AW.seq ?_
      refine AW.region ?_
      refine RL.step (d := some 24) rfl rfl (xj_moveE rfl) ?_
      refine RL.step (d := some 25) rfl rfl (xj_moveE rfl) ?_
      refine RL.step (d := some 26) rfl rfl (xj_call Try.call51 (has_sp next k (by omega)) rfl) ?_
      repeat refine AW.seq ?_
      refine AW.cond rfl (fun hc26 => ?_) (fun hc26 => ?_)
      · repeat refine AW.seq ?_
        refine AW.region ?_
        refine RL.step (d := some 27) rfl rfl (xj_moveE rfl) ?_
        refine RL.step (d := some 28) rfl rfl (xj_moveE rfl) ?_
        refine RL.step (d := some 29) rfl rfl (xj_orV rfl rfl) ?_
        refine RL.step (d := some 9) rfl rfl (xj_assignE rfl) ?_
        repeat refine AW.seq ?_
        refine AW.region ?_
        refine RL.step (d := some 30) rfl rfl (xj_add rfl rfl (by omega)) ?_
        refine RL.step (d := some 19) rfl rfl (xj_moveE rfl) ?_
        exact ⟨(k + 1, near ||| G[k]), St.le_mk ⟨rfl, rfl, rfl, rfl, rfl, rfl, rfl, rfl, trivial⟩ trivial rfl rfl, ⟨by simp only; omega, fun c => (near_next (hnear c) hlt).1 hc26⟩, by simp only; omega⟩
      · refine AW.skip ?_
        repeat refine AW.seq ?_
        refine AW.region ?_
        refine RL.step (d := some 30) rfl rfl (xj_add rfl rfl (by omega)) ?_
        refine RL.step (d := some 19) rfl rfl (xj_moveE rfl) ?_
        exact ⟨(k + 1, near), St.le_mk ⟨rfl, rfl, rfl, rfl, rfl, rfl, rfl, rfl, trivial⟩ trivial rfl rfl, ⟨by simp only; omega, fun c => (near_next (hnear c) hlt).2 hc26⟩, by simp only; omega⟩
    · have hkG : k = G.length := by omega
      rw [hkG] at hnear
      repeat refine AW.seq ?_
      refine AW.exit ?_
      repeat refine AW.seq ?_
      refine AW.region ?_
      refine RL.step (d := some 31) rfl rfl (xj_moveE rfl) ?_
      refine RL.step (d := some 32) rfl rfl (xj_moveE rfl) ?_
      refine RL.step (d := some 33) rfl rfl (xj_andV rfl rfl) ?_
      refine RL.step (d := some 34) rfl rfl (xj_moveE rfl) ?_
      refine RL.step (d := some 35) rfl rfl (xj_andNotV rfl rfl) ?_
      refine RL.step (d := some 8) rfl rfl (xj_assignE rfl) ?_
      repeat refine AW.seq ?_
      refine AW.region ?_
      refine RL.step (d := some 36) rfl rfl (xj_moveE rfl) ?_
      refine RL.step (d := some 37) rfl rfl (xj_moveE rfl) ?_
      refine RL.step (d := some 38) rfl rfl (xj_orV rfl rfl) ?_
      refine RL.step (d := some 7) rfl rfl (xj_assignE rfl) ?_
      exact ⟨(out ||| (near &&& rest &&& ~~~out), near &&& rest &&& ~~~out), St.le_mk ⟨rfl, rfl, rfl, rfl, trivial⟩ trivial rfl rfl, hI.next hnear, meas_lt hc16⟩
  · have hz : next = 0#64 := Classical.byContradiction hc16
    subst hz
    repeat refine AW.seq ?_
    refine AW.exit ?_
    repeat refine AW.seq ?_
    refine AW.region ?_
    refine RL.step (d := some 39) rfl rfl (xj_moveE rfl) ?_
    refine RL.step (d := some 6) rfl rfl (xj_assignE rfl) ?_
    repeat refine AW.seq ?_
    refine AW.ret ?_
    exact ⟨_, _, rfl, rfl, congrArg (fun x => setP x) hI.last⟩

theorem comps_len (G : List B64) (rest : B64) : ∀ k, (compsN G rest k).1.length ≤ k
  | 0 => Nat.le_refl _
  | k + 1 => by
    have := comps_len G rest k
    simp only [compsN]
    split
    · simp; omega
    · omega
theorem sets_snoc (L : List B64) (x : B64) : setsP (L ++ [x]) = setsP L ++ [setP x] := by simp
theorem comps_spec (G : List B64) (hG : G.length ≤ 12) (rest : B64) : FnP Try.prog 50 [psets G, setP rest] (· = psets (compsN G rest G.length).1) := by
  refine FnP.of Try.func50 rfl Try.ntmps50 (by simp) fun m0 w0 F R0 => ?_
  repeat refine AW.seq ?_
  refine AW.region ?_
  refine RL.step (d := some 4) rfl rfl (xj_assignE rfl) ?_
  repeat refine AW.seq ?_
  refine AW.region ?_
  refine RL.step (d := some 5) rfl rfl (xj_assignE rfl) ?_
  refine AW.weaken (St.le_gro 5 0 1 84 rfl rfl) ?_
  repeat refine AW.seq ?_
  refine AW.region ?_
  refine RL.step (d := some 8) rfl rfl (xj_moveE rfl) ?_
  first | refine RL.step (d := some 9) rfl rfl (xj_len Try.underlying80 rfl) ?_ | refine RL.step (d := some 9) rfl rfl (xj_lenO Try.underlying80 rfl rfl) ?_ | refine RL.step (d := some 9) rfl rfl (xj_lenG Try.underlying80 rfl) ?_
  refine RL.step (d := some 10) rfl rfl (xj_moveE rfl) ?_
  repeat refine AW.seq ?_
  refine AW.block ?_
  repeat refine AW.seq ?_
  refine AW.loop (st := fun x_0 : Nat × List B64 × B64 => mkS [(0, .pv (psets G)), (1, .pv (setP x_0.2.2)), (5, .gsl 0 1 x_0.2.1.length), (9, .pv (.int .i64 G.length)), (10, .pv (.int .i64 x_0.1))] [(0, .gro 84 (setsP x_0.2.1))] 1)
    (I := fun x_0 => x_0.1 ≤ G.length ∧ compsN G rest x_0.1 = (x_0.2.1, x_0.2.2)) (μ := fun x_0 => G.length - x_0.1) (x0 := (0, [], rest)) (St.le_mk ⟨rfl, rfl, rfl, rfl, rfl, trivial⟩ ⟨rfl, trivial⟩ rfl rfl) (⟨Nat.zero_le _, rfl⟩) ?_
  rintro ⟨k, L, R⟩ ⟨hk, hc⟩
  try simp only at hk hc ⊢
  repeat refine AW.seq ?_
  refine AW.region ?_
  refine RL.step (d := some 11) rfl rfl (xj_bin rfl rfl rfl) ?_
  repeat refine AW.seq ?_
  refine AW.condP rfl (fun hc11 => ?_) (fun hc11 => ?_)
  · have hlt : k < G.length := by omega
    have hsl : (setsP L).length = L.length * 1 := by simp
    have hLl : L.length ≤ k := by have := comps_len G rest k; rw [hc] at this; exact this
    have hn : compsN G rest (k + 1) = if R.getLsbD k = true then (L ++ [compB G R k], R &&& ~~~compB G R k) else (L, R) := by simp only [compsN, hc]
    refine AW.skip ?_
    repeat refine AW.seq ?_
    refine AW.block ?_
    repeat refine AW.seq ?_
    refine AW.region ?_
    refine RL.step (d := some 12) rfl rfl (xj_moveE rfl) ?_
    refine RL.step (d := some 6) rfl rfl (xj_assignE rfl) ?_
    repeat refine AW.seq ?_
    refine AW.region ?_
    refine RL.step (d := some 13) rfl rfl (xj_moveE rfl) ?_
    refine RL.step (d := some 14) rfl rfl (xj_moveE rfl) ?_
    refine RL.step (d := some 15) rfl rfl (xj_call Try.call51 (has_sp R k (by omega)) rfl) ?_
    repeat refine AW.seq ?_
    refine AW.cond rfl (fun hc15 => ?_) (fun hc15 => ?_)
    · rw [if_pos hc15] at hn
      repeat refine AW.seq ?_
      refine AW.region ?_
      refine RL.step (d := some 16) rfl rfl (xj_moveE rfl) ?_
      refine RL.step (d := some 17) rfl rfl (xj_moveE rfl) ?_
      refine RL.step (d := some 18) rfl rfl (xj_moveE rfl) ?_
      refine RL.step (d := some 19) rfl rfl (xj_call Try.call62 (comp_spec G hG R k (by omega)) rfl) ?_
      refine RL.step (d := some 7) rfl rfl (xj_assignE rfl) ?_
      repeat refine AW.seq ?_
      refine AW.region ?_
      refine RL.step (d := some 20) rfl rfl (xj_moveE rfl) ?_
      refine RL.step (d := some 21) rfl rfl (xj_moveE rfl) ?_
      refine RL.step (d := some 22) rfl rfl (xj_buildSlice 1 el79 rfl (by decide) (by decide) rfl rfl rfl) ?_
      first | refine RL.step (d := some 23) rfl rfl (xj_append1 2 el79 rfl rfl (by first | assumption | simp) rfl rfl rfl rfl (by omega) rfl) ?_ | refine RL.step (d := some 23) rfl rfl (xj_append01 2 el79 rfl rfl rfl rfl rfl rfl) ?_ | refine RL.step (d := some 23) rfl rfl (xj_appendG1 2 el79 rfl rfl (by first | assumption | simp) rfl rfl rfl rfl (by omega) rfl) ?_
      refine RL.step (d := some 5) rfl rfl (xj_assignE rfl) ?_
      repeat refine AW.seq ?_
      refine AW.region ?_
      refine RL.step (d := some 24) rfl rfl (xj_moveE rfl) ?_
      refine RL.step (d := some 25) rfl rfl (xj_moveE rfl) ?_
      refine RL.step (d := some 26) rfl rfl (xj_andNotV rfl rfl) ?_
      refine RL.step (d := some 1) rfl rfl (xj_assignE rfl) ?_
      repeat refine AW.seq ?_
      refine AW.region ?_
      refine RL.step (d := some 27) rfl rfl (xj_add rfl rfl (by omega)) ?_
      refine RL.step (d := some 10) rfl rfl (xj_moveE rfl) ?_
      exact ⟨(k + 1, L ++ [compB G R k], R &&& ~~~compB G R k), St.le_mkR [2] ⟨rfl, rfl, by simp; rfl, rfl, rfl, trivial⟩ ⟨congrArg (fun c => some (Ob.gro 84 c)) (sets_snoc L _).symm, trivial⟩ rfl rfl (by decide) rfl, ⟨by simp only; omega, hn⟩, by simp only; omega⟩
    · rw [if_neg (by rw [hc15]; decide)] at hn
      refine AW.skip ?_
      repeat refine AW.seq ?_
      refine AW.region ?_
      refine RL.step (d := some 27) rfl rfl (xj_add rfl rfl (by omega)) ?_
      refine RL.step (d := some 10) rfl rfl (xj_moveE rfl) ?_
      exact ⟨(k + 1, L, R), St.le_mk ⟨rfl, rfl, rfl, rfl, rfl, trivial⟩ ⟨rfl, trivial⟩ rfl rfl, ⟨by simp only; omega, hn⟩, by simp only; omega⟩
  · repeat refine AW.seq ?_
    refine AW.exit ?_
    refine AW.weaken (St.le_pubA 0 rfl rfl) ?_
    repeat refine AW.seq ?_
    refine AW.region ?_
    refine RL.step (d := some 28) rfl rfl (xj_moveE rfl) ?_
    refine RL.step (d := some 4) rfl rfl (xj_assignE rfl) ?_
    repeat refine AW.seq ?_
    refine AW.ret ?_
    exact ⟨_, _, rfl, rfl, by rw [show G.length = k by omega, hc]; simp; rfl⟩

end Go.Proofs.Ytkalgjnhaicabaa
