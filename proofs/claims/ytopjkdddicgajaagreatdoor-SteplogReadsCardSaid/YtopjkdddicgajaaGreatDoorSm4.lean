/-
  Texts of ours, joined: I3, E27, I4, I5, I6, I7, I8, I9, IA, Eq, S2, S3, S4, N9, Q1, RP, MT, IR, Q2, Fu, Q3. No statement of the program is proved here.
-/
import Derived.Laws.StructEq
import Derived.Tactics
import Derived.Tactics2
import Derived.Lib.Walk
import Derived.Lib.ItoaMem
import Derived.WalkKit
import Derived.BigCall
import Derived.BigGuard
import Derived.Test.YtopjkdddicgajaaGreatDoorSm3
namespace Go.Proofs.YtopjkdddicgajaaGreatDoor
open Go.RowKit
set_option maxRecDepth 100000
set_option maxHeartbeats 4000000
/-- The top of a number, from limb k on. -/
theorem val_drop_limbs (n k : Nat) : val ((limbs n).drop k) = n / 1000000000 ^ k := by
  by_cases hk : k ≤ (limbs n).length
  · have e := val_split (limbs n) k
    rw [val_limbs, Nat.min_eq_left hk] at e
    have hl := val_lt ((limbs_ok n).take k)
    rw [List.length_take, Nat.min_eq_left hk] at hl
    have := pow_pos9 k
    conv => rhs; rw [e]
    rw [Nat.add_mul_div_left _ _ this, Nat.div_eq_of_lt hl, Nat.zero_add]
  · rw [List.drop_of_length_le (by omega)]
    have := lt_limbs n
    have h2 : 1000000000 ^ (limbs n).length ≤ 1000000000 ^ k := Nat.pow_le_pow_right (by decide) (by omega)
    rw [Nat.div_eq_of_lt (by omega)]; rfl
/-- The first estimates of a digit. -/
theorem quo_hi {r y p t u : Nat} (hp : 0 < p) (ht : t = r / p) (hu : u = y / p) (hu0 : 0 < u) (hy : 0 < y) : r / y ≤ t / u := by
  rw [Nat.le_div_iff_mul_le hu0, ht, Nat.le_div_iff_mul_le hp, hu]
  have h1 : y / p * p ≤ y := Nat.div_mul_le_self y p
  have h2 : r / y * y ≤ r := Nat.div_mul_le_self r y
  rw [Nat.mul_assoc]
  exact Nat.le_trans (Nat.mul_le_mul_left _ h1) h2
theorem quo_lo {r y p t u : Nat} (hp : 0 < p) (ht : t = r / p) (hu : u = y / p) (hy : 0 < y) : t / (u + 1) ≤ r / y := by
  rw [Nat.le_div_iff_mul_le hy]
  have h1 : y < (u + 1) * p := by rw [hu, Nat.mul_comm]; exact Nat.lt_mul_div_succ y hp
  have h2 : t / (u + 1) * (u + 1) ≤ t := Nat.div_mul_le_self t (u + 1)
  have h3 : t * p ≤ r := by rw [ht]; exact Nat.div_mul_le_self r p
  calc t / (u + 1) * y ≤ t / (u + 1) * ((u + 1) * p) := Nat.mul_le_mul_left _ (Nat.le_of_lt h1)
    _ = t / (u + 1) * (u + 1) * p := (Nat.mul_assoc _ _ _).symm
    _ ≤ t * p := Nat.mul_le_mul_right _ h2
    _ ≤ r := h3
/-- The top limb of a number, and what stands above a place. -/
theorem top_limb {y : Nat} (hy : 0 < y) : lim (limbs y) ((limbs y).length - 1) = y / 1000000000 ^ ((limbs y).length - 1) ∧ 0 < lim (limbs y) ((limbs y).length - 1) := by
  have hl : 0 < (limbs y).length := Nat.pos_of_ne_zero fun e => by have := limbs_len0.1 e; omega
  refine ⟨?_, Nat.pos_of_ne_zero (limbs_top (by omega))⟩
  rw [← val_drop_limbs, List.drop_eq_getElem_cons (by omega), List.drop_of_length_le (by omega), lim_eq (by omega)]
  simp [val]
theorem two_tops {r n : Nat} (hn : 0 < n) (h1 : n ≤ (limbs r).length) (h2 : (limbs r).length ≤ n + 1) : r / 1000000000 ^ (n - 1) = lim (limbs r) (n - 1) + lim (limbs r) n * 1000000000 := by
  rw [← val_drop_limbs, List.drop_eq_getElem_cons (by omega), val, lim_eq (by omega), show n - 1 + 1 = n by omega, Nat.mul_comm]
  congr 2
  by_cases h : (limbs r).length = n + 1
  · rw [List.drop_eq_getElem_cons (by omega), List.drop_of_length_le (by omega), lim_eq (by omega)]; simp [val]
  · rw [List.drop_of_length_le (by omega), lim_ge (by omega)]; rfl
/-- One more limb from above. -/
theorem quo_step {x : List Nat} {q : List Nat} {i y r d : Nat} (hi : i < x.length) (hq : q.length = x.length) (h : val (x.drop (i + 1)) = y * val (q.drop (i + 1)) + r) (hd : d = (lim x i + 1000000000 * r) / y) (hy : 0 < y) :
    val (x.drop i) = y * val ((q.set i d).drop i) + (lim x i + 1000000000 * r) % y := by
  have e1 : x.drop i = lim x i :: x.drop (i + 1) := by rw [List.drop_eq_getElem_cons hi, lim_eq hi]
  have e2 : (q.set i d).drop i = d :: q.drop (i + 1) := by
    rw [List.drop_eq_getElem_cons (by rw [List.length_set]; omega)]
    congr 1
    · simp
    · rw [List.drop_set, if_pos (by omega)]
  rw [e1, e2, val, val, h]
  have e := Nat.div_add_mod (lim x i + 1000000000 * r) y
  rw [← hd] at e
  generalize (lim x i + 1000000000 * r) % y = m at *
  generalize lim x i = a at *
  generalize val (q.drop (i + 1)) = w
  rw [Nat.mul_add, Nat.mul_add, Nat.mul_left_comm y]
  generalize y * w = u
  generalize y * d = z at *
  omega
theorem cons_val (a r : Nat) : val (a :: limbs r) = a + 1000000000 * r := by rw [val, val_limbs]
theorem digit_lt {a r y : Nat} (ha : a < 1000000000) (hr : r < y) : (a + 1000000000 * r) / y < 1000000000 := by
  rw [Nat.div_lt_iff_lt_mul (by omega)]
  have : 1000000000 * (r + 1) ≤ 1000000000 * y := Nat.mul_le_mul_left _ hr
  omega
/-- The division under way: limbs from i on are done. -/
structure QuoI (x y i r : Nat) (q : List Nat) : Prop where
  ile : i ≤ (limbs x).length
  len : q.length = (limbs x).length
  ok : Lok q
  rlt : r < y
  e : val ((limbs x).drop i) = y * val (q.drop i) + r
theorem quoI_zero {x y : Nat} (hy : 0 < y) : QuoI x y (limbs x).length 0 (List.replicate (limbs x).length 0) :=
  ⟨Nat.le_refl _, by simp, Lok.replicate _, hy, by rw [List.drop_of_length_le (Nat.le_refl _), List.drop_of_length_le (by simp)]; simp [val]⟩
theorem quoI_end {x y r : Nat} {q : List Nat} (h : QuoI x y 0 r q) : val q = x / y ∧ r = x % y := by
  have e := h.e
  rw [List.drop_zero, List.drop_zero, val_limbs] at e
  have hr := h.rlt
  rw [e]
  constructor
  · rw [Nat.mul_add_div (by omega), Nat.div_eq_of_lt hr, Nat.add_zero]
  · rw [Nat.mul_add_mod, Nat.mod_eq_of_lt hr]
theorem tdivN {a b : Nat} (h : a ≤ 9223372036854775807) : IntKind.i64.wrap ((a : Int).tdiv (b : Int)) = ((a / b : Nat) : Int) := by
  have e : (a : Int).tdiv (b : Int) = ((a / b : Nat) : Int) := rfl
  have h2 := Nat.div_le_self a b
  rw [e]
  generalize a / b = c at *
  rw [wrap_in (by omega)]
theorem btrim0 {n v : Nat} (l : List Nat) (hn : l.length = n) (hl : n ≤ 1000000000) (ho : Lok l) (hv : val l = v) : FnP Tryz.prog 131 [.agg [.bool false, .sl none n (limI l)]] (· = .agg [.bool false, pli (limbs v)]) :=
  (btrim_spec2 (neg := false) l hn hl ho hv).mono fun r h => by
    rw [h]
    have e : sgn false v = (v : Int) := rfl
    show PV.agg [.bool (decide (sgn false v < 0)), pli (limbs (sgn false v).natAbs)] = _
    rw [e, decide_eq_false (by omega), Int.natAbs_natCast]
theorem sgn_div (x y : Int) : sgn (decide (x < 0) != decide (y < 0)) (x.natAbs / y.natAbs) = x.tdiv y := by
  have e : ∀ a b : Nat, ((a : Int).tdiv b) = ((a / b : Nat) : Int) := fun _ _ => rfl
  by_cases hx : x < 0 <;> by_cases hy : y < 0
  · obtain ⟨a, rfl⟩ : ∃ a : Nat, x = -(a : Int) := ⟨x.natAbs, by omega⟩
    obtain ⟨b, rfl⟩ : ∃ b : Nat, y = -(b : Int) := ⟨y.natAbs, by omega⟩
    rw [decide_eq_true hx, decide_eq_true hy, Int.neg_tdiv, Int.tdiv_neg, e]; simp [sgn]
  · obtain ⟨a, rfl⟩ : ∃ a : Nat, x = -(a : Int) := ⟨x.natAbs, by omega⟩
    obtain ⟨b, rfl⟩ : ∃ b : Nat, y = (b : Int) := ⟨y.natAbs, by omega⟩
    rw [decide_eq_true hx, decide_eq_false hy, Int.neg_tdiv, e]; simp [sgn]
  · obtain ⟨a, rfl⟩ : ∃ a : Nat, x = (a : Int) := ⟨x.natAbs, by omega⟩
    obtain ⟨b, rfl⟩ : ∃ b : Nat, y = -(b : Int) := ⟨y.natAbs, by omega⟩
    rw [decide_eq_false hx, decide_eq_true hy, Int.tdiv_neg, e]; simp [sgn]
  · obtain ⟨a, rfl⟩ : ∃ a : Nat, x = (a : Int) := ⟨x.natAbs, by omega⟩
    obtain ⟨b, rfl⟩ : ∃ b : Nat, y = (b : Int) := ⟨y.natAbs, by omega⟩
    rw [decide_eq_false hx, decide_eq_false hy, e]; simp [sgn]
theorem sgn_mod (x y : Int) : sgn (decide (x < 0)) (x.natAbs % y.natAbs) = x.tmod y := by
  have e : ∀ a b : Nat, ((a : Int).tmod b) = ((a % b : Nat) : Int) := fun _ _ => rfl
  have e2 : x.tmod y = x.tmod (y.natAbs : Int) := by
    rcases Int.natAbs_eq y with h | h
    · conv => lhs; rw [h]
    · conv => lhs; rw [h, Int.tmod_neg]
  rw [e2]
  by_cases hx : x < 0
  · obtain ⟨a, rfl⟩ : ∃ a : Nat, x = -(a : Int) := ⟨x.natAbs, by omega⟩
    rw [decide_eq_true hx, Int.neg_tmod, e]; simp [sgn]
  · obtain ⟨a, rfl⟩ : ∃ a : Nat, x = (a : Int) := ⟨x.natAbs, by omega⟩
    rw [decide_eq_false hx, e]; simp [sgn]
theorem bquo_aux (nx ny : Bool) (a b : Nat) (hx : (limbs a).length ≤ 1000000) (hyl : (limbs b).length ≤ 100000) (hy : 0 < b) : FnP Tryz.prog 97 [.agg [.bool nx, pli (limbs a)], .agg [.bool ny, pli (limbs b)]] (· = .tup [bigP (sgn (nx != ny) (a / b)), bigP (sgn nx (a % b))]) := by
  refine FnP.ofC Tryz.func97 rfl Tryz.ntmps97 (by simp) fun m0 w0 F R0 => ?_
  obtain ⟨dv, hdv⟩ : ∃ z, sgn (nx != ny) (a / b) = z := ⟨_, rfl⟩
  obtain ⟨mo, hmo⟩ : ∃ z, sgn nx (a % b) = z := ⟨_, rfl⟩
  rw [hdv, hmo]
  have hl : 0 < (limbs b).length := Nat.pos_of_ne_zero fun e => by have := limbs_len0.1 e; omega
  obtain ⟨u, hu⟩ : ∃ u, u = lim (limbs b) ((limbs b).length - 1) := ⟨_, rfl⟩
  have htop := top_limb hy
  have hva := limI_lim (l := limbs b) (k := (limbs b).length - 1) (by omega)
  have hna := limI_ne (l := limbs b) (k := (limbs b).length - 1) (by omega)
  have hub := lim_lt (limbs_ok b) ((limbs b).length - 1)
  rw [← hu] at htop hva hub
  repeat refine AW.seq ?_
  refine AW.region ?_
  iterate 4 refine A1 rfl ?_
  repeat refine AW.seq ?_
  refine AW.region ?_
  refine A1 rfl ?_
  refine AW.weaken (St.le_fgS [6]) ?_
  repeat refine AW.seq ?_
  refine AW.region ?_
  iterate 3 refine A1 rfl ?_
  refine RL.step (d := some 17) rfl rfl (xj_make (zs := [.int .i64 0]) 4 (limbs a).length el22 rfl rfl rfl rfl rfl (by omega) rfl) ?_
  refine A1 rfl ?_
  repeat refine AW.seq ?_
  refine AW.region ?_
  iterate 5 refine A1 rfl ?_
  repeat refine AW.seq ?_
  refine AW.block ?_
  repeat refine AW.seq ?_
  refine AW.loop (st := fun x_0 : Nat × Nat × List Nat => mkS [(2, .ptr 0 0), (3, .ptr 1 0), (4, .ptr 2 0), (5, .ptr 3 0), (6, .pv (pli (limbs x_0.2.1))), (7, .osl 4 1 (limbs a).length), (8, .pv (.int .i64 ((x_0.1 : Int) - 1)))] [(0, .mix 105 [.pv (.bool nx), .pv (pli (limbs a))]), (1, .mix 105 [.pv (.bool ny), .pv (pli (limbs b))]), (2, .mix 105 [.pv (.bool false), .pv (.sl (some true) 0 [])]), (3, .mix 105 [.pv (.bool false), .pv (.sl (some true) 0 [])]), (4, .cells 3 (limI x_0.2.2))] 5)
    (I := fun x_0 => QuoI a b x_0.1 x_0.2.1 x_0.2.2) (μ := fun x_0 => x_0.1) (x0 := ((limbs a).length, 0, List.replicate (limbs a).length 0)) (St.le_mk ⟨rfl, rfl, rfl, rfl, by rw [limbs_zero]; rfl, rfl, rfl, trivial⟩ ⟨rfl, rfl, rfl, rfl, congrArg (fun c => some (Ob.cells 3 c)) ((mkZ_one (.int .i64 0) ((limbs a).length * 1)).trans (by simp [limI])), trivial⟩ rfl rfl) (quoI_zero hy) ?_
  rintro ⟨i, r, q⟩ hQ
  try simp only at hQ ⊢
  repeat refine AW.seq ?_
  refine AW.region ?_
  iterate 2 refine A1 rfl ?_
  repeat refine AW.seq ?_
  refine AW.condP rfl (fun hc23 => ?_) (fun hc23 => ?_)
  · have hi0 : 0 < i := by omega
    have hile := hQ.ile
    have hql := hQ.len
    have hia : i - 1 < (limbs a).length := by omega
    have hvi := limI_lim hia
    have hni := limI_ne hia
    have hxl := lim_lt (limbs_ok a) (i - 1)
    have hrl := hQ.rlt
    have hst := quo_step (x := limbs a) (q := q) (i := i - 1) (y := b) (r := r) hia hql (by rw [show i - 1 + 1 = i by omega]; exact hQ.e) rfl hy
    have hdl := digit_lt hxl hrl
    have hlr : (limbs r).length ≤ (limbs b).length := limbs_mono (Nat.le_of_lt hrl)
    have hcv := cons_val (lim (limbs a) (i - 1)) r
    have hok1 : Lok (lim (limbs a) (i - 1) :: limbs r) := fun z hz => (List.mem_cons.1 hz).elim (fun e => e ▸ hxl) (limbs_ok r z)
    have htr := btrim0 (lim (limbs a) (i - 1) :: limbs r) (n := 1 + (limbs r).length) (by simp; omega) (by omega) hok1 hcv
    have hr2l : (limbs (lim (limbs a) (i - 1) + 1000000000 * r)).length ≤ (limbs b).length + 1 := by
      refine limbs_le.2 ?_
      have h1 := lt_limbs b
      rw [Nat.pow_succ]
      omega
    generalize lim (limbs a) (i - 1) = xi at *
    refine AW.skip ?_
    repeat refine AW.seq ?_
    refine AW.block ?_
    repeat refine AW.seq ?_
    refine AW.region ?_
    iterate 3 refine A1 rfl ?_
    refine RL.step (d := some 29) rfl rfl (xj_indexAddr (i - 1) Tryz.underlying22 sz3 rfl rfl (by omega) hia hni) ?_
    first | refine A2 rfl (by assumption) ?_ | refine A1 rfl ?_
    iterate 2 refine A1 rfl ?_
    refine RL.step (d := some 33) rfl rfl (xj_append (6) el22 rfl rfl (by simp) (.inl ⟨none, rfl⟩) (by simp) (limI_leaf _) (by omega) rfl) ?_
    refine RL.weaken (by first | exact MonoK.aw | exact MonoK.le | exact MonoK.back) (St.le_pubA (6) rfl rfl) ?_
    refine A1 rfl ?_
    refine RL.step (d := some 35) rfl rfl (xj_call Tryz.call131 htr rfl) ?_
    refine RL.step (d := some 36) rfl rfl (xj_field1 Tryz.underlying105 rfl rfl ⟨_, Tryz.underlying22, rfl⟩ rfl rfl) ?_
    refine A1 rfl ?_
    have hr2 : ∃ r2, r2 = xi + 1000000000 * r := ⟨_, rfl⟩
    obtain ⟨r2, hr2⟩ := hr2
    rw [← hr2] at hst hdl hr2l ⊢
    have hsz := bsize_spec r2 b (by omega) (by omega)
    repeat refine AW.seq ?_
    refine AW.draw follows [[], [0], [1, 0], [], [3], [4, 2, 1, 0, 3]] [0, 1, 2, 3, 4, 5] (by kernel_rfl) (by kernel_rfl) ?_
    iterate 6 refine D1 rfl rfl ?_
    refine ⟨by kernel_rfl, ?_⟩
    repeat refine AW.seq ?_
    refine AW.region ?_
    iterate 3 refine A1 rfl ?_
    refine RL.step (d := some 43) rfl rfl (xj_call Tryz.call132 hsz rfl) ?_
    refine A1 rfl ?_
    repeat refine AW.seq ?_
    refine AW.condP rfl (fun hc44 => ?_) (fun hc44 => ?_)
    · have hrb : b ≤ r2 := cmpN_ge.1 hc44
      have hlb : (limbs b).length ≤ (limbs r2).length := limbs_mono hrb
      have hi1 : (limbs b).length - 1 < (limbs r2).length := by omega
      have hv1 := limI_lim hi1
      have hn1 := limI_ne hi1
      have ht1 := lim_lt (limbs_ok r2) ((limbs b).length - 1)
      have ht2 := lim_lt (limbs_ok r2) (limbs b).length
      have htt := two_tops hl hlb hr2l
      have hhi := quo_hi (pow_pos9 ((limbs b).length - 1)) htt.symm htop.1 htop.2 hy
      have hlo := quo_lo (pow_pos9 ((limbs b).length - 1)) htt.symm htop.1 hy
      have hv2 := fun h => limI_lim (l := limbs r2) (k := (limbs b).length) h
      have hz2 := fun h => lim_ge (l := limbs r2) (i := (limbs b).length) h
      clear htt
      generalize lim (limbs r2) ((limbs b).length - 1) = w1 at *
      generalize lim (limbs r2) (limbs b).length = w2 at *
      have hT : ∃ T, T = w1 + w2 * 1000000000 := ⟨_, rfl⟩
      obtain ⟨T, hT⟩ := hT
      rw [← hT] at hhi hlo
      have hq1 := Nat.div_le_self T u
      have hq2 := Nat.div_le_self T (u + 1)
      repeat refine AW.seq ?_
      refine AW.region ?_
      iterate 3 refine A1 rfl ?_
      refine RL.step (d := some 48) rfl rfl (xj_indexAddr ((limbs b).length - 1) Tryz.underlying22 sz3 rfl rfl (by omega) hi1 hn1) ?_
      first | refine A2 rfl (by assumption) ?_ | refine A1 rfl ?_
      refine A1 rfl ?_
      repeat refine AW.seq ?_
      refine AW.region ?_
      iterate 4 refine A1 rfl ?_
      repeat refine AW.seq ?_
      refine AW.condP rfl (fun hc53 => ?_) (fun hc53 => ?_)
      · have hi2 : (limbs b).length < (limbs r2).length := by omega
        have hv2 := hv2 hi2
        repeat refine AW.seq ?_
        refine AW.region ?_
        iterate 3 refine A1 rfl ?_
        refine RL.step (d := some 57) rfl rfl (xj_indexAddr (limbs b).length Tryz.underlying22 sz3 rfl rfl rfl hi2 hn1) ?_
        first | refine A2 rfl (by assumption) ?_ | refine A1 rfl ?_
        refine A1 rfl ?_
        refine RL.step (d := some 60) rfl rfl (XJ.cast (v' := .pv (.int .i64 (T : Int))) (xj_add rfl rfl (by omega)) (congrArg (fun i => V.pv (.int .i64 i)) (by rw [hT]; simp))) ?_
        refine A1 rfl ?_
        repeat refine AW.seq ?_
        refine AW.region ?_
        iterate 5 refine A1 rfl ?_
        refine RL.step (d := some 66) rfl rfl (xj_indexAddr ((limbs b).length - 1) Tryz.underlying22 sz3 rfl rfl (by omega) (by omega) hna) ?_
        first | refine A2 rfl (by assumption) ?_ | refine A1 rfl ?_
        refine RL.step (d := some 68) rfl rfl (XJ.cast (v' := .pv (.int .i64 ((T / u : Nat) : Int))) (xj_quo rfl rfl (by omega)) (congrArg (fun i => V.pv (.int .i64 i)) (tdivN (by omega)))) ?_
        refine RL.step (d := some 69) rfl rfl (XJ.cast (v' := .pv (.int .i64 ((min 999999999 (T / u) : Nat) : Int))) (xj_min rfl rfl) (congrArg (fun i => V.pv (.int .i64 i)) (by split <;> omega))) ?_
        refine A1 rfl ?_
        repeat refine AW.seq ?_
        refine AW.region ?_
        iterate 6 refine A1 rfl ?_
        refine RL.step (d := some 76) rfl rfl (xj_indexAddr ((limbs b).length - 1) Tryz.underlying22 sz3 rfl rfl (by omega) (by omega) hna) ?_
        first | refine A2 rfl (by assumption) ?_ | refine A1 rfl ?_
        refine A1 rfl ?_
        refine RL.step (d := some 79) rfl rfl (XJ.cast (v' := .pv (.int .i64 ((T / (u + 1) : Nat) : Int))) (xj_quo rfl rfl (by omega)) (congrArg (fun i => V.pv (.int .i64 i)) (tdivN (by omega)))) ?_
        refine RL.step (d := some 80) rfl rfl (XJ.cast (v' := .pv (.int .i64 ((min (min 999999999 (T / u)) (T / (u + 1)) : Nat) : Int))) (xj_min rfl rfl) (congrArg (fun i => V.pv (.int .i64 i)) (by split <;> omega))) ?_
        refine A1 rfl ?_
        have g1 : min (min 999999999 (T / u)) (T / (u + 1)) ≤ r2 / b := Nat.le_trans (Nat.min_le_right _ _) hlo
        have g2 : r2 / b ≤ min 999999999 (T / u) := Nat.le_min.2 ⟨by omega, hhi⟩
        have g3 : min 999999999 (T / u) ≤ 999999999 := Nat.min_le_left _ _
        generalize min (min 999999999 (T / u)) (T / (u + 1)) = lo0 at *
        generalize min 999999999 (T / u) = hi0 at *
        repeat refine AW.seq ?_
        refine AW.block ?_
        repeat refine AW.seq ?_
        refine AW.loop (st := fun x_1 : Nat × Nat => mkS [(2, .ptr 0 0), (3, .ptr 1 0), (4, .ptr 2 0), (5, .ptr 3 0), (6, .pv (pli (limbs r2))), (7, .osl 4 1 (limbs a).length), (8, .pv (.int .i64 ((i : Int) - 1))), (9, .pv (.int .i64 (x_1.1 : Int))), (10, .pv (.int .i64 (x_1.2 : Int)))] [(0, .mix 105 [.pv (.bool nx), .pv (pli (limbs a))]), (1, .mix 105 [.pv (.bool ny), .pv (pli (limbs b))]), (2, .mix 105 [.pv (.bool false), .pv (.sl (some true) 0 [])]), (3, .mix 105 [.pv (.bool false), .pv (.sl (some true) 0 [])]), (4, .cells 3 (limI q))] 7)
          (I := fun x_1 => x_1.1 ≤ r2 / b ∧ r2 / b ≤ x_1.2 ∧ x_1.2 ≤ 999999999) (μ := fun x_1 => x_1.2 - x_1.1) (x0 := (lo0, hi0)) (St.le_mk ⟨rfl, rfl, rfl, rfl, rfl, rfl, rfl, by first | rfl | (rw [hlo0]; rfl), by first | rfl | (rw [hhi0]; rfl), trivial⟩ ⟨rfl, rfl, rfl, rfl, rfl, trivial⟩ rfl rfl) (⟨g1, g2, g3⟩) ?_
        rintro ⟨lo, hi⟩ ⟨k1, k2, k3⟩
        try simp only
        repeat refine AW.seq ?_
        refine AW.region ?_
        iterate 3 refine A1 rfl ?_
        repeat refine AW.seq ?_
        refine AW.condP rfl (fun hc83 => ?_) (fun hc83 => ?_)
        · have hmd : ∃ md, md = (lo + hi + 1) / 2 := ⟨_, rfl⟩
          obtain ⟨md, hmd⟩ := hmd
          have htm := btimes_spec b md (by omega) (by omega)
          have hml : (limbs (b * md)).length ≤ 1000000 := by
            have h2 : (limbs (b * md)).length ≤ (limbs b).length + 1 := by
              refine limbs_le.2 ?_
              have h1 := lt_limbs b
              rw [Nat.pow_succ]
              exact Nat.lt_of_lt_of_le ((Nat.mul_lt_mul_right (by omega)).2 h1) (Nat.mul_le_mul_left _ (by omega))
            omega
          have hsm := bsize_spec (b * md) r2 (by omega) (by omega)
          refine AW.skip ?_
          repeat refine AW.seq ?_
          refine AW.block ?_
          repeat refine AW.seq ?_
          refine AW.region ?_
          iterate 4 refine A1 rfl ?_
          refine RL.step (d := some 88) rfl rfl (XJ.cast (v' := .pv (.int .i64 (md : Int))) (xj_quo rfl rfl (by decide)) (congrArg (fun i => V.pv (.int .i64 i)) (by rw [hmd, show (lo : Int) + hi + 1 = ((lo + hi + 1 : Nat) : Int) by omega]; exact tdivN (b := 2) (by omega)))) ?_
          refine A1 rfl ?_
          repeat refine AW.seq ?_
          refine AW.region ?_
          iterate 3 refine A1 rfl ?_
          refine RL.step (d := some 92) rfl rfl (xj_call Tryz.call133 htm rfl) ?_
          refine A1 rfl ?_
          refine RL.step (d := some 94) rfl rfl (xj_call Tryz.call132 hsm rfl) ?_
          refine A1 rfl ?_
          repeat refine AW.seq ?_
          refine AW.condP rfl (fun hc95 => ?_) (fun hc95 => ?_)
          · have hle : b * md ≤ r2 := by rcases Nat.lt_or_ge r2 (b * md) with e | e; exact absurd hc95 (by rw [cmpN_gt e]; decide); exact e
            have hle2 : md ≤ r2 / b := (Nat.le_div_iff_mul_le hy).2 (by rw [Nat.mul_comm]; exact hle)
            repeat refine AW.seq ?_
            refine AW.region ?_
            iterate 2 refine A1 rfl ?_
            exact ⟨(md, hi), St.le_mk ⟨rfl, rfl, rfl, rfl, rfl, rfl, rfl, rfl, rfl, trivial⟩ ⟨rfl, rfl, rfl, rfl, rfl, trivial⟩ rfl rfl, ⟨hle2, k2, k3⟩, by omega⟩
          · have hgt : r2 < b * md := by rcases Nat.lt_or_ge r2 (b * md) with e | e; exact e; exact absurd (show cmpN (b * md) r2 ≤ 0 by unfold cmpN; split; decide; split; omega; decide) hc95
            have hgt2 : r2 / b < md := (Nat.div_lt_iff_lt_mul hy).2 (by rw [Nat.mul_comm]; exact hgt)
            repeat refine AW.seq ?_
            refine AW.region ?_
            iterate 3 refine A1 rfl ?_
            exact ⟨(lo, md - 1), St.le_mk ⟨rfl, rfl, rfl, rfl, rfl, rfl, rfl, rfl, congrArg (fun i : Int => V.pv (PV.int .i64 i)) (show (md : Int) - 1 = ((md - 1 : Nat) : Int) by omega), trivial⟩ ⟨rfl, rfl, rfl, rfl, rfl, trivial⟩ rfl rfl, ⟨k1, by omega, by omega⟩, by omega⟩
        · repeat refine AW.seq ?_
          refine AW.exit ?_
          have hlod : lo = r2 / b := by omega
          rw [← hlod] at hst hdl
          have hmo2 : r2 % b = r2 - b * lo := by rw [hlod]; have := Nat.div_add_mod r2 b; omega
          have hok2 := hQ.ok.set (k := i - 1) hdl
          repeat refine AW.seq ?_
          refine AW.region ?_
          iterate 3 refine A1 rfl ?_
          refine RL.step (d := some 102) rfl rfl (xj_indexAddrO (i - 1) Tryz.underlying22 sz3 rfl rfl rfl (by omega) hia) ?_
          refine A1 rfl ?_
          repeat refine AW.seq ?_
          refine AW.region ?_
          iterate 2 refine A1 rfl ?_
          repeat refine AW.seq ?_
          refine AW.condP rfl (fun hc104 => ?_) (fun hc104 => ?_)
          · have htm := btimes_spec b lo (by omega) (by omega)
            have hble : b * lo ≤ r2 := by rw [hlod]; exact Nat.mul_div_le r2 b
            have hr20 : 0 < r2 := by rcases Nat.eq_zero_or_pos r2 with e | e; rw [e, Nat.zero_div] at hlod; omega; exact e
            have hmi := bminus_spec r2 (b * lo) (by omega) hble hr20
            repeat refine AW.seq ?_
            refine AW.region ?_
            iterate 4 refine A1 rfl ?_
            refine RL.step (d := some 109) rfl rfl (xj_call Tryz.call133 htm rfl) ?_
            refine RL.call rfl (oj_call Tryz.call134 hmi rfl ?_)
            rintro _ ⟨ov, v1, v2, v3, rfl⟩
            refine A1 rfl ?_
            refine RL.step (d := some 112) rfl rfl (xj_call Tryz.call131 (btrim0 (v := r2 % b) ov rfl (by omega) v1 (by rw [v3, hmo2])) rfl) ?_
            refine RL.step (d := some 113) rfl rfl (xj_field1 Tryz.underlying105 rfl rfl ⟨_, Tryz.underlying22, rfl⟩ rfl rfl) ?_
            refine A1 rfl ?_
            repeat refine AW.seq ?_
            refine AW.region ?_
            iterate 3 refine A1 rfl ?_
            exact ⟨(i - 1, r2 % b, q.set (i - 1) lo), St.le_mk ⟨rfl, rfl, rfl, rfl, rfl, rfl, congrArg (fun i : Int => V.pv (PV.int .i64 i)) (show (i : Int) - 1 - 1 = ((i - 1 : Nat) : Int) - 1 by omega), trivial⟩ ⟨rfl, rfl, rfl, rfl, congrArg (fun c => some (Ob.cells 3 c)) (by rw [Nat.mul_one, limI_set]), trivial⟩ rfl rfl, ⟨by omega, by rw [List.length_set]; exact hql, hok2, Nat.mod_lt _ hy, hst⟩, by omega⟩
          · have hl0 : lo = 0 := by omega
            have hr2m : r2 = r2 % b := by rw [hmo2, hl0]; simp
            refine AW.skip ?_
            repeat refine AW.seq ?_
            refine AW.region ?_
            iterate 3 refine A1 rfl ?_
            exact ⟨(i - 1, r2 % b, q.set (i - 1) lo), St.le_mk ⟨rfl, rfl, rfl, rfl, congrArg (fun n : Nat => V.pv (pli (limbs n))) hr2m, rfl, congrArg (fun i : Int => V.pv (PV.int .i64 i)) (show (i : Int) - 1 - 1 = ((i - 1 : Nat) : Int) - 1 by omega), trivial⟩ ⟨rfl, rfl, rfl, rfl, congrArg (fun c => some (Ob.cells 3 c)) (by rw [Nat.mul_one, limI_set]), trivial⟩ rfl rfl, ⟨by omega, by rw [List.length_set]; exact hql, hok2, Nat.mod_lt _ hy, hst⟩, by omega⟩
      · have hw2 : w2 = 0 := hz2 (by omega)
        have hTw : T = w1 := by rw [hT, hw2]; omega
        rw [← hTw]
        refine AW.skip ?_
        repeat refine AW.seq ?_
        refine AW.region ?_
        iterate 5 refine A1 rfl ?_
        refine RL.step (d := some 66) rfl rfl (xj_indexAddr ((limbs b).length - 1) Tryz.underlying22 sz3 rfl rfl (by omega) (by omega) hna) ?_
        first | refine A2 rfl (by assumption) ?_ | refine A1 rfl ?_
        refine RL.step (d := some 68) rfl rfl (XJ.cast (v' := .pv (.int .i64 ((T / u : Nat) : Int))) (xj_quo rfl rfl (by omega)) (congrArg (fun i => V.pv (.int .i64 i)) (tdivN (by omega)))) ?_
        refine RL.step (d := some 69) rfl rfl (XJ.cast (v' := .pv (.int .i64 ((min 999999999 (T / u) : Nat) : Int))) (xj_min rfl rfl) (congrArg (fun i => V.pv (.int .i64 i)) (by split <;> omega))) ?_
        refine A1 rfl ?_
        repeat refine AW.seq ?_
        refine AW.region ?_
        iterate 6 refine A1 rfl ?_
        refine RL.step (d := some 76) rfl rfl (xj_indexAddr ((limbs b).length - 1) Tryz.underlying22 sz3 rfl rfl (by omega) (by omega) hna) ?_
        first | refine A2 rfl (by assumption) ?_ | refine A1 rfl ?_
        refine A1 rfl ?_
        refine RL.step (d := some 79) rfl rfl (XJ.cast (v' := .pv (.int .i64 ((T / (u + 1) : Nat) : Int))) (xj_quo rfl rfl (by omega)) (congrArg (fun i => V.pv (.int .i64 i)) (tdivN (by omega)))) ?_
        refine RL.step (d := some 80) rfl rfl (XJ.cast (v' := .pv (.int .i64 ((min (min 999999999 (T / u)) (T / (u + 1)) : Nat) : Int))) (xj_min rfl rfl) (congrArg (fun i => V.pv (.int .i64 i)) (by split <;> omega))) ?_
        refine A1 rfl ?_
        have g1 : min (min 999999999 (T / u)) (T / (u + 1)) ≤ r2 / b := Nat.le_trans (Nat.min_le_right _ _) hlo
        have g2 : r2 / b ≤ min 999999999 (T / u) := Nat.le_min.2 ⟨by omega, hhi⟩
        have g3 : min 999999999 (T / u) ≤ 999999999 := Nat.min_le_left _ _
        generalize min (min 999999999 (T / u)) (T / (u + 1)) = lo0 at *
        generalize min 999999999 (T / u) = hi0 at *
        repeat refine AW.seq ?_
        refine AW.block ?_
        repeat refine AW.seq ?_
        refine AW.loop (st := fun x_1 : Nat × Nat => mkS [(2, .ptr 0 0), (3, .ptr 1 0), (4, .ptr 2 0), (5, .ptr 3 0), (6, .pv (pli (limbs r2))), (7, .osl 4 1 (limbs a).length), (8, .pv (.int .i64 ((i : Int) - 1))), (9, .pv (.int .i64 (x_1.1 : Int))), (10, .pv (.int .i64 (x_1.2 : Int)))] [(0, .mix 105 [.pv (.bool nx), .pv (pli (limbs a))]), (1, .mix 105 [.pv (.bool ny), .pv (pli (limbs b))]), (2, .mix 105 [.pv (.bool false), .pv (.sl (some true) 0 [])]), (3, .mix 105 [.pv (.bool false), .pv (.sl (some true) 0 [])]), (4, .cells 3 (limI q))] 7)
          (I := fun x_1 => x_1.1 ≤ r2 / b ∧ r2 / b ≤ x_1.2 ∧ x_1.2 ≤ 999999999) (μ := fun x_1 => x_1.2 - x_1.1) (x0 := (lo0, hi0)) (St.le_mk ⟨rfl, rfl, rfl, rfl, rfl, rfl, rfl, by first | rfl | (rw [hlo0]; rfl), by first | rfl | (rw [hhi0]; rfl), trivial⟩ ⟨rfl, rfl, rfl, rfl, rfl, trivial⟩ rfl rfl) (⟨g1, g2, g3⟩) ?_
        rintro ⟨lo, hi⟩ ⟨k1, k2, k3⟩
        try simp only
        repeat refine AW.seq ?_
        refine AW.region ?_
        iterate 3 refine A1 rfl ?_
        repeat refine AW.seq ?_
        refine AW.condP rfl (fun hc83 => ?_) (fun hc83 => ?_)
        · have hmd : ∃ md, md = (lo + hi + 1) / 2 := ⟨_, rfl⟩
          obtain ⟨md, hmd⟩ := hmd
          have htm := btimes_spec b md (by omega) (by omega)
          have hml : (limbs (b * md)).length ≤ 1000000 := by
            have h2 : (limbs (b * md)).length ≤ (limbs b).length + 1 := by
              refine limbs_le.2 ?_
              have h1 := lt_limbs b
              rw [Nat.pow_succ]
              exact Nat.lt_of_lt_of_le ((Nat.mul_lt_mul_right (by omega)).2 h1) (Nat.mul_le_mul_left _ (by omega))
            omega
          have hsm := bsize_spec (b * md) r2 (by omega) (by omega)
          refine AW.skip ?_
          repeat refine AW.seq ?_
          refine AW.block ?_
          repeat refine AW.seq ?_
          refine AW.region ?_
          iterate 4 refine A1 rfl ?_
          refine RL.step (d := some 88) rfl rfl (XJ.cast (v' := .pv (.int .i64 (md : Int))) (xj_quo rfl rfl (by decide)) (congrArg (fun i => V.pv (.int .i64 i)) (by rw [hmd, show (lo : Int) + hi + 1 = ((lo + hi + 1 : Nat) : Int) by omega]; exact tdivN (b := 2) (by omega)))) ?_
          refine A1 rfl ?_
          repeat refine AW.seq ?_
          refine AW.region ?_
          iterate 3 refine A1 rfl ?_
          refine RL.step (d := some 92) rfl rfl (xj_call Tryz.call133 htm rfl) ?_
          refine A1 rfl ?_
          refine RL.step (d := some 94) rfl rfl (xj_call Tryz.call132 hsm rfl) ?_
          refine A1 rfl ?_
          repeat refine AW.seq ?_
          refine AW.condP rfl (fun hc95 => ?_) (fun hc95 => ?_)
          · have hle : b * md ≤ r2 := by rcases Nat.lt_or_ge r2 (b * md) with e | e; exact absurd hc95 (by rw [cmpN_gt e]; decide); exact e
            have hle2 : md ≤ r2 / b := (Nat.le_div_iff_mul_le hy).2 (by rw [Nat.mul_comm]; exact hle)
            repeat refine AW.seq ?_
            refine AW.region ?_
            iterate 2 refine A1 rfl ?_
            exact ⟨(md, hi), St.le_mk ⟨rfl, rfl, rfl, rfl, rfl, rfl, rfl, rfl, rfl, trivial⟩ ⟨rfl, rfl, rfl, rfl, rfl, trivial⟩ rfl rfl, ⟨hle2, k2, k3⟩, by omega⟩
          · have hgt : r2 < b * md := by rcases Nat.lt_or_ge r2 (b * md) with e | e; exact e; exact absurd (show cmpN (b * md) r2 ≤ 0 by unfold cmpN; split; decide; split; omega; decide) hc95
            have hgt2 : r2 / b < md := (Nat.div_lt_iff_lt_mul hy).2 (by rw [Nat.mul_comm]; exact hgt)
            repeat refine AW.seq ?_
            refine AW.region ?_
            iterate 3 refine A1 rfl ?_
            exact ⟨(lo, md - 1), St.le_mk ⟨rfl, rfl, rfl, rfl, rfl, rfl, rfl, rfl, congrArg (fun i : Int => V.pv (PV.int .i64 i)) (show (md : Int) - 1 = ((md - 1 : Nat) : Int) by omega), trivial⟩ ⟨rfl, rfl, rfl, rfl, rfl, trivial⟩ rfl rfl, ⟨k1, by omega, by omega⟩, by omega⟩
        · repeat refine AW.seq ?_
          refine AW.exit ?_
          have hlod : lo = r2 / b := by omega
          rw [← hlod] at hst hdl
          have hmo2 : r2 % b = r2 - b * lo := by rw [hlod]; have := Nat.div_add_mod r2 b; omega
          have hok2 := hQ.ok.set (k := i - 1) hdl
          repeat refine AW.seq ?_
          refine AW.region ?_
          iterate 3 refine A1 rfl ?_
          refine RL.step (d := some 102) rfl rfl (xj_indexAddrO (i - 1) Tryz.underlying22 sz3 rfl rfl rfl (by omega) hia) ?_
          refine A1 rfl ?_
          repeat refine AW.seq ?_
          refine AW.region ?_
          iterate 2 refine A1 rfl ?_
          repeat refine AW.seq ?_
          refine AW.condP rfl (fun hc104 => ?_) (fun hc104 => ?_)
          · have htm := btimes_spec b lo (by omega) (by omega)
            have hble : b * lo ≤ r2 := by rw [hlod]; exact Nat.mul_div_le r2 b
            have hr20 : 0 < r2 := by rcases Nat.eq_zero_or_pos r2 with e | e; rw [e, Nat.zero_div] at hlod; omega; exact e
            have hmi := bminus_spec r2 (b * lo) (by omega) hble hr20
            repeat refine AW.seq ?_
            refine AW.region ?_
            iterate 4 refine A1 rfl ?_
            refine RL.step (d := some 109) rfl rfl (xj_call Tryz.call133 htm rfl) ?_
            refine RL.call rfl (oj_call Tryz.call134 hmi rfl ?_)
            rintro _ ⟨ov, v1, v2, v3, rfl⟩
            refine A1 rfl ?_
            refine RL.step (d := some 112) rfl rfl (xj_call Tryz.call131 (btrim0 (v := r2 % b) ov rfl (by omega) v1 (by rw [v3, hmo2])) rfl) ?_
            refine RL.step (d := some 113) rfl rfl (xj_field1 Tryz.underlying105 rfl rfl ⟨_, Tryz.underlying22, rfl⟩ rfl rfl) ?_
            refine A1 rfl ?_
            repeat refine AW.seq ?_
            refine AW.region ?_
            iterate 3 refine A1 rfl ?_
            exact ⟨(i - 1, r2 % b, q.set (i - 1) lo), St.le_mk ⟨rfl, rfl, rfl, rfl, rfl, rfl, congrArg (fun i : Int => V.pv (PV.int .i64 i)) (show (i : Int) - 1 - 1 = ((i - 1 : Nat) : Int) - 1 by omega), trivial⟩ ⟨rfl, rfl, rfl, rfl, congrArg (fun c => some (Ob.cells 3 c)) (by rw [Nat.mul_one, limI_set]), trivial⟩ rfl rfl, ⟨by omega, by rw [List.length_set]; exact hql, hok2, Nat.mod_lt _ hy, hst⟩, by omega⟩
          · have hl0 : lo = 0 := by omega
            have hr2m : r2 = r2 % b := by rw [hmo2, hl0]; simp
            refine AW.skip ?_
            repeat refine AW.seq ?_
            refine AW.region ?_
            iterate 3 refine A1 rfl ?_
            exact ⟨(i - 1, r2 % b, q.set (i - 1) lo), St.le_mk ⟨rfl, rfl, rfl, rfl, congrArg (fun n : Nat => V.pv (pli (limbs n))) hr2m, rfl, congrArg (fun i : Int => V.pv (PV.int .i64 i)) (show (i : Int) - 1 - 1 = ((i - 1 : Nat) : Int) - 1 by omega), trivial⟩ ⟨rfl, rfl, rfl, rfl, congrArg (fun c => some (Ob.cells 3 c)) (by rw [Nat.mul_one, limI_set]), trivial⟩ rfl rfl, ⟨by omega, by rw [List.length_set]; exact hql, hok2, Nat.mod_lt _ hy, hst⟩, by omega⟩
    · have hd0 : r2 / b = 0 := Nat.div_eq_of_lt (by rcases Nat.lt_or_ge r2 b with e | e; exact e; exact absurd (cmpN_ge.2 e) (by omega))
      obtain ⟨lo0, hlo0⟩ : ∃ z : Nat, z = 0 := ⟨_, rfl⟩
      obtain ⟨hi0, hhi0⟩ : ∃ z : Nat, z = 0 := ⟨_, rfl⟩
      have g1 : lo0 ≤ r2 / b := by omega
      have g2 : r2 / b ≤ hi0 := by omega
      have g3 : hi0 ≤ 999999999 := by omega
      refine AW.skip ?_
      repeat refine AW.seq ?_
      refine AW.block ?_
      repeat refine AW.seq ?_
      refine AW.loop (st := fun x_1 : Nat × Nat => mkS [(2, .ptr 0 0), (3, .ptr 1 0), (4, .ptr 2 0), (5, .ptr 3 0), (6, .pv (pli (limbs r2))), (7, .osl 4 1 (limbs a).length), (8, .pv (.int .i64 ((i : Int) - 1))), (9, .pv (.int .i64 (x_1.1 : Int))), (10, .pv (.int .i64 (x_1.2 : Int)))] [(0, .mix 105 [.pv (.bool nx), .pv (pli (limbs a))]), (1, .mix 105 [.pv (.bool ny), .pv (pli (limbs b))]), (2, .mix 105 [.pv (.bool false), .pv (.sl (some true) 0 [])]), (3, .mix 105 [.pv (.bool false), .pv (.sl (some true) 0 [])]), (4, .cells 3 (limI q))] 7)
        (I := fun x_1 => x_1.1 ≤ r2 / b ∧ r2 / b ≤ x_1.2 ∧ x_1.2 ≤ 999999999) (μ := fun x_1 => x_1.2 - x_1.1) (x0 := (lo0, hi0)) (St.le_mk ⟨rfl, rfl, rfl, rfl, rfl, rfl, rfl, by first | rfl | (rw [hlo0]; rfl), by first | rfl | (rw [hhi0]; rfl), trivial⟩ ⟨rfl, rfl, rfl, rfl, rfl, trivial⟩ rfl rfl) (⟨g1, g2, g3⟩) ?_
      rintro ⟨lo, hi⟩ ⟨k1, k2, k3⟩
      try simp only
      repeat refine AW.seq ?_
      refine AW.region ?_
      iterate 3 refine A1 rfl ?_
      repeat refine AW.seq ?_
      refine AW.condP rfl (fun hc83 => ?_) (fun hc83 => ?_)
      · have hmd : ∃ md, md = (lo + hi + 1) / 2 := ⟨_, rfl⟩
        obtain ⟨md, hmd⟩ := hmd
        have htm := btimes_spec b md (by omega) (by omega)
        have hml : (limbs (b * md)).length ≤ 1000000 := by
          have h2 : (limbs (b * md)).length ≤ (limbs b).length + 1 := by
            refine limbs_le.2 ?_
            have h1 := lt_limbs b
            rw [Nat.pow_succ]
            exact Nat.lt_of_lt_of_le ((Nat.mul_lt_mul_right (by omega)).2 h1) (Nat.mul_le_mul_left _ (by omega))
          omega
        have hsm := bsize_spec (b * md) r2 (by omega) (by omega)
        refine AW.skip ?_
        repeat refine AW.seq ?_
        refine AW.block ?_
        repeat refine AW.seq ?_
        refine AW.region ?_
        iterate 4 refine A1 rfl ?_
        refine RL.step (d := some 88) rfl rfl (XJ.cast (v' := .pv (.int .i64 (md : Int))) (xj_quo rfl rfl (by decide)) (congrArg (fun i => V.pv (.int .i64 i)) (by rw [hmd, show (lo : Int) + hi + 1 = ((lo + hi + 1 : Nat) : Int) by omega]; exact tdivN (b := 2) (by omega)))) ?_
        refine A1 rfl ?_
        repeat refine AW.seq ?_
        refine AW.region ?_
        iterate 3 refine A1 rfl ?_
        refine RL.step (d := some 92) rfl rfl (xj_call Tryz.call133 htm rfl) ?_
        refine A1 rfl ?_
        refine RL.step (d := some 94) rfl rfl (xj_call Tryz.call132 hsm rfl) ?_
        refine A1 rfl ?_
        repeat refine AW.seq ?_
        refine AW.condP rfl (fun hc95 => ?_) (fun hc95 => ?_)
        · have hle : b * md ≤ r2 := by rcases Nat.lt_or_ge r2 (b * md) with e | e; exact absurd hc95 (by rw [cmpN_gt e]; decide); exact e
          have hle2 : md ≤ r2 / b := (Nat.le_div_iff_mul_le hy).2 (by rw [Nat.mul_comm]; exact hle)
          repeat refine AW.seq ?_
          refine AW.region ?_
          iterate 2 refine A1 rfl ?_
          exact ⟨(md, hi), St.le_mk ⟨rfl, rfl, rfl, rfl, rfl, rfl, rfl, rfl, rfl, trivial⟩ ⟨rfl, rfl, rfl, rfl, rfl, trivial⟩ rfl rfl, ⟨hle2, k2, k3⟩, by omega⟩
        · have hgt : r2 < b * md := by rcases Nat.lt_or_ge r2 (b * md) with e | e; exact e; exact absurd (show cmpN (b * md) r2 ≤ 0 by unfold cmpN; split; decide; split; omega; decide) hc95
          have hgt2 : r2 / b < md := (Nat.div_lt_iff_lt_mul hy).2 (by rw [Nat.mul_comm]; exact hgt)
          repeat refine AW.seq ?_
          refine AW.region ?_
          iterate 3 refine A1 rfl ?_
          exact ⟨(lo, md - 1), St.le_mk ⟨rfl, rfl, rfl, rfl, rfl, rfl, rfl, rfl, congrArg (fun i : Int => V.pv (PV.int .i64 i)) (show (md : Int) - 1 = ((md - 1 : Nat) : Int) by omega), trivial⟩ ⟨rfl, rfl, rfl, rfl, rfl, trivial⟩ rfl rfl, ⟨k1, by omega, by omega⟩, by omega⟩
      · repeat refine AW.seq ?_
        refine AW.exit ?_
        have hlod : lo = r2 / b := by omega
        rw [← hlod] at hst hdl
        have hmo2 : r2 % b = r2 - b * lo := by rw [hlod]; have := Nat.div_add_mod r2 b; omega
        have hok2 := hQ.ok.set (k := i - 1) hdl
        repeat refine AW.seq ?_
        refine AW.region ?_
        iterate 3 refine A1 rfl ?_
        refine RL.step (d := some 102) rfl rfl (xj_indexAddrO (i - 1) Tryz.underlying22 sz3 rfl rfl rfl (by omega) hia) ?_
        refine A1 rfl ?_
        repeat refine AW.seq ?_
        refine AW.region ?_
        iterate 2 refine A1 rfl ?_
        repeat refine AW.seq ?_
        refine AW.condP rfl (fun hc104 => ?_) (fun hc104 => ?_)
        · have htm := btimes_spec b lo (by omega) (by omega)
          have hble : b * lo ≤ r2 := by rw [hlod]; exact Nat.mul_div_le r2 b
          have hr20 : 0 < r2 := by rcases Nat.eq_zero_or_pos r2 with e | e; rw [e, Nat.zero_div] at hlod; omega; exact e
          have hmi := bminus_spec r2 (b * lo) (by omega) hble hr20
          repeat refine AW.seq ?_
          refine AW.region ?_
          iterate 4 refine A1 rfl ?_
          refine RL.step (d := some 109) rfl rfl (xj_call Tryz.call133 htm rfl) ?_
          refine RL.call rfl (oj_call Tryz.call134 hmi rfl ?_)
          rintro _ ⟨ov, v1, v2, v3, rfl⟩
          refine A1 rfl ?_
          refine RL.step (d := some 112) rfl rfl (xj_call Tryz.call131 (btrim0 (v := r2 % b) ov rfl (by omega) v1 (by rw [v3, hmo2])) rfl) ?_
          refine RL.step (d := some 113) rfl rfl (xj_field1 Tryz.underlying105 rfl rfl ⟨_, Tryz.underlying22, rfl⟩ rfl rfl) ?_
          refine A1 rfl ?_
          repeat refine AW.seq ?_
          refine AW.region ?_
          iterate 3 refine A1 rfl ?_
          exact ⟨(i - 1, r2 % b, q.set (i - 1) lo), St.le_mk ⟨rfl, rfl, rfl, rfl, rfl, rfl, congrArg (fun i : Int => V.pv (PV.int .i64 i)) (show (i : Int) - 1 - 1 = ((i - 1 : Nat) : Int) - 1 by omega), trivial⟩ ⟨rfl, rfl, rfl, rfl, congrArg (fun c => some (Ob.cells 3 c)) (by rw [Nat.mul_one, limI_set]), trivial⟩ rfl rfl, ⟨by omega, by rw [List.length_set]; exact hql, hok2, Nat.mod_lt _ hy, hst⟩, by omega⟩
        · have hl0 : lo = 0 := by omega
          have hr2m : r2 = r2 % b := by rw [hmo2, hl0]; simp
          refine AW.skip ?_
          repeat refine AW.seq ?_
          refine AW.region ?_
          iterate 3 refine A1 rfl ?_
          exact ⟨(i - 1, r2 % b, q.set (i - 1) lo), St.le_mk ⟨rfl, rfl, rfl, rfl, congrArg (fun n : Nat => V.pv (pli (limbs n))) hr2m, rfl, congrArg (fun i : Int => V.pv (PV.int .i64 i)) (show (i : Int) - 1 - 1 = ((i - 1 : Nat) : Int) - 1 by omega), trivial⟩ ⟨rfl, rfl, rfl, rfl, congrArg (fun c => some (Ob.cells 3 c)) (by rw [Nat.mul_one, limI_set]), trivial⟩ rfl rfl, ⟨by omega, by rw [List.length_set]; exact hql, hok2, Nat.mod_lt _ hy, hst⟩, by omega⟩
  · repeat refine AW.seq ?_
    refine AW.exit ?_
    obtain rfl : i = 0 := by omega
    obtain ⟨hvq, hvr⟩ := quoI_end hQ
    have hql := hQ.len
    have htq := btrim_spec2 (neg := nx != ny) q hql (by omega) hQ.ok hvq
    have hlr : (limbs r).length ≤ (limbs b).length := limbs_mono (Nat.le_of_lt hQ.rlt)
    have htr := btrim_spec2 (neg := nx) (limbs r) rfl (by omega) (limbs_ok r) ((val_limbs r).trans hvr)
    rw [hdv] at htq
    rw [hmo] at htr
    refine AW.weaken (St.le_pubA 4 rfl rfl) ?_
    repeat refine AW.seq ?_
    refine AW.draw follows [[], [0], [], [2], [3, 1, 0, 2], [], [5, 4, 3, 1, 0, 2], [6, 5, 4, 3, 1, 0, 2], [], [8], [], [10, 9, 8], [7, 11, 10, 9, 8, 6, 5, 4, 3, 1, 0, 2], [12, 7, 6, 5, 4, 3, 1, 0, 2, 11, 10, 9, 8], [13, 12, 7, 11, 10, 9, 8, 6, 5, 4, 3, 1, 0, 2]] [0, 1, 2, 3, 4, 5, 6, 7, 8, 9, 10, 11, 12, 13, 14] (by kernel_rfl) (by kernel_rfl) ?_
    iterate 7 refine D1 rfl rfl ?_
    refine DL.step (d := some 121) [] rfl rfl rfl (fun τ h => xj_call Tryz.call131 htq (h.argsP rfl)) rfl (by kernel_rfl) ?_
    iterate 4 refine D1 rfl rfl ?_
    refine DL.step (d := some 126) [] rfl rfl rfl (fun τ h => xj_call Tryz.call131 htr (h.argsP rfl)) rfl (by kernel_rfl) ?_
    iterate 2 refine D1 rfl rfl ?_
    refine ⟨by kernel_rfl, ?_⟩
    repeat refine AW.seq ?_
    refine AW.ret ?_
    exact ⟨_, _, rfl, rfl, ⟨cellOk1 ⟨_, Tryz.underlying105, rfl⟩ sz105 rfl rfl rfl, cellOk1 ⟨_, Tryz.underlying105, rfl⟩ sz105 rfl rfl rfl, trivial⟩, rfl⟩
theorem bquo_spec (x y : Int) (hx : (limbs x.natAbs).length ≤ 1000000) (hyl : (limbs y.natAbs).length ≤ 100000) (hy : y ≠ 0) : FnP Tryz.prog 97 [bigP x, bigP y] (· = .tup [bigP (x.tdiv y), bigP (x.tmod y)]) := by
  have h := bquo_aux (decide (x < 0)) (decide (y < 0)) x.natAbs y.natAbs hx hyl (by omega)
  rw [sgn_div, sgn_mod] at h
  exact h
end Go.Proofs.YtopjkdddicgajaaGreatDoor
namespace Go.Proofs.YtopjkdddicgajaaGreatDoor
open Go.RowKit
section
variable {C : Ctx} {n : Nat} {σ : St} {dst : Option Tmp} {ty : TypeId} {pos : String} {after : Array Edge} {gd : Option (Nat × Bool)} {x y : Operand}
/-- x[:h] of a slice of the call's own. -/
theorem xj_sliceO {T e : TypeId} {id s k : Nat} {kh : IntKind} {ih : Int} {o : Ob} (h : Nat) (hT : C.P.underlying T = some (.slice e)) (hs : szIs C.P e s) (hx : σ.ev n x = .osl id s k) (ho : σ.ob id = some o) (hy : σ.ev n y = .pv (.int kh ih)) (hi : ih = (h : Int)) (h2 : h ≤ k) (hre : o.real = true := by rfl) :
    XJ C n ⟨dst, .slice T x none (some y) none, ty, pos, after, gd⟩ σ ⟨.osl id s h, [], []⟩ :=
  .val fun a w m R hw => by
    obtain ⟨b, N, c, he, hkc, hcm, hN, hm, hor⟩ := hw.osl hx ho hre
    have e2 : a.eval y = .int kh h := by rw [hw.int hy, hi]
    have hlc : h ≤ c := by omega
    have hav : σ.av id = false := by
      cases hv : σ.av id with
      | false => rfl
      | true => have := hw.hr.free id hv; rw [ho] at this; cases this
    refine ⟨.slice (some ⟨b, 0, none⟩) h c, ?_, ?_⟩
    · by_cases hc0 : c = 0
      · subst hc0
        have : h = 0 := by omega
        subst this
        simp [execOp, he, e2, Instr.sliceAt, Instr.slice, Instr.sliceBounds, Instr.sliceBound, asIntOf, run_underlying hT, hs.run]
      · simp [execOp, he, e2, Instr.sliceAt, Instr.slice, Instr.sliceBounds, Instr.sliceBound, asIntOf, run_underlying hT, hs.run, hlc, Addr.add_lit, hc0]
    · simp only [Rel]
      refine ⟨hav, fun b' N' e => ?_⟩
      rw [hm] at e
      cases e
      exact ⟨c, rfl, hlc, hcm, hN⟩
/-- The cells behind the first j are forgotten. -/
def St.cutO (σ : St) (id : Nat) (T : TypeId) (cs : List PV) : St := ⟨σ.sl, obL [(id, some (.cells T cs))] σ.ob, σ.av⟩
theorem St.le_cutO {T : TypeId} {cs vs : List PV} (id j : Nat) (ho : σ.ob id = some (.cells T cs)) (hv : cs.take j = vs) : σ.le (σ.cutO id T vs) := by
  subst hv
  rintro C n a w ⟨m, R, hw⟩
  have obe : ∀ i, i ≠ id → obL [(id, some (.cells T (cs.take j)))] σ.ob i = σ.ob i := fun i hi => by
    have : Nat.beq i id = false := by cases hb : Nat.beq i id; rfl; exact absurd (Nat.eq_of_beq_eq_true hb) hi
    simp [obL, this]
  have obs : obL [(id, some (.cells T (cs.take j)))] σ.ob id = some (.cells T (cs.take j)) := by simp [obL]
  refine ⟨m, R, ⟨?_, ?_, ?_, hw.hr.inj, hw.hr.own, hw.hr.rsz, hw.hr.rfr, hw.hr.r0, hw.hr.frame, hw.hr.keep, hw.hr.res⟩, hw.df, hw.sz, hw.sl⟩
  · intro i
    show (m i).isSome = liveO (obL _ σ.ob i)
    by_cases e : i = id
    · subst e; rw [obs, hw.hr.dom, ho]; rfl
    · rw [obe i e]; exact hw.hr.dom i
  · intro i hi
    show obL _ σ.ob i = none
    by_cases e : i = id
    · subst e; have := hw.hr.free i hi; rw [ho] at this; cases this
    · rw [obe i e]; exact hw.hr.free i hi
  · intro i o b N h1 h2
    by_cases e : i = id
    · subst e
      have h1' : obL [(i, some (.cells T (cs.take j)))] σ.ob i = some o := h1
      rw [obs] at h1'
      cases h1'
      obtain ⟨arr, q1, q2, q3, q4⟩ := hw.hr.obj i _ b N ho h2
      refine ⟨arr, q1, q2, by simp; omega, ?_⟩
      have := q4.take j
      rw [List.take_take] at this
      rw [List.length_take]
      exact this
    · have h1' : obL [(id, some (.cells T (cs.take j)))] σ.ob i = some o := h1
      rw [obe i e] at h1'
      exact hw.hr.obj i o b N h1' h2
end
end Go.Proofs.YtopjkdddicgajaaGreatDoor
namespace Go.Proofs.YtopjkdddicgajaaGreatDoor
open Go.RowKit
set_option maxRecDepth 100000
set_option maxHeartbeats 4000000
theorem big_nn (a : Nat) : bigP (a : Int) = .agg [.bool false, pli (limbs a)] := by
  show PV.agg [.bool (decide ((a : Int) < 0)), pli (limbs (a : Int).natAbs)] = _
  rw [decide_eq_false (by omega), Int.natAbs_natCast]
theorem bgcd_aux (nx ny : Bool) (a b : Nat) (hx : (limbs a).length ≤ 100000) (hyl : (limbs b).length ≤ 100000) : FnP Tryz.prog 96 [.agg [.bool nx, pli (limbs a)], .agg [.bool ny, pli (limbs b)]] (· = .agg [.bool false, pli (limbs (Nat.gcd a b))]) := by
  refine FnP.ofC Tryz.func96 rfl Tryz.ntmps96 (by simp) fun m0 w0 F R0 => ?_
  repeat refine AW.seq ?_
  refine AW.region ?_
  iterate 3 refine A1 rfl ?_
  repeat refine AW.seq ?_
  refine AW.region ?_
  iterate 4 refine A1 rfl ?_
  repeat refine AW.seq ?_
  refine AW.block ?_
  repeat refine AW.seq ?_
  refine AW.loop (st := fun x_0 : Nat × Nat => mkS [(2, .ptr 0 0), (3, .ptr 1 0), (4, .ptr 2 0)] [(0, .mix 105 [.pv (.bool false), .pv (pli (limbs x_0.1))]), (1, .mix 105 [.pv (.bool false), .pv (pli (limbs x_0.2))]), (2, .mix 105 [.pv (.bool false), .pv (.sl (some true) 0 [])])] 3)
    (I := fun x_0 => Nat.gcd x_0.1 x_0.2 = Nat.gcd a b ∧ (limbs x_0.1).length ≤ 100000 ∧ (limbs x_0.2).length ≤ 100000) (μ := fun x_0 => x_0.2) (x0 := (a, b)) (St.le_mk ⟨rfl, rfl, rfl, trivial⟩ ⟨rfl, rfl, rfl, trivial⟩ rfl rfl) (⟨rfl, hx, hyl⟩) ?_
  rintro ⟨x, y⟩ ⟨hg, hxl, hyl2⟩
  try simp only at hg hxl hyl2 ⊢
  repeat refine AW.seq ?_
  refine AW.region ?_
  iterate 4 refine A1 rfl ?_
  repeat refine AW.seq ?_
  refine AW.condP rfl (fun hc12 => ?_) (fun hc12 => ?_)
  · have hy0 : 0 < y := pos_len (by omega)
    have hq := bquo_aux false false x y (by omega) hyl2 hy0
    rw [show sgn (false != false) (x / y) = ((x / y : Nat) : Int) from rfl, show sgn false (x % y) = ((x % y : Nat) : Int) from rfl, big_nn, big_nn] at hq
    refine AW.skip ?_
    repeat refine AW.seq ?_
    refine AW.block ?_
    repeat refine AW.seq ?_
    refine AW.region ?_
    iterate 2 refine A1 rfl ?_
    refine RL.step (d := some 16) rfl rfl (xj_call Tryz.call97 hq rfl) ?_
    iterate 7 refine A1 rfl ?_
    repeat refine AW.seq ?_
    refine AW.draw follows [[], [], [0], [2, 1, 0]] [0, 1, 2, 3] (by kernel_rfl) (by kernel_rfl) ?_
    iterate 4 refine D1 rfl rfl ?_
    refine ⟨by kernel_rfl, ?_⟩
    exact ⟨(y, x % y), St.le_mk ⟨rfl, rfl, rfl, trivial⟩ ⟨rfl, rfl, rfl, trivial⟩ rfl rfl, ⟨by rw [← hg]; exact gcd_step x y, hyl2, mod_len hy0 hyl2⟩, Nat.mod_lt _ hy0⟩
  · repeat refine AW.seq ?_
    refine AW.exit ?_
    repeat refine AW.seq ?_
    refine AW.region ?_
    iterate 2 refine A1 rfl ?_
    repeat refine AW.seq ?_
    refine AW.ret ?_
    have hy0 : y = 0 := limbs_len0.1 (by omega)
    exact ⟨_, _, rfl, rfl, ⟨cellOk1 ⟨_, Tryz.underlying105, rfl⟩ sz105 rfl rfl rfl, trivial⟩, by rw [← hg, hy0, Nat.gcd_zero_right]; rfl⟩
theorem bgcd_spec (x y : Int) (hx : (limbs x.natAbs).length ≤ 100000) (hyl : (limbs y.natAbs).length ≤ 100000) : FnP Tryz.prog 96 [bigP x, bigP y] (· = bigP (Int.gcd x y : Int)) := by
  have h := bgcd_aux (decide (x < 0)) (decide (y < 0)) x.natAbs y.natAbs hx hyl
  rw [big_nn]
  exact h
theorem min_neg (z : Int) : (!decide (z < 0) && decide (((limbs z.natAbs).length : Int) > 0)) = decide (-z < 0) := by
  have h := sgn_neg (!decide (z < 0)) z.natAbs
  rw [h]
  congr 1
  by_cases hz : z < 0
  · rw [decide_eq_true hz]; simp [sgn]; omega
  · rw [decide_eq_false hz]; simp [sgn]; omega
theorem bneg_spec (z : Int) : FnP Tryz.prog 98 [bigP z] (· = bigP (-z)) := by
  refine FnP.ofC Tryz.func98 rfl Tryz.ntmps98 (by simp) fun m0 w0 F R0 => ?_
  have e1 := min_neg z
  have e2 : (-z).natAbs = z.natAbs := Int.natAbs_neg z
  repeat refine AW.seq ?_
  refine AW.region ?_
  iterate 2 refine A1 rfl ?_
  repeat refine AW.seq ?_
  refine AW.region ?_
  iterate 4 refine A1 rfl ?_
  apply RL.andB 5 6 11 [7, 8, 9, 10] rfl (by first | exact MonoK.le | exact MonoK.aw | exact MonoK.back)
  · intro hb3
    iterate 5 refine A1 rfl ?_
    exact St.le_fg (fEq.upd (fEq.upd (fEq.upd (fEq.upd (fEq.upd (fEq.upd (fEq.refl) rfl) rfl) rfl) rfl) rfl) rfl) rfl rfl rfl
  · intro hb3
    iterate 5 refine A1 rfl ?_
    exact St.le_fg (fEq.upd (fEq.upd (fEq.upd (fEq.upd (fEq.upd (fEq.upd (fEq.refl) rfl) rfl) rfl) rfl) rfl) rfl) rfl rfl rfl
  iterate 2 refine A1 rfl ?_
  repeat refine AW.seq ?_
  refine AW.region ?_
  iterate 2 refine A1 rfl ?_
  repeat refine AW.seq ?_
  refine AW.ret ?_
  exact ⟨_, _, rfl, rfl, ⟨cellOk1 ⟨_, Tryz.underlying105, rfl⟩ sz105 rfl rfl rfl, trivial⟩, by show _ = PV.agg [.bool (decide (-z < 0)), pli (limbs (-z).natAbs)]; rw [e2, ← e1]; rfl⟩
/-- How many digits a number has. -/
def ndig (n : Nat) : Nat := (Lib.decDigits n).length
theorem ndig_step {n : Nat} (h : 10 ≤ n) : ndig n = ndig (n / 10) + 1 := by
  rw [ndig, ndig, Lib.decDigits, dif_neg (by omega)]; simp
theorem ndig_small {n : Nat} (h : n < 10) : ndig n = 1 := by rw [ndig, Lib.decDigits, dif_pos h]; rfl
theorem ndig_pow {n : Nat} : ∀ k, 10 ^ k ≤ n → ndig n = ndig (n / 10 ^ k) + k
  | 0, _ => by simp
  | k + 1, h => by
    rw [Nat.pow_succ] at h
    have h1 : 10 ^ k ≤ n := Nat.le_trans (Nat.le_mul_of_pos_right _ (by decide)) h
    have h2 : 10 ≤ n / 10 ^ k := (Nat.le_div_iff_mul_le (Nat.pow_pos (by decide))).2 (by rw [Nat.mul_comm]; exact h)
    rw [ndig_pow k h1, ndig_step h2, Nat.div_div_eq_div_mul, Nat.pow_succ]; omega
def ndz (m : Nat) : Nat := if m = 0 then 0 else ndig m
theorem ndig_lt {n k : Nat} (hk : 0 < k) (h : n < 10 ^ k) : ndig n ≤ k := by
  induction k generalizing n with
  | zero => omega
  | succ k ih =>
    by_cases h2 : n < 10
    · rw [ndig_small h2]; omega
    · rw [ndig_step (by omega)]
      have hk0 : 0 < k := by
        rcases Nat.eq_zero_or_pos k with e | e
        · subst e; simp at h; omega
        · exact e
      have := ih hk0 (n := n / 10) (by rw [Nat.div_lt_iff_lt_mul (by decide)]; rw [Nat.pow_succ] at h; exact h)
      omega
theorem ndz_step {m : Nat} (h : 0 < m) : ndz m = ndz (m / 10) + 1 := by
  rw [ndz, if_neg (by omega), ndz]
  by_cases h2 : m < 10
  · rw [if_pos (by omega), ndig_small h2]
  · rw [if_neg (by omega), ndig_step (by omega)]
theorem ndig_top {n : Nat} (h : n ≠ 0) : ndig n = 9 * ((limbs n).length - 1) + ndz (lim (limbs n) ((limbs n).length - 1)) := by
  induction n using Nat.strongRecOn with
  | ind n ih =>
    by_cases h2 : n / 1000000000 = 0
    · have : n < 1000000000 := by omega
      rw [limbs_small h this]
      simp [ndz, h, lim]
    · have e := ih _ (by omega) h2
      have hl : 0 < (limbs (n / 1000000000)).length := Nat.pos_of_ne_zero fun e => h2 (limbs_len0.1 e)
      have hge : 10 ^ 9 ≤ n := by omega
      rw [ndig_pow 9 hge, show (10 : Nat) ^ 9 = 1000000000 from rfl, e, limbs_pos h, List.length_cons]
      obtain ⟨k, hk⟩ : ∃ k, (limbs (n / 1000000000)).length = k + 1 := ⟨_, (Nat.succ_pred_eq_of_pos hl).symm⟩
      rw [hk]
      simp only [Nat.add_sub_cancel, lim, List.getD_cons_succ]
      omega
theorem tdivP {a b : Nat} (h : a ≤ 9223372036854775807) : IntKind.i64.wrap ((a : Int).tdiv (b : Int)) = ((a / b : Nat) : Int) := tdivN h
theorem bdigits_spec (z : Int) (hl : (limbs z.natAbs).length ≤ 1000000) : FnP Tryz.prog 135 [bigP z] (· = .int .i64 (ndig z.natAbs : Int)) := by
  refine FnP.of Tryz.func135 rfl Tryz.ntmps135 (by simp) fun m0 w0 F R0 => ?_
  obtain ⟨n, hn⟩ : ∃ n, n = z.natAbs := ⟨_, rfl⟩
  repeat refine AW.seq ?_
  refine AW.region ?_
  iterate 2 refine A1 rfl ?_
  repeat refine AW.seq ?_
  refine AW.region ?_
  iterate 4 refine A1 rfl ?_
  repeat refine AW.seq ?_
  refine AW.cond rfl (fun hc8 => ?_) (fun hc8 => ?_)
  · repeat refine AW.seq ?_
    refine AW.region ?_
    refine A1 rfl ?_
    repeat refine AW.seq ?_
    refine AW.ret ?_
    have h0 := limbs_len0.1 (show (limbs z.natAbs).length = 0 by have := of_beq hc8; omega)
    exact ⟨_, _, rfl, rfl, by rw [h0, ndig_small (by decide)]; rfl⟩
  · have hl0 : 0 < (limbs z.natAbs).length := by have := of_nbeq hc8; omega
    have hn0 : z.natAbs ≠ 0 := fun e => by rw [e, limbs_zero] at hl0; simp at hl0
    have hil : (limbs z.natAbs).length - 1 < (limbs z.natAbs).length := by omega
    have hv := limI_lim hil
    have hne := limI_ne hil
    have htt := ndig_top hn0
    have hbd := lim_lt (limbs_ok z.natAbs) ((limbs z.natAbs).length - 1)
    have hnb : ndz (lim (limbs z.natAbs) ((limbs z.natAbs).length - 1)) ≤ 9 := by
      unfold ndz
      split
      · decide
      · rcases Nat.lt_or_ge 9 (ndig (lim (limbs z.natAbs) ((limbs z.natAbs).length - 1))) with h | h
        · exact absurd (ndig_lt (k := 9) (by decide) hbd) (by omega)
        · exact h
    refine AW.skip ?_
    repeat refine AW.seq ?_
    refine AW.region ?_
    iterate 6 refine A1 rfl ?_
    generalize lim (limbs z.natAbs) ((limbs z.natAbs).length - 1) = t at *
    repeat refine AW.seq ?_
    refine AW.region ?_
    iterate 6 refine A1 rfl ?_
    refine RL.step (d := some 20) rfl rfl (xj_indexAddr ((limbs z.natAbs).length - 1) Tryz.underlying22 sz3 rfl rfl (by omega) hil hne) ?_
    first | refine A2 rfl (by assumption) ?_ | refine A1 rfl ?_
    refine A1 rfl ?_
    repeat refine AW.seq ?_
    refine AW.block ?_
    repeat refine AW.seq ?_
    refine AW.loop (st := fun x_0 : Nat × Nat => mkS [(3, .pv (.int .i64 (x_0.1 : Int))), (4, .pv (.int .i64 (x_0.2 : Int)))] [] 1)
      (I := fun x_0 => x_0.1 + ndz x_0.2 = ndig z.natAbs ∧ x_0.2 < 1000000000) (μ := fun x_0 => x_0.2) (x0 := (9 * ((limbs z.natAbs).length - 1), t)) (St.le_mk ⟨congrArg (fun i => V.pv (.int .i64 i)) (by omega), rfl, trivial⟩ trivial rfl rfl) (⟨htt.symm, hbd⟩) ?_
    rintro ⟨c, m⟩ ⟨hc, hm⟩
    try simp only at hc hm ⊢
    repeat refine AW.seq ?_
    refine AW.region ?_
    iterate 2 refine A1 rfl ?_
    repeat refine AW.seq ?_
    refine AW.condP rfl (fun hc23 => ?_) (fun hc23 => ?_)
    · refine AW.skip ?_
      repeat refine AW.seq ?_
      refine AW.block ?_
      repeat refine AW.seq ?_
      refine AW.region ?_
      iterate 3 refine A1 rfl ?_
      have hm0 : 0 < m := by omega
      have hst := ndz_step hm0
      repeat refine AW.seq ?_
      refine AW.region ?_
      refine A1 rfl ?_
      refine RL.step (d := some 25) rfl rfl (XJ.cast (v' := .pv (.int .i64 ((m / 10 : Nat) : Int))) (xj_quo rfl rfl (by decide)) (congrArg (fun i => V.pv (.int .i64 i)) (tdivP (b := 10) (by omega)))) ?_
      refine A1 rfl ?_
      exact ⟨(c + 1, m / 10), St.le_mk ⟨rfl, rfl, trivial⟩ trivial rfl rfl, ⟨by show c + 1 + ndz (m / 10) = ndig z.natAbs; omega, by omega⟩, by omega⟩
    · repeat refine AW.seq ?_
      refine AW.exit ?_
      repeat refine AW.seq ?_
      refine AW.region ?_
      iterate 2 refine A1 rfl ?_
      repeat refine AW.seq ?_
      refine AW.ret ?_
      have hm0 : m = 0 := by omega
      rw [hm0] at hc
      exact ⟨_, _, rfl, rfl, congrArg (fun n : Nat => PV.int .i64 n) (by rw [← hc]; rfl)⟩
end Go.Proofs.YtopjkdddicgajaaGreatDoor
namespace Go.Proofs.YtopjkdddicgajaaGreatDoor
open Go.RowKit Mk
set_option maxRecDepth 100000
set_option maxHeartbeats 4000000
/-- The last k digits of a number, the least one first. -/
def leD : Nat → Nat → List UInt8
  | 0, _ => []
  | k + 1, n => UInt8.ofNat (48 + n % 10) :: leD k (n / 10)
theorem leD_len : ∀ (k n : Nat), (leD k n).length = k
  | 0, _ => rfl
  | k + 1, n => by simp [leD, leD_len k]
attribute [simp] leD_len
theorem leD_add : ∀ (a b n : Nat), leD (a + b) n = leD a n ++ leD b (n / 10 ^ a)
  | 0, b, n => by simp [leD]
  | a + 1, b, n => by
    rw [show a + 1 + b = (a + b) + 1 by omega, leD, leD, leD_add a b, List.cons_append, Nat.div_div_eq_div_mul, Nat.pow_succ, Nat.mul_comm 10]
theorem leD_mod : ∀ (k m n : Nat), k ≤ m → leD k (n % 10 ^ m) = leD k n
  | 0, _, _, _ => rfl
  | k + 1, 0, _, h => by omega
  | k + 1, m + 1, n, h => by
    have e1 : n % 10 ^ (m + 1) % 10 = n % 10 := Nat.mod_mod_of_dvd _ ⟨10 ^ m, by rw [Nat.pow_succ, Nat.mul_comm]⟩
    have e2 : n % 10 ^ (m + 1) / 10 = n / 10 % 10 ^ m := by rw [Nat.pow_succ, Nat.mul_comm]; exact Nat.mod_mul_right_div_self n 10 (10 ^ m)
    rw [leD, leD, e1, e2, leD_mod k m _ (by omega)]
theorem leD_zero : ∀ k, leD k 0 = List.replicate k 48
  | 0 => rfl
  | k + 1 => by rw [leD, Nat.zero_mod, Nat.zero_div, leD_zero k]; rfl
theorem leD_dec {n k : Nat} (hk : ndig n ≤ k) : leD k n = (Lib.decDigits n).reverse ++ List.replicate (k - ndig n) 48 := by
  induction n using Nat.strongRecOn generalizing k with
  | ind n ih =>
    by_cases h : n < 10
    · obtain ⟨j, rfl⟩ : ∃ j, k = j + 1 := ⟨k - 1, by rw [ndig_small h] at hk; omega⟩
      rw [ndig_small h, leD, Nat.mod_eq_of_lt h, Nat.div_eq_of_lt h, leD_zero, Lib.decDigits, dif_pos h]; rfl
    · rw [ndig_step (by omega)] at hk
      obtain ⟨j, rfl⟩ : ∃ j, k = j + 1 := ⟨k - 1, by omega⟩
      have e2 : Lib.decDigits n = Lib.decDigits (n / 10) ++ [UInt8.ofNat (48 + n % 10)] := by
        conv => lhs; rw [Lib.decDigits]
        rw [dif_neg h]
      rw [leD, ih (n / 10) (by omega) (by omega), ndig_step (n := n) (by omega), e2, List.reverse_append]
      simp
theorem dec_last {n : Nat} (h : n ≠ 0) : (Lib.decDigits n).reverse.getD (ndig n - 1) 0 ≠ 48 := by
  induction n using Nat.strongRecOn with
  | ind n ih =>
    by_cases h2 : n < 10
    · rw [ndig_small h2, Lib.decDigits, dif_pos h2]
      simp only [Nat.sub_self, List.reverse_singleton, List.getD_cons_zero]
      intro e
      have := congrArg UInt8.toNat e
      simp at this
      omega
    · have := ih (n / 10) (by omega) (by omega)
      rw [ndig_step (by omega), Lib.decDigits, dif_neg h2, List.reverse_append]
      have hp : 0 < ndig (n / 10) := by
        by_cases h3 : n / 10 < 10
        · rw [ndig_small h3]; decide
        · rw [ndig_step (by omega)]; omega
      obtain ⟨j, hj⟩ : ∃ j, ndig (n / 10) = j + 1 := ⟨_, (Nat.succ_pred_eq_of_pos hp).symm⟩
      rw [hj] at this ⊢
      simpa using this
theorem ndig_limbs (n : Nat) : ndig n ≤ 9 * (limbs n).length + 1 := by
  by_cases h : n = 0
  · subst h; rw [ndig_small (by decide)]; omega
  · have hl := lt_limbs n
    rw [show (1000000000 : Nat) = 10 ^ 9 from rfl, ← Nat.pow_mul] at hl
    by_cases h0 : (limbs n).length = 0
    · exact absurd (limbs_len0.1 h0) h
    · have := ndig_lt (by omega) hl; omega
theorem ndig_limbs2 {n : Nat} (h : n ≠ 0) : ndig n ≤ 9 * (limbs n).length := by
  have hl := lt_limbs n
  rw [show (1000000000 : Nat) = 10 ^ 9 from rfl, ← Nat.pow_mul] at hl
  by_cases h0 : (limbs n).length = 0
  · exact absurd (limbs_len0.1 h0) h
  · exact ndig_lt (by omega) hl
/-- Nine digits more. -/
theorem leD_limb (n i : Nat) : leD (9 * (i + 1)) n = leD (9 * i) n ++ leD 9 (lim (limbs n) i) := by
  rw [show 9 * (i + 1) = 9 * i + 9 by omega, leD_add, lim_limbs]
  congr 1
  rw [show (1000000000 : Nat) = 10 ^ 9 from rfl, ← Nat.pow_mul, leD_mod 9 9 _ (Nat.le_refl _)]
theorem leD_snoc (k d : Nat) : leD (k + 1) d = leD k d ++ [UInt8.ofNat (48 + d / 10 ^ k % 10)] := by
  rw [leD_add k 1]; rfl
/-- i bytes at both ends have changed places. -/
structure Rev (E e : List UInt8) (i : Nat) : Prop where
  len : e.length = E.length
  ile : 2 * i ≤ E.length + 1
  at_ : ∀ j, j < E.length → e.getD j 0 = if j < i ∨ E.length - i ≤ j then E.getD (E.length - 1 - j) 0 else E.getD j 0
theorem rev_zero (E : List UInt8) : Rev E E 0 := ⟨rfl, by omega, fun j hj => by rw [if_neg (by omega)]⟩
theorem getD_setB {l : List UInt8} {k i : Nat} {x : UInt8} (hk : k < l.length) : (l.set k x).getD i 0 = if i = k then x else l.getD i 0 := by
  simp only [List.getD, List.getElem?_set]
  by_cases h : i = k
  · subst h; simp [hk]
  · rw [if_neg (fun e => h e.symm), if_neg h]
theorem rev_step {E e : List UInt8} {i : Nat} (h : Rev E e i) (hi : i < E.length - 1 - i) : Rev E ((e.set i (e.getD (E.length - 1 - i) 0)).set (E.length - 1 - i) (e.getD i 0)) (i + 1) := by
  have hl := h.len
  refine ⟨by simp [hl], by omega, fun j hj => ?_⟩
  have a1 : e.getD i 0 = E.getD i 0 := by rw [h.at_ i (by omega), if_neg (by omega)]
  have a2 : e.getD (E.length - 1 - i) 0 = E.getD (E.length - 1 - i) 0 := by rw [h.at_ _ (by omega), if_neg (by omega)]
  rw [getD_setB (by simp; omega), getD_setB (by omega), a1, a2]
  by_cases h1 : j = E.length - 1 - i
  · rw [if_pos h1, if_pos (by omega)]; congr 1; omega
  · rw [if_neg h1]
    by_cases h2 : j = i
    · rw [if_pos h2, if_pos (by omega)]; congr 1; omega
    · rw [if_neg h2, h.at_ j hj]
      by_cases h3 : j < i ∨ E.length - i ≤ j
      · rw [if_pos h3, if_pos (by omega)]
      · rw [if_neg h3, if_neg (by omega)]
theorem rev_end {E e : List UInt8} {i : Nat} (h : Rev E e i) (hi : E.length ≤ 2 * i + 1) : e = E.reverse := by
  have hl := h.len
  refine List.ext_getElem (by simp [hl]) fun j h1 h2 => ?_
  have hj : j < E.length := by omega
  have e1 := h.at_ j hj
  rw [List.getElem_reverse]
  have e2 : e.getD j 0 = e[j] := by simp [List.getD, h1]
  have e3 : E.getD (E.length - 1 - j) 0 = E[E.length - 1 - j] := by simp [List.getD, show E.length - 1 - j < E.length by omega]
  rw [← e2, e1, ← e3]
  split
  · rfl
  · congr 1; omega
theorem bytesP_snoc (l : List UInt8) (d : Nat) (hd : d < 10) : bytesP l ++ [.int .u8 ((48 : Int) + (d : Int))] = bytesP (l ++ [UInt8.ofNat (48 + d)]) := by
  simp only [bytesP, List.map_append, List.map_cons, List.map_nil]
  congr 3
  have : (UInt8.ofNat (48 + d)).toNat = 48 + d := by simp; omega
  rw [this]; rfl
theorem bytesP_len (l : List UInt8) : (bytesP l).length = l.length := by simp [bytesP]
attribute [simp] bytesP_len
theorem bytesP_take (l : List UInt8) (k : Nat) : (bytesP l).take k = bytesP (l.take k) := by simp [bytesP, List.map_take]
theorem bytesP_set (l : List UInt8) (k : Nat) (x : UInt8) : (bytesP l).set k (.int .u8 (x.toNat : Int)) = bytesP (l.set k x) := by simp [bytesP, List.map_set]
theorem bytesP_get {l : List UInt8} {k : Nat} (h : k < l.length) : (bytesP l)[k * 1]? = some (.int .u8 ((l.getD k 0).toNat : Int)) := by rw [bytesP_at h]; simp [List.getD, h]
theorem itoa_eq (z : Int) : Lib.itoa z = (if z < 0 then [45] else []) ++ Lib.decDigits z.natAbs := by
  unfold Lib.itoa
  split
  · rfl
  · rw [show z.toNat = z.natAbs by omega]; rfl
theorem itoa_zero : Lib.itoa 0 = [48] := by
  rw [itoa_eq, if_neg (by decide), Int.natAbs_zero, Lib.decDigits, dif_pos (by decide)]; rfl
theorem u8_48 (x : UInt8) : (((x.toNat : Nat) : Int) == 48) = true ↔ x = 48 := by
  rw [beq_iff_eq]
  constructor
  · intro h; exact UInt8.toNat_inj.1 (show x.toNat = (48 : UInt8).toNat from Int.ofNat_inj.1 h)
  · intro h; rw [h]; rfl
theorem btext_spec (z : Int) (hl : (limbs z.natAbs).length ≤ 1000000) : FnP Tryz.prog 136 [bigP z] (· = .str ⟨(Lib.itoa z).toArray⟩) := by
  refine FnP.of Tryz.func136 rfl Tryz.ntmps136 (by simp) fun m0 w0 F R0 => ?_
  obtain ⟨n, hn⟩ : ∃ n, n = z.natAbs := ⟨_, rfl⟩
  repeat refine AW.seq ?_
  refine AW.region ?_
  iterate 2 refine A1 rfl ?_
  repeat refine AW.seq ?_
  refine AW.region ?_
  iterate 4 refine A1 rfl ?_
  repeat refine AW.seq ?_
  refine AW.cond rfl (fun hc12 => ?_) (fun hc12 => ?_)
  · repeat refine AW.seq ?_
    refine AW.region ?_
    refine A1 rfl ?_
    repeat refine AW.seq ?_
    refine AW.ret ?_
    have h0 := limbs_len0.1 (show (limbs z.natAbs).length = 0 by have := of_beq hc12; omega)
    have hz : z = 0 := by omega
    exact ⟨_, _, rfl, rfl, by rw [hz, itoa_zero]; rfl⟩
  · have hl0 : 0 < (limbs z.natAbs).length := by have := of_nbeq hc12; omega
    have hn0 : z.natAbs ≠ 0 := fun e => by rw [e, limbs_zero] at hl0; simp at hl0
    refine AW.skip ?_
    repeat refine AW.seq ?_
    refine AW.region ?_
    refine A1 rfl ?_
    refine AW.weaken (St.le_gro 3 1 1 5 rfl rfl) ?_
    repeat refine AW.seq ?_
    refine AW.region ?_
    refine A1 rfl ?_
    repeat refine AW.seq ?_
    refine AW.block ?_
    repeat refine AW.seq ?_
    refine AW.loop (st := fun x_0 : Nat × List UInt8 => mkS [(1, .ptr 0 0), (3, .gsl 1 1 x_0.2.length), (4, .pv (.int .i64 x_0.1))] [(0, .mix 105 [.pv (.bool (decide (z < 0))), .pv (pli (limbs z.natAbs))]), (1, .gro 5 (bytesP x_0.2))] 2)
      (I := fun x_0 => x_0.1 ≤ (limbs z.natAbs).length ∧ x_0.2 = leD (9 * x_0.1) z.natAbs) (μ := fun x_0 => (limbs z.natAbs).length - x_0.1) (x0 := (0, [])) (St.le_mk ⟨rfl, rfl, rfl, trivial⟩ ⟨rfl, rfl, trivial⟩ rfl rfl) (⟨Nat.zero_le _, rfl⟩) ?_
    rintro ⟨i, l⟩ ⟨hi, hll⟩
    try simp only at hi hll ⊢
    repeat refine AW.seq ?_
    refine AW.region ?_
    iterate 5 refine A1 rfl ?_
    repeat refine AW.seq ?_
    refine AW.condP rfl (fun hc17 => ?_) (fun hc17 => ?_)
    · have hil : i < (limbs z.natAbs).length := by omega
      have hv := limI_lim hil
      have hne := limI_ne hil
      have hbd := lim_lt (limbs_ok z.natAbs) i
      have hst := leD_limb z.natAbs i
      have hlen : l.length = 9 * i := by rw [hll, leD_len]
      rw [← hll] at hst
      clear hll
      refine AW.skip ?_
      repeat refine AW.seq ?_
      refine AW.block ?_
      generalize lim (limbs z.natAbs) i = d at *
      repeat refine AW.seq ?_
      refine AW.region ?_
      iterate 4 refine A1 rfl ?_
      first | refine A2 rfl (by assumption) ?_ | refine A1 rfl ?_
      refine A1 rfl ?_
      repeat refine AW.seq ?_
      refine AW.region ?_
      refine A1 rfl ?_
      repeat refine AW.seq ?_
      refine AW.block ?_
      repeat refine AW.seq ?_
      refine AW.loop (st := fun x_1 : Nat × List UInt8 => mkS [(1, .ptr 0 0), (3, .gsl 1 1 x_1.2.length), (4, .pv (.int .i64 i)), (5, .pv (.int .i64 ((d / 10 ^ x_1.1 : Nat) : Int))), (6, .pv (.int .i64 x_1.1))] [(0, .mix 105 [.pv (.bool (decide (z < 0))), .pv (pli (limbs z.natAbs))]), (1, .gro 5 (bytesP x_1.2))] 2)
        (I := fun x_1 => x_1.1 ≤ 9 ∧ x_1.2 = l ++ leD x_1.1 d) (μ := fun x_1 => 9 - x_1.1) (x0 := (0, l)) (St.le_mk ⟨rfl, rfl, rfl, congrArg (fun n : Nat => V.pv (.int .i64 n)) (by simp), rfl, trivial⟩ ⟨rfl, rfl, trivial⟩ rfl rfl) (⟨Nat.zero_le _, by simp [leD]⟩) ?_
      rintro ⟨k, m⟩ ⟨hk, hm⟩
      try simp only at hk hm ⊢
      repeat refine AW.seq ?_
      refine AW.region ?_
      iterate 2 refine A1 rfl ?_
      repeat refine AW.seq ?_
      refine AW.condP rfl (fun hc26 => ?_) (fun hc26 => ?_)
      · have hmlen : m.length = 9 * i + k := by rw [hm]; simp; omega
        have hs2 := leD_snoc k d
        have hq : d / 10 ^ k ≤ d := Nat.div_le_self _ _
        have hq2 : d / 10 ^ (k + 1) = d / 10 ^ k / 10 := by rw [Nat.pow_succ, Nat.div_div_eq_div_mul]
        have hs3 : m ++ [UInt8.ofNat (48 + d / 10 ^ k % 10)] = l ++ leD (k + 1) d := by rw [hs2, hm, List.append_assoc]
        have hmod : d / 10 ^ k % 10 < 10 := Nat.mod_lt _ (by decide)
        have hbs := bytesP_snoc m (d / 10 ^ k % 10) hmod
        clear hm hs2
        refine AW.skip ?_
        repeat refine AW.seq ?_
        refine AW.block ?_
        generalize d / 10 ^ k = c at *
        repeat refine AW.seq ?_
        refine AW.region ?_
        iterate 2 refine A1 rfl ?_
        refine RL.step (d := some 31) rfl rfl (XJ.cast (v' := .pv (.int .i64 ((c % 10 : Nat) : Int))) (xj_rem rfl rfl (by decide)) rfl) ?_
        refine A1 rfl ?_
        refine RL.step (d := some 33) rfl rfl (XJ.cast (v' := .pv (.int .u8 ((48 : Int) + ((c % 10 : Nat) : Int)))) (xj_conv Tryz.underlying3 Tryz.underlying5 rfl) (congrArg (fun i => V.pv (.int .u8 i)) (by show ((48 : Int) + ((c % 10 : Nat) : Int)) % 256 = _; omega))) ?_
        iterate 3 refine A1 rfl ?_
        repeat refine AW.seq ?_
        refine AW.region ?_
        refine A1 rfl ?_
        refine RL.step (d := some 37) rfl rfl (XJ.cast (v' := .pv (.int .i64 ((c / 10 : Nat) : Int))) (xj_quo rfl rfl (by decide)) (congrArg (fun i => V.pv (.int .i64 i)) (tdivP (b := 10) (by omega)))) ?_
        refine A1 rfl ?_
        repeat refine AW.seq ?_
        refine AW.region ?_
        iterate 3 refine A1 rfl ?_
        exact ⟨(k + 1, m ++ [UInt8.ofNat (48 + c % 10)]), St.le_mkR [0, 3] ⟨rfl, Eq.trans (b := .gsl 3 1 (m.length + 1)) rfl (congrArg (V.gsl 3 1) (lenI_snoc m _)), rfl, congrArg (fun n : Nat => V.pv (.int .i64 n)) hq2.symm, rfl, trivial⟩ ⟨rfl, congrArg (fun c => some (Ob.gro 5 c)) hbs, trivial⟩ rfl rfl (by decide) rfl, ⟨by omega, hs3⟩, by omega⟩
      · have hk9 : k = 9 := by omega
        rw [hk9, ← hst] at hm
        repeat refine AW.seq ?_
        refine AW.exit ?_
        repeat refine AW.seq ?_
        refine AW.region ?_
        iterate 3 refine A1 rfl ?_
        exact ⟨(i + 1, m), St.le_mk ⟨rfl, rfl, rfl, trivial⟩ ⟨rfl, rfl, trivial⟩ rfl rfl, ⟨by omega, hm⟩, by omega⟩
    · have hie : i = (limbs z.natAbs).length := by omega
      rw [hie, leD_dec (ndig_limbs2 hn0)] at hll
      have hlast := dec_last hn0
      have hDl : (Lib.decDigits z.natAbs).reverse.length = ndig z.natAbs := by simp [ndig]
      have hDp : 0 < ndig z.natAbs := by unfold ndig; rw [Lib.decDigits]; split <;> simp
      have hit := itoa_eq z
      have hdl := ndig_limbs z.natAbs
      have hD : ∃ D, D = (Lib.decDigits z.natAbs).reverse := ⟨_, rfl⟩
      obtain ⟨D, hD⟩ := hD
      rw [← hD] at hll hlast hDl
      have hDr : Lib.decDigits z.natAbs = D.reverse := by rw [hD, List.reverse_reverse]
      rw [hDr] at hit
      clear hD hDr
      rw [← hDl] at hlast hDp
      have hlD : l.take D.length = D := by rw [hll]; simp
      have hge : D.length ≤ l.length := by rw [hll]; simp
      have hlge : ∀ j, D.length ≤ j → j < l.length → l.getD j 0 = 48 := fun j h1 h2 => by
        rw [hll] at h2 ⊢
        simp at h2
        simp only [List.getD, List.getElem?_append_right h1, List.getElem?_replicate]
        rw [if_pos (by omega)]; rfl
      have hlt : l.getD (D.length - 1) 0 ≠ 48 := by
        rw [hll]
        simp only [List.getD, List.getElem?_append_left (show D.length - 1 < D.length by omega)]
        simpa [List.getD] using hlast
      have hllen : l.length ≤ 9000001 := by
        have := congrArg List.length hll
        simp at this
        omega
      clear hll hlast
      refine AW.weaken (St.le_own 3 rfl rfl (by omega) (bytesP_ne (k := 0) (by omega))) ?_
      repeat refine AW.seq ?_
      refine AW.exit ?_
      repeat refine AW.seq ?_
      refine AW.block ?_
      repeat refine AW.seq ?_
      refine AW.loop (st := fun x_2 : Nat => mkS [(1, .ptr 0 0), (3, .osl 1 1 x_2)] [(0, .mix 105 [.pv (.bool (decide (z < 0))), .pv (pli (limbs z.natAbs))]), (1, .cells 5 (bytesP l))] 2)
        (I := fun x_2 => D.length ≤ x_2 ∧ x_2 ≤ l.length) (μ := fun x_2 => x_2) (x0 := (l.length)) (St.le_mk ⟨rfl, rfl, trivial⟩ ⟨rfl, rfl, trivial⟩ rfl rfl) (⟨hge, Nat.le_refl _⟩) ?_
      rintro k ⟨hk1, hk2⟩
      have hkl : k - 1 < l.length := by omega
      have hvk := bytesP_get hkl
      have h48 := u8_48 (l.getD (k - 1) 0)
      have hgek := hlge (k - 1)
      have heq : k = D.length → l.getD (k - 1) 0 ≠ 48 := fun e => by rw [e]; exact hlt
      generalize l.getD (k - 1) 0 = ck at *
      repeat refine AW.seq ?_
      refine AW.region ?_
      iterate 4 refine A1 rfl ?_
      refine RL.step (d := some 42) rfl rfl (xj_indexAddrO (k - 1) Tryz.underlying56 sz5 rfl rfl rfl (by omega) (by omega)) ?_
      first | refine A2 rfl (by assumption) ?_ | refine A1 rfl ?_
      refine A1 rfl ?_
      repeat refine AW.seq ?_
      refine AW.cond rfl (fun hc44 => ?_) (fun hc44 => ?_)
      · have hk3 : D.length ≤ k - 1 := by have h1 := h48.1 hc44; rcases Nat.lt_or_ge (k - 1) D.length with e | e; exact absurd h1 (heq (by omega)); exact e
        refine AW.skip ?_
        repeat refine AW.seq ?_
        refine AW.block ?_
        repeat refine AW.seq ?_
        refine AW.region ?_
        iterate 4 refine A1 rfl ?_
        refine RL.step (d := some 49) rfl rfl (xj_sliceO (k - 1) Tryz.underlying56 sz5 rfl rfl rfl (by omega) (by omega)) ?_
        refine A1 rfl ?_
        exact ⟨(k - 1), St.le_mk ⟨rfl, rfl, trivial⟩ ⟨rfl, rfl, trivial⟩ rfl rfl, ⟨hk3, by omega⟩, by omega⟩
      · have hk3 : k = D.length := by
          apply Decidable.byContradiction
          intro hne
          have := h48.2 (hgek (by omega) hkl)
          rw [hc44] at this
          cases this
        repeat refine AW.seq ?_
        refine AW.exit ?_
        refine AW.weaken (St.le_cutO (vs := bytesP D) 1 k (by rfl) (by rw [bytesP_take, hk3, hlD])) ?_
        rw [hk3]
        repeat refine AW.seq ?_
        refine AW.region ?_
        iterate 2 refine A1 rfl ?_
        repeat refine AW.seq ?_
        refine AW.cond rfl (fun hc51 => ?_) (fun hc51 => ?_)
        · have hE : ∃ E, E = D ++ [45] := ⟨_, rfl⟩
          obtain ⟨E, hE⟩ := hE
          have hEr : Lib.itoa z = E.reverse := by rw [hit, if_pos (by simpa using hc51), hE]; simp
          have hEl : E.length = D.length + 1 := by rw [hE]; simp
          repeat refine AW.seq ?_
          refine AW.region ?_
          iterate 2 refine A1 rfl ?_
          refine RL.step (d := some 54) rfl rfl (xj_append1 3 el56 rfl rfl (by simp) rfl rfl rfl rfl (by omega) rfl) ?_
          refine A1 rfl ?_
          rw [show bytesP D ++ [PV.int .u8 45] = bytesP E by rw [hE]; simp [bytesP], ← hEl]
          repeat refine AW.seq ?_
          refine AW.region ?_
          iterate 5 refine A1 rfl ?_
          repeat refine AW.seq ?_
          refine AW.block ?_
          repeat refine AW.seq ?_
          refine AW.loop (st := fun x_3 : Nat × List UInt8 => mkS [(3, .osl 1 1 x_3.2.length), (7, .pv (.int .i64 x_3.1)), (8, .pv (.int .i64 ((x_3.2.length : Int) - 1 - x_3.1)))] [(1, .cells 5 (bytesP x_3.2))] 2)
            (I := fun x_3 => Rev E x_3.2 x_3.1) (μ := fun x_3 => x_3.2.length - x_3.1) (x0 := (0, E)) (St.le_mkR [0, 3] ⟨rfl, rfl, congrArg (fun i => V.pv (.int .i64 i)) (by simp), trivial⟩ ⟨rfl, trivial⟩ rfl rfl (by decide) rfl) (rev_zero E) ?_
          rintro ⟨i, e⟩ hR
          try simp only at hR ⊢
          repeat refine AW.seq ?_
          refine AW.region ?_
          iterate 3 refine A1 rfl ?_
          repeat refine AW.seq ?_
          refine AW.condP rfl (fun hc60 => ?_) (fun hc60 => ?_)
          · have hel := hR.len
            have hi1 : i < e.length := by omega
            have hk1 : e.length - 1 - i < e.length := by omega
            have hvi := bytesP_get hi1
            have hvk := bytesP_get hk1
            have hst := rev_step hR (by omega)
            rw [← hel] at hst
            have hset : ((bytesP e).set (i * 1) (.int .u8 ((e.getD (e.length - 1 - i) 0).toNat : Int))).set ((e.length - 1 - i) * 1) (.int .u8 ((e.getD i 0).toNat : Int)) = bytesP ((e.set i (e.getD (e.length - 1 - i) 0)).set (e.length - 1 - i) (e.getD i 0)) := by rw [Nat.mul_one, Nat.mul_one, bytesP_set, bytesP_set]
            have hln : ((e.set i (e.getD (e.length - 1 - i) 0)).set (e.length - 1 - i) (e.getD i 0)).length = e.length := by simp
            clear hR
            refine AW.skip ?_
            repeat refine AW.seq ?_
            refine AW.block ?_
            generalize (e.set i (e.getD (e.length - 1 - i) 0)).set (e.length - 1 - i) (e.getD i 0) = e2 at *
            generalize e.getD (e.length - 1 - i) 0 = ck at *
            generalize e.getD i 0 = ci at *
            repeat refine AW.seq ?_
            refine AW.draw follows [[], [], [], [], [], [], [5, 4], [6, 5, 4], [], [], [9, 8], [10, 9, 8], [11, 7, 6, 5, 4, 1, 0, 10, 9, 8], [12, 11, 7, 6, 5, 4, 1, 0, 10, 9, 8], [13, 12, 11, 10, 9, 8, 7, 6, 5, 4, 1, 0, 3, 2], [14, 13, 12, 11, 10, 9, 8, 7, 6, 5, 4, 1, 0, 3, 2]] [0, 1, 2, 3, 4, 5, 6, 7, 8, 9, 10, 11, 12, 13, 14, 15] (by kernel_rfl) (by kernel_rfl) ?_
            iterate 6 refine D1 rfl rfl ?_
            refine DL.step (d := some 71) [_] rfl rfl rfl (fun τ h => xj_indexAddrO (e.length - 1 - i) Tryz.underlying56 sz5 ((h.e 0 _ rfl).trans rfl) ((h.o 0 _ rfl).trans rfl) ((h.e 1 _ rfl).trans rfl) (by omega) hk1) rfl (by kernel_rfl) ?_
            first | refine D2 rfl rfl (by assumption) ?_ | refine D1 rfl rfl ?_
            iterate 2 refine D1 rfl rfl ?_
            refine DL.step (d := some 75) [_] rfl rfl rfl (fun τ h => xj_indexAddrO i Tryz.underlying56 sz5 ((h.e 0 _ rfl).trans rfl) ((h.o 0 _ rfl).trans rfl) ((h.e 1 _ rfl).trans rfl) rfl hi1) rfl (by kernel_rfl) ?_
            first | refine D2 rfl rfl (by assumption) ?_ | refine D1 rfl rfl ?_
            refine DL.step (d := some 77) [_] rfl rfl rfl (fun τ h => xj_indexAddrO i Tryz.underlying56 sz5 ((h.e 0 _ rfl).trans rfl) ((h.o 0 _ rfl).trans rfl) ((h.e 1 _ rfl).trans rfl) rfl hi1) rfl (by kernel_rfl) ?_
            refine D1 rfl rfl ?_
            refine DL.step (d := some 78) [_] rfl rfl rfl (fun τ h => xj_indexAddrO (e.length - 1 - i) Tryz.underlying56 sz5 ((h.e 0 _ rfl).trans rfl) ((h.o 0 _ rfl).trans rfl) ((h.e 1 _ rfl).trans rfl) (by omega) hk1) rfl (by kernel_rfl) ?_
            refine D1 rfl rfl ?_
            refine ⟨by kernel_rfl, ?_⟩
            repeat refine AW.seq ?_
            refine AW.region ?_
            iterate 6 refine A1 rfl ?_
            exact ⟨(i + 1, e2), St.le_mk ⟨congrArg (V.osl 1 1) hln.symm, rfl, congrArg (fun i : Int => V.pv (PV.int .i64 i)) (show (e.length : Int) - 1 - i - 1 = (e2.length : Int) - 1 - ((i + 1 : Nat) : Int) by omega), trivial⟩ ⟨congrArg (fun c => some (Ob.cells 5 c)) hset, trivial⟩ rfl rfl, hst, by show e2.length - (i + 1) < e.length - i; omega⟩
          · have hel := hR.len
            have hev := rev_end hR (by omega)
            repeat refine AW.seq ?_
            refine AW.exit ?_
            repeat refine AW.seq ?_
            refine AW.region ?_
            refine A1 rfl ?_
            refine RL.step (d := some 80) rfl rfl (xj_toS e Tryz.underlying56 Tryz.underlying5 Tryz.underlying9 (.inr ⟨_, _, _, _, rfl, rfl, (by rw [Nat.mul_one]; exact (List.take_of_length_le (by simp)).symm)⟩)) ?_
            refine A1 rfl ?_
            repeat refine AW.seq ?_
            refine AW.ret ?_
            exact ⟨_, _, rfl, rfl, by rw [hEr, ← hev]; rfl⟩
        · have hE : ∃ E, E = D := ⟨_, rfl⟩
          obtain ⟨E, hE⟩ := hE
          have hEr : Lib.itoa z = E.reverse := by rw [hit, if_neg (by simpa using hc51), hE]; simp
          have hEl : E.length ≤ D.length + 1 := by rw [hE]; omega
          rw [← hE]
          refine AW.skip ?_
          repeat refine AW.seq ?_
          refine AW.region ?_
          iterate 5 refine A1 rfl ?_
          repeat refine AW.seq ?_
          refine AW.block ?_
          repeat refine AW.seq ?_
          refine AW.loop (st := fun x_3 : Nat × List UInt8 => mkS [(3, .osl 1 1 x_3.2.length), (7, .pv (.int .i64 x_3.1)), (8, .pv (.int .i64 ((x_3.2.length : Int) - 1 - x_3.1)))] [(1, .cells 5 (bytesP x_3.2))] 2)
            (I := fun x_3 => Rev E x_3.2 x_3.1) (μ := fun x_3 => x_3.2.length - x_3.1) (x0 := (0, E)) (St.le_mk ⟨rfl, rfl, congrArg (fun i => V.pv (.int .i64 i)) (by simp), trivial⟩ ⟨rfl, trivial⟩ rfl rfl) (rev_zero E) ?_
          rintro ⟨i, e⟩ hR
          try simp only at hR ⊢
          repeat refine AW.seq ?_
          refine AW.region ?_
          iterate 3 refine A1 rfl ?_
          repeat refine AW.seq ?_
          refine AW.condP rfl (fun hc60 => ?_) (fun hc60 => ?_)
          · have hel := hR.len
            have hi1 : i < e.length := by omega
            have hk1 : e.length - 1 - i < e.length := by omega
            have hvi := bytesP_get hi1
            have hvk := bytesP_get hk1
            have hst := rev_step hR (by omega)
            rw [← hel] at hst
            have hset : ((bytesP e).set (i * 1) (.int .u8 ((e.getD (e.length - 1 - i) 0).toNat : Int))).set ((e.length - 1 - i) * 1) (.int .u8 ((e.getD i 0).toNat : Int)) = bytesP ((e.set i (e.getD (e.length - 1 - i) 0)).set (e.length - 1 - i) (e.getD i 0)) := by rw [Nat.mul_one, Nat.mul_one, bytesP_set, bytesP_set]
            have hln : ((e.set i (e.getD (e.length - 1 - i) 0)).set (e.length - 1 - i) (e.getD i 0)).length = e.length := by simp
            clear hR
            refine AW.skip ?_
            repeat refine AW.seq ?_
            refine AW.block ?_
            generalize (e.set i (e.getD (e.length - 1 - i) 0)).set (e.length - 1 - i) (e.getD i 0) = e2 at *
            generalize e.getD (e.length - 1 - i) 0 = ck at *
            generalize e.getD i 0 = ci at *
            repeat refine AW.seq ?_
            refine AW.draw follows [[], [], [], [], [], [], [5, 4], [6, 5, 4], [], [], [9, 8], [10, 9, 8], [11, 7, 6, 5, 4, 1, 0, 10, 9, 8], [12, 11, 7, 6, 5, 4, 1, 0, 10, 9, 8], [13, 12, 11, 10, 9, 8, 7, 6, 5, 4, 1, 0, 3, 2], [14, 13, 12, 11, 10, 9, 8, 7, 6, 5, 4, 1, 0, 3, 2]] [0, 1, 2, 3, 4, 5, 6, 7, 8, 9, 10, 11, 12, 13, 14, 15] (by kernel_rfl) (by kernel_rfl) ?_
            iterate 6 refine D1 rfl rfl ?_
            refine DL.step (d := some 71) [_] rfl rfl rfl (fun τ h => xj_indexAddrO (e.length - 1 - i) Tryz.underlying56 sz5 ((h.e 0 _ rfl).trans rfl) ((h.o 0 _ rfl).trans rfl) ((h.e 1 _ rfl).trans rfl) (by omega) hk1) rfl (by kernel_rfl) ?_
            first | refine D2 rfl rfl (by assumption) ?_ | refine D1 rfl rfl ?_
            iterate 2 refine D1 rfl rfl ?_
            refine DL.step (d := some 75) [_] rfl rfl rfl (fun τ h => xj_indexAddrO i Tryz.underlying56 sz5 ((h.e 0 _ rfl).trans rfl) ((h.o 0 _ rfl).trans rfl) ((h.e 1 _ rfl).trans rfl) rfl hi1) rfl (by kernel_rfl) ?_
            first | refine D2 rfl rfl (by assumption) ?_ | refine D1 rfl rfl ?_
            refine DL.step (d := some 77) [_] rfl rfl rfl (fun τ h => xj_indexAddrO i Tryz.underlying56 sz5 ((h.e 0 _ rfl).trans rfl) ((h.o 0 _ rfl).trans rfl) ((h.e 1 _ rfl).trans rfl) rfl hi1) rfl (by kernel_rfl) ?_
            refine D1 rfl rfl ?_
            refine DL.step (d := some 78) [_] rfl rfl rfl (fun τ h => xj_indexAddrO (e.length - 1 - i) Tryz.underlying56 sz5 ((h.e 0 _ rfl).trans rfl) ((h.o 0 _ rfl).trans rfl) ((h.e 1 _ rfl).trans rfl) (by omega) hk1) rfl (by kernel_rfl) ?_
            refine D1 rfl rfl ?_
            refine ⟨by kernel_rfl, ?_⟩
            repeat refine AW.seq ?_
            refine AW.region ?_
            iterate 6 refine A1 rfl ?_
            exact ⟨(i + 1, e2), St.le_mk ⟨congrArg (V.osl 1 1) hln.symm, rfl, congrArg (fun i : Int => V.pv (PV.int .i64 i)) (show (e.length : Int) - 1 - i - 1 = (e2.length : Int) - 1 - ((i + 1 : Nat) : Int) by omega), trivial⟩ ⟨congrArg (fun c => some (Ob.cells 5 c)) hset, trivial⟩ rfl rfl, hst, by show e2.length - (i + 1) < e.length - i; omega⟩
          · have hel := hR.len
            have hev := rev_end hR (by omega)
            repeat refine AW.seq ?_
            refine AW.exit ?_
            repeat refine AW.seq ?_
            refine AW.region ?_
            refine A1 rfl ?_
            refine RL.step (d := some 80) rfl rfl (xj_toS e Tryz.underlying56 Tryz.underlying5 Tryz.underlying9 (.inr ⟨_, _, _, _, rfl, rfl, (by rw [Nat.mul_one]; exact (List.take_of_length_le (by simp)).symm)⟩)) ?_
            refine A1 rfl ?_
            repeat refine AW.seq ?_
            refine AW.ret ?_
            exact ⟨_, _, rfl, rfl, by rw [hEr, ← hev]; rfl⟩
/-- Too many digits. -/
def bbig (n : Nat) : Bool := decide (400 < ndig n)
theorem bgive_spec (z : Int) (hl : (limbs z.natAbs).length ≤ 1000000) : FnP Tryz.prog 99 [bigP z] (· = .tup [.str (if bbig z.natAbs = true then ⟨#[]⟩ else ⟨(Lib.itoa z).toArray⟩), .int .i64 (if bbig z.natAbs = true then 3 else 0)]) := by
  refine FnP.of Tryz.func99 rfl Tryz.ntmps99 (by simp) fun m0 w0 F R0 => ?_
  repeat refine AW.seq ?_
  refine AW.region ?_
  iterate 3 refine A1 rfl ?_
  repeat refine AW.seq ?_
  refine AW.region ?_
  refine A1 rfl ?_
  refine RL.step (d := some 5) rfl rfl (xj_call Tryz.call135 (bdigits_spec z hl) rfl) ?_
  refine A1 rfl ?_
  repeat refine AW.seq ?_
  refine AW.condP rfl (fun hc6 => ?_) (fun hc6 => ?_)
  · repeat refine AW.seq ?_
    refine AW.region ?_
    iterate 2 refine A1 rfl ?_
    repeat refine AW.seq ?_
    refine AW.ret ?_
    exact ⟨_, _, rfl, rfl, by rw [if_pos (by rw [bbig]; simp; omega), if_pos (by rw [bbig]; simp; omega)]; rfl⟩
  · refine AW.skip ?_
    repeat refine AW.seq ?_
    refine AW.region ?_
    refine A1 rfl ?_
    refine RL.step (d := some 8) rfl rfl (xj_call Tryz.call136 (btext_spec z hl) rfl) ?_
    iterate 2 refine A1 rfl ?_
    repeat refine AW.seq ?_
    refine AW.ret ?_
    exact ⟨_, _, rfl, rfl, by rw [if_neg (by rw [bbig]; simp; omega), if_neg (by rw [bbig]; simp; omega)]; rfl⟩
end Go.Proofs.YtopjkdddicgajaaGreatDoor
namespace Go.Proofs.YtopjkdddicgajaaGreatDoor
open Go.RowKit Mk
set_option maxRecDepth 100000
set_option maxHeartbeats 4000000
/-- The sign ahead of a text. -/
theorem neg_first (s : ByteArray) : negOf s = (decide (0 < s.size) && (((s.data.toList.getD 0 0).toNat : Int) == 45)) := by
  rw [negOf, Lib.hasPrefix, Lib.size_eq]
  cases s.data.toList with
  | nil => rfl
  | cons a l =>
    have h : ((a.toNat : Int) == 45) = (a == 45) := by
      rw [Bool.eq_iff_iff, beq_iff_eq, beq_iff_eq]
      constructor
      · intro h; exact UInt8.toNat_inj.1 (show a.toNat = (45 : UInt8).toNat from Int.ofNat_inj.1 h)
      · intro h; rw [h]; rfl
    simp only [List.getD_cons_zero, List.length_cons, h]
    rw [decide_eq_true (by omega), Bool.true_and]
    show ((45 : UInt8) == a && List.isPrefixOf [] l) = _
    simp [Bool.beq_comm]
theorem digs_neg {s : ByteArray} (h : negOf s = true) : s.extract 1 s.size = ⟨(digsOf s).toArray⟩ ∧ 0 < s.size := by
  have h1 := h
  rw [neg_first, Bool.and_eq_true, decide_eq_true_eq] at h1
  refine ⟨?_, h1.1⟩
  have e : digsOf s = s.data.toList.drop 1 := by rw [digsOf, Lib.trimPrefix]; rw [negOf] at h; rw [if_pos h]; rfl
  have e2 : (s.extract 1 s.size).data.toList = s.data.toList.drop 1 := Lib.extract_to_end s 1
  rw [e, ← e2]
theorem digs_pos {s : ByteArray} (h : negOf s = false) : s = ⟨(digsOf s).toArray⟩ := by
  have e : digsOf s = s.data.toList := by rw [digsOf, Lib.trimPrefix]; rw [negOf] at h; rw [if_neg (by rw [h]; decide)]
  rw [e]
/-- The first test, as the reference makes it. -/
def vfirst1 (x : ByteArray) : Bool := (((((x.size : Nat) : Int) == 0) || decide ((x.size : Int) > 400)) || ((((x.data.toList.getD 0 0).toNat : Nat) : Int) == 48))
theorem vfirst1_eq (x : ByteArray) : vfirst1 x = vfirst x := by
  rw [vfirst1, vfirst, empty_beq, Lib.size_eq]
  congr 2
  cases x.data.toList with
  | nil => rfl
  | cons a l => simp; omega
theorem vpos1 {x : ByteArray} (h : ((((x.size : Nat) : Int) == 0) || decide ((x.size : Int) > 400)) = false) : 0 < x.size := by
  rw [Bool.or_eq_false_iff] at h
  have := h.1
  simp at this
  have h2 : x.size ≠ 0 := fun e => by rw [e] at h; simp at h
  omega
theorem ba_list (D : List UInt8) (k : Nat) (h : k < (⟨D.toArray⟩ : ByteArray).size) : (((⟨D.toArray⟩ : ByteArray)[k]'h).toNat : Int) = ((D.getD k 0).toNat : Int) := by rw [← ba_get _ k h]
theorem bvalid_spec (s : ByteArray) : FnP Tryz.prog 161 [.str s] (· = .bool (ivalid s)) := by
  refine FnP.of Tryz.func161 rfl Tryz.ntmps161 (by simp) fun m0 w0 F R0 => ?_
  obtain ⟨v, hv⟩ : ∃ v, v = ivalid s := ⟨_, rfl⟩
  rw [← hv]
  repeat refine AW.seq ?_
  refine AW.region ?_
  refine A1 rfl ?_
  repeat refine AW.seq ?_
  refine AW.region ?_
  iterate 2 refine A1 rfl ?_
  repeat refine AW.seq ?_
  refine AW.cond rfl (fun hc6 => ?_) (fun hc6 => ?_)
  · repeat refine AW.seq ?_
    refine AW.region ?_
    refine A1 rfl ?_
    repeat refine AW.seq ?_
    refine AW.ret ?_
    exact ⟨_, _, rfl, rfl, congrArg PV.bool (hv.trans (ivalid_zero hc6)).symm⟩
  · have hs : v = goodD (digsOf s) := hv.trans (ivalid_else hc6)
    clear hv
    clear hc6
    have hnf := neg_first s
    obtain ⟨t, ht⟩ : ∃ t : ByteArray, t = ⟨(digsOf s).toArray⟩ := ⟨_, rfl⟩
    have htd : t.data.toList = digsOf s := by rw [ht]
    refine AW.skip ?_
    repeat refine AW.seq ?_
    refine AW.region ?_
    iterate 2 refine A1 rfl ?_
    repeat refine AW.seq ?_
    refine AW.region ?_
    iterate 4 refine A1 rfl ?_
    apply RL.andB 4 11 15 [12, 13, 14] rfl (by first | exact MonoK.le | exact MonoK.aw | exact MonoK.back)
    · intro hb3
      have hp : 0 < s.size := by simpa using hb3
      refine A1 rfl ?_
      refine RL.stepG (d := some 13) rfl rfl rfl (xj_indexS 0 Tryz.underlying9 rfl rfl rfl hp) ?_
      refine RL.stepG (d := some 14) rfl rfl rfl ((xj_bin rfl rfl rfl).cast (v' := .pv (.bool ((((s.data.toList.getD 0 0).toNat : Nat) : Int) == 45))) (by rw [ba_get _ 0 hp])) ?_
      refine A1 rfl ?_
      exact St.le_fg (fEq.upd (fEq.upd (fEq.upd (fEq.upd (fEq.upd (fEq.refl) rfl) rfl) rfl) rfl) rfl) rfl rfl rfl
    · intro hb3
      iterate 4 refine A1 rfl ?_
      exact St.le_fg (fEq.upd (fEq.upd (fEq.upd (fEq.upd (fEq.upd (fEq.refl) rfl) rfl) rfl) rfl) rfl) rfl rfl rfl
    repeat refine AW.seq ?_
    refine AW.cond rfl (fun hc15 => ?_) (fun hc15 => ?_)
    · have hng : negOf s = true := by rw [hnf]; simpa using hc15
      obtain ⟨hD, hp⟩ := digs_neg hng
      repeat refine AW.seq ?_
      refine AW.region ?_
      refine A1 rfl ?_
      refine RL.step (d := some 17) rfl rfl (XJ.cast (v' := .pv (.str t)) (xj_sliceS (kl := .i64) (kh := .i64) (il := 1) (ih := 0) (some _) none 1 s.size Tryz.underlying9 rfl (by rintro _ ⟨⟩; exact ⟨rfl, rfl⟩) (by simp) (by simp) (fun _ => rfl) (by omega) (Nat.le_refl _)) (congrArg (fun x => V.pv (.str x)) (hD.trans ht.symm))) ?_
      refine A1 rfl ?_
      have hgn := @goodD_no (digsOf s)
      have hgg := @goodD_go (digsOf s)
      rw [← ht, ← vfirst1_eq] at hgn hgg
      clear hng hc15 hnf
      have hsz : t.size = (digsOf s).length := by rw [Lib.size_eq, htd]
      generalize digsOf s = D at *
      repeat refine AW.seq ?_
      refine AW.region ?_
      iterate 4 refine A1 rfl ?_
      apply RL.orB 4 21 25 [22, 23, 24] rfl (by first | exact MonoK.le | exact MonoK.aw | exact MonoK.back)
      · intro hb3
        iterate 4 refine A1 rfl ?_
        exact St.le_fg (fEq.upd (fEq.upd (fEq.upd (fEq.upd (fEq.upd (fEq.refl) rfl) rfl) rfl) rfl) rfl) rfl rfl rfl
      · intro hb3
        iterate 4 refine A1 rfl ?_
        exact St.le_fg (fEq.upd (fEq.upd (fEq.upd (fEq.upd (fEq.upd (fEq.refl) rfl) rfl) rfl) rfl) rfl) rfl rfl rfl
      refine A1 rfl ?_
      apply RL.orB 4 26 30 [27, 28, 29] rfl (by first | exact MonoK.le | exact MonoK.aw | exact MonoK.back)
      · intro hb8
        iterate 4 refine A1 rfl ?_
        exact St.le_fg (fEq.upd (fEq.upd (fEq.upd (fEq.upd (fEq.upd (fEq.refl) rfl) rfl) rfl) rfl) rfl) rfl rfl rfl
      · intro hb8
        have hp := vpos1 hb8
        refine A1 rfl ?_
        refine RL.stepG (d := some 28) rfl rfl rfl (xj_indexS 0 Tryz.underlying9 rfl rfl rfl hp) ?_
        refine RL.stepG (d := some 29) rfl rfl rfl ((xj_bin rfl rfl rfl).cast (v' := .pv (.bool ((((t.data.toList.getD 0 0).toNat : Nat) : Int) == 48))) (by rw [ba_get _ 0 hp])) ?_
        refine A1 rfl ?_
        exact St.le_fg (fEq.upd (fEq.upd (fEq.upd (fEq.upd (fEq.upd (fEq.refl) rfl) rfl) rfl) rfl) rfl) rfl rfl rfl
      repeat refine AW.seq ?_
      refine AW.cond rfl (fun hc30 => ?_) (fun hc30 => ?_)
      · repeat refine AW.seq ?_
        refine AW.region ?_
        refine A1 rfl ?_
        repeat refine AW.seq ?_
        refine AW.ret ?_
        exact ⟨_, _, rfl, rfl, congrArg PV.bool (hs.trans (hgn (show vfirst1 t = true from hc30))).symm⟩
      · obtain ⟨hg2, hD0, hD4⟩ := hgg (show vfirst1 t = false from hc30)
        refine AW.skip ?_
        repeat refine AW.seq ?_
        refine AW.region ?_
        refine A1 rfl ?_
        repeat refine AW.seq ?_
        refine AW.block ?_
        repeat refine AW.seq ?_
        refine AW.loop (st := fun x_0 : Nat => mkS [(3, .pv (.str t)), (4, .pv (.int .i64 x_0))] [] 0)
          (I := fun x_0 => x_0 ≤ D.length ∧ ∀ j, j < x_0 → digB (D.getD j 0) = true) (μ := fun x_0 => D.length - x_0) (x0 := (0)) (St.le_mk ⟨rfl, rfl, trivial⟩ trivial rfl rfl) (⟨Nat.zero_le _, fun j hj => absurd hj (Nat.not_lt_zero _)⟩) ?_
        rintro k ⟨hk, hall⟩
        repeat refine AW.seq ?_
        refine AW.region ?_
        iterate 4 refine A1 rfl ?_
        repeat refine AW.seq ?_
        refine AW.condP rfl (fun hc34 => ?_) (fun hc34 => ?_)
        · have hlt : k < D.length := by omega
          have hkt : k < t.size := by omega
          have hgt := ba_get t k hkt
          have hno := all_no hlt
          have hye := dtest_f hlt
          have hgt2 : t[k]'hkt = D[k] := by rw [← hgt, htd]; simp [List.getD, hlt]
          refine AW.skip ?_
          repeat refine AW.seq ?_
          refine AW.block ?_
          generalize D[k] = c at hno hye hgt2 ⊢
          repeat refine AW.seq ?_
          refine AW.region ?_
          iterate 2 refine A1 rfl ?_
          refine RL.step (d := some 39) rfl rfl (XJ.cast (v' := .pv (.int .u8 c.toNat)) (xj_indexS k Tryz.underlying9 rfl rfl rfl hkt) (by rw [hgt2])) ?_
          iterate 2 refine A1 rfl ?_
          apply RL.orB 5 41 46 [42, 43, 44, 45] rfl (by first | exact MonoK.le | exact MonoK.aw | exact MonoK.back)
          · intro hb4
            iterate 5 refine A1 rfl ?_
            exact St.le_fg (fEq.upd (fEq.upd (fEq.upd (fEq.upd (fEq.upd (fEq.upd (fEq.refl) rfl) rfl) rfl) rfl) rfl) rfl) rfl rfl rfl
          · intro hb4
            iterate 2 refine A1 rfl ?_
            refine RL.stepG (d := some 44) rfl rfl rfl (XJ.cast (v' := .pv (.int .u8 c.toNat)) (xj_indexS k Tryz.underlying9 rfl rfl rfl hkt) (by rw [hgt2])) ?_
            iterate 2 refine A1 rfl ?_
            exact St.le_fg (fEq.upd (fEq.upd (fEq.upd (fEq.upd (fEq.upd (fEq.upd (fEq.refl) rfl) rfl) rfl) rfl) rfl) rfl) rfl rfl rfl
          repeat refine AW.seq ?_
          refine AW.cond rfl (fun hc46 => ?_) (fun hc46 => ?_)
          · have hc := hno hc46
            repeat refine AW.seq ?_
            refine AW.region ?_
            refine A1 rfl ?_
            repeat refine AW.seq ?_
            refine AW.ret ?_
            exact ⟨_, _, rfl, rfl, congrArg PV.bool (by rw [hs, hg2, hc])⟩
          · have hc := hye hc46
            refine AW.skip ?_
            repeat refine AW.seq ?_
            refine AW.region ?_
            iterate 3 refine A1 rfl ?_
            exact ⟨(k + 1), St.le_mk ⟨rfl, rfl, trivial⟩ trivial rfl rfl, ⟨by omega, fun j hj => by rcases Nat.lt_succ_iff_lt_or_eq.1 hj with h | rfl; exact hall j h; exact hc⟩, by omega⟩
        · repeat refine AW.seq ?_
          refine AW.exit ?_
          repeat refine AW.seq ?_
          refine AW.region ?_
          refine A1 rfl ?_
          repeat refine AW.seq ?_
          refine AW.ret ?_
          exact ⟨_, _, rfl, rfl, congrArg PV.bool (by rw [hs, hg2, all_yes fun j hj => hall j (by omega)])⟩
    · have hng : negOf s = false := by rw [hnf]; simpa using hc15
      have hts : s = t := (digs_pos hng).trans ht.symm
      rw [hts]
      refine AW.skip ?_
      have hgn := @goodD_no (digsOf s)
      have hgg := @goodD_go (digsOf s)
      rw [← ht, ← vfirst1_eq] at hgn hgg
      clear hng hc15 hnf
      have hsz : t.size = (digsOf s).length := by rw [Lib.size_eq, htd]
      generalize digsOf s = D at *
      repeat refine AW.seq ?_
      refine AW.region ?_
      iterate 4 refine A1 rfl ?_
      apply RL.orB 4 21 25 [22, 23, 24] rfl (by first | exact MonoK.le | exact MonoK.aw | exact MonoK.back)
      · intro hb3
        iterate 4 refine A1 rfl ?_
        exact St.le_fg (fEq.upd (fEq.upd (fEq.upd (fEq.upd (fEq.upd (fEq.refl) rfl) rfl) rfl) rfl) rfl) rfl rfl rfl
      · intro hb3
        iterate 4 refine A1 rfl ?_
        exact St.le_fg (fEq.upd (fEq.upd (fEq.upd (fEq.upd (fEq.upd (fEq.refl) rfl) rfl) rfl) rfl) rfl) rfl rfl rfl
      refine A1 rfl ?_
      apply RL.orB 4 26 30 [27, 28, 29] rfl (by first | exact MonoK.le | exact MonoK.aw | exact MonoK.back)
      · intro hb8
        iterate 4 refine A1 rfl ?_
        exact St.le_fg (fEq.upd (fEq.upd (fEq.upd (fEq.upd (fEq.upd (fEq.refl) rfl) rfl) rfl) rfl) rfl) rfl rfl rfl
      · intro hb8
        have hp := vpos1 hb8
        refine A1 rfl ?_
        refine RL.stepG (d := some 28) rfl rfl rfl (xj_indexS 0 Tryz.underlying9 rfl rfl rfl hp) ?_
        refine RL.stepG (d := some 29) rfl rfl rfl ((xj_bin rfl rfl rfl).cast (v' := .pv (.bool ((((t.data.toList.getD 0 0).toNat : Nat) : Int) == 48))) (by rw [ba_get _ 0 hp])) ?_
        refine A1 rfl ?_
        exact St.le_fg (fEq.upd (fEq.upd (fEq.upd (fEq.upd (fEq.upd (fEq.refl) rfl) rfl) rfl) rfl) rfl) rfl rfl rfl
      repeat refine AW.seq ?_
      refine AW.cond rfl (fun hc30 => ?_) (fun hc30 => ?_)
      · repeat refine AW.seq ?_
        refine AW.region ?_
        refine A1 rfl ?_
        repeat refine AW.seq ?_
        refine AW.ret ?_
        exact ⟨_, _, rfl, rfl, congrArg PV.bool (hs.trans (hgn (show vfirst1 t = true from hc30))).symm⟩
      · obtain ⟨hg2, hD0, hD4⟩ := hgg (show vfirst1 t = false from hc30)
        refine AW.skip ?_
        repeat refine AW.seq ?_
        refine AW.region ?_
        refine A1 rfl ?_
        repeat refine AW.seq ?_
        refine AW.block ?_
        repeat refine AW.seq ?_
        refine AW.loop (st := fun x_0 : Nat => mkS [(3, .pv (.str t)), (4, .pv (.int .i64 x_0))] [] 0)
          (I := fun x_0 => x_0 ≤ D.length ∧ ∀ j, j < x_0 → digB (D.getD j 0) = true) (μ := fun x_0 => D.length - x_0) (x0 := (0)) (St.le_mk ⟨rfl, rfl, trivial⟩ trivial rfl rfl) (⟨Nat.zero_le _, fun j hj => absurd hj (Nat.not_lt_zero _)⟩) ?_
        rintro k ⟨hk, hall⟩
        repeat refine AW.seq ?_
        refine AW.region ?_
        iterate 4 refine A1 rfl ?_
        repeat refine AW.seq ?_
        refine AW.condP rfl (fun hc34 => ?_) (fun hc34 => ?_)
        · have hlt : k < D.length := by omega
          have hkt : k < t.size := by omega
          have hgt := ba_get t k hkt
          have hno := all_no hlt
          have hye := dtest_f hlt
          have hgt2 : t[k]'hkt = D[k] := by rw [← hgt, htd]; simp [List.getD, hlt]
          refine AW.skip ?_
          repeat refine AW.seq ?_
          refine AW.block ?_
          generalize D[k] = c at hno hye hgt2 ⊢
          repeat refine AW.seq ?_
          refine AW.region ?_
          iterate 2 refine A1 rfl ?_
          refine RL.step (d := some 39) rfl rfl (XJ.cast (v' := .pv (.int .u8 c.toNat)) (xj_indexS k Tryz.underlying9 rfl rfl rfl hkt) (by rw [hgt2])) ?_
          iterate 2 refine A1 rfl ?_
          apply RL.orB 5 41 46 [42, 43, 44, 45] rfl (by first | exact MonoK.le | exact MonoK.aw | exact MonoK.back)
          · intro hb4
            iterate 5 refine A1 rfl ?_
            exact St.le_fg (fEq.upd (fEq.upd (fEq.upd (fEq.upd (fEq.upd (fEq.upd (fEq.refl) rfl) rfl) rfl) rfl) rfl) rfl) rfl rfl rfl
          · intro hb4
            iterate 2 refine A1 rfl ?_
            refine RL.stepG (d := some 44) rfl rfl rfl (XJ.cast (v' := .pv (.int .u8 c.toNat)) (xj_indexS k Tryz.underlying9 rfl rfl rfl hkt) (by rw [hgt2])) ?_
            iterate 2 refine A1 rfl ?_
            exact St.le_fg (fEq.upd (fEq.upd (fEq.upd (fEq.upd (fEq.upd (fEq.upd (fEq.refl) rfl) rfl) rfl) rfl) rfl) rfl) rfl rfl rfl
          repeat refine AW.seq ?_
          refine AW.cond rfl (fun hc46 => ?_) (fun hc46 => ?_)
          · have hc := hno hc46
            repeat refine AW.seq ?_
            refine AW.region ?_
            refine A1 rfl ?_
            repeat refine AW.seq ?_
            refine AW.ret ?_
            exact ⟨_, _, rfl, rfl, congrArg PV.bool (by rw [hs, hg2, hc])⟩
          · have hc := hye hc46
            refine AW.skip ?_
            repeat refine AW.seq ?_
            refine AW.region ?_
            iterate 3 refine A1 rfl ?_
            exact ⟨(k + 1), St.le_mk ⟨rfl, rfl, trivial⟩ trivial rfl rfl, ⟨by omega, fun j hj => by rcases Nat.lt_succ_iff_lt_or_eq.1 hj with h | rfl; exact hall j h; exact hc⟩, by omega⟩
        · repeat refine AW.seq ?_
          refine AW.exit ?_
          repeat refine AW.seq ?_
          refine AW.region ?_
          refine A1 rfl ?_
          repeat refine AW.seq ?_
          refine AW.ret ?_
          exact ⟨_, _, rfl, rfl, congrArg PV.bool (by rw [hs, hg2, all_yes fun j hj => hall j (by omega)])⟩
theorem bmake_spec (n : Int) (h0 : -9223372036854775808 ≤ n) (h1 : n ≤ 9223372036854775807) : FnP Tryz.prog 130 [.int .i64 n] (· = .str ⟨(Lib.itoa n).toArray⟩) := by
  refine FnP.of Tryz.func130 rfl Tryz.ntmps130 (by simp) fun m0 w0 F R0 => ?_
  have hl : (limbs n.natAbs).length ≤ 3 := limbs_le.2 (by omega)
  repeat refine AW.seq ?_
  refine AW.region ?_
  refine A1 rfl ?_
  repeat refine AW.seq ?_
  refine AW.region ?_
  refine A1 rfl ?_
  refine RL.step (d := some 4) rfl rfl (xj_call Tryz.call65 (bof_spec n h0 h1) rfl) ?_
  refine RL.step (d := some 5) rfl rfl (xj_call Tryz.call136 (btext_spec n (by omega)) rfl) ?_
  refine A1 rfl ?_
  repeat refine AW.seq ?_
  refine AW.ret ?_
  exact ⟨_, _, rfl, rfl, rfl⟩
theorem rwhole_spec (n : Int) (h0 : -9223372036854775808 ≤ n) (h1 : n ≤ 9223372036854775807) : FnP Tryz.prog 94 [.int .i64 n] (· = .str ⟨(Lib.itoa n).toArray⟩) := by
  refine FnP.of Tryz.func94 rfl Tryz.ntmps94 (by simp) fun m0 w0 F R0 => ?_
  repeat refine AW.seq ?_
  refine AW.region ?_
  refine A1 rfl ?_
  repeat refine AW.seq ?_
  refine AW.region ?_
  refine A1 rfl ?_
  refine RL.step (d := some 4) rfl rfl (xj_call Tryz.call130 (bmake_spec n h0 h1) rfl) ?_
  refine A1 rfl ?_
  repeat refine AW.seq ?_
  refine AW.ret ?_
  exact ⟨_, _, rfl, rfl, rfl⟩
end Go.Proofs.YtopjkdddicgajaaGreatDoor
namespace Go.Proofs.YtopjkdddicgajaaGreatDoor
open Go.RowKit Mk
set_option maxRecDepth 100000
set_option maxHeartbeats 4000000
theorem dval_snoc (l : List UInt8) (c : UInt8) : dval (l ++ [c]) = dval l * 10 + (c.toNat - 48) := by simp [dval]
/-- One digit more of the limb that is read. -/
theorem limb_step {D : List UInt8} {lo j : Nat} (hj : j < D.length) (hlo : lo ≤ j) : dval ((D.drop lo).take (j + 1 - lo)) = dval ((D.drop lo).take (j - lo)) * 10 + ((D.getD j 0).toNat - 48) := by
  have e : (D.drop lo).take (j + 1 - lo) = (D.drop lo).take (j - lo) ++ [D.getD j 0] := by
    rw [show j + 1 - lo = (j - lo) + 1 by omega, List.take_succ_eq_append_getElem (by simp; omega)]
    congr 2
    simp [List.getD, hj, show lo + (j - lo) = j by omega]
  rw [e, dval_snoc]
theorem ext_take {D : List UInt8} {z k : Nat} (h : k ≤ z) : (⟨(D.take z).toArray⟩ : ByteArray).extract 0 k = ⟨(D.take k).toArray⟩ := by
  rw [ByteArray.extract_mk]
  congr 1
  apply Array.ext'
  simp [List.extract_eq_take_drop, List.take_take, Nat.min_eq_left h]
theorem limb_lt {D : List UInt8} (hd : ∀ c ∈ D, digB c = true) {lo j : Nat} (h : j - lo ≤ 9) : dval ((D.drop lo).take (j - lo)) < 1000000000 := by
  have h1 := dval_lt (l := (D.drop lo).take (j - lo)) (fun c hc => hd c (List.mem_of_mem_drop (List.mem_of_mem_take hc)))
  have h2 : 10 ^ ((D.drop lo).take (j - lo)).length ≤ 10 ^ 9 := Nat.pow_le_pow_right (by decide) (by simp; omega)
  omega
theorem bread_spec (s : ByteArray) (hd : ∀ c ∈ digsOf s, digB c = true) (hl : (digsOf s).length ≤ 1000000) : FnP Tryz.prog 162 [.str s] (· = bigP (rdZ s)) := by
  refine FnP.ofC Tryz.func162 rfl Tryz.ntmps162 (by simp) fun m0 w0 F R0 => ?_
  obtain ⟨v, hv⟩ : ∃ v, v = rdZ s := ⟨_, rfl⟩
  rw [← hv]
  obtain ⟨ng, hng⟩ : ∃ v, v = negOf s := ⟨_, rfl⟩
  have hnf := neg_first s
  rw [rdZ] at hv
  rw [← hng] at hv hnf
  obtain ⟨t, ht⟩ : ∃ t : ByteArray, t = ⟨(digsOf s).toArray⟩ := ⟨_, rfl⟩
  have htd : t.data.toList = digsOf s := by rw [ht]
  have hne : (s.toList != (⟨#[]⟩ : ByteArray).toList) = decide (0 < s.size) := by
    rw [bne, empty_beq, Lib.size_eq]
    cases s.data.toList <;> simp
  repeat refine AW.seq ?_
  refine AW.region ?_
  refine A1 rfl ?_
  repeat refine AW.seq ?_
  refine AW.region ?_
  iterate 2 refine A1 rfl ?_
  repeat refine AW.seq ?_
  refine AW.region ?_
  iterate 3 refine A1 rfl ?_
  refine AW.weaken (St.le_groC 1 1 2 1 3 rfl rfl rfl) ?_
  repeat refine AW.seq ?_
  refine AW.region ?_
  refine A1 rfl ?_
  refine RL.step (d := some 11) rfl rfl (XJ.cast (v' := .pv (.bool (decide (0 < s.size)))) (xj_binS rfl rfl rfl) (congrArg (fun b => V.pv (.bool b)) hne)) ?_
  refine A1 rfl ?_
  apply RL.andB 4 12 16 [13, 14, 15] rfl (by first | exact MonoK.le | exact MonoK.aw | exact MonoK.back)
  · intro hb2
    have hp : 0 < s.size := by simpa using hb2
    refine A1 rfl ?_
    refine RL.stepG (d := some 14) rfl rfl rfl (xj_indexS 0 Tryz.underlying9 rfl rfl rfl hp) ?_
    refine RL.stepG (d := some 15) rfl rfl rfl ((xj_bin rfl rfl rfl).cast (v' := .pv (.bool ((((s.data.toList.getD 0 0).toNat : Nat) : Int) == 45))) (by rw [ba_get _ 0 hp])) ?_
    refine A1 rfl ?_
    exact St.le_fg (fEq.upd (fEq.upd (fEq.upd (fEq.upd (fEq.upd (fEq.refl) rfl) rfl) rfl) rfl) rfl) rfl rfl rfl
  · intro hb2
    iterate 4 refine A1 rfl ?_
    exact St.le_fg (fEq.upd (fEq.upd (fEq.upd (fEq.upd (fEq.upd (fEq.refl) rfl) rfl) rfl) rfl) rfl) rfl rfl rfl
  repeat refine AW.seq ?_
  refine AW.cond rfl (fun hc16 => ?_) (fun hc16 => ?_)
  · have hn2 : ng = true := by rw [hnf]; exact hc16
    obtain ⟨hD, hp⟩ := digs_neg (hng.symm.trans hn2)
    repeat refine AW.seq ?_
    refine AW.draw follows [[], [0], [], [2], [3, 1, 0, 2]] [0, 1, 2, 3, 4] (by kernel_rfl) (by kernel_rfl) ?_
    refine D1 rfl rfl ?_
    refine DL.step (d := some 18) [] rfl rfl rfl (fun τ h => XJ.cast (v' := .pv (.str t)) (xj_sliceS (kl := .i64) (kh := .i64) (il := 1) (ih := 0) (some _) none 1 s.size Tryz.underlying9 ((h.e 0 _ rfl).trans rfl) (by rintro _ ⟨⟩; exact ⟨rfl, rfl⟩) (by simp) (by simp) (fun _ => rfl) (by omega) (Nat.le_refl _)) (congrArg (fun x => V.pv (.str x)) (hD.trans ht.symm))) rfl (by kernel_rfl) ?_
    iterate 3 refine D1 rfl rfl ?_
    refine ⟨by kernel_rfl, ?_⟩
    repeat refine AW.seq ?_
    refine AW.block ?_
    repeat refine AW.seq ?_
    refine AW.loop (st := fun x_0 : Nat × List Nat => mkS [(2, .ptr 0 0), (3, .pv (.str ⟨((digsOf s).take x_0.1).toArray⟩)), (4, .ptr 1 0)] [(0, .mix 105 [.pv (.bool false), .pv (.sl (some true) 0 [])]), (1, .mix 105 [.pv (.bool ng), .gsl 2 1 x_0.2.length]), (2, .gro 3 (limI x_0.2))] 3)
      (I := fun x_0 => x_0.1 ≤ (digsOf s).length ∧ Lok x_0.2 ∧ x_0.2.length + x_0.1 ≤ (digsOf s).length ∧ dval (digsOf s) = dval ((digsOf s).take x_0.1) * 1000000000 ^ x_0.2.length + val x_0.2) (μ := fun x_0 => x_0.1) (x0 := ((digsOf s).length, [])) (St.le_mk ⟨rfl, congrArg (fun x => V.pv (.str x)) (by rw [ht, List.take_length]), rfl, trivial⟩ ⟨rfl, by rw [hn2]; rfl, rfl, trivial⟩ rfl rfl) (⟨Nat.le_refl _, fun _ h => absurd h (by simp), by simp, by simp [val]⟩) ?_
    rintro ⟨z, l⟩ ⟨hz, hok, hll, hvl⟩
    try simp only at hz hok hll hvl ⊢
    repeat refine AW.seq ?_
    refine AW.region ?_
    iterate 3 refine A1 rfl ?_
    repeat refine AW.seq ?_
    refine AW.condP rfl (fun hc22 => ?_) (fun hc22 => ?_)
    · refine AW.skip ?_
      repeat refine AW.seq ?_
      refine AW.block ?_
      have hz0 : 0 < z := by
        have h1 : (⟨((digsOf s).take z).toArray⟩ : ByteArray).size = z := by simp [ByteArray.size]; omega
        rw [h1] at hc22; omega
      have hsz : (⟨((digsOf s).take z).toArray⟩ : ByteArray).size = z := by simp [ByteArray.size]; omega
      have hst := read_step hz rfl hvl
      rw [show dval (List.take (z - (z - 9)) (List.drop (z - 9) (digsOf s))) = limbAt (digsOf s) z from rfl] at hst
      have hlt := limbAt_lt hd z
      repeat refine AW.seq ?_
      refine AW.region ?_
      iterate 3 refine A1 rfl ?_
      refine RL.step (d := some 26) rfl rfl (XJ.cast (v' := .pv (.int .i64 ((z - 9 : Nat) : Int))) (xj_max rfl rfl) (congrArg (fun i => V.pv (.int .i64 i)) (by rw [hsz]; split <;> omega))) ?_
      refine A1 rfl ?_
      repeat refine AW.seq ?_
      refine AW.region ?_
      refine A1 rfl ?_
      repeat refine AW.seq ?_
      refine AW.region ?_
      iterate 2 refine A1 rfl ?_
      repeat refine AW.seq ?_
      refine AW.block ?_
      repeat refine AW.seq ?_
      refine AW.loop (st := fun x_1 : Nat => mkS [(2, .ptr 0 0), (3, .pv (.str ⟨((digsOf s).take z).toArray⟩)), (4, .ptr 1 0), (5, .pv (.int .i64 ((z - 9 : Nat) : Int))), (6, .pv (.int .i64 ((dval (((digsOf s).drop (z - 9)).take (x_1 - (z - 9))) : Nat) : Int))), (7, .pv (.int .i64 (x_1 : Int)))] [(0, .mix 105 [.pv (.bool false), .pv (.sl (some true) 0 [])]), (1, .mix 105 [.pv (.bool ng), .gsl 2 1 l.length]), (2, .gro 3 (limI l))] 3)
        (I := fun x_1 => z - 9 ≤ x_1 ∧ x_1 ≤ z) (μ := fun x_1 => z - x_1) (x0 := (z - 9)) (St.le_mk ⟨rfl, rfl, rfl, rfl, congrArg (fun n : Nat => V.pv (.int .i64 n)) (by simp [dval]), rfl, trivial⟩ ⟨rfl, rfl, rfl, trivial⟩ rfl rfl) (⟨Nat.le_refl _, by omega⟩) ?_
      rintro j ⟨hj1, hj2⟩
      repeat refine AW.seq ?_
      refine AW.region ?_
      iterate 4 refine A1 rfl ?_
      repeat refine AW.seq ?_
      refine AW.condP rfl (fun hc31 => ?_) (fun hc31 => ?_)
      · refine AW.skip ?_
        repeat refine AW.seq ?_
        refine AW.block ?_
        have hjz : j < z := by rw [hsz] at hc31; omega
        have hjd : j < (digsOf s).length := by omega
        have hjs : j < (⟨((digsOf s).take z).toArray⟩ : ByteArray).size := by omega
        have hcj := ba_list ((digsOf s).take z) j hjs
        rw [show ((digsOf s).take z).getD j 0 = (digsOf s).getD j 0 by simp [List.getD, List.getElem?_take, hjz]] at hcj
        have hdg := hd ((digsOf s).getD j 0) (by simp [List.getD, hjd])
        have hs2 := limb_step hjd hj1
        have hb2 := limb_lt hd (lo := z - 9) (j := j) (by omega)
        simp only [digB, Bool.and_eq_true, decide_eq_true_eq] at hdg
        generalize (digsOf s).getD j 0 = c at *
        generalize dval (((digsOf s).drop (z - 9)).take (j - (z - 9))) = u at *
        repeat refine AW.seq ?_
        refine AW.region ?_
        iterate 4 refine A1 rfl ?_
        refine RL.step (d := some 38) rfl rfl (XJ.cast (v' := .pv (.int .u8 (c.toNat : Int))) (xj_indexS j Tryz.underlying9 rfl rfl rfl hjs) (congrArg (fun i => V.pv (.int .u8 i)) hcj)) ?_
        refine RL.step (d := some 39) rfl rfl (XJ.cast (v' := .pv (.int .u8 ((c.toNat - 48 : Nat) : Int))) (xj_bin rfl rfl rfl) (congrArg (fun i => V.pv (.int .u8 i)) (by show ((c.toNat : Int) - 48) % 256 = _; omega))) ?_
        refine RL.step (d := some 40) rfl rfl (XJ.cast (v' := .pv (.int .i64 ((c.toNat - 48 : Nat) : Int))) (xj_conv Tryz.underlying5 Tryz.underlying3 rfl) (congrArg (fun i => V.pv (.int .i64 i)) (wrap_in (by omega)))) ?_
        iterate 2 refine A1 rfl ?_
        repeat refine AW.seq ?_
        refine AW.region ?_
        iterate 3 refine A1 rfl ?_
        exact ⟨(j + 1), St.le_mk ⟨rfl, rfl, rfl, rfl, congrArg (fun i : Int => V.pv (.int .i64 i)) (by rw [hs2]; omega), rfl, trivial⟩ ⟨rfl, rfl, rfl, trivial⟩ rfl rfl, ⟨by omega, by omega⟩, by omega⟩
      · repeat refine AW.seq ?_
        refine AW.exit ?_
        have hjz : j = z := by rw [hsz] at hc31; omega
        rw [hjz, show dval (List.take (z - (z - 9)) (List.drop (z - 9) (digsOf s))) = limbAt (digsOf s) z from rfl]
        generalize limbAt (digsOf s) z = u at *
        repeat refine AW.seq ?_
        refine AW.region ?_
        iterate 7 refine A1 rfl ?_
        repeat refine AW.seq ?_
        refine AW.region ?_
        iterate 2 refine A1 rfl ?_
        refine RL.step (d := some 50) rfl rfl (XJ.cast (v' := .pv (.str ⟨((digsOf s).take (z - 9)).toArray⟩)) (xj_sliceS (kl := .i64) (kh := .i64) (il := 0) (ih := ((z - 9 : Nat) : Int)) none (some _) 0 (z - 9) Tryz.underlying9 rfl (by simp) (fun _ => rfl) (by rintro _ ⟨⟩; exact ⟨rfl, rfl⟩) (by simp) (Nat.zero_le _) (by rw [hsz]; omega)) (congrArg (fun x => V.pv (.str x)) (ext_take (by omega)))) ?_
        refine A1 rfl ?_
        exact ⟨(z - 9, l ++ [u]), St.le_mkR [0, 1, 4] ⟨rfl, rfl, rfl, trivial⟩ ⟨rfl, Eq.trans (b := some (.mix 105 [.pv (.bool ng), .gsl 4 1 (l.length + 1)])) (by kernel_rfl) (congrArg (fun n => some (Ob.mix 105 [.pv (.bool ng), .gsl 4 1 n])) (lenI_snoc l _)), congrArg (fun c => some (Ob.gro 3 c)) (limI_snoc _ _), trivial⟩ rfl rfl (by decide) rfl, ⟨by omega, hok.append (Lok.one hlt), by rw [List.length_append, List.length_singleton]; omega, by rw [List.length_append, List.length_singleton, val_append, val_one]; exact hst⟩, by omega⟩
    · repeat refine AW.seq ?_
      refine AW.exit ?_
      have hz0 : z = 0 := by
        have h1 : (⟨((digsOf s).take z).toArray⟩ : ByteArray).size = z := by simp [ByteArray.size]; omega
        rw [h1] at hc22; omega
      rw [hz0, List.take_zero, show dval [] = 0 from rfl, Nat.zero_mul, Nat.zero_add] at hvl
      have htr := btrim_spec2 (neg := ng) l rfl (by omega) hok hvl.symm
      rw [← hv] at htr
      refine AW.weaken (St.le_pubA 2 rfl rfl) ?_
      repeat refine AW.seq ?_
      refine AW.region ?_
      refine A1 rfl ?_
      refine RL.step (d := some 52) rfl rfl (xj_call Tryz.call131 htr rfl) ?_
      refine A1 rfl ?_
      repeat refine AW.seq ?_
      refine AW.ret ?_
      exact ⟨_, _, rfl, rfl, ⟨cellOk1 ⟨_, Tryz.underlying105, rfl⟩ sz105 rfl rfl rfl, trivial⟩, rfl⟩
  · have hn2 : ng = false := by rw [hnf]; exact hc16
    have hts : s = t := (digs_pos (hng.symm.trans hn2)).trans ht.symm
    rw [hts]
    refine AW.skip ?_
    repeat refine AW.seq ?_
    refine AW.block ?_
    repeat refine AW.seq ?_
    refine AW.loop (st := fun x_0 : Nat × List Nat => mkS [(2, .ptr 0 0), (3, .pv (.str ⟨((digsOf s).take x_0.1).toArray⟩)), (4, .ptr 1 0)] [(0, .mix 105 [.pv (.bool false), .pv (.sl (some true) 0 [])]), (1, .mix 105 [.pv (.bool ng), .gsl 2 1 x_0.2.length]), (2, .gro 3 (limI x_0.2))] 3)
      (I := fun x_0 => x_0.1 ≤ (digsOf s).length ∧ Lok x_0.2 ∧ x_0.2.length + x_0.1 ≤ (digsOf s).length ∧ dval (digsOf s) = dval ((digsOf s).take x_0.1) * 1000000000 ^ x_0.2.length + val x_0.2) (μ := fun x_0 => x_0.1) (x0 := ((digsOf s).length, [])) (St.le_mk ⟨rfl, congrArg (fun x => V.pv (.str x)) (by rw [ht, List.take_length]), rfl, trivial⟩ ⟨rfl, by rw [hn2]; rfl, rfl, trivial⟩ rfl rfl) (⟨Nat.le_refl _, fun _ h => absurd h (by simp), by simp, by simp [val]⟩) ?_
    rintro ⟨z, l⟩ ⟨hz, hok, hll, hvl⟩
    try simp only at hz hok hll hvl ⊢
    repeat refine AW.seq ?_
    refine AW.region ?_
    iterate 3 refine A1 rfl ?_
    repeat refine AW.seq ?_
    refine AW.condP rfl (fun hc22 => ?_) (fun hc22 => ?_)
    · refine AW.skip ?_
      repeat refine AW.seq ?_
      refine AW.block ?_
      have hz0 : 0 < z := by
        have h1 : (⟨((digsOf s).take z).toArray⟩ : ByteArray).size = z := by simp [ByteArray.size]; omega
        rw [h1] at hc22; omega
      have hsz : (⟨((digsOf s).take z).toArray⟩ : ByteArray).size = z := by simp [ByteArray.size]; omega
      have hst := read_step hz rfl hvl
      rw [show dval (List.take (z - (z - 9)) (List.drop (z - 9) (digsOf s))) = limbAt (digsOf s) z from rfl] at hst
      have hlt := limbAt_lt hd z
      repeat refine AW.seq ?_
      refine AW.region ?_
      iterate 3 refine A1 rfl ?_
      refine RL.step (d := some 26) rfl rfl (XJ.cast (v' := .pv (.int .i64 ((z - 9 : Nat) : Int))) (xj_max rfl rfl) (congrArg (fun i => V.pv (.int .i64 i)) (by rw [hsz]; split <;> omega))) ?_
      refine A1 rfl ?_
      repeat refine AW.seq ?_
      refine AW.region ?_
      refine A1 rfl ?_
      repeat refine AW.seq ?_
      refine AW.region ?_
      iterate 2 refine A1 rfl ?_
      repeat refine AW.seq ?_
      refine AW.block ?_
      repeat refine AW.seq ?_
      refine AW.loop (st := fun x_1 : Nat => mkS [(2, .ptr 0 0), (3, .pv (.str ⟨((digsOf s).take z).toArray⟩)), (4, .ptr 1 0), (5, .pv (.int .i64 ((z - 9 : Nat) : Int))), (6, .pv (.int .i64 ((dval (((digsOf s).drop (z - 9)).take (x_1 - (z - 9))) : Nat) : Int))), (7, .pv (.int .i64 (x_1 : Int)))] [(0, .mix 105 [.pv (.bool false), .pv (.sl (some true) 0 [])]), (1, .mix 105 [.pv (.bool ng), .gsl 2 1 l.length]), (2, .gro 3 (limI l))] 3)
        (I := fun x_1 => z - 9 ≤ x_1 ∧ x_1 ≤ z) (μ := fun x_1 => z - x_1) (x0 := (z - 9)) (St.le_mk ⟨rfl, rfl, rfl, rfl, congrArg (fun n : Nat => V.pv (.int .i64 n)) (by simp [dval]), rfl, trivial⟩ ⟨rfl, rfl, rfl, trivial⟩ rfl rfl) (⟨Nat.le_refl _, by omega⟩) ?_
      rintro j ⟨hj1, hj2⟩
      repeat refine AW.seq ?_
      refine AW.region ?_
      iterate 4 refine A1 rfl ?_
      repeat refine AW.seq ?_
      refine AW.condP rfl (fun hc31 => ?_) (fun hc31 => ?_)
      · refine AW.skip ?_
        repeat refine AW.seq ?_
        refine AW.block ?_
        have hjz : j < z := by rw [hsz] at hc31; omega
        have hjd : j < (digsOf s).length := by omega
        have hjs : j < (⟨((digsOf s).take z).toArray⟩ : ByteArray).size := by omega
        have hcj := ba_list ((digsOf s).take z) j hjs
        rw [show ((digsOf s).take z).getD j 0 = (digsOf s).getD j 0 by simp [List.getD, List.getElem?_take, hjz]] at hcj
        have hdg := hd ((digsOf s).getD j 0) (by simp [List.getD, hjd])
        have hs2 := limb_step hjd hj1
        have hb2 := limb_lt hd (lo := z - 9) (j := j) (by omega)
        simp only [digB, Bool.and_eq_true, decide_eq_true_eq] at hdg
        generalize (digsOf s).getD j 0 = c at *
        generalize dval (((digsOf s).drop (z - 9)).take (j - (z - 9))) = u at *
        repeat refine AW.seq ?_
        refine AW.region ?_
        iterate 4 refine A1 rfl ?_
        refine RL.step (d := some 38) rfl rfl (XJ.cast (v' := .pv (.int .u8 (c.toNat : Int))) (xj_indexS j Tryz.underlying9 rfl rfl rfl hjs) (congrArg (fun i => V.pv (.int .u8 i)) hcj)) ?_
        refine RL.step (d := some 39) rfl rfl (XJ.cast (v' := .pv (.int .u8 ((c.toNat - 48 : Nat) : Int))) (xj_bin rfl rfl rfl) (congrArg (fun i => V.pv (.int .u8 i)) (by show ((c.toNat : Int) - 48) % 256 = _; omega))) ?_
        refine RL.step (d := some 40) rfl rfl (XJ.cast (v' := .pv (.int .i64 ((c.toNat - 48 : Nat) : Int))) (xj_conv Tryz.underlying5 Tryz.underlying3 rfl) (congrArg (fun i => V.pv (.int .i64 i)) (wrap_in (by omega)))) ?_
        iterate 2 refine A1 rfl ?_
        repeat refine AW.seq ?_
        refine AW.region ?_
        iterate 3 refine A1 rfl ?_
        exact ⟨(j + 1), St.le_mk ⟨rfl, rfl, rfl, rfl, congrArg (fun i : Int => V.pv (.int .i64 i)) (by rw [hs2]; omega), rfl, trivial⟩ ⟨rfl, rfl, rfl, trivial⟩ rfl rfl, ⟨by omega, by omega⟩, by omega⟩
      · repeat refine AW.seq ?_
        refine AW.exit ?_
        have hjz : j = z := by rw [hsz] at hc31; omega
        rw [hjz, show dval (List.take (z - (z - 9)) (List.drop (z - 9) (digsOf s))) = limbAt (digsOf s) z from rfl]
        generalize limbAt (digsOf s) z = u at *
        repeat refine AW.seq ?_
        refine AW.region ?_
        iterate 7 refine A1 rfl ?_
        repeat refine AW.seq ?_
        refine AW.region ?_
        iterate 2 refine A1 rfl ?_
        refine RL.step (d := some 50) rfl rfl (XJ.cast (v' := .pv (.str ⟨((digsOf s).take (z - 9)).toArray⟩)) (xj_sliceS (kl := .i64) (kh := .i64) (il := 0) (ih := ((z - 9 : Nat) : Int)) none (some _) 0 (z - 9) Tryz.underlying9 rfl (by simp) (fun _ => rfl) (by rintro _ ⟨⟩; exact ⟨rfl, rfl⟩) (by simp) (Nat.zero_le _) (by rw [hsz]; omega)) (congrArg (fun x => V.pv (.str x)) (ext_take (by omega)))) ?_
        refine A1 rfl ?_
        exact ⟨(z - 9, l ++ [u]), St.le_mkR [0, 1, 4] ⟨rfl, rfl, rfl, trivial⟩ ⟨rfl, Eq.trans (b := some (.mix 105 [.pv (.bool ng), .gsl 4 1 (l.length + 1)])) (by kernel_rfl) (congrArg (fun n => some (Ob.mix 105 [.pv (.bool ng), .gsl 4 1 n])) (lenI_snoc l _)), congrArg (fun c => some (Ob.gro 3 c)) (limI_snoc _ _), trivial⟩ rfl rfl (by decide) rfl, ⟨by omega, hok.append (Lok.one hlt), by rw [List.length_append, List.length_singleton]; omega, by rw [List.length_append, List.length_singleton, val_append, val_one]; exact hst⟩, by omega⟩
    · repeat refine AW.seq ?_
      refine AW.exit ?_
      have hz0 : z = 0 := by
        have h1 : (⟨((digsOf s).take z).toArray⟩ : ByteArray).size = z := by simp [ByteArray.size]; omega
        rw [h1] at hc22; omega
      rw [hz0, List.take_zero, show dval [] = 0 from rfl, Nat.zero_mul, Nat.zero_add] at hvl
      have htr := btrim_spec2 (neg := ng) l rfl (by omega) hok hvl.symm
      rw [← hv] at htr
      refine AW.weaken (St.le_pubA 2 rfl rfl) ?_
      repeat refine AW.seq ?_
      refine AW.region ?_
      refine A1 rfl ?_
      refine RL.step (d := some 52) rfl rfl (xj_call Tryz.call131 htr rfl) ?_
      refine A1 rfl ?_
      repeat refine AW.seq ?_
      refine AW.ret ?_
      exact ⟨_, _, rfl, rfl, ⟨cellOk1 ⟨_, Tryz.underlying105, rfl⟩ sz105 rfl rfl rfl, trivial⟩, rfl⟩
end Go.Proofs.YtopjkdddicgajaaGreatDoor
namespace Go.Proofs.YtopjkdddicgajaaGreatDoor
open Go.RowKit Mk
set_option maxRecDepth 100000
set_option maxHeartbeats 4000000
/-- A fraction of joinlearnref02. -/
abbrev fracC (q : Rat) : List PV := [.bool (decide (q.num < 0)), pli (limbs q.num.natAbs), .bool (decide ((q.den : Int) < 0)), pli (limbs (q.den : Int).natAbs)]
abbrev fracP (q : Rat) : PV := .agg (fracC q)
theorem rof_spec (n : Int) (h0 : -9223372036854775808 ≤ n) (h1 : n ≤ 9223372036854775807) : FnP Tryz.prog 95 [.int .i64 n] (· = fracP (n : Rat)) := by
  refine FnP.ofC Tryz.func95 rfl Tryz.ntmps95 (by simp) fun m0 w0 F R0 => ?_
  repeat refine AW.seq ?_
  refine AW.region ?_
  refine A1 rfl ?_
  repeat refine AW.seq ?_
  refine AW.region ?_
  refine A1 rfl ?_
  refine RL.step (d := some 4) rfl rfl (xj_call Tryz.call65 (bof_spec n h0 h1) rfl) ?_
  refine RL.step (d := some 5) rfl rfl (xj_call Tryz.call65 (bof_spec 1 (by decide) (by decide)) rfl) ?_
  iterate 2 refine A1 rfl ?_
  repeat refine AW.seq ?_
  refine AW.ret ?_
  exact ⟨_, _, rfl, rfl, ⟨cellOk1 ⟨_, Tryz.underlying107, rfl⟩ sz107 rfl rfl rfl, trivial⟩, rfl⟩
theorem divInt_parts (x y : Int) (hy : y ≠ 0) :
    (Rat.divInt x y).num = (if y < 0 then -(x.tdiv (Int.gcd x y)) else x.tdiv (Int.gcd x y)) ∧ ((Rat.divInt x y).den : Int) = (if y < 0 then -(y.tdiv (Int.gcd x y)) else y.tdiv (Int.gcd x y)) := by
  have hg : (Int.gcd x y : Int) ∣ x := Int.gcd_dvd_left x y
  have hg2 : (Int.gcd x y : Int) ∣ y := Int.gcd_dvd_right x y
  rw [Rat.num_divInt, Rat.den_divInt, if_neg hy, Int.gcd_comm y x, Int.tdiv_eq_ediv_of_dvd hg, Int.tdiv_eq_ediv_of_dvd hg2]
  by_cases h : y < 0
  · rw [if_pos h, if_pos h, Int.sign_eq_neg_one_of_neg h]
    refine ⟨by rw [Int.neg_mul, Int.one_mul, Int.neg_ediv_of_dvd hg], ?_⟩
    rw [← Int.neg_ediv_of_dvd hg2, Int.natCast_ediv, show ((y.natAbs : Nat) : Int) = -y by omega]
  · rw [if_neg h, if_neg h, Int.sign_eq_one_of_pos (by omega), Int.one_mul]
    refine ⟨rfl, ?_⟩
    rw [Int.natCast_ediv, show ((y.natAbs : Nat) : Int) = y by omega]
theorem gcd_len {x y : Int} (hy : y ≠ 0) {k : Nat} (h : (limbs y.natAbs).length ≤ k) : (limbs ((Int.gcd x y : Nat) : Int).natAbs).length ≤ k := by
  refine Nat.le_trans (limbs_mono ?_) h
  rw [Int.natAbs_natCast]
  exact Nat.le_of_dvd (by omega) (Nat.gcd_dvd_right _ _)
theorem tdiv_neg_iff {x y : Int} (hy : y ≠ 0) : decide (y.tdiv (Int.gcd x y) < 0) = decide (y < 0) := by
  have hp := (divInt_parts x y hy).2
  have hd : 0 < (Rat.divInt x y).den := (Rat.divInt x y).den_pos
  have : (y.tdiv (Int.gcd x y) < 0) ↔ y < 0 := by
    by_cases h : y < 0
    · rw [if_pos h] at hp; omega
    · rw [if_neg h] at hp; omega
  rw [Bool.eq_iff_iff, decide_eq_true_eq, decide_eq_true_eq]
  exact this
theorem rnew_spec (x y : Int) (hx : (limbs x.natAbs).length ≤ 100000) (hyl : (limbs y.natAbs).length ≤ 100000) : FnP Tryz.prog 64 [bigP x, bigP y] (· = fracP (Rat.divInt x y)) := by
  refine FnP.ofC Tryz.func64 rfl Tryz.ntmps64 (by simp) fun m0 w0 F R0 => ?_
  have hparts := divInt_parts x y
  have hsgn := @tdiv_neg_iff x y
  have hq : ∃ q, q = Rat.divInt x y := ⟨_, rfl⟩
  obtain ⟨q, hq⟩ := hq
  have hz : y = 0 → q = ((0 : Int) : Rat) := fun e => by rw [hq, e, Rat.divInt_zero]; rfl
  rw [← hq] at hparts ⊢
  clear hq
  have hgl := fun hy => gcd_len (x := x) (y := y) hy hyl
  have hg0 : y ≠ 0 → ((Int.gcd x y : Nat) : Int) ≠ 0 := fun hy h => hy (by have := Int.gcd_eq_zero_iff.1 (Int.ofNat_inj.1 h); exact this.2)
  have hgc := bgcd_spec x y hx hyl
  generalize ((Int.gcd x y : Nat) : Int) = g at *
  repeat refine AW.seq ?_
  refine AW.region ?_
  iterate 3 refine A1 rfl ?_
  repeat refine AW.seq ?_
  refine AW.region ?_
  iterate 4 refine A1 rfl ?_
  repeat refine AW.seq ?_
  refine AW.cond rfl (fun hc13 => ?_) (fun hc13 => ?_)
  · have hy0 : y = 0 := by have := limbs_len0.1 (show (limbs y.natAbs).length = 0 by have := of_beq hc13; omega); omega
    repeat refine AW.seq ?_
    refine AW.region ?_
    refine RL.step (d := some 14) rfl rfl (xj_call Tryz.call95 (rof_spec 0 (by decide) (by decide)) rfl) ?_
    refine A1 rfl ?_
    repeat refine AW.seq ?_
    refine AW.ret ?_
    exact ⟨_, _, rfl, rfl, ⟨cellOk1 ⟨_, Tryz.underlying107, rfl⟩ sz107 rfl rfl rfl, trivial⟩, by rw [hz hy0]; rfl⟩
  · have hy0 : y ≠ 0 := fun e => by have := of_nbeq hc13; rw [e] at this; simp [limbs_zero] at this
    have hparts := hparts hy0
    have hsgn := hsgn hy0
    have hgl := hgl hy0
    have hg0 := hg0 hy0
    have hq1 := bquo_spec x g (by omega) hgl hg0
    have hq2 := bquo_spec y g (by omega) hgl hg0
    have hn1 := bneg_spec (x.tdiv g)
    have hn2 := bneg_spec (y.tdiv g)
    generalize x.tdiv g = n at *
    generalize y.tdiv g = d at *
    refine AW.skip ?_
    repeat refine AW.seq ?_
    refine AW.region ?_
    iterate 2 refine A1 rfl ?_
    refine RL.step (d := some 17) rfl rfl (xj_call Tryz.call96 hgc rfl) ?_
    iterate 2 refine A1 rfl ?_
    repeat refine AW.seq ?_
    refine AW.region ?_
    iterate 2 refine A1 rfl ?_
    refine RL.step (d := some 21) rfl rfl (xj_call Tryz.call97 hq1 rfl) ?_
    iterate 7 refine A1 rfl ?_
    repeat refine AW.seq ?_
    refine AW.region ?_
    iterate 2 refine A1 rfl ?_
    refine RL.step (d := some 27) rfl rfl (xj_call Tryz.call97 hq2 rfl) ?_
    iterate 7 refine A1 rfl ?_
    repeat refine AW.seq ?_
    refine AW.region ?_
    iterate 2 refine A1 rfl ?_
    repeat refine AW.seq ?_
    refine AW.cond rfl (fun hc31 => ?_) (fun hc31 => ?_)
    · have hneg : y < 0 := by rw [hsgn] at hc31; simpa using hc31
      repeat refine AW.seq ?_
      refine AW.draw follows [[], [0], [], [1, 2, 0], [3, 1, 0, 2], [4, 3, 1, 2, 0]] [0, 1, 2, 3, 4, 5] (by kernel_rfl) (by kernel_rfl) ?_
      refine D1 rfl rfl ?_
      refine DL.step (d := some 33) [] rfl rfl rfl (fun τ h => xj_call Tryz.call98 hn1 (h.argsP rfl)) rfl (by kernel_rfl) ?_
      refine D1 rfl rfl ?_
      refine DL.step (d := some 35) [] rfl rfl rfl (fun τ h => xj_call Tryz.call98 hn2 (h.argsP rfl)) rfl (by kernel_rfl) ?_
      iterate 2 refine D1 rfl rfl ?_
      refine ⟨by kernel_rfl, ?_⟩
      repeat refine AW.seq ?_
      refine AW.region ?_
      iterate 4 refine A1 rfl ?_
      repeat refine AW.seq ?_
      refine AW.ret ?_
      rw [if_pos hneg, if_pos hneg] at hparts
      exact ⟨_, _, rfl, rfl, ⟨cellOk1 ⟨_, Tryz.underlying107, rfl⟩ sz107 rfl rfl rfl, trivial⟩, by rw [fracP, fracC, hparts.1, hparts.2]; rfl⟩
    · have hneg : ¬ y < 0 := by rw [hsgn] at hc31; simpa using hc31
      refine AW.skip ?_
      repeat refine AW.seq ?_
      refine AW.region ?_
      iterate 4 refine A1 rfl ?_
      repeat refine AW.seq ?_
      refine AW.ret ?_
      rw [if_neg hneg, if_neg hneg] at hparts
      exact ⟨_, _, rfl, rfl, ⟨cellOk1 ⟨_, Tryz.underlying107, rfl⟩ sz107 rfl rfl rfl, trivial⟩, by rw [fracP, fracC, hparts.1, hparts.2]; rfl⟩
end Go.Proofs.YtopjkdddicgajaaGreatDoor
namespace Go.Proofs.YtopjkdddicgajaaGreatDoor
open Go.RowKit Mk
set_option maxRecDepth 100000
set_option maxHeartbeats 4000000
def itoT (n : Int) : ByteArray := ⟨(Lib.itoa n).toArray⟩
/-- The digits of a number are its number. -/
theorem dval_dec (n : Nat) : dval (Lib.decDigits n) = n := by
  induction n using Nat.strongRecOn with
  | ind n ih =>
    by_cases h : n < 10
    · rw [Lib.decDigits, dif_pos h]; simp [dval]; omega
    · rw [Lib.decDigits, dif_neg h, dval_snoc, ih _ (by omega)]; simp; omega
theorem dec_digs (n : Nat) : ∀ c ∈ Lib.decDigits n, digB c = true := by
  induction n using Nat.strongRecOn with
  | ind n ih =>
    intro c hc
    have key : ∀ d, d < 10 → digB (UInt8.ofNat (48 + d)) = true := fun d hd => by simp [digB]; omega
    by_cases h : n < 10
    · rw [Lib.decDigits, dif_pos h, List.mem_singleton] at hc; rw [hc]; exact key n h
    · rw [Lib.decDigits, dif_neg h] at hc
      rcases List.mem_append.1 hc with e | e
      · exact ih _ (by omega) c e
      · rw [List.mem_singleton] at e; rw [e]; exact key _ (Nat.mod_lt _ (by decide))
theorem dec_inj {a b : Nat} (h : Lib.decDigits a = Lib.decDigits b) : a = b := by rw [← dval_dec a, h, dval_dec]
theorem dec_ne (n : Nat) : Lib.decDigits n ≠ [] := by rw [Lib.decDigits]; split <;> simp
theorem itoa_inj {a b : Int} (h : Lib.itoa a = Lib.itoa b) : a = b := by
  have key : ∀ (n : Nat) (l : List UInt8), Lib.decDigits n ≠ 45 :: l := fun n l e => by
    have := dec_digs n 45 (by rw [e]; simp)
    cases this
  rw [itoa_eq, itoa_eq] at h
  by_cases ha : a < 0 <;> by_cases hb : b < 0
  · rw [if_pos ha, if_pos hb] at h
    have := dec_inj (List.append_cancel_left h)
    omega
  · rw [if_pos ha, if_neg hb] at h
    exact absurd h.symm (key _ _)
  · rw [if_neg ha, if_pos hb] at h
    exact absurd h (key _ _)
  · rw [if_neg ha, if_neg hb] at h
    have := dec_inj (List.append_cancel_left h)
    omega
theorem itoa_one (d : Nat) : ((itoT d).toList == oneT.toList) = decide (d = 1) := by
  rw [Lib.toList_data, Lib.toList_data, Bool.eq_iff_iff, beq_iff_eq, decide_eq_true_eq]
  have h1 : Lib.itoa ((1 : Nat) : Int) = [49] := by rw [itoa_eq, if_neg (by decide), Lib.decDigits, dif_pos (by decide)]; rfl
  show Lib.itoa d = [49] ↔ _
  rw [← h1]
  exact ⟨fun h => by have := itoa_inj h; omega, fun h => by rw [h]⟩
/-- Too many digits. -/
def rbig (q : Rat) : Bool := bbig q.num.natAbs || bbig q.den
/-- The text of a fraction. -/
def ratT (q : Rat) : ByteArray := if q.den = 1 then itoT q.num else (itoT q.num ++ ⟨#[47]⟩) ++ itoT q.den
theorem itoT_size (n : Int) (h : bbig n.natAbs = false) : (itoT n).size ≤ 401 := by
  rw [bbig, decide_eq_false_iff_not] at h
  have h1 : (itoT n).size = (Lib.itoa n).length := by simp [itoT, ByteArray.size]
  rw [h1, itoa_eq, List.length_append]
  have : (Lib.decDigits n.natAbs).length = ndig n.natAbs := rfl
  split <;> simp <;> omega
theorem rgive_spec (q : Rat) (hn : (limbs q.num.natAbs).length ≤ 1000000) (hd : (limbs q.den).length ≤ 1000000) : FnP Tryz.prog 66 [fracP q] (· = .tup [.str (if rbig q = true then ⟨#[]⟩ else ratT q), .int .i64 (if rbig q = true then 3 else 0)]) := by
  refine FnP.of Tryz.func66 rfl Tryz.ntmps66 (by simp) fun m0 w0 F R0 => ?_
  have h1 := bgive_spec q.num hn
  have h2 := bgive_spec (q.den : Int) (by rw [Int.natAbs_natCast]; exact hd)
  have hT := ratT.eq_1 q
  have hB := rbig.eq_1 q
  have ho := itoa_one q.den
  have hs1 := itoT_size q.num
  have hs2 := itoT_size (q.den : Int)
  rw [Int.natAbs_natCast] at h2 hs2
  rw [show (⟨(Lib.itoa q.num).toArray⟩ : ByteArray) = itoT q.num from rfl] at h1
  rw [show (⟨(Lib.itoa (q.den : Int)).toArray⟩ : ByteArray) = itoT q.den from rfl] at h2
  generalize ratT q = T at *
  generalize rbig q = B at *
  generalize itoT q.num = tn at *
  generalize itoT (q.den : Int) = td at *
  generalize bbig q.num.natAbs = c1 at *
  generalize bbig q.den = c2 at *
  repeat refine AW.seq ?_
  refine AW.region ?_
  iterate 3 refine A1 rfl ?_
  repeat refine AW.seq ?_
  refine AW.region ?_
  iterate 2 refine A1 rfl ?_
  refine RL.step (d := some 11) rfl rfl (xj_call Tryz.call99 h1 rfl) ?_
  iterate 5 refine A1 rfl ?_
  repeat refine AW.seq ?_
  refine AW.region ?_
  iterate 2 refine A1 rfl ?_
  refine RL.step (d := some 17) rfl rfl (xj_call Tryz.call99 h2 rfl) ?_
  iterate 5 refine A1 rfl ?_
  repeat refine AW.seq ?_
  refine AW.region ?_
  iterate 3 refine A1 rfl ?_
  apply RL.orB 3 22 25 [23, 24] rfl (by first | exact MonoK.le | exact MonoK.aw | exact MonoK.back)
  · intro hb2
    iterate 3 refine A1 rfl ?_
    exact St.le_fg (fEq.upd (fEq.upd (fEq.upd (fEq.upd (fEq.refl) rfl) rfl) rfl) rfl) rfl rfl rfl
  · intro hb2
    iterate 3 refine A1 rfl ?_
    exact St.le_fg (fEq.upd (fEq.upd (fEq.upd (fEq.upd (fEq.refl) rfl) rfl) rfl) rfl) rfl rfl rfl
  repeat refine AW.seq ?_
  refine AW.cond rfl (fun hc25 => ?_) (fun hc25 => ?_)
  · have hB1 : B = true := by rw [hB]; cases c1 <;> cases c2 <;> simp at hc25 ⊢
    repeat refine AW.seq ?_
    refine AW.region ?_
    iterate 2 refine A1 rfl ?_
    repeat refine AW.seq ?_
    refine AW.ret ?_
    exact ⟨_, _, rfl, rfl, by rw [if_pos hB1, if_pos hB1]; rfl⟩
  · have hc : c1 = false ∧ c2 = false := by cases c1 <;> cases c2 <;> simp at hc25 ⊢
    obtain ⟨rfl, rfl⟩ := hc
    have hB0 : ¬ B = true := by rw [hB]; decide
    have hs1 := hs1 rfl
    have hs2 := hs2 rfl
    refine AW.skip ?_
    repeat refine AW.seq ?_
    refine AW.region ?_
    refine A1 rfl ?_
    refine RL.step (d := some 27) rfl rfl (XJ.cast (v' := .pv (.bool (decide (q.den = 1)))) (xj_binS rfl rfl rfl) (congrArg (fun b => V.pv (.bool b)) ho)) ?_
    repeat refine AW.seq ?_
    refine AW.cond rfl (fun hc27 => ?_) (fun hc27 => ?_)
    · repeat refine AW.seq ?_
      refine AW.region ?_
      iterate 3 refine A1 rfl ?_
      repeat refine AW.seq ?_
      refine AW.ret ?_
      exact ⟨_, _, rfl, rfl, by rw [if_neg hB0, if_neg hB0, hT, if_pos (by simpa using hc27)]; rfl⟩
    · refine AW.skip ?_
      have hk : (⟨#[47]⟩ : ByteArray).size = 1 := rfl
      repeat refine AW.seq ?_
      refine AW.region ?_
      refine A1 rfl ?_
      refine RL.step (d := some 30) rfl rfl (xj_cat rfl rfl (by show tn.size + _ ≤ _; omega)) ?_
      refine A1 rfl ?_
      refine RL.step (d := some 32) rfl rfl (xj_cat rfl rfl (by show (tn ++ _).size + td.size ≤ _; rw [ByteArray.size_append]; omega)) ?_
      iterate 2 refine A1 rfl ?_
      repeat refine AW.seq ?_
      refine AW.ret ?_
      exact ⟨_, _, rfl, rfl, by rw [if_neg hB0, if_neg hB0, hT, if_neg (by simpa using hc27)]; rfl⟩
end Go.Proofs.YtopjkdddicgajaaGreatDoor
namespace Go.Proofs.YtopjkdddicgajaaGreatDoor
open Go.RowKit Mk
set_option maxRecDepth 100000
set_option maxHeartbeats 4000000
theorem cut_hit {s : ByteArray} {i : Nat} (h : Lib.indexByte s.data.toList 47 = (i : Int)) : numT s = s.extract 0 i ∧ denT s = s.extract (i + 1) s.size ∧ slashB s = true := by
  have e : Lib.index s.data.toList [47] = (i : Int) := by rw [Lib.index_one]; exact h
  have hc : Lib.cut s.data.toList [47] = (s.data.toList.take i, s.data.toList.drop (i + 1), true) := by rw [Lib.cut, e, if_pos (by omega)]; rfl
  have e2 : (s.extract (i + 1) s.size).data.toList = s.data.toList.drop (i + 1) := Lib.extract_to_end s (i + 1)
  refine ⟨?_, ?_, ?_⟩
  · rw [numT, hc]
    apply ByteArray.ext
    apply Array.ext'
    simp [List.extract_eq_take_drop]
  · rw [denT, hc]; show (⟨(s.data.toList.drop (i + 1)).toArray⟩ : ByteArray) = _; rw [← e2]
  · rw [slashB, hc]
theorem cut_none {s : ByteArray} (h : Lib.indexByte s.data.toList 47 = -1) : numT s = s ∧ slashB s = false := by
  have e : Lib.index s.data.toList [47] = -1 := by rw [Lib.index_one]; exact h
  have hc : Lib.cut s.data.toList [47] = (s.data.toList, [], false) := by rw [Lib.cut, e, if_neg (by omega)]
  exact ⟨by rw [numT, hc], by rw [slashB, hc]⟩
/-- The first slash. -/
theorem slash_at {l : List UInt8} {k : Nat} (hk : k < l.length) (h1 : ∀ j, j < k → l.getD j 0 ≠ 47) (h2 : l.getD k 0 = 47) : Lib.indexByte l 47 = (k : Int) := by
  rw [← Lib.index_one]
  have occ : ∀ j, Lib.occAt l [47] j = (decide (j < l.length) && (l.getD j 0 == 47)) := fun j => by
    rw [Lib.occAt]
    by_cases hj : j < l.length
    · rw [List.drop_eq_getElem_cons hj]
      simp [List.isPrefixOf, List.getD, hj, Bool.beq_comm]
    · rw [List.drop_of_length_le (by omega)]; simp [List.isPrefixOf, hj]
  refine Lib.index_first (by omega) ?_ fun j hj => ?_
  · rw [occ, h2]; simp [hk]
  · rw [occ]; simp; intro _ e; exact absurd e (by simpa [List.getD] using h1 j hj)
theorem slash_no {l : List UInt8} (h : ∀ j, j < l.length → l.getD j 0 ≠ 47) : Lib.indexByte l 47 = -1 := by
  rcases Int.lt_or_le (Lib.indexByte l 47) 0 with e | e
  · have := Lib.indexByte_ge l 47; omega
  · obtain ⟨i, hi⟩ := Int.eq_ofNat_of_zero_le e
    have h1 := (Lib.indexByte_some hi).1
    obtain ⟨hlt, h2⟩ := List.getElem?_eq_some_iff.1 h1
    exact absurd (by simp [List.getD, hlt, h2]) (h i hlt)
/-- What stands for the denominator. -/
def denX (s : ByteArray) : ByteArray := if slashB s = true then denT s else oneT
theorem u8_47 (x : UInt8) : (((x.toNat : Nat) : Int) == 47) = true ↔ x = 47 := by
  rw [beq_iff_eq]
  constructor
  · intro h; exact UInt8.toNat_inj.1 (show x.toNat = (47 : UInt8).toNat from Int.ofNat_inj.1 h)
  · intro h; rw [h]; rfl
theorem rsplit_spec (s : ByteArray) (hs : s.size ≤ 1000000000) : FnP Tryz.prog 160 [.str s] (· = .tup [.str (numT s), .str (denX s), .bool (slashB s)]) := by
  refine FnP.of Tryz.func160 rfl Tryz.ntmps160 (by simp) fun m0 w0 F R0 => ?_
  have hz : s.size = s.data.toList.length := Lib.size_eq s
  repeat refine AW.seq ?_
  refine AW.region ?_
  iterate 3 refine A1 rfl ?_
  repeat refine AW.seq ?_
  refine AW.region ?_
  refine A1 rfl ?_
  repeat refine AW.seq ?_
  refine AW.block ?_
  repeat refine AW.seq ?_
  refine AW.loop (st := fun x_0 : Nat => mkS [(0, .pv (.str s)), (5, .pv (.int .i64 x_0))] [] 0)
    (I := fun x_0 => x_0 ≤ s.size ∧ ∀ j, j < x_0 → s.data.toList.getD j 0 ≠ 47) (μ := fun x_0 => s.size - x_0) (x0 := (0)) (St.le_mk ⟨rfl, rfl, trivial⟩ trivial rfl rfl) (⟨Nat.zero_le _, fun j hj => absurd hj (Nat.not_lt_zero _)⟩) ?_
  rintro k ⟨hk, hall⟩
  repeat refine AW.seq ?_
  refine AW.region ?_
  iterate 4 refine A1 rfl ?_
  repeat refine AW.seq ?_
  refine AW.condP rfl (fun hc9 => ?_) (fun hc9 => ?_)
  · have hlt : k < s.size := by omega
    have hb := u8_47 (s.data.toList.getD k 0)
    have hgt := ba_get s k hlt
    refine AW.skip ?_
    repeat refine AW.seq ?_
    refine AW.block ?_
    repeat refine AW.seq ?_
    refine AW.region ?_
    iterate 2 refine A1 rfl ?_
    refine RL.step (d := some 14) rfl rfl (xj_indexS k Tryz.underlying9 rfl rfl rfl hlt) ?_
    refine RL.step (d := some 15) rfl rfl ((xj_bin rfl rfl rfl).cast (v' := .pv (.bool ((((s.data.toList.getD k 0).toNat : Nat) : Int) == 47))) (by rw [hgt])) ?_
    repeat refine AW.seq ?_
    refine AW.cond rfl (fun hc15 => ?_) (fun hc15 => ?_)
    · have hc := slash_at (by omega) hall (hb.1 hc15)
      obtain ⟨c1, c2, c3⟩ := cut_hit hc
      repeat refine AW.seq ?_
      refine AW.draw follows [[], [], [1, 0], [], [], [4], [5, 3, 4], [2, 1, 0], [7, 6, 5, 3, 4, 2, 1, 0], [8, 7, 6, 5, 3, 4, 2, 1, 0]] [0, 1, 2, 3, 4, 5, 6, 7, 8, 9] (by kernel_rfl) (by kernel_rfl) ?_
      iterate 2 refine D1 rfl rfl ?_
      refine DL.step (d := some 18) [] rfl rfl rfl (fun τ h => XJ.cast (v' := .pv (.str (numT s))) (xj_sliceS (kl := .i64) (kh := .i64) (il := 0) (ih := (k : Int)) none (some _) 0 k Tryz.underlying9 ((h.e 0 _ rfl).trans rfl) (by simp) (fun _ => rfl) (by rintro _ ⟨⟩; exact ⟨((h.e 1 _ rfl).trans rfl), rfl⟩) (by simp) (Nat.zero_le _) (by omega)) (congrArg (fun x => V.pv (.str x)) c1.symm)) rfl (by kernel_rfl) ?_
      iterate 3 refine D1 rfl rfl ?_
      refine DL.step (d := some 22) [] rfl rfl rfl (fun τ h => XJ.cast (v' := .pv (.str (denT s))) (xj_sliceS (kl := .i64) (kh := .i64) (il := ((k : Int) + 1)) (ih := 0) (some _) none (k + 1) s.size Tryz.underlying9 ((h.e 0 _ rfl).trans rfl) (by rintro _ ⟨⟩; exact ⟨((h.e 1 _ rfl).trans rfl), by omega⟩) (by simp) (by simp) (fun _ => rfl) (by omega) (Nat.le_refl _)) (congrArg (fun x => V.pv (.str x)) c2.symm)) rfl (by kernel_rfl) ?_
      iterate 3 refine D1 rfl rfl ?_
      refine ⟨by kernel_rfl, ?_⟩
      repeat refine AW.seq ?_
      refine AW.ret ?_
      exact ⟨_, _, rfl, rfl, by rw [denX, c3]; rfl⟩
    · refine AW.skip ?_
      repeat refine AW.seq ?_
      refine AW.region ?_
      iterate 3 refine A1 rfl ?_
      exact ⟨(k + 1), St.le_mk ⟨rfl, rfl, trivial⟩ trivial rfl rfl, ⟨by omega, fun j hj => by rcases Nat.lt_succ_iff_lt_or_eq.1 hj with h | rfl; exact hall j h; exact fun e => by have := hb.2 e; rw [hc15] at this; cases this⟩, by omega⟩
  · repeat refine AW.seq ?_
    refine AW.exit ?_
    repeat refine AW.seq ?_
    refine AW.region ?_
    iterate 4 refine A1 rfl ?_
    repeat refine AW.seq ?_
    refine AW.ret ?_
    have hc := slash_no (l := s.data.toList) (fun j hj => hall j (by omega))
    obtain ⟨c1, c2⟩ := cut_none hc
    exact ⟨_, _, rfl, rfl, by rw [denX, c1, c2]; rfl⟩
/-- Numbers below 2 as texts. -/
theorem dval_pos {c : UInt8} {l : List UInt8} (hd : ∀ x ∈ c :: l, digB x = true) (h0 : c ≠ 48) : 10 ^ l.length ≤ dval (c :: l) := by
  have hc := hd c (by simp)
  simp only [digB, Bool.and_eq_true, decide_eq_true_eq] at hc
  have hc1 : 1 ≤ c.toNat - 48 := by
    have : c.toNat ≠ 48 := fun e => h0 (UInt8.toNat_inj.1 e)
    omega
  have e : dval (c :: l) = (c.toNat - 48) * 10 ^ l.length + dval l := by
    rw [dval, List.foldl_cons, dval_from]; simp
  rw [e]
  have := Nat.mul_le_mul_right (10 ^ l.length) hc1
  omega
theorem valid_small {d : ByteArray} (h : ivalid d = true) : decide (rdZ d ≤ 1) = (((d.toList == oneT.toList) || (d.toList == zeroT.toList)) || (((d.data.toList.getD 0 0).toNat : Int) == 45)) := by
  have e1 : ∀ x y : ByteArray, (x.toList == y.toList) = (x.data.toList == y.data.toList) := fun x y => by rw [Lib.toList_data, Lib.toList_data]
  have hneg := neg_first d
  rw [ivalid, e1, Bool.or_eq_true] at h
  rw [e1, e1]
  rcases h with h | h
  · have h2 : d.data.toList = [48] := by simpa using h
    have e2 : rdZ d = 0 := by rw [rdZ, digsOf, negOf, h2]; decide
    rw [e2, h2]; rfl
  · simp only [goodD, Bool.and_eq_true, decide_eq_true_eq, List.all_eq_true, Bool.not_eq_true', bne_iff_ne] at h
    obtain ⟨⟨⟨hne, hle⟩, h0⟩, hd⟩ := h
    cases hD : digsOf d with
    | nil => rw [hD] at hne; cases hne
    | cons c l =>
      rw [hD] at h0 hd
      have hp := dval_pos hd (by simpa using h0)
      have hp1 : 1 ≤ 10 ^ l.length := Nat.pow_pos (by decide)
      by_cases hng : negOf d = true
      · have hr : rdZ d ≤ 1 := by rw [rdZ, hng, hD]; show -((dval (c :: l) : Nat) : Int) ≤ 1; omega
        rw [decide_eq_true hr]
        rw [hng] at hneg
        have := (Bool.and_eq_true _ _ ▸ hneg.symm : _ ∧ _).2
        rw [this, Bool.or_true]
      · have hng : negOf d = false := by simpa using hng
        have hdd : d.data.toList = c :: l := by rw [← hD, digsOf, Lib.trimPrefix, if_neg (by rw [negOf] at hng; rw [hng]; decide)]
        have hr : rdZ d = (dval (c :: l) : Int) := by rw [rdZ, hng, hD]; rfl
        have h45 : (((d.data.toList.getD 0 0).toNat : Int) == 45) = false := by
          rw [hng] at hneg
          have hs : 0 < d.size := by rw [Lib.size_eq, hdd]; simp
          rw [decide_eq_true hs, Bool.true_and] at hneg
          exact hneg.symm
        rw [h45, Bool.or_false, hr, hdd]
        have hz : ((c :: l) == zeroT.data.toList) = false := by
          rw [beq_eq_false_iff_ne]; intro e; have : c = 48 := by injection e
          exact absurd this (by simpa using h0)
        rw [hz, Bool.or_false, Bool.eq_iff_iff, decide_eq_true_eq, beq_iff_eq]
        constructor
        · intro hle1
          have : l.length = 0 := by
            rcases Nat.eq_zero_or_pos l.length with e | e
            · exact e
            · have : 10 ^ 1 ≤ 10 ^ l.length := Nat.pow_le_pow_right (by decide) e
              omega
          have hl : l = [] := List.eq_nil_of_length_eq_zero this
          subst hl
          have hc := hd c (by simp)
          simp only [digB, Bool.and_eq_true, decide_eq_true_eq] at hc
          have e2 : dval [c] = c.toNat - 48 := by simp [dval]
          have h3 : c.toNat ≠ 48 := fun e => absurd (UInt8.toNat_inj.1 e) (by simpa using h0)
          have : c.toNat = 49 := by omega
          rw [UInt8.toNat_inj.1 (show c.toNat = (49 : UInt8).toNat from this)]
          rfl
        · intro e
          rw [e]; decide
theorem valid_size {d : ByteArray} (h : ivalid d = true) : d.size ≤ 401 ∧ (1 < rdZ d → d.size ≤ 400) := by
  have h2 := ivalid_dig h
  have hs : d.size = d.data.toList.length := Lib.size_eq d
  by_cases hng : negOf d = true
  · have e : digsOf d = d.data.toList.drop 1 := by rw [digsOf, Lib.trimPrefix]; rw [negOf] at hng; rw [if_pos hng]; rfl
    rw [e] at h2
    refine ⟨by have := h2.2; simp at this; omega, fun hr => ?_⟩
    rw [rdZ, hng] at hr
    simp [sgn] at hr
    omega
  · have e : digsOf d = d.data.toList := by rw [digsOf, Lib.trimPrefix]; rw [negOf] at hng; rw [if_neg hng]
    rw [e] at h2
    have := h2.2
    exact ⟨by omega, fun _ => by omega⟩
theorem valid_pos {d : ByteArray} (h : ivalid d = true) : 0 < d.size := by
  rcases Nat.eq_zero_or_pos d.size with e | e
  · have h0 : d.data.toList = [] := List.eq_nil_of_length_eq_zero (by have := Lib.size_eq d; omega)
    rw [ivalid, Lib.toList_data, Lib.toList_data, h0, goodD, digsOf, h0] at h
    cases h
  · exact e
/-- What rational.Valid asks, as the reference asks it. -/
theorem rval_bad (s : ByteArray) (h : ivalid (numT s) = false ∨ ivalid (denX s) = false) : rvalid s = false := by
  rw [rvalid]
  cases hs : slashB s with
  | false =>
    have hx : ivalid (denX s) = true := by rw [denX, hs, if_neg (by decide)]; exact ivalid_one
    rcases h with h | h
    · rw [h]; rfl
    · rw [hx] at h; cases h
  | true =>
    have hx : denX s = denT s := by rw [denX, hs, if_pos rfl]
    rw [hx] at h
    rcases h with h | h
    · rw [h]; rfl
    · rw [rbad, h]; cases ivalid (numT s) <;> simp
theorem rval_whole (s : ByteArray) (hs : slashB s = false) (h : ivalid (numT s) = true) : rvalid s = true := by
  rw [rvalid, hs, h]; rfl
theorem rval_frac (s : ByteArray) (hs : slashB s = true) (h1 : ivalid (numT s) = true) (h2 : ivalid (denX s) = true) :
    rvalid s = !(((((numT s).toList == zeroT.toList) || ((denX s).toList == oneT.toList)) || ((denX s).toList == zeroT.toList)) || ((((denX s).data.toList.getD 0 0).toNat : Int) == 45) || !decide (Int.gcd (rdZ (numT s)) (rdZ (denX s)) = 1)) := by
  have hx : denX s = denT s := by rw [denX, hs, if_pos rfl]
  have hv := valid_small h2
  rw [hx] at hv h2 ⊢
  rw [rvalid, hs, h1, if_neg (by decide), rbad, h2, hv]
  cases ((numT s).toList == zeroT.toList) <;> cases ((denT s).toList == oneT.toList) <;> cases ((denT s).toList == zeroT.toList) <;> cases ((((denT s).data.toList.getD 0 0).toNat : Int) == 45) <;> simp
theorem cut_size (s : ByteArray) : s.size = (numT s).size + (if slashB s = true then 1 + (denT s).size else 0) := by
  rcases Int.lt_or_le (Lib.indexByte s.data.toList 47) 0 with e | e
  · have := Lib.indexByte_ge s.data.toList 47
    obtain ⟨c1, c2⟩ := cut_none (s := s) (by omega)
    rw [c1, c2]; simp
  · obtain ⟨i, hi⟩ := Int.eq_ofNat_of_zero_le e
    have h1 := (Lib.indexByte_some hi).1
    have hlt := (List.getElem?_eq_some_iff.1 h1).1
    have hz := Lib.size_eq s
    obtain ⟨c1, c2, c3⟩ := cut_hit (s := s) hi
    rw [c1, c2, c3, if_pos rfl]
    simp
    omega
theorem rval_size (s : ByteArray) (h : rvalid s = true) : s.size ≤ 802 := by
  have hc := cut_size s
  cases hs : slashB s with
  | false =>
    have hn : ivalid (numT s) = true := by
      cases hn : ivalid (numT s) with
      | true => rfl
      | false => rw [rval_bad s (.inl hn)] at h; cases h
    have := (valid_size hn).1
    rw [hs, if_neg (by decide)] at hc
    omega
  | true =>
    have hn : ivalid (numT s) = true := by
      cases hn : ivalid (numT s) with
      | true => rfl
      | false => rw [rval_bad s (.inl hn)] at h; cases h
    have hd : ivalid (denX s) = true := by
      cases hn : ivalid (denX s) with
      | true => rfl
      | false => rw [rval_bad s (.inr hn)] at h; cases h
    have hf := rval_frac s hs hn hd
    have hv := valid_small hd
    have hx : denX s = denT s := by rw [denX, hs, if_pos rfl]
    rw [hs, if_pos rfl, ← hx] at hc
    have h1 := (valid_size hn).1
    have h2 : 1 < rdZ (denX s) := by
      apply Int.lt_of_not_ge
      intro hle
      rw [decide_eq_true hle] at hv
      rw [h] at hf
      cases e1 : ((denX s).toList == oneT.toList) <;> cases e2 : ((denX s).toList == zeroT.toList) <;> cases e3 : ((((denX s).data.toList.getD 0 0).toNat : Int) == 45) <;> rw [e1, e2, e3] at hv hf <;> simp at hv hf
    have := (valid_size hd).2 h2
    omega
theorem rparts_spec (s : ByteArray) (hs : s.size ≤ 1000000000) : FnP Tryz.prog 128 [.str s] (· = .tup [.str (if rvalid s = true then numT s else ⟨#[]⟩), .str (if rvalid s = true then denX s else ⟨#[]⟩), .bool (rvalid s)]) := by
  refine FnP.of Tryz.func128 rfl Tryz.ntmps128 (by simp) fun m0 w0 F R0 => ?_
  have hsp := rsplit_spec s hs
  have f1 := rval_size s
  have f2 := rval_bad s
  have f3 := rval_whole s
  have f4 := rval_frac s
  have hvn := bvalid_spec (numT s)
  have hvd := bvalid_spec (denX s)
  have hdn := @ivalid_dig (numT s)
  have hdd := @ivalid_dig (denX s)
  have hln := @rdZ_len (numT s)
  have hld := @rdZ_len (denX s)
  have hpd := @valid_pos (denX s)
  generalize rvalid s = v at *
  generalize numT s = nu at *
  generalize denX s = de at *
  generalize slashB s = sb at *
  repeat refine AW.seq ?_
  refine AW.region ?_
  iterate 3 refine A1 rfl ?_
  repeat refine AW.seq ?_
  refine AW.region ?_
  iterate 3 refine A1 rfl ?_
  repeat refine AW.seq ?_
  refine AW.condP rfl (fun hc10 => ?_) (fun hc10 => ?_)
  · repeat refine AW.seq ?_
    refine AW.region ?_
    iterate 3 refine A1 rfl ?_
    repeat refine AW.seq ?_
    refine AW.ret ?_
    have hv : v = false := by cases hv : v with | false => rfl | true => have := f1 hv; omega
    exact ⟨_, _, rfl, rfl, by rw [hv]; rfl⟩
  · refine AW.skip ?_
    repeat refine AW.seq ?_
    refine AW.region ?_
    refine A1 rfl ?_
    refine RL.step (d := some 13) rfl rfl (xj_call Tryz.call160 hsp rfl) ?_
    iterate 7 refine A1 rfl ?_
    repeat refine AW.seq ?_
    refine AW.region ?_
    refine A1 rfl ?_
    refine RL.step (d := some 18) rfl rfl (xj_call Tryz.call161 hvn rfl) ?_
    iterate 2 refine A1 rfl ?_
    apply RL.orB 4 20 24 [21, 22, 23] rfl (by first | exact MonoK.le | exact MonoK.aw | exact MonoK.back)
    · intro hb3
      iterate 4 refine A1 rfl ?_
      exact St.le_fg (fEq.upd (fEq.upd (fEq.upd (fEq.upd (fEq.upd (fEq.refl) rfl) rfl) rfl) rfl) rfl) rfl rfl rfl
    · intro hb3
      refine A1 rfl ?_
      refine RL.stepG (d := some 22) rfl rfl rfl (xj_call Tryz.call161 hvd rfl) ?_
      iterate 2 refine A1 rfl ?_
      exact St.le_fg (fEq.upd (fEq.upd (fEq.upd (fEq.upd (fEq.upd (fEq.refl) rfl) rfl) rfl) rfl) rfl) rfl rfl rfl
    repeat refine AW.seq ?_
    refine AW.cond rfl (fun hc24 => ?_) (fun hc24 => ?_)
    · repeat refine AW.seq ?_
      refine AW.region ?_
      iterate 3 refine A1 rfl ?_
      repeat refine AW.seq ?_
      refine AW.ret ?_
      have hv : v = false := f2 (by cases h1 : ivalid nu with | false => exact .inl rfl | true => right; rw [h1] at hc24; simpa using hc24)
      exact ⟨_, _, rfl, rfl, by rw [hv]; rfl⟩
    · have hin : ivalid nu = true := by simp only [Bool.or_eq_false_iff] at hc24; simpa using hc24.1
      have hid : ivalid de = true := by simp only [Bool.or_eq_false_iff] at hc24; simpa using hc24.2
      have hp := hpd hid
      have hrn := bread_spec nu (hdn hin).1 (by have := (hdn hin).2; omega)
      have hrd := bread_spec de (hdd hid).1 (by have := (hdd hid).2; omega)
      have hgc := bgcd_spec (rdZ nu) (rdZ de) (by have := hln hin; omega) (by have := hld hid; omega)
      have hgl : (limbs ((Int.gcd (rdZ nu) (rdZ de) : Nat) : Int).natAbs).length ≤ 1000000 := by
        rw [Int.natAbs_natCast]
        have h1 := hln hin
        have h2 := hld hid
        by_cases h0 : rdZ nu = 0
        · rw [h0, Int.gcd_zero_left]; omega
        · exact Nat.le_trans (limbs_mono (Nat.le_of_dvd (by omega) (Nat.gcd_dvd_left _ _))) (by omega)
      have htx := btext_spec ((Int.gcd (rdZ nu) (rdZ de) : Nat) : Int) hgl
      have h11 : ((⟨(Lib.itoa ((Int.gcd (rdZ nu) (rdZ de) : Nat) : Int)).toArray⟩ : ByteArray).toList == oneT.toList) = decide (Int.gcd (rdZ nu) (rdZ de) = 1) := itoa_one _
      refine AW.skip ?_
      by_cases hS : sb = true
      · have hf := f4 hS hin hid
        subst hS
        repeat refine AW.seq ?_
        refine AW.region ?_
        iterate 5 refine A1 rfl ?_
        apply RL.orB 3 29 32 [30, 31] rfl (by first | exact MonoK.le | exact MonoK.aw | exact MonoK.back)
        · intro hb4
          iterate 3 refine A1 rfl ?_
          exact St.le_fg (fEq.upd (fEq.upd (fEq.upd (fEq.upd (fEq.refl) rfl) rfl) rfl) rfl) rfl rfl rfl
        · intro hb4
          iterate 3 refine A1 rfl ?_
          exact St.le_fg (fEq.upd (fEq.upd (fEq.upd (fEq.upd (fEq.refl) rfl) rfl) rfl) rfl) rfl rfl rfl
        refine A1 rfl ?_
        apply RL.orB 3 33 36 [34, 35] rfl (by first | exact MonoK.le | exact MonoK.aw | exact MonoK.back)
        · intro hb8
          iterate 3 refine A1 rfl ?_
          exact St.le_fg (fEq.upd (fEq.upd (fEq.upd (fEq.upd (fEq.refl) rfl) rfl) rfl) rfl) rfl rfl rfl
        · intro hb8
          iterate 3 refine A1 rfl ?_
          exact St.le_fg (fEq.upd (fEq.upd (fEq.upd (fEq.upd (fEq.refl) rfl) rfl) rfl) rfl) rfl rfl rfl
        refine A1 rfl ?_
        apply RL.orB 4 37 41 [38, 39, 40] rfl (by first | exact MonoK.le | exact MonoK.aw | exact MonoK.back)
        · intro hb12
          iterate 4 refine A1 rfl ?_
          exact St.le_fg (fEq.upd (fEq.upd (fEq.upd (fEq.upd (fEq.upd (fEq.refl) rfl) rfl) rfl) rfl) rfl) rfl rfl rfl
        · intro hb12
          refine A1 rfl ?_
          refine RL.stepG (d := some 39) rfl rfl rfl (xj_indexS 0 Tryz.underlying9 rfl rfl rfl hp) ?_
          refine RL.stepG (d := some 40) rfl rfl rfl ((xj_bin rfl rfl rfl).cast (v' := .pv (.bool ((((de.data.toList.getD 0 0).toNat : Nat) : Int) == 45))) (by rw [ba_get _ 0 hp])) ?_
          refine A1 rfl ?_
          exact St.le_fg (fEq.upd (fEq.upd (fEq.upd (fEq.upd (fEq.upd (fEq.refl) rfl) rfl) rfl) rfl) rfl) rfl rfl rfl
        refine A1 rfl ?_
        apply RL.orB 8 42 50 [43, 44, 45, 46, 47, 48, 49] rfl (by first | exact MonoK.le | exact MonoK.aw | exact MonoK.back)
        · intro hb17
          iterate 8 refine A1 rfl ?_
          exact St.le_fg (fEq.upd (fEq.upd (fEq.upd (fEq.upd (fEq.upd (fEq.upd (fEq.upd (fEq.upd (fEq.upd (fEq.refl) rfl) rfl) rfl) rfl) rfl) rfl) rfl) rfl) rfl) rfl rfl rfl
        · intro hb17
          refine A1 rfl ?_
          refine RL.stepG (d := some 44) rfl rfl rfl (xj_call Tryz.call162 hrn rfl) ?_
          refine A1 rfl ?_
          refine RL.stepG (d := some 46) rfl rfl rfl (xj_call Tryz.call162 hrd rfl) ?_
          refine RL.stepG (d := some 47) rfl rfl rfl (xj_call Tryz.call96 hgc rfl) ?_
          refine RL.stepG (d := some 48) rfl rfl rfl (xj_call Tryz.call136 htx rfl) ?_
          iterate 2 refine A1 rfl ?_
          exact St.le_fg (fEq.upd (fEq.upd (fEq.upd (fEq.upd (fEq.upd (fEq.upd (fEq.upd (fEq.upd (fEq.upd (fEq.refl) rfl) rfl) rfl) rfl) rfl) rfl) rfl) rfl) rfl) rfl rfl rfl
        refine A1 rfl ?_
        repeat refine AW.seq ?_
        refine AW.cond rfl (fun hc51 => ?_) (fun hc51 => ?_)
        · repeat refine AW.seq ?_
          refine AW.region ?_
          iterate 3 refine A1 rfl ?_
          repeat refine AW.seq ?_
          refine AW.ret ?_
          have hv : v = false := by
            rw [hf, ← h11]
            rw [Bool.not_eq_false']
            exact hc51
          exact ⟨_, _, rfl, rfl, by rw [hv]; rfl⟩
        · refine AW.skip ?_
          repeat refine AW.seq ?_
          refine AW.region ?_
          iterate 5 refine A1 rfl ?_
          repeat refine AW.seq ?_
          refine AW.ret ?_
          have hv : v = true := by
            rw [hf, ← h11]
            rw [Bool.not_eq_true']
            exact hc51
          exact ⟨_, _, rfl, rfl, by rw [hv]; rfl⟩
      · have hf := f3 (by simpa using hS) hin
        obtain rfl : sb = false := by simpa using hS
        repeat refine AW.seq ?_
        refine AW.region ?_
        iterate 27 refine A1 rfl ?_
        repeat refine AW.seq ?_
        refine AW.cond rfl (fun hc51 => absurd hc51 (by simp)) (fun hc51 => ?_)
        refine AW.skip ?_
        repeat refine AW.seq ?_
        refine AW.region ?_
        iterate 5 refine A1 rfl ?_
        repeat refine AW.seq ?_
        refine AW.ret ?_
        exact ⟨_, _, rfl, rfl, by rw [hf]; rfl⟩
theorem rval_spec (s : ByteArray) (hs : s.size ≤ 1000000000) : FnP Tryz.prog 90 [.str s] (· = .bool (rvalid s)) := by
  refine FnP.of Tryz.func90 rfl Tryz.ntmps90 (by simp) fun m0 w0 F R0 => ?_
  repeat refine AW.seq ?_
  refine AW.region ?_
  refine A1 rfl ?_
  repeat refine AW.seq ?_
  refine AW.region ?_
  refine A1 rfl ?_
  refine RL.step (d := some 8) rfl rfl (xj_call Tryz.call128 (rparts_spec s hs) rfl) ?_
  iterate 7 refine A1 rfl ?_
  repeat refine AW.seq ?_
  refine AW.region ?_
  iterate 2 refine A1 rfl ?_
  repeat refine AW.seq ?_
  refine AW.ret ?_
  exact ⟨_, _, rfl, rfl, rfl⟩
end Go.Proofs.YtopjkdddicgajaaGreatDoor
namespace Go.Proofs.YtopjkdddicgajaaGreatDoor
open Go.RowKit
set_option maxRecDepth 100000
set_option maxHeartbeats 4000000
theorem eqPar (k : Nat) (a b : Int) (s t : ByteArray) (w : World) : (Op.equalIn (k + 2) 66 (.agg #[.int .i64 a, .string s]) (.agg #[.int .i64 b, .string t])).run Tryz.prog w = .ok (a == b && s.toList == t.toList) w := by
  have u3 := Tryz.underlying3
  have u9 := Tryz.underlying9
  have hS : Tryz.prog.underlying 66 = some (.struct (Tryz.prog.fieldsOf 66)) := by kernel_rfl
  rw [run_equalIn_agg w (k + 1) 66 _ _ hS Tryz.stoodInHeld66]
  simp only [Program.fieldsOf, Tryz.underlying66]
  go_simp
  by_cases h1 : a = b <;> by_cases h2 : s.toList = t.toList <;> simp [h1, h2]
theorem eqTrm (k : Nat) (a b : Int) (s t u v : ByteArray) (w : World) : (Op.equalIn (k + 3) 70 (.agg #[.int .i64 a, .string s, .string u]) (.agg #[.int .i64 b, .string t, .string v])).run Tryz.prog w = .ok ((a == b && s.toList == t.toList) && u.toList == v.toList) w := by
  have u27 := Tryz.underlying27
  have hS : Tryz.prog.underlying 70 = some (.struct (Tryz.prog.fieldsOf 70)) := by kernel_rfl
  rw [run_equalIn_agg w (k + 2) 70 _ _ hS Tryz.stoodInHeld70]
  have h2 := fun w => eqPar k a b s t w
  simp only [Program.fieldsOf, Tryz.underlying70]
  go_simp
  by_cases h1 : a = b <;> by_cases h2 : s.toList = t.toList <;> by_cases h3 : u.toList = v.toList <;> simp [h1, h2, h3]
theorem eqPrr (k : Nat) (a b a' b' : Int) (s t s' t' u v : ByteArray) (w : World) : (Op.equalIn (k + 3) 72 (.agg #[.int .i64 a, .string s, .int .i64 a', .string s', .string u]) (.agg #[.int .i64 b, .string t, .int .i64 b', .string t', .string v])).run Tryz.prog w = .ok (((a == b && s.toList == t.toList) && (a' == b' && s'.toList == t'.toList)) && u.toList == v.toList) w := by
  have u27 := Tryz.underlying27
  have hS : Tryz.prog.underlying 72 = some (.struct (Tryz.prog.fieldsOf 72)) := by kernel_rfl
  rw [run_equalIn_agg w (k + 2) 72 _ _ hS Tryz.stoodInHeld72]
  have h2 := fun w => eqPar k a b s t w
  have h3 := fun w => eqPar k a' b' s' t' w
  simp only [Program.fieldsOf, Tryz.underlying72]
  go_simp
  by_cases h1 : a = b <;> by_cases h2 : s.toList = t.toList <;> by_cases h3 : u.toList = v.toList <;> by_cases h4 : a' = b' <;> by_cases h5 : s'.toList = t'.toList <;> simp [h1, h2, h3, h4, h5]
/-- A parameter, a term, a pair of parameters with a number. -/
structure Par where
  f : Int
  c : ByteArray
structure Trm where
  p : Par
  v : ByteArray
structure Prr where
  a : Par
  b : Par
  v : ByteArray
abbrev parC (p : Par) : List PV := [.int .i64 p.f, .str p.c]
abbrev trmC (t : Trm) : List PV := [.int .i64 t.p.f, .str t.p.c, .str t.v]
abbrev prrC (t : Prr) : List PV := [.int .i64 t.a.f, .str t.a.c, .int .i64 t.b.f, .str t.b.c, .str t.v]
def parEq (p q : Par) : Bool := p.f == q.f && p.c.toList == q.c.toList
def trmEq (p q : Trm) : Bool := parEq p.p q.p && p.v.toList == q.v.toList
def prrEq (p q : Prr) : Bool := (parEq p.a q.a && parEq p.b q.b) && p.v.toList == q.v.toList
theorem agg_par {w : World} {R : Nat → Prop} {u : Value} {p : Par} (h : RelP w R (.agg (parC p)) u) : u = .agg #[.int .i64 p.f, .string p.c] := by
  simpa [RelP, RelPL] using h
theorem agg_trm {w : World} {R : Nat → Prop} {u : Value} {p : Trm} (h : RelP w R (.agg (trmC p)) u) : u = .agg #[.int .i64 p.p.f, .string p.p.c, .string p.v] := by
  simpa [RelP, RelPL] using h
theorem agg_prr {w : World} {R : Nat → Prop} {u : Value} {p : Prr} (h : RelP w R (.agg (prrC p)) u) : u = .agg #[.int .i64 p.a.f, .string p.a.c, .int .i64 p.b.f, .string p.b.c, .string p.v] := by
  simpa [RelP, RelPL] using h
section
variable {C : Ctx} {n : Nat} {σ : St} {dst : Option Tmp} {ty t' : TypeId} {pos : String} {after : Array Edge} {gd : Option (Nat × Bool)} {x y : Operand}
theorem xj_eqPar {p q : Par} (hP : C.P = Tryz.prog) (hx : σ.ev n x = .pv (.agg (parC p))) (hy : σ.ev n y = .pv (.agg (parC q))) :
    XJ C n ⟨dst, .binOp .eql 66 x y t', ty, pos, after, gd⟩ σ ⟨.pv (.bool (parEq p q)), [], []⟩ :=
  .lit rfl fun a w m R hw => by
    have e1 := agg_par (hw.pv hx)
    have e2 := agg_par (hw.pv hy)
    have e : (Op.equalIn 10000 66 _ _).run _ w = _ := eqPar 9998 p.f q.f p.c q.c w
    rw [hP]
    simp [execOp, e1, e2, run_eqGuard_agg w _ _ _ _ _ _ Tryz.eqGuardType66, run_eql_struct, e, litV, parEq, trmEq, prrEq]
theorem xj_neTrm {p q : Trm} (hP : C.P = Tryz.prog) (hx : σ.ev n x = .pv (.agg (trmC p))) (hy : σ.ev n y = .pv (.agg (trmC q))) :
    XJ C n ⟨dst, .binOp .neq 70 x y t', ty, pos, after, gd⟩ σ ⟨.pv (.bool (!trmEq p q)), [], []⟩ :=
  .lit rfl fun a w m R hw => by
    have e1 := agg_trm (hw.pv hx)
    have e2 := agg_trm (hw.pv hy)
    have e : (Op.equalIn 10000 70 _ _).run _ w = _ := eqTrm 9997 p.p.f q.p.f p.p.c q.p.c p.v q.v w
    rw [hP]
    simp [execOp, e1, e2, run_eqGuard_agg w _ _ _ _ _ _ Tryz.eqGuardType70, run_neq_struct, e, litV, parEq, trmEq, prrEq]
theorem xj_nePrr {p q : Prr} (hP : C.P = Tryz.prog) (hx : σ.ev n x = .pv (.agg (prrC p))) (hy : σ.ev n y = .pv (.agg (prrC q))) :
    XJ C n ⟨dst, .binOp .neq 72 x y t', ty, pos, after, gd⟩ σ ⟨.pv (.bool (!prrEq p q)), [], []⟩ :=
  .lit rfl fun a w m R hw => by
    have e1 := agg_prr (hw.pv hx)
    have e2 := agg_prr (hw.pv hy)
    have e : (Op.equalIn 10000 72 _ _).run _ w = _ := eqPrr 9997 p.a.f q.a.f p.b.f q.b.f p.a.c q.a.c p.b.c q.b.c p.v q.v w
    rw [hP]
    simp [execOp, e1, e2, run_eqGuard_agg w _ _ _ _ _ _ Tryz.eqGuardType72, run_neq_struct, e, litV, parEq, trmEq, prrEq]
end
end Go.Proofs.YtopjkdddicgajaaGreatDoor
namespace Go.Proofs.YtopjkdddicgajaaGreatDoor
open Go.RowKit Mk
set_option maxRecDepth 100000
set_option maxHeartbeats 1000000
/-- Bounds on the lengths in a schema. -/
structure SB (S : Sch) : Prop where
  a : S.attrs.length ≤ 1000000
  r : S.rels.length ≤ 1000000
  f : S.feats.length ≤ 1000000
  an : ∀ x ∈ S.attrs, x.1.size ≤ 9223372036854775807
  rn : ∀ x ∈ S.rels, x.1.size ≤ 9223372036854775807
  rl : ∀ x ∈ S.rels, x.2.length ≤ 1000000
theorem take_snoc {α : Type} {l : List α} {k : Nat} (h : k < l.length) : l.take (k + 1) = l.take k ++ [l[k]] := List.take_succ_eq_append_getElem h
end Go.Proofs.YtopjkdddicgajaaGreatDoor
namespace Go.Proofs.YtopjkdddicgajaaGreatDoor
open Go.RowKit Mk
set_option maxRecDepth 100000
set_option maxHeartbeats 1000000
/-- Which attributes are used, as a list. -/
def UsedIs (n : Nat) (U : List Bool) (p : Nat → Bool) : Prop := U.length = n ∧ ∀ a, a < n → U[a]? = some (p a)
theorem UsedIs.zero (n : Nat) : UsedIs n (List.replicate n false) (fun _ => false) := ⟨by simp, fun a ha => by simp [ha]⟩
theorem UsedIs.set {n : Nat} {U : List Bool} {p : Nat → Bool} (h : UsedIs n U p) {a : Nat} (ha : a < n) : UsedIs n (U.set a true) (fun b => p b || (b == a)) := by
  refine ⟨by simp [h.1], fun b hb => ?_⟩
  by_cases e : b = a
  · subst e; simp [h.1, hb]
  · rw [List.getElem?_set_ne (fun e' => e e'.symm), h.2 b hb]; simp [e]
theorem UsedIs.congr {n : Nat} {U : List Bool} {p q : Nat → Bool} (h : UsedIs n U p) (e : ∀ a, a < n → p a = q a) : UsedIs n U q := ⟨h.1, fun a ha => by rw [h.2 a ha, e a ha]⟩
theorem UsedIs.mem {n : Nat} {U : List Bool} {p : Nat → Bool} (h : UsedIs n U p) : decide (false ∈ U) = !((List.range n).all p) := by
  rw [Bool.eq_iff_iff]
  simp only [decide_eq_true_eq, Bool.not_eq_true', List.all_eq_false, List.mem_range]
  constructor
  · intro hm
    obtain ⟨a, ha, e⟩ := List.getElem_of_mem hm
    refine ⟨a, by rw [← h.1]; exact ha, ?_⟩
    have := h.2 a (by rw [← h.1]; exact ha)
    rw [List.getElem?_eq_getElem ha, e] at this
    simpa using this.symm
  · rintro ⟨a, ha, e⟩
    have := h.2 a ha
    have e' : p a = false := by simpa using e
    rw [e'] at this
    exact List.mem_of_getElem? this
end Go.Proofs.YtopjkdddicgajaaGreatDoor
namespace Go.Proofs.YtopjkdddicgajaaGreatDoor
open Go.RowKit Mk
set_option maxRecDepth 100000
set_option maxHeartbeats 1000000
theorem any_take {α : Type} {l : List α} {p : α → Bool} {k : Nat} (hk : k < l.length) (h : (l.take k).any p = false) (hn : p l[k] = false) : (l.take (k + 1)).any p = false := by
  rw [take_snoc hk]; simp only [List.any_append, h, List.any_cons, hn, List.any_nil, Bool.or_false]
theorem any_at {α : Type} {l : List α} {p : α → Bool} {k : Nat} (hk : k < l.length) (h : p l[k] = true) : l.any p = true := List.any_eq_true.2 ⟨_, List.getElem_mem hk, h⟩
end Go.Proofs.YtopjkdddicgajaaGreatDoor
namespace Go.Proofs.YtopjkdddicgajaaGreatDoor
open Go.RowKit Mk
set_option maxRecDepth 100000
set_option maxHeartbeats 4000000
theorem nanS_spec (s : ByteArray) : FnP Tryz.prog 146 [.str s] (· = .bool false) := by
  refine FnP.of Tryz.func146 rfl Tryz.ntmps146 (by simp) fun m0 w0 F R0 => ?_
  repeat refine AW.seq ?_
  refine AW.region ?_
  refine A1 rfl ?_
  repeat refine AW.seq ?_
  refine AW.region ?_
  iterate 4 refine A1 rfl ?_
  repeat refine AW.seq ?_
  refine AW.ret ?_
  exact ⟨_, _, rfl, rfl, congrArg PV.bool (by simp)⟩
/-- cmp.Compare of texts. -/
def cmpS (s t : ByteArray) : Int := if Op.bytesLess s.toList t.toList = true then -1 else if (!(Op.bytesLess s.toList t.toList || s.toList == t.toList)) = true then 1 else 0
theorem cmpS_spec (s t : ByteArray) : FnP Tryz.prog 112 [.str s, .str t] (· = .int .i64 (cmpS s t)) := by
  refine FnP.of Tryz.func112 rfl Tryz.ntmps112 (by simp) fun m0 w0 F R0 => ?_
  repeat refine AW.seq ?_
  refine AW.region ?_
  refine A1 rfl ?_
  repeat refine AW.seq ?_
  refine AW.region ?_
  refine A1 rfl ?_
  refine RL.step (d := some 8) rfl rfl (xj_call Tryz.call146 (nanS_spec s) rfl) ?_
  refine A1 rfl ?_
  repeat refine AW.seq ?_
  refine AW.region ?_
  refine A1 rfl ?_
  refine RL.step (d := some 10) rfl rfl (xj_call Tryz.call146 (nanS_spec t) rfl) ?_
  refine A1 rfl ?_
  repeat refine AW.seq ?_
  refine AW.region ?_
  refine A1 rfl ?_
  repeat refine AW.seq ?_
  refine AW.cond rfl (fun hc11 => absurd hc11 (by simp)) (fun hc11 => ?_)
  refine AW.skip ?_
  repeat refine AW.seq ?_
  refine AW.region ?_
  refine A1 rfl ?_
  repeat refine AW.seq ?_
  refine AW.cond rfl (fun hc13 => absurd hc13 (by simp)) (fun hc13 => ?_)
  refine AW.skip ?_
  repeat refine AW.seq ?_
  refine AW.region ?_
  iterate 3 refine A1 rfl ?_
  repeat refine AW.seq ?_
  refine AW.cond rfl (fun hc16 => ?_) (fun hc16 => ?_)
  · repeat refine AW.seq ?_
    refine AW.region ?_
    refine A1 rfl ?_
    repeat refine AW.seq ?_
    refine AW.ret ?_
    exact ⟨_, _, rfl, rfl, congrArg (PV.int .i64) (by rw [cmpS, if_pos hc16])⟩
  · refine AW.skip ?_
    repeat refine AW.seq ?_
    refine AW.region ?_
    iterate 3 refine A1 rfl ?_
    repeat refine AW.seq ?_
    refine AW.cond rfl (fun hc19 => ?_) (fun hc19 => ?_)
    · repeat refine AW.seq ?_
      refine AW.region ?_
      refine A1 rfl ?_
      repeat refine AW.seq ?_
      refine AW.ret ?_
      exact ⟨_, _, rfl, rfl, congrArg (PV.int .i64) (by rw [cmpS, if_neg (by rw [hc16]; decide), if_pos hc19])⟩
    · refine AW.skip ?_
      repeat refine AW.seq ?_
      refine AW.region ?_
      refine A1 rfl ?_
      repeat refine AW.seq ?_
      refine AW.ret ?_
      exact ⟨_, _, rfl, rfl, congrArg (PV.int .i64) (by rw [cmpS, if_neg (by rw [hc16]; decide), if_neg (by rw [hc19]; decide)])⟩
/-- cmp.Or of numbers. -/
def orI (l : List Int) : Int := (l.find? (· != 0)).getD 0
theorem orI_take {l : List Int} {k : Nat} (hk : k < l.length) (h : ∀ i ∈ l.take k, i = 0) (hn : l[k] ≠ 0) : orI l = l[k] := by
  have e : l = l.take k ++ l[k] :: l.drop (k + 1) := by rw [← List.drop_eq_getElem_cons hk, List.take_append_drop]
  have h1 : (l.take k).find? (· != 0) = none := List.find?_eq_none.2 fun x hx => by simp [h x hx]
  rw [orI]
  conv => lhs; rw [e]
  rw [List.find?_append, h1, Option.none_or, List.find?_cons_of_pos (by simpa using hn)]; rfl
theorem orI_none {l : List Int} (h : ∀ i ∈ l, i = 0) : orI l = 0 := by
  rw [orI, List.find?_eq_none.2 fun x hx => by simp [h x hx]]; rfl
theorem or_spec (l : List Int) (hl : l.length ≤ 1000000) : FnP Tryz.prog 110 [pints l] (· = .int .i64 (orI l)) := by
  refine FnP.of Tryz.func110 rfl Tryz.ntmps110 (by simp) fun m0 w0 F R0 => ?_
  repeat refine AW.seq ?_
  refine AW.region ?_
  refine A1 rfl ?_
  repeat refine AW.seq ?_
  refine AW.region ?_
  refine A1 rfl ?_
  repeat refine AW.seq ?_
  refine AW.region ?_
  iterate 3 refine A1 rfl ?_
  repeat refine AW.seq ?_
  refine AW.block ?_
  repeat refine AW.seq ?_
  refine AW.loop (st := fun x_0 : Nat => mkS [(3, .pv (.int .i64 0)), (6, .pv (pints l)), (7, .pv (.int .i64 l.length)), (8, .pv (.int .i64 x_0))] [] 0)
    (I := fun x_0 => x_0 ≤ l.length ∧ ∀ i ∈ l.take x_0, i = 0) (μ := fun x_0 => l.length - x_0) (x0 := (0)) (St.le_mk ⟨rfl, rfl, rfl, rfl, trivial⟩ trivial rfl rfl) (⟨Nat.zero_le _, fun i hi => by simp at hi⟩) ?_
  rintro k ⟨hk, hz⟩
  repeat refine AW.seq ?_
  refine AW.region ?_
  refine A1 rfl ?_
  repeat refine AW.seq ?_
  refine AW.condP rfl (fun hc9 => ?_) (fun hc9 => ?_)
  · have hlt : k < l.length := by omega
    have hv := pints_at hlt
    have hne := pints_ne hlt
    have hor := fun h => orI_take hlt hz h
    refine AW.skip ?_
    repeat refine AW.seq ?_
    refine AW.block ?_
    repeat refine AW.seq ?_
    refine AW.region ?_
    refine A1 rfl ?_
    first | refine A2 rfl (by assumption) ?_ | refine A1 rfl ?_
    refine A1 rfl ?_
    repeat refine AW.seq ?_
    refine AW.region ?_
    iterate 3 refine A1 rfl ?_
    repeat refine AW.seq ?_
    refine AW.cond rfl (fun hc14 => ?_) (fun hc14 => ?_)
    · repeat refine AW.seq ?_
      refine AW.region ?_
      iterate 2 refine A1 rfl ?_
      repeat refine AW.seq ?_
      refine AW.ret ?_
      exact ⟨_, _, rfl, rfl, congrArg (PV.int .i64) (hor (by simpa using hc14)).symm⟩
    · refine AW.skip ?_
      repeat refine AW.seq ?_
      refine AW.region ?_
      iterate 2 refine A1 rfl ?_
      exact ⟨(k + 1), St.le_mk ⟨rfl, rfl, rfl, rfl, trivial⟩ trivial rfl rfl, ⟨by omega, fun i hi => by rw [take_snoc hlt, List.mem_append, List.mem_singleton] at hi; rcases hi with h | rfl; exact hz i h; simpa using hc14⟩, by omega⟩
  · repeat refine AW.seq ?_
    refine AW.exit ?_
    repeat refine AW.seq ?_
    refine AW.region ?_
    iterate 2 refine A1 rfl ?_
    repeat refine AW.seq ?_
    refine AW.ret ?_
    exact ⟨_, _, rfl, rfl, congrArg (PV.int .i64) (orI_none fun i hi => hz i (by rwa [List.take_of_length_le (by omega)])).symm⟩
def cmpI (a b : Int) : Int := if a < b then -1 else if b < a then 1 else 0
/-- How parameters stand to each other. -/
def cmpP (p q : Par) : Int := orI [cmpI p.f q.f, cmpS p.c q.c]
def lessP (p q : Par) : Bool := decide (cmpP p q < 0)
theorem mcmp_spec (p q : Par) : FnP Tryz.prog 77 [.agg (parC p), .agg (parC q)] (· = .int .i64 (cmpP p q)) := by
  refine FnP.of Tryz.func77 rfl Tryz.ntmps77 (by simp) fun m0 w0 F R0 => ?_
  repeat refine AW.seq ?_
  refine AW.region ?_
  iterate 3 refine A1 rfl ?_
  repeat refine AW.seq ?_
  refine AW.draw follows [[], [0], [], [2], [3, 1, 0, 2], [], [5], [], [7], [4, 8, 6, 5, 7, 3, 1, 0, 2], [9, 4, 3, 1, 0, 2, 8, 6, 5, 7], [10, 9, 4, 3, 1, 0, 2, 8, 6, 5, 7], [11, 10, 9, 4, 3, 1, 0, 2, 8, 6, 5, 7]] [0, 1, 2, 3, 4, 5, 6, 7, 8, 9, 10, 11, 12] (by kernel_rfl) (by kernel_rfl) ?_
  iterate 4 refine D1 rfl rfl ?_
  refine DL.step (d := some 9) [] rfl rfl rfl (fun τ h => xj_call Tryz.call111 (cmpInt_fn p.f q.f) (h.argsP rfl)) rfl (by kernel_rfl) ?_
  iterate 4 refine D1 rfl rfl ?_
  refine DL.step (d := some 14) [] rfl rfl rfl (fun τ h => xj_call Tryz.call112 (cmpS_spec p.c q.c) (h.argsP rfl)) rfl (by kernel_rfl) ?_
  refine DL.step (d := some 15) [] rfl rfl rfl (fun τ h => xj_buildSliceP none (by simp) el22 rfl (by decide) (by decide) (h.fillS rfl rfl) rfl) rfl (by kernel_rfl) ?_
  refine DL.step (d := some 16) [] rfl rfl rfl (fun τ h => xj_call Tryz.call110 (or_spec [cmpI p.f q.f, cmpS p.c q.c] (by simp)) (h.argsP rfl)) rfl (by kernel_rfl) ?_
  refine D1 rfl rfl ?_
  refine ⟨by kernel_rfl, ?_⟩
  repeat refine AW.seq ?_
  refine AW.ret ?_
  exact ⟨_, _, rfl, rfl, rfl⟩
theorem less_spec (p q : Par) : FnP Tryz.prog 43 [.agg (parC p), .agg (parC q)] (· = .bool (lessP p q)) := by
  refine FnP.of Tryz.func43 rfl Tryz.ntmps43 (by simp) fun m0 w0 F R0 => ?_
  repeat refine AW.seq ?_
  refine AW.region ?_
  iterate 3 refine A1 rfl ?_
  repeat refine AW.seq ?_
  refine AW.region ?_
  iterate 2 refine A1 rfl ?_
  refine RL.step (d := some 7) rfl rfl (xj_call Tryz.call77 (mcmp_spec p q) rfl) ?_
  iterate 2 refine A1 rfl ?_
  repeat refine AW.seq ?_
  refine AW.ret ?_
  exact ⟨_, _, rfl, rfl, rfl⟩
end Go.Proofs.YtopjkdddicgajaaGreatDoor
namespace Go.Proofs.YtopjkdddicgajaaGreatDoor
open Go.RowKit Mk
set_option maxRecDepth 100000
set_option maxHeartbeats 4000000
theorem Agr.argsQ {n : Nat} {ops : Array Oper} {σ τ : St} {s : OS} {rd : List Nat} {y : Operand} {xs : Array Operand} {ts : Array TypeId} {dst : Option Tmp} {ty : TypeId} {pos : String} {after : Array Edge} {gd : Option (Nat × Bool)}
    (h : Agr n ops ⟨dst, .call { callee := .value y, args := xs, argTypes := ts }, ty, pos, after, gd⟩ σ τ s rd) {ps : List PV} (hp : (V.args (fun _ => none) (xs.toList.map (σ.ev n))).map PV.fgA = some ps) :
    (V.args (fun _ => none) (xs.toList.map (τ.ev n))).map PV.fgA = some ps := by
  have e : xs.toList.map (τ.ev n) = xs.toList.map (σ.ev n) := by
    apply List.map_congr_left
    intro x hx
    obtain ⟨i, hi⟩ := List.getElem?_of_mem hx
    exact h.e (i + 1) x (by simpa [Op.operands, Call.operands, Nat.add_comm] using hi)
  rw [e]; exact hp
/-- What a rational text must have to be read. -/
def ROk (s : ByteArray) : Prop := s.size < 4294967281 ∧ (ivalid (numT s) = true → rbad s = false → GcdOk (rdZ (numT s)) (rdZ (denT s)))
def POk (p : Par) : Prop := (-9223372036854775808 ≤ p.f ∧ p.f ≤ 9223372036854775807) ∧ p.c.size < 4294967281
def emptyT : ByteArray := ⟨#[]⟩
def paramOk (p : Par) : Bool := decide (p.f ≥ -1) && ((p.c.toList == emptyT.toList) || wordB p.c)
def entryOk (s : ByteArray) : Bool := rvalid s && !(s.toList == zeroT.toList)
theorem param_spec (p : Par) (hp : POk p) : FnP Tryz.prog 39 [.agg (parC p)] (· = .bool (paramOk p)) := by
  refine FnP.of Tryz.func39 rfl Tryz.ntmps39 (by simp) fun m0 w0 F R0 => ?_
  have hw := word_spec p.c (by have := hp.2; omega)
  repeat refine AW.seq ?_
  refine AW.region ?_
  iterate 2 refine A1 rfl ?_
  repeat refine AW.seq ?_
  refine AW.region ?_
  iterate 4 refine A1 rfl ?_
  apply RL.andB 9 6 15 [7, 8, 9, 10, 11, 12, 13, 14] rfl (by first | exact MonoK.le | exact MonoK.aw | exact MonoK.back)
  · intro hb3
    iterate 4 refine A1 rfl ?_
    apply RL.orB 4 10 14 [11, 12, 13] rfl (by first | exact MonoK.le | exact MonoK.aw | exact MonoK.back)
    · intro hb7
      iterate 4 refine A1 rfl ?_
      exact St.le_fg (fEq.upd (fEq.upd (fEq.upd (fEq.upd (fEq.upd (fEq.refl) rfl) rfl) rfl) rfl) rfl) rfl rfl rfl
    · intro hb7
      iterate 2 refine A1 rfl ?_
      refine RL.stepG (d := some 13) rfl rfl rfl (xj_call Tryz.call75 hw rfl) ?_
      refine A1 rfl ?_
      exact St.le_fg (fEq.upd (fEq.upd (fEq.upd (fEq.upd (fEq.upd (fEq.refl) rfl) rfl) rfl) rfl) rfl) rfl rfl rfl
    refine A1 rfl ?_
    exact St.le_fg (fEq.upd (fEq.upd (fEq.upd (fEq.upd (fEq.upd (fEq.upd (fEq.upd (fEq.upd (fEq.upd (fEq.upd (fEq.upd (fEq.refl) rfl) rfl) rfl) rfl) rfl) rfl) rfl) rfl) rfl) rfl) rfl) rfl rfl rfl
  · intro hb3
    iterate 9 refine A1 rfl ?_
    exact St.le_fg (fEq.upd (fEq.upd (fEq.upd (fEq.upd (fEq.upd (fEq.upd (fEq.upd (fEq.upd (fEq.upd (fEq.upd (fEq.refl) rfl) rfl) rfl) rfl) rfl) rfl) rfl) rfl) rfl) rfl) rfl rfl rfl
  refine A1 rfl ?_
  repeat refine AW.seq ?_
  refine AW.ret ?_
  exact ⟨_, _, rfl, rfl, rfl⟩
theorem entry_spec (s : ByteArray) (hs : ROk s) : FnP Tryz.prog 40 [.str s] (· = .bool (entryOk s)) := by
  refine FnP.of Tryz.func40 rfl Tryz.ntmps40 (by simp) fun m0 w0 F R0 => ?_
  have hv := rvalid_spec s hs.1 hs.2
  repeat refine AW.seq ?_
  refine AW.region ?_
  refine A1 rfl ?_
  repeat refine AW.seq ?_
  refine AW.region ?_
  refine A1 rfl ?_
  refine RL.step (d := some 4) rfl rfl (xj_call Tryz.call36 hv rfl) ?_
  refine A1 rfl ?_
  apply RL.andB 3 5 8 [6, 7] rfl (by first | exact MonoK.le | exact MonoK.aw | exact MonoK.back)
  · intro hb2
    iterate 3 refine A1 rfl ?_
    exact St.le_fg (fEq.upd (fEq.upd (fEq.upd (fEq.upd (fEq.refl) rfl) rfl) rfl) rfl) rfl rfl rfl
  · intro hb2
    iterate 3 refine A1 rfl ?_
    exact St.le_fg (fEq.upd (fEq.upd (fEq.upd (fEq.upd (fEq.refl) rfl) rfl) rfl) rfl) rfl rfl rfl
  refine A1 rfl ?_
  repeat refine AW.seq ?_
  refine AW.ret ?_
  exact ⟨_, _, rfl, rfl, rfl⟩
def lessT (a b : Trm) : Bool := lessP a.p b.p
def lessQ (a b : Prr) : Bool := lessP a.a b.a || (parEq a.a b.a && lessP a.b b.b)
theorem pairs_spec (p q : Prr) : FnP Tryz.prog 47 ([] ++ [.agg (prrC p), .agg (prrC q)] ++ []) (· = .bool (lessQ p q)) := by
  refine FnP.of Tryz.func47 rfl Tryz.ntmps47 (by simp) fun m0 w0 F R0 => ?_
  repeat refine AW.seq ?_
  refine AW.region ?_
  iterate 3 refine A1 rfl ?_
  repeat refine AW.seq ?_
  refine AW.region ?_
  iterate 4 refine A1 rfl ?_
  refine RL.step (d := some 9) rfl rfl (xj_call Tryz.call43 (less_spec p.a q.a) rfl) ?_
  refine A1 rfl ?_
  apply RL.orB 13 10 23 [11, 12, 13, 14, 15, 16, 17, 18, 19, 20, 21, 22] rfl (by first | exact MonoK.le | exact MonoK.aw | exact MonoK.back)
  · intro hb5
    iterate 13 refine A1 rfl ?_
    exact St.le_fg (fEq.upd (fEq.upd (fEq.upd (fEq.upd (fEq.upd (fEq.upd (fEq.upd (fEq.upd (fEq.upd (fEq.upd (fEq.upd (fEq.upd (fEq.upd (fEq.upd (fEq.refl) rfl) rfl) rfl) rfl) rfl) rfl) rfl) rfl) rfl) rfl) rfl) rfl) rfl) rfl) rfl rfl rfl
  · intro hb5
    iterate 4 refine A1 rfl ?_
    refine RL.stepG (d := some 15) rfl rfl rfl (xj_eqPar (p := p.a) (q := q.a) rfl rfl rfl) ?_
    refine A1 rfl ?_
    apply RL.andB 6 16 22 [17, 18, 19, 20, 21] rfl (by first | exact MonoK.le | exact MonoK.aw | exact MonoK.back)
    · intro hb11
      iterate 4 refine A1 rfl ?_
      refine RL.stepG (d := some 21) rfl rfl rfl (xj_call Tryz.call43 (less_spec p.b q.b) rfl) ?_
      refine A1 rfl ?_
      exact St.le_fg (fEq.upd (fEq.upd (fEq.upd (fEq.upd (fEq.upd (fEq.upd (fEq.upd (fEq.refl) rfl) rfl) rfl) rfl) rfl) rfl) rfl) rfl rfl rfl
    · intro hb11
      iterate 6 refine A1 rfl ?_
      exact St.le_fg (fEq.upd (fEq.upd (fEq.upd (fEq.upd (fEq.upd (fEq.upd (fEq.upd (fEq.refl) rfl) rfl) rfl) rfl) rfl) rfl) rfl) rfl rfl rfl
    refine A1 rfl ?_
    exact St.le_fg (fEq.upd (fEq.upd (fEq.upd (fEq.upd (fEq.upd (fEq.upd (fEq.upd (fEq.upd (fEq.upd (fEq.upd (fEq.upd (fEq.upd (fEq.upd (fEq.upd (fEq.upd (fEq.refl) rfl) rfl) rfl) rfl) rfl) rfl) rfl) rfl) rfl) rfl) rfl) rfl) rfl) rfl) rfl) rfl rfl rfl
  refine A1 rfl ?_
  repeat refine AW.seq ?_
  refine AW.ret ?_
  exact ⟨_, _, rfl, rfl, rfl⟩
theorem lesst_spec (p q : Trm) : FnP Tryz.prog 45 ([] ++ [.agg (trmC p), .agg (trmC q)] ++ []) (· = .bool (lessT p q)) := by
  refine FnP.of Tryz.func45 rfl Tryz.ntmps45 (by simp) fun m0 w0 F R0 => ?_
  repeat refine AW.seq ?_
  refine AW.region ?_
  iterate 3 refine A1 rfl ?_
  repeat refine AW.seq ?_
  refine AW.region ?_
  iterate 4 refine A1 rfl ?_
  refine RL.step (d := some 9) rfl rfl (xj_call Tryz.call43 (less_spec p.p q.p) rfl) ?_
  refine A1 rfl ?_
  repeat refine AW.seq ?_
  refine AW.ret ?_
  exact ⟨_, _, rfl, rfl, rfl⟩
def badT (t : Trm) : Bool := !paramOk t.p || !entryOk t.v
def badQ (t : Prr) : Bool := (((!paramOk t.a || !paramOk t.b) || lessP t.b t.a) || !entryOk t.v)
theorem badt_spec (t : Trm) (h : POk t.p ∧ ROk t.v) : FnP Tryz.prog 38 ([] ++ [.agg (trmC t)] ++ []) (· = .bool (badT t)) := by
  refine FnP.of Tryz.func38 rfl Tryz.ntmps38 (by simp) fun m0 w0 F R0 => ?_
  have h1 := param_spec t.p h.1
  have h2 := entry_spec t.v h.2
  repeat refine AW.seq ?_
  refine AW.region ?_
  iterate 2 refine A1 rfl ?_
  repeat refine AW.seq ?_
  refine AW.region ?_
  iterate 2 refine A1 rfl ?_
  refine RL.step (d := some 5) rfl rfl (xj_call Tryz.call39 h1 rfl) ?_
  iterate 2 refine A1 rfl ?_
  apply RL.orB 5 7 12 [8, 9, 10, 11] rfl (by first | exact MonoK.le | exact MonoK.aw | exact MonoK.back)
  · intro hb4
    iterate 5 refine A1 rfl ?_
    exact St.le_fg (fEq.upd (fEq.upd (fEq.upd (fEq.upd (fEq.upd (fEq.upd (fEq.refl) rfl) rfl) rfl) rfl) rfl) rfl) rfl rfl rfl
  · intro hb4
    iterate 2 refine A1 rfl ?_
    refine RL.stepG (d := some 10) rfl rfl rfl (xj_call Tryz.call40 h2 rfl) ?_
    iterate 2 refine A1 rfl ?_
    exact St.le_fg (fEq.upd (fEq.upd (fEq.upd (fEq.upd (fEq.upd (fEq.upd (fEq.refl) rfl) rfl) rfl) rfl) rfl) rfl) rfl rfl rfl
  refine A1 rfl ?_
  repeat refine AW.seq ?_
  refine AW.ret ?_
  exact ⟨_, _, rfl, rfl, rfl⟩
theorem badq_spec (t : Prr) (h : POk t.a ∧ POk t.b ∧ ROk t.v) : FnP Tryz.prog 42 ([] ++ [.agg (prrC t)] ++ []) (· = .bool (badQ t)) := by
  refine FnP.of Tryz.func42 rfl Tryz.ntmps42 (by simp) fun m0 w0 F R0 => ?_
  have h1 := param_spec t.a h.1
  have h2 := param_spec t.b h.2.1
  have h3 := less_spec t.b t.a
  have h4 := entry_spec t.v h.2.2
  repeat refine AW.seq ?_
  refine AW.region ?_
  iterate 2 refine A1 rfl ?_
  repeat refine AW.seq ?_
  refine AW.region ?_
  iterate 2 refine A1 rfl ?_
  refine RL.step (d := some 5) rfl rfl (xj_call Tryz.call39 h1 rfl) ?_
  iterate 2 refine A1 rfl ?_
  apply RL.orB 5 7 12 [8, 9, 10, 11] rfl (by first | exact MonoK.le | exact MonoK.aw | exact MonoK.back)
  · intro hb4
    iterate 5 refine A1 rfl ?_
    exact St.le_fg (fEq.upd (fEq.upd (fEq.upd (fEq.upd (fEq.upd (fEq.upd (fEq.refl) rfl) rfl) rfl) rfl) rfl) rfl) rfl rfl rfl
  · intro hb4
    iterate 2 refine A1 rfl ?_
    refine RL.stepG (d := some 10) rfl rfl rfl (xj_call Tryz.call39 h2 rfl) ?_
    iterate 2 refine A1 rfl ?_
    exact St.le_fg (fEq.upd (fEq.upd (fEq.upd (fEq.upd (fEq.upd (fEq.upd (fEq.refl) rfl) rfl) rfl) rfl) rfl) rfl) rfl rfl rfl
  refine A1 rfl ?_
  apply RL.orB 6 13 19 [14, 15, 16, 17, 18] rfl (by first | exact MonoK.le | exact MonoK.aw | exact MonoK.back)
  · intro hb10
    iterate 6 refine A1 rfl ?_
    exact St.le_fg (fEq.upd (fEq.upd (fEq.upd (fEq.upd (fEq.upd (fEq.upd (fEq.upd (fEq.refl) rfl) rfl) rfl) rfl) rfl) rfl) rfl) rfl rfl rfl
  · intro hb10
    iterate 4 refine A1 rfl ?_
    refine RL.stepG (d := some 18) rfl rfl rfl (xj_call Tryz.call43 h3 rfl) ?_
    refine A1 rfl ?_
    exact St.le_fg (fEq.upd (fEq.upd (fEq.upd (fEq.upd (fEq.upd (fEq.upd (fEq.upd (fEq.refl) rfl) rfl) rfl) rfl) rfl) rfl) rfl) rfl rfl rfl
  refine A1 rfl ?_
  apply RL.orB 5 20 25 [21, 22, 23, 24] rfl (by first | exact MonoK.le | exact MonoK.aw | exact MonoK.back)
  · intro hb17
    iterate 5 refine A1 rfl ?_
    exact St.le_fg (fEq.upd (fEq.upd (fEq.upd (fEq.upd (fEq.upd (fEq.upd (fEq.refl) rfl) rfl) rfl) rfl) rfl) rfl) rfl rfl rfl
  · intro hb17
    iterate 2 refine A1 rfl ?_
    refine RL.stepG (d := some 23) rfl rfl rfl (xj_call Tryz.call40 h4 rfl) ?_
    iterate 2 refine A1 rfl ?_
    exact St.le_fg (fEq.upd (fEq.upd (fEq.upd (fEq.upd (fEq.upd (fEq.upd (fEq.refl) rfl) rfl) rfl) rfl) rfl) rfl) rfl rfl rfl
  refine A1 rfl ?_
  repeat refine AW.seq ?_
  refine AW.ret ?_
  exact ⟨_, _, rfl, rfl, rfl⟩
/-- The cells of lists. -/
def trmsC (l : List Trm) : List PV := l.flatMap trmC
def prrsC (l : List Prr) : List PV := l.flatMap prrC
theorem trmsC_len (l : List Trm) : (trmsC l).length = l.length * 3 := flat_len _ 3 (fun _ => rfl) l
theorem prrsC_len (l : List Prr) : (prrsC l).length = l.length * 5 := flat_len _ 5 (fun _ => rfl) l
theorem trm_row {l : List Trm} {k : Nat} (h : k < l.length) : ((trmsC l).drop (k * 3)).take 3 = trmC l[k] := flat_row _ 3 (fun _ => rfl) l k h
theorem prr_row {l : List Prr} {k : Nat} (h : k < l.length) : ((prrsC l).drop (k * 5)).take 5 = prrC l[k] := flat_row _ 5 (fun _ => rfl) l k h
theorem trm_ne {l : List Trm} {k : Nat} (h : k < l.length) : trmsC l ≠ [] := fun e => by have := trmsC_len l; rw [e] at this; simp at this; omega
theorem prr_ne {l : List Prr} {k : Nat} (h : k < l.length) : prrsC l ≠ [] := fun e => by have := prrsC_len l; rw [e] at this; simp at this; omega
/-- A list that ascends strictly. -/
def ascL {α : Type} (less : α → α → Bool) : List α → Bool
  | a :: b :: l => less a b && ascL less (b :: l)
  | _ => true
theorem ascL_iff {α : Type} {less : α → α → Bool} : ∀ {l : List α}, ascL less l = true ↔ ∀ (j : Nat) (h : j + 1 < l.length), less l[j] l[j + 1] = true
  | [] => by simp [ascL]
  | [a] => by simp [ascL]
  | a :: b :: l => by
    rw [ascL, Bool.and_eq_true, ascL_iff]
    constructor
    · rintro ⟨h1, h2⟩ j hj
      cases j with
      | zero => exact h1
      | succ j => exact h2 j (by simpa using hj)
    · intro h
      exact ⟨h 0 (by simp), fun j hj => h (j + 1) (by simpa using hj)⟩
theorem ascL_no {α : Type} {less : α → α → Bool} {l : List α} {j : Nat} (h : j + 1 < l.length) (hn : less l[j] l[j + 1] = false) : ascL less l = false := by
  cases e : ascL less l with
  | false => rfl
  | true => rw [ascL_iff.1 e j h] at hn; cases hn
theorem idxTrm_spec (l : List Trm) (g : FuncId) (p : Trm → Bool) (hl : l.length ≤ 1000000) (hc : CallOk Tryz.prog g) (hg : ∀ f ∈ l, FnP Tryz.prog g ([] ++ [.agg (trmC f)] ++ []) (· = .bool (p f))) :
    FnP Tryz.prog 74 [.sl none l.length (trmsC l), .fn (.func g) [] []] (fun v => ∃ i : Int, v = .int .i64 i ∧ decide (0 ≤ i) = l.any p) := by
  refine FnP.of Tryz.func74 rfl Tryz.ntmps74 (by simp) fun m0 w0 F R0 => ?_
  repeat refine AW.seq ?_
  refine AW.region ?_
  refine A1 rfl ?_
  repeat refine AW.seq ?_
  refine AW.region ?_
  iterate 3 refine A1 rfl ?_
  repeat refine AW.seq ?_
  refine AW.block ?_
  repeat refine AW.seq ?_
  refine AW.loop (st := fun x_0 : Nat => mkS [(0, .pv (.sl none l.length (trmsC l))), (1, .pv (.fn (.func g) [] [])), (7, .pv (.int .i64 l.length)), (8, .pv (.int .i64 x_0))] [] 0)
    (I := fun x_0 => x_0 ≤ l.length ∧ (l.take x_0).any p = false) (μ := fun x_0 => l.length - x_0) (x0 := (0)) (St.le_mk ⟨rfl, rfl, rfl, rfl, trivial⟩ trivial rfl rfl) (⟨Nat.zero_le _, rfl⟩) ?_
  rintro k ⟨hk, hno⟩
  repeat refine AW.seq ?_
  refine AW.region ?_
  refine A1 rfl ?_
  repeat refine AW.seq ?_
  refine AW.condP rfl (fun hc9 => ?_) (fun hc9 => ?_)
  · have hlt : k < l.length := by omega
    have hrow := trm_row hlt
    have hne := trm_ne hlt
    have hgk := hg _ (List.getElem_mem hlt)
    refine AW.skip ?_
    repeat refine AW.seq ?_
    refine AW.block ?_
    repeat refine AW.seq ?_
    refine AW.region ?_
    iterate 2 refine A1 rfl ?_
    repeat refine AW.seq ?_
    refine AW.region ?_
    iterate 4 refine A1 rfl ?_
    refine RL.step (d := some 15) rfl rfl (xj_loadAR ⟨_, Tryz.underlying70, rfl⟩ sz70 rfl hrow rfl) ?_
    refine RL.step (d := some 16) rfl rfl (xj_callV hc rfl hgk rfl) ?_
    repeat refine AW.seq ?_
    refine AW.cond rfl (fun hc16 => ?_) (fun hc16 => ?_)
    · repeat refine AW.seq ?_
      refine AW.region ?_
      iterate 2 refine A1 rfl ?_
      repeat refine AW.seq ?_
      refine AW.ret ?_
      exact ⟨_, _, rfl, rfl, _, rfl, by rw [any_at hlt hc16]; exact decide_eq_true (by omega)⟩
    · refine AW.skip ?_
      repeat refine AW.seq ?_
      refine AW.region ?_
      iterate 2 refine A1 rfl ?_
      exact ⟨(k + 1), St.le_mk ⟨rfl, rfl, rfl, rfl, trivial⟩ trivial rfl rfl, ⟨by omega, any_take hlt hno hc16⟩, by omega⟩
  · repeat refine AW.seq ?_
    refine AW.exit ?_
    repeat refine AW.seq ?_
    refine AW.region ?_
    refine A1 rfl ?_
    repeat refine AW.seq ?_
    refine AW.ret ?_
    exact ⟨_, _, rfl, rfl, _, rfl, by rw [List.take_of_length_le (by omega)] at hno; rw [hno]; rfl⟩
theorem containsTrm_spec (l : List Trm) (g : FuncId) (p : Trm → Bool) (hl : l.length ≤ 1000000) (hc : CallOk Tryz.prog g) (hg : ∀ f ∈ l, FnP Tryz.prog g ([] ++ [.agg (trmC f)] ++ []) (· = .bool (p f))) :
    FnP Tryz.prog 37 [.sl none l.length (trmsC l), .fn (.func g) [] []] (· = .bool (l.any p)) := by
  refine FnP.of Tryz.func37 rfl Tryz.ntmps37 (by simp) fun m0 w0 F R0 => ?_
  repeat refine AW.seq ?_
  refine AW.region ?_
  refine A1 rfl ?_
  repeat refine AW.seq ?_
  refine AW.region ?_
  iterate 2 refine A1 rfl ?_
  refine RL.call rfl (oj_call Tryz.call74 (idxTrm_spec l g p hl hc hg) rfl ?_)
  rintro _ ⟨i, rfl, hi⟩
  iterate 2 refine A1 rfl ?_
  repeat refine AW.seq ?_
  refine AW.ret ?_
  exact ⟨_, _, rfl, rfl, congrArg PV.bool hi⟩
theorem ascTrm_spec (l : List Trm) (g : FuncId) (less : Trm → Trm → Bool) (hl : l.length ≤ 1000000) (hc : CallOk Tryz.prog g) (hg : ∀ a b, FnP Tryz.prog g ([] ++ [.agg (trmC a), .agg (trmC b)] ++ []) (· = .bool (less a b))) :
    FnP Tryz.prog 44 [.sl none l.length (trmsC l), .fn (.func g) [] []] (· = .bool (ascL less l)) := by
  refine FnP.of Tryz.func44 rfl Tryz.ntmps44 (by simp) fun m0 w0 F R0 => ?_
  repeat refine AW.seq ?_
  refine AW.region ?_
  refine A1 rfl ?_
  repeat refine AW.seq ?_
  refine AW.region ?_
  refine A1 rfl ?_
  repeat refine AW.seq ?_
  refine AW.block ?_
  repeat refine AW.seq ?_
  refine AW.loop (st := fun x_0 : Nat => mkS [(0, .pv (.sl none l.length (trmsC l))), (1, .pv (.fn (.func g) [] [])), (5, .pv (.int .i64 ((x_0 : Int) + 1)))] [] 0)
    (I := fun x_0 => (x_0 < l.length ∨ x_0 = 0) ∧ ∀ (j : Nat) (h : j + 1 < l.length), j < x_0 → less l[j] l[j + 1] = true) (μ := fun x_0 => l.length - x_0) (x0 := (0)) (St.le_mk ⟨rfl, rfl, rfl, trivial⟩ trivial rfl rfl) (⟨.inr rfl, fun j _ hj => absurd hj (Nat.not_lt_zero _)⟩) ?_
  rintro k ⟨hk, hall⟩
  repeat refine AW.seq ?_
  refine AW.region ?_
  iterate 4 refine A1 rfl ?_
  repeat refine AW.seq ?_
  refine AW.condP rfl (fun hc9 => ?_) (fun hc9 => ?_)
  · have hlt : k + 1 < l.length := by omega
    have hlk : k < l.length := by omega
    have hrow := trm_row hlt
    have hrow0 := trm_row hlk
    have hne := trm_ne hlt
    have hgk := hg l[k] l[k + 1]
    have hii : ((k : Int) + 1 - 1) = ((k : Nat) : Int) := by omega
    refine AW.skip ?_
    repeat refine AW.seq ?_
    refine AW.block ?_
    repeat refine AW.seq ?_
    refine AW.draw follows [[], [], [], [2], [3, 1, 2], [4, 3, 1, 2], [], [], [7, 6], [8, 7, 6], [9, 5, 0, 4, 3, 1, 2, 8, 7, 6], [10, 9, 5, 0, 4, 3, 1, 2, 8, 7, 6]] [0, 1, 2, 3, 4, 5, 6, 7, 8, 9, 10, 11] (by kernel_rfl) (by kernel_rfl) ?_
    iterate 3 refine D1 rfl rfl ?_
    refine DL.step (d := some 15) [] rfl rfl rfl (fun τ h => XJ.cast (v' := .pv (.int .i64 ((k : Nat) : Int))) (xj_sub ((h.e 0 _ rfl).trans rfl) ((h.e 1 _ rfl).trans rfl) (by omega)) (congrArg (fun i => V.pv (.int .i64 i)) hii)) rfl (by kernel_rfl) ?_
    refine D1 rfl rfl ?_
    refine DL.step (d := some 17) [] rfl rfl rfl (fun τ h => xj_loadAR ⟨_, Tryz.underlying70, rfl⟩ sz70 ((h.e 0 _ rfl).trans rfl) hrow0 rfl) rfl (by kernel_rfl) ?_
    iterate 3 refine D1 rfl rfl ?_
    refine DL.step (d := some 21) [] rfl rfl rfl (fun τ h => xj_loadAR ⟨_, Tryz.underlying70, rfl⟩ sz70 ((h.e 0 _ rfl).trans rfl) hrow rfl) rfl (by kernel_rfl) ?_
    refine DL.step (d := some 22) [] rfl rfl rfl (fun τ h => xj_callV hc ((h.e 0 _ rfl).trans rfl) hgk (h.argsQ rfl)) rfl (by kernel_rfl) ?_
    refine D1 rfl rfl ?_
    refine ⟨by kernel_rfl, ?_⟩
    repeat refine AW.seq ?_
    refine AW.cond rfl (fun hc23 => ?_) (fun hc23 => ?_)
    · repeat refine AW.seq ?_
      refine AW.region ?_
      refine A1 rfl ?_
      repeat refine AW.seq ?_
      refine AW.ret ?_
      exact ⟨_, _, rfl, rfl, congrArg PV.bool (ascL_no hlt (by simpa using hc23)).symm⟩
    · refine AW.skip ?_
      repeat refine AW.seq ?_
      refine AW.region ?_
      iterate 3 refine A1 rfl ?_
      exact ⟨(k + 1), St.le_mk ⟨rfl, rfl, rfl, trivial⟩ trivial rfl rfl, ⟨.inl hlt, fun j hj hjk => by rcases Nat.lt_succ_iff_lt_or_eq.1 hjk with e | rfl; exact hall j hj e; simpa using hc23⟩, by omega⟩
  · repeat refine AW.seq ?_
    refine AW.exit ?_
    repeat refine AW.seq ?_
    refine AW.region ?_
    refine A1 rfl ?_
    repeat refine AW.seq ?_
    refine AW.ret ?_
    exact ⟨_, _, rfl, rfl, congrArg PV.bool (ascL_iff.2 fun j hj => hall j hj (by omega)).symm⟩
theorem idxPrr_spec (l : List Prr) (g : FuncId) (p : Prr → Bool) (hl : l.length ≤ 1000000) (hc : CallOk Tryz.prog g) (hg : ∀ f ∈ l, FnP Tryz.prog g ([] ++ [.agg (prrC f)] ++ []) (· = .bool (p f))) :
    FnP Tryz.prog 76 [.sl none l.length (prrsC l), .fn (.func g) [] []] (fun v => ∃ i : Int, v = .int .i64 i ∧ decide (0 ≤ i) = l.any p) := by
  refine FnP.of Tryz.func76 rfl Tryz.ntmps76 (by simp) fun m0 w0 F R0 => ?_
  repeat refine AW.seq ?_
  refine AW.region ?_
  refine A1 rfl ?_
  repeat refine AW.seq ?_
  refine AW.region ?_
  iterate 3 refine A1 rfl ?_
  repeat refine AW.seq ?_
  refine AW.block ?_
  repeat refine AW.seq ?_
  refine AW.loop (st := fun x_0 : Nat => mkS [(0, .pv (.sl none l.length (prrsC l))), (1, .pv (.fn (.func g) [] [])), (7, .pv (.int .i64 l.length)), (8, .pv (.int .i64 x_0))] [] 0)
    (I := fun x_0 => x_0 ≤ l.length ∧ (l.take x_0).any p = false) (μ := fun x_0 => l.length - x_0) (x0 := (0)) (St.le_mk ⟨rfl, rfl, rfl, rfl, trivial⟩ trivial rfl rfl) (⟨Nat.zero_le _, rfl⟩) ?_
  rintro k ⟨hk, hno⟩
  repeat refine AW.seq ?_
  refine AW.region ?_
  refine A1 rfl ?_
  repeat refine AW.seq ?_
  refine AW.condP rfl (fun hc9 => ?_) (fun hc9 => ?_)
  · have hlt : k < l.length := by omega
    have hrow := prr_row hlt
    have hne := prr_ne hlt
    have hgk := hg _ (List.getElem_mem hlt)
    refine AW.skip ?_
    repeat refine AW.seq ?_
    refine AW.block ?_
    repeat refine AW.seq ?_
    refine AW.region ?_
    iterate 2 refine A1 rfl ?_
    repeat refine AW.seq ?_
    refine AW.region ?_
    iterate 4 refine A1 rfl ?_
    refine RL.step (d := some 15) rfl rfl (xj_loadAR ⟨_, Tryz.underlying72, rfl⟩ sz72 rfl hrow rfl) ?_
    refine RL.step (d := some 16) rfl rfl (xj_callV hc rfl hgk rfl) ?_
    repeat refine AW.seq ?_
    refine AW.cond rfl (fun hc16 => ?_) (fun hc16 => ?_)
    · repeat refine AW.seq ?_
      refine AW.region ?_
      iterate 2 refine A1 rfl ?_
      repeat refine AW.seq ?_
      refine AW.ret ?_
      exact ⟨_, _, rfl, rfl, _, rfl, by rw [any_at hlt hc16]; exact decide_eq_true (by omega)⟩
    · refine AW.skip ?_
      repeat refine AW.seq ?_
      refine AW.region ?_
      iterate 2 refine A1 rfl ?_
      exact ⟨(k + 1), St.le_mk ⟨rfl, rfl, rfl, rfl, trivial⟩ trivial rfl rfl, ⟨by omega, any_take hlt hno hc16⟩, by omega⟩
  · repeat refine AW.seq ?_
    refine AW.exit ?_
    repeat refine AW.seq ?_
    refine AW.region ?_
    refine A1 rfl ?_
    repeat refine AW.seq ?_
    refine AW.ret ?_
    exact ⟨_, _, rfl, rfl, _, rfl, by rw [List.take_of_length_le (by omega)] at hno; rw [hno]; rfl⟩
theorem containsPrr_spec (l : List Prr) (g : FuncId) (p : Prr → Bool) (hl : l.length ≤ 1000000) (hc : CallOk Tryz.prog g) (hg : ∀ f ∈ l, FnP Tryz.prog g ([] ++ [.agg (prrC f)] ++ []) (· = .bool (p f))) :
    FnP Tryz.prog 41 [.sl none l.length (prrsC l), .fn (.func g) [] []] (· = .bool (l.any p)) := by
  refine FnP.of Tryz.func41 rfl Tryz.ntmps41 (by simp) fun m0 w0 F R0 => ?_
  repeat refine AW.seq ?_
  refine AW.region ?_
  refine A1 rfl ?_
  repeat refine AW.seq ?_
  refine AW.region ?_
  iterate 2 refine A1 rfl ?_
  refine RL.call rfl (oj_call Tryz.call76 (idxPrr_spec l g p hl hc hg) rfl ?_)
  rintro _ ⟨i, rfl, hi⟩
  iterate 2 refine A1 rfl ?_
  repeat refine AW.seq ?_
  refine AW.ret ?_
  exact ⟨_, _, rfl, rfl, congrArg PV.bool hi⟩
theorem ascPrr_spec (l : List Prr) (g : FuncId) (less : Prr → Prr → Bool) (hl : l.length ≤ 1000000) (hc : CallOk Tryz.prog g) (hg : ∀ a b, FnP Tryz.prog g ([] ++ [.agg (prrC a), .agg (prrC b)] ++ []) (· = .bool (less a b))) :
    FnP Tryz.prog 46 [.sl none l.length (prrsC l), .fn (.func g) [] []] (· = .bool (ascL less l)) := by
  refine FnP.of Tryz.func46 rfl Tryz.ntmps46 (by simp) fun m0 w0 F R0 => ?_
  repeat refine AW.seq ?_
  refine AW.region ?_
  refine A1 rfl ?_
  repeat refine AW.seq ?_
  refine AW.region ?_
  refine A1 rfl ?_
  repeat refine AW.seq ?_
  refine AW.block ?_
  repeat refine AW.seq ?_
  refine AW.loop (st := fun x_0 : Nat => mkS [(0, .pv (.sl none l.length (prrsC l))), (1, .pv (.fn (.func g) [] [])), (5, .pv (.int .i64 ((x_0 : Int) + 1)))] [] 0)
    (I := fun x_0 => (x_0 < l.length ∨ x_0 = 0) ∧ ∀ (j : Nat) (h : j + 1 < l.length), j < x_0 → less l[j] l[j + 1] = true) (μ := fun x_0 => l.length - x_0) (x0 := (0)) (St.le_mk ⟨rfl, rfl, rfl, trivial⟩ trivial rfl rfl) (⟨.inr rfl, fun j _ hj => absurd hj (Nat.not_lt_zero _)⟩) ?_
  rintro k ⟨hk, hall⟩
  repeat refine AW.seq ?_
  refine AW.region ?_
  iterate 4 refine A1 rfl ?_
  repeat refine AW.seq ?_
  refine AW.condP rfl (fun hc9 => ?_) (fun hc9 => ?_)
  · have hlt : k + 1 < l.length := by omega
    have hlk : k < l.length := by omega
    have hrow := prr_row hlt
    have hrow0 := prr_row hlk
    have hne := prr_ne hlt
    have hgk := hg l[k] l[k + 1]
    have hii : ((k : Int) + 1 - 1) = ((k : Nat) : Int) := by omega
    refine AW.skip ?_
    repeat refine AW.seq ?_
    refine AW.block ?_
    repeat refine AW.seq ?_
    refine AW.draw follows [[], [], [], [2], [3, 1, 2], [4, 3, 1, 2], [], [], [7, 6], [8, 7, 6], [9, 5, 0, 4, 3, 1, 2, 8, 7, 6], [10, 9, 5, 0, 4, 3, 1, 2, 8, 7, 6]] [0, 1, 2, 3, 4, 5, 6, 7, 8, 9, 10, 11] (by kernel_rfl) (by kernel_rfl) ?_
    iterate 3 refine D1 rfl rfl ?_
    refine DL.step (d := some 15) [] rfl rfl rfl (fun τ h => XJ.cast (v' := .pv (.int .i64 ((k : Nat) : Int))) (xj_sub ((h.e 0 _ rfl).trans rfl) ((h.e 1 _ rfl).trans rfl) (by omega)) (congrArg (fun i => V.pv (.int .i64 i)) hii)) rfl (by kernel_rfl) ?_
    refine D1 rfl rfl ?_
    refine DL.step (d := some 17) [] rfl rfl rfl (fun τ h => xj_loadAR ⟨_, Tryz.underlying72, rfl⟩ sz72 ((h.e 0 _ rfl).trans rfl) hrow0 rfl) rfl (by kernel_rfl) ?_
    iterate 3 refine D1 rfl rfl ?_
    refine DL.step (d := some 21) [] rfl rfl rfl (fun τ h => xj_loadAR ⟨_, Tryz.underlying72, rfl⟩ sz72 ((h.e 0 _ rfl).trans rfl) hrow rfl) rfl (by kernel_rfl) ?_
    refine DL.step (d := some 22) [] rfl rfl rfl (fun τ h => xj_callV hc ((h.e 0 _ rfl).trans rfl) hgk (h.argsQ rfl)) rfl (by kernel_rfl) ?_
    refine D1 rfl rfl ?_
    refine ⟨by kernel_rfl, ?_⟩
    repeat refine AW.seq ?_
    refine AW.cond rfl (fun hc23 => ?_) (fun hc23 => ?_)
    · repeat refine AW.seq ?_
      refine AW.region ?_
      refine A1 rfl ?_
      repeat refine AW.seq ?_
      refine AW.ret ?_
      exact ⟨_, _, rfl, rfl, congrArg PV.bool (ascL_no hlt (by simpa using hc23)).symm⟩
    · refine AW.skip ?_
      repeat refine AW.seq ?_
      refine AW.region ?_
      iterate 3 refine A1 rfl ?_
      exact ⟨(k + 1), St.le_mk ⟨rfl, rfl, rfl, trivial⟩ trivial rfl rfl, ⟨.inl hlt, fun j hj hjk => by rcases Nat.lt_succ_iff_lt_or_eq.1 hjk with e | rfl; exact hall j hj e; simpa using hc23⟩, by omega⟩
  · repeat refine AW.seq ?_
    refine AW.exit ?_
    repeat refine AW.seq ?_
    refine AW.region ?_
    refine A1 rfl ?_
    repeat refine AW.seq ?_
    refine AW.ret ?_
    exact ⟨_, _, rfl, rfl, congrArg PV.bool (ascL_iff.2 fun j hj => hall j hj (by omega)).symm⟩
end Go.Proofs.YtopjkdddicgajaaGreatDoor
namespace Go.Proofs.YtopjkdddicgajaaGreatDoor
open Go.RowKit Mk
theorem digs_itoa (n : Int) : digsOf (itoT n) = Lib.decDigits n.natAbs ∧ negOf (itoT n) = decide (n < 0) := by
  have e : (itoT n).data.toList = (if n < 0 then [45] else []) ++ Lib.decDigits n.natAbs := itoa_eq n
  by_cases h : n < 0
  · rw [if_pos h] at e
    have hp : Lib.hasPrefix (itoT n).data.toList [45] = true := by rw [e]; rfl
    refine ⟨by rw [digsOf, Lib.trimPrefix, if_pos hp, e]; rfl, by rw [negOf, hp, decide_eq_true h]⟩
  · rw [if_neg h, List.nil_append] at e
    have hp : Lib.hasPrefix (itoT n).data.toList [45] = false := by
      rw [e, Lib.hasPrefix]
      cases hd : Lib.decDigits n.natAbs with
      | nil => rfl
      | cons c l =>
        have := dec_digs n.natAbs c (by rw [hd]; simp)
        have hc : ((45 : UInt8) == c) = false := by
          rw [beq_eq_false_iff_ne]; intro e; rw [← e] at this; cases this
        show ((45 : UInt8) == c && List.isPrefixOf [] l) = false
        rw [hc]; rfl
    refine ⟨by rw [digsOf, Lib.trimPrefix, if_neg (by rw [hp]; decide), e], by rw [negOf, hp, decide_eq_false h]⟩
theorem rdZ_itoa (n : Int) : rdZ (itoT n) = n := by
  rw [rdZ, (digs_itoa n).1, (digs_itoa n).2, dval_dec]; exact sgn_self n
theorem dec_first {n : Nat} (h : n ≠ 0) : (Lib.decDigits n).getD 0 0 ≠ 48 := by
  induction n using Nat.strongRecOn with
  | ind n ih =>
    by_cases h2 : n < 10
    · rw [Lib.decDigits, dif_pos h2]
      intro e
      have := congrArg UInt8.toNat e
      simp at this
      omega
    · rw [Lib.decDigits, dif_neg h2]
      have := ih (n / 10) (by omega) (by omega)
      cases hd : Lib.decDigits (n / 10) with
      | nil => exact absurd hd (dec_ne _)
      | cons c l => rw [hd] at this; simpa using this
theorem ivalid_itoa (n : Int) : ivalid (itoT n) = !bbig n.natAbs := by
  have hd := digs_itoa n
  by_cases h : n = 0
  · subst h
    have e : (itoT 0).toList = (⟨#[48]⟩ : ByteArray).toList := by rw [Lib.toList_data, Lib.toList_data]; exact itoa_zero
    rw [ivalid, e]
    rw [show bbig (0 : Int).natAbs = false by rw [bbig]; simp [ndig_small]]
    simp
  · have hz : ((itoT n).toList == (⟨#[48]⟩ : ByteArray).toList) = false := by
      rw [Lib.toList_data, Lib.toList_data, beq_eq_false_iff_ne]
      intro e
      exact h (itoa_inj (e.trans itoa_zero.symm))
    have h1 : (Lib.decDigits n.natAbs).isEmpty = false := by
      cases e : Lib.decDigits n.natAbs with
      | nil => exact absurd e (dec_ne _)
      | cons a l => rfl
    have h2 : ((Lib.decDigits n.natAbs).getD 0 0 != 48) = true := by
      rw [bne_iff_ne]; exact dec_first (by omega)
    have h3 : (Lib.decDigits n.natAbs).all digB = true := List.all_eq_true.2 (dec_digs _)
    rw [ivalid_else hz, goodD, hd.1, h1, h2, h3, bbig]
    rw [Bool.eq_iff_iff]
    simp [ndig]
    exact ⟨fun h => decide_eq_false (by omega), fun h => by have := of_decide_eq_false h; omega⟩
/-- A text without a slash. -/
theorem itoa_clean (n : Int) : ∀ c ∈ (itoT n).data.toList, c = 45 ∨ digB c = true := fun c hc => by
  have e : (itoT n).data.toList = (if n < 0 then [45] else []) ++ Lib.decDigits n.natAbs := itoa_eq n
  rw [e] at hc
  rcases List.mem_append.1 hc with h | h
  · split at h
    · simp at h; exact .inl h
    · simp at h
  · exact .inr (dec_digs _ c h)
theorem no_slash {c : UInt8} (h : c = 45 ∨ digB c = true) : c ≠ 47 := by
  rcases h with rfl | h
  · decide
  · intro e; subst e; cases h
theorem cut_clean {s : ByteArray} (h : ∀ c ∈ s.data.toList, c ≠ 47) : numT s = s ∧ slashB s = false ∧ denT s = ⟨#[]⟩ := by
  have hn : Lib.indexByte s.data.toList 47 = -1 := slash_no fun j hj e => h _ (List.getElem_mem hj) (by rw [List.getD_eq_getElem?_getD, List.getElem?_eq_getElem hj] at e; exact e)
  obtain ⟨c1, c2⟩ := cut_none hn
  refine ⟨c1, c2, ?_⟩
  have e : Lib.index s.data.toList [47] = -1 := by rw [Lib.index_one]; exact hn
  rw [denT, Lib.cut, e]; rfl
theorem cut_slash {a b : ByteArray} (h : ∀ c ∈ a.data.toList, c ≠ 47) : numT ((a ++ ⟨#[47]⟩) ++ b) = a ∧ slashB ((a ++ ⟨#[47]⟩) ++ b) = true ∧ denT ((a ++ ⟨#[47]⟩) ++ b) = b := by
  have hl : ((a ++ (⟨#[47]⟩ : ByteArray)) ++ b).data.toList = a.data.toList ++ 47 :: b.data.toList := by simp
  have hi : Lib.indexByte ((a ++ (⟨#[47]⟩ : ByteArray)) ++ b).data.toList 47 = (a.data.toList.length : Int) := by
    rw [hl]
    refine slash_at (by simp) (fun j hj e => ?_) (by simp [List.getD])
    simp only [List.getD, List.getElem?_append_left hj, List.getElem?_eq_getElem hj, Option.getD_some] at e
    exact h _ (List.getElem_mem hj) e
  have e : Lib.index ((a ++ (⟨#[47]⟩ : ByteArray)) ++ b).data.toList [47] = (a.data.toList.length : Int) := by rw [Lib.index_one]; exact hi
  have hc : Lib.cut ((a ++ (⟨#[47]⟩ : ByteArray)) ++ b).data.toList [47] = (a.data.toList, b.data.toList, true) := by
    rw [Lib.cut, e, if_pos (by omega), hl]
    simp only [Int.toNat_natCast, Prod.mk.injEq, and_true]
    refine ⟨by simp, ?_⟩
    rw [show ([47] : List UInt8).length = 1 from rfl, List.drop_append]
    simp
  exact ⟨by rw [numT, hc], by rw [slashB, hc], by rw [denT, hc]⟩
/-- The text of a fraction is valid. -/
theorem rvalid_ratT (q : Rat) (h : rbig q = false) : rvalid (ratT q) = true := by
  rw [rbig, Bool.or_eq_false_iff] at h
  have hn : ivalid (itoT q.num) = true := by rw [ivalid_itoa, h.1]; rfl
  have hd : ivalid (itoT (q.den : Int)) = true := by rw [ivalid_itoa, Int.natAbs_natCast, h.2]; rfl
  have hcl : ∀ c ∈ (itoT q.num).data.toList, c ≠ 47 := fun c hc => no_slash (itoa_clean _ c hc)
  by_cases h1 : q.den = 1
  · rw [ratT, if_pos h1]
    obtain ⟨c1, c2, _⟩ := cut_clean hcl
    exact rval_whole _ c2 (by rw [c1]; exact hn)
  · rw [ratT, if_neg h1]
    obtain ⟨c1, c2, c3⟩ := cut_slash (b := itoT (q.den : Int)) hcl
    rw [rvalid, c2, c1, hn, if_neg (by decide), rbad, c1, c3, hd, rdZ_itoa, rdZ_itoa]
    have hz : ((itoT q.num).toList == zeroT.toList) = false := by
      rw [Lib.toList_data, Lib.toList_data, beq_eq_false_iff_ne]
      intro e
      have h0 : q.num = 0 := itoa_inj (e.trans itoa_zero.symm)
      have := Rat.num_eq_zero.1 h0
      rw [this] at h1
      exact h1 rfl
    have hp := q.den_pos
    rw [hz, decide_eq_false (by omega)]
    have hr := q.reduced
    simp only [Nat.Coprime] at hr
    simp [Int.gcd, hr]
/-- Short words whose denominator has one limb. -/
def RW (s : ByteArray) : Prop := s.size ≤ 100 ∧ (denT s).size ≤ 9
theorem dval_small {s : ByteArray} (h : ivalid s = true) (hs : s.size ≤ 9) : (rdZ s).natAbs < 1000000000 := by
  rw [rdZ_abs]
  have h1 := dval_lt (ivalid_dig h).1
  have h2 : (digsOf s).length ≤ 9 := by
    have hz : s.size = s.data.toList.length := Lib.size_eq s
    rw [digsOf, Lib.trimPrefix]
    split
    · simp; omega
    · omega
  exact Nat.lt_of_lt_of_le h1 (Nat.pow_le_pow_right (by decide) h2)
theorem RW.ok {s : ByteArray} (h : RW s) : ROk s := by
  refine ⟨Nat.lt_of_le_of_lt h.1 (by decide), fun h1 h2 => ?_⟩
  have hd : ivalid (denT s) = true := by
    rw [rbad, Bool.or_eq_false_iff, Bool.or_eq_false_iff] at h2
    simpa using h2.1.2
  have hl1 := rdZ_len h1
  have hl2 := rdZ_len hd
  exact numgcd_spec Ishort (fun x y h hy h2 hx _ => ishort h hy h2 hx) _ _ (.inl (dval_small hd h.2)) (by omega) (by omega)
end Go.Proofs.YtopjkdddicgajaaGreatDoor
namespace Go.Proofs.YtopjkdddicgajaaGreatDoor
open Go.RowKit Mk
set_option maxRecDepth 100000
set_option maxHeartbeats 4000000
theorem text_specF (L : List Int) (k : Nat) (l : List ByteArray) (hL : L.length ≤ 600) (hk : k ≤ L.length) (hl : l ≠ []) (hl2 : l.length ≤ 1000) : ∃ x ∈ l, FnM Tryz.prog 35 47 (srcC L k) [pstrs l] (fun v c => v = .str x ∧ c = srcC L (sNk L k)) := by
  have hpos : 0 < l.length := List.length_pos_iff.2 hl
  have hb := sNv_bd L k l.length (by omega)
  obtain ⟨j, hj⟩ := Int.eq_ofNat_of_zero_le hb.1
  have hjl : j < l.length := by omega
  refine ⟨l[j], List.getElem_mem hjl, ?_⟩
  refine FnM.of Tryz.func35 rfl Tryz.ntmps35 (by simp) rfl (by simp) fun m0 w0 F R0 => ?_
  have hv := pstrs_at hjl
  have hne := pstrs_ne hjl
  repeat refine AW.seq ?_
  refine AW.region ?_
  refine A1 rfl ?_
  repeat refine AW.seq ?_
  refine AW.region ?_
  iterate 4 refine A1 rfl ?_
  refine RL.step (d := some 9) rfl rfl (xj_callM Tryz.call14 (n_spec L k l.length hL hk (by omega) (by omega)) rfl rfl) ?_
  refine RL.step (d := some 10) rfl rfl (xj_indexAddr j Tryz.underlying74 sz9 rfl rfl hj hjl hne) ?_
  first | refine A2 rfl (by assumption) ?_ | refine A1 rfl ?_
  refine A1 rfl ?_
  repeat refine AW.seq ?_
  refine AW.ret ?_
  exact ⟨_, srcC L (sNk L k), rfl, rfl, rfl, rfl⟩
end Go.Proofs.YtopjkdddicgajaaGreatDoor
namespace Go.Proofs.YtopjkdddicgajaaGreatDoor
open Go.RowKit Mk
set_option maxRecDepth 100000
set_option maxHeartbeats 4000000
/-- A small fraction. -/
def Sml (q : Rat) : Prop := q.num.natAbs ≤ 9 ∧ q.den ≤ 4
theorem sml_divInt (a b : Int) (ha : -9 ≤ a ∧ a ≤ 9) (hb : 1 ≤ b ∧ b ≤ 4) : Sml (Rat.divInt a b) := by
  obtain ⟨h1, h2⟩ := divInt_parts a b (by omega)
  rw [if_neg (by omega)] at h1 h2
  constructor
  · rw [h1, Int.natAbs_tdiv]; exact Nat.le_trans (Nat.div_le_self _ _) (by omega)
  · have h3 : (Rat.divInt a b).den = (b.tdiv (Int.gcd a b)).natAbs := by omega
    rw [h3, Int.natAbs_tdiv]; exact Nat.le_trans (Nat.div_le_self _ _) (by omega)
theorem ndig9 {n : Nat} (h : n ≤ 9) : ndig n = 1 := ndig_small (by omega)
theorem sml_big {q : Rat} (h : Sml q) : rbig q = false := by
  rw [rbig, bbig, bbig, ndig9 h.1, ndig9 (by have := h.2; omega)]; rfl
theorem itoT_sz (n : Int) : (itoT n).size ≤ ndig n.natAbs + 1 := by
  have h1 : (itoT n).size = (Lib.itoa n).length := by simp [itoT, ByteArray.size]
  rw [h1, itoa_eq, List.length_append]
  have : (Lib.decDigits n.natAbs).length = ndig n.natAbs := rfl
  split <;> simp <;> omega
theorem itoT_szN (n : Nat) : (itoT (n : Int)).size = ndig n := by
  have h1 : (itoT (n : Int)).size = (Lib.itoa n).length := by simp [itoT, ByteArray.size]
  rw [h1, itoa_eq, if_neg (by omega)]; rfl
theorem sml_RW {q : Rat} (h : Sml q) : RW (ratT q) ∧ (ratT q).size ≤ 4 := by
  have h1 := itoT_sz q.num
  have h2 := itoT_szN q.den
  rw [ndig9 h.1] at h1
  rw [ndig9 (by have := h.2; omega)] at h2
  have hcl : ∀ c ∈ (itoT q.num).data.toList, c ≠ 47 := fun c hc => no_slash (itoa_clean _ c hc)
  have hk : (⟨#[47]⟩ : ByteArray).size = 1 := rfl
  by_cases hd : q.den = 1
  · rw [ratT, if_pos hd]
    refine ⟨⟨by omega, ?_⟩, by omega⟩
    rw [(cut_clean hcl).2.2]; decide
  · rw [ratT, if_neg hd]
    refine ⟨⟨by rw [ByteArray.size_append, ByteArray.size_append]; omega, ?_⟩, by rw [ByteArray.size_append, ByteArray.size_append]; omega⟩
    rw [(cut_slash (b := itoT (q.den : Int)) hcl).2.2]; omega
theorem sml_valid {q : Rat} (h : Sml q) : rvalid (ratT q) = true := rvalid_ratT q (sml_big h)
theorem rat_specF (L : List Int) (k : Nat) (hL : L.length ≤ 600) (hk : k ≤ L.length) : ∃ q, Sml q ∧ FnM Tryz.prog 33 47 (srcC L k) [] (fun v c => v = .str (ratT q) ∧ c = srcC L (sNk L (sNk L k))) := by
  have hk1 : sNk L k ≤ L.length := by unfold sNk; split <;> omega
  have hb := sNv_bd L k (9 - (-9) + 1) (by decide)
  have hr := range_spec L k (-9) 9 hL hk (by decide) (by decide) (by decide)
  obtain ⟨b, hb1, hpick⟩ := pick_specF L (sNk L k) [1, 1, 1, 2, 3, 4] hL hk1 (by simp) (by simp)
  have hb2 : 1 ≤ b ∧ b ≤ 4 := by simp at hb1; omega
  have ha : -9 ≤ -9 + sNv L k (9 - (-9) + 1) ∧ -9 + sNv L k (9 - (-9) + 1) ≤ 9 := by omega
  generalize -9 + sNv L k (9 - (-9) + 1) = a at *
  have hS := sml_divInt a b ha hb2
  refine ⟨_, hS, ?_⟩
  refine FnM.of Tryz.func33 rfl Tryz.ntmps33 (by simp) rfl (by simp) fun m0 w0 F R0 => ?_
  have hl1 : (limbs a.natAbs).length ≤ 1 := limbs_le.2 (by omega)
  have hl2 : (limbs b.natAbs).length ≤ 1 := limbs_le.2 (by omega)
  have hl3 : (limbs (Rat.divInt a b).num.natAbs).length ≤ 1 := limbs_le.2 (by have := hS.1; omega)
  have hl4 : (limbs (Rat.divInt a b).den).length ≤ 1 := limbs_le.2 (by have := hS.2; omega)
  have hgv := rgive_spec (Rat.divInt a b) (by omega) (by omega)
  rw [sml_big hS] at hgv
  repeat refine AW.seq ?_
  refine AW.region ?_
  refine A1 rfl ?_
  repeat refine AW.seq ?_
  refine AW.region ?_
  refine A1 rfl ?_
  refine RL.step (d := some 7) rfl rfl (xj_callM Tryz.call18 hr rfl rfl) ?_
  refine RL.step (d := some 8) rfl rfl (xj_call Tryz.call65 (bof_spec a (by omega) (by omega)) rfl) ?_
  refine A1 rfl ?_
  refine RL.step (d := some 10) rfl rfl (xj_buildSliceP none (by simp) el22 rfl (by decide) (by decide) rfl rfl) ?_
  refine RL.step (d := some 11) rfl rfl (xj_callM Tryz.call19 hpick rfl rfl) ?_
  refine RL.step (d := some 12) rfl rfl (xj_call Tryz.call65 (bof_spec b (by omega) (by omega)) rfl) ?_
  refine RL.step (d := some 13) rfl rfl (xj_call Tryz.call64 (rnew_spec a b (by omega) (by omega)) rfl) ?_
  refine RL.step (d := some 14) rfl rfl (xj_call Tryz.call66 hgv rfl) ?_
  iterate 5 refine A1 rfl ?_
  repeat refine AW.seq ?_
  refine AW.region ?_
  iterate 2 refine A1 rfl ?_
  repeat refine AW.seq ?_
  refine AW.ret ?_
  exact ⟨_, srcC L (sNk L (sNk L k)), rfl, rfl, rfl, rfl⟩
def odds : List ByteArray := [⟨#[]⟩, ⟨#[49,47,49]⟩, ⟨#[50,47,52]⟩, ⟨#[49,47,45,50]⟩, ⟨#[49,47,48]⟩, ⟨#[48,47,51]⟩, ⟨#[45,49,47,50]⟩, ⟨#[49,47,50,47,51]⟩, ⟨#[47,50]⟩, ⟨#[49,47]⟩, ⟨#[45,48]⟩, ⟨#[55]⟩, ⟨#[49,50,51,52,53,54,55,56,57,48,49,50,51,52,53,54,55,56,57,48,47,55]⟩]
theorem RW_cut {a b : List UInt8} {s : ByteArray} (e : s.data.toList = a ++ 47 :: b) (ha : a.all (· != 47) = true) (h : a.length ≤ 90) (hb : b.length ≤ 9) : RW s := by
  have e2 : s = ((⟨a.toArray⟩ : ByteArray) ++ ⟨#[47]⟩) ++ ⟨b.toArray⟩ := by
    apply ByteArray.ext
    apply Array.ext'
    rw [e]; simp
  have hz : s.size = s.data.toList.length := Lib.size_eq s
  rw [e, List.length_append, List.length_cons] at hz
  refine ⟨by omega, ?_⟩
  rw [e2, (cut_slash (a := ⟨a.toArray⟩) (b := ⟨b.toArray⟩) (fun c hc => by have := List.all_eq_true.1 ha c (by simpa using hc); simpa using this)).2.2]
  simpa [ByteArray.size] using hb
theorem RW_plain {s : ByteArray} (ha : s.data.toList.all (· != 47) = true) (h : s.data.toList.length ≤ 100) : RW s := by
  have hz : s.size = s.data.toList.length := Lib.size_eq s
  refine ⟨by omega, ?_⟩
  rw [(cut_clean (s := s) (fun c hc => by have := List.all_eq_true.1 ha c hc; simpa using this)).2.2]; decide
theorem odds_RW : ∀ s ∈ odds, RW s := by
  intro s hs
  simp only [odds, List.mem_cons, List.not_mem_nil, or_false] at hs
  rcases hs with h | h | h | h | h | h | h | h | h | h | h | h | h
  · rw [h]; exact RW_plain rfl (by simp)
  · rw [h]; exact RW_cut (a := [49]) (b := [49]) rfl rfl (by simp) (by simp)
  · rw [h]; exact RW_cut (a := [50]) (b := [52]) rfl rfl (by simp) (by simp)
  · rw [h]; exact RW_cut (a := [49]) (b := [45, 50]) rfl rfl (by simp) (by simp)
  · rw [h]; exact RW_cut (a := [49]) (b := [48]) rfl rfl (by simp) (by simp)
  · rw [h]; exact RW_cut (a := [48]) (b := [51]) rfl rfl (by simp) (by simp)
  · rw [h]; exact RW_cut (a := [45, 49]) (b := [50]) rfl rfl (by simp) (by simp)
  · rw [h]; exact RW_cut (a := [49]) (b := [50, 47, 51]) rfl rfl (by simp) (by simp)
  · rw [h]; exact RW_cut (a := []) (b := [50]) rfl rfl (by simp) (by simp)
  · rw [h]; exact RW_cut (a := [49]) (b := []) rfl rfl (by simp) (by simp)
  · rw [h]; exact RW_plain rfl (by simp)
  · rw [h]; exact RW_plain rfl (by simp)
  · rw [h]; exact RW_cut (a := [49,50,51,52,53,54,55,56,57,48,49,50,51,52,53,54,55,56,57,48]) (b := [55]) rfl rfl (by simp) (by simp)
theorem oddRat_specF (L : List Int) (k : Nat) (hL : L.length ≤ 600) (hk : k ≤ L.length) : ∃ x, RW x ∧ FnM Tryz.prog 34 47 (srcC L k) [] (fun v c => v = .str x ∧ c = srcC L (sNk L k)) := by
  obtain ⟨x, hx, htx⟩ := text_specF L k odds hL hk (by simp [odds]) (by simp [odds])
  refine ⟨x, odds_RW x hx, ?_⟩
  refine FnM.of Tryz.func34 rfl Tryz.ntmps34 (by simp) rfl (by simp) fun m0 w0 F R0 => ?_
  repeat refine AW.seq ?_
  refine AW.region ?_
  refine A1 rfl ?_
  repeat refine AW.seq ?_
  refine AW.region ?_
  refine A1 rfl ?_
  refine RL.step (d := some 4) rfl rfl (xj_buildSliceP (vs := odds.map fun x => .pv (.str x)) (cs := strsP odds) none (by simp) el74 rfl (by decide) (by decide) (by kernel_rfl) (by kernel_rfl)) ?_
  refine RL.step (d := some 5) rfl rfl (xj_callM Tryz.call35 htx rfl rfl) ?_
  refine A1 rfl ?_
  repeat refine AW.seq ?_
  refine AW.ret ?_
  exact ⟨_, srcC L (sNk L k), rfl, rfl, rfl, rfl⟩
end Go.Proofs.YtopjkdddicgajaaGreatDoor
namespace Go.Proofs.YtopjkdddicgajaaGreatDoor
open Go.RowKit Mk
set_option maxRecDepth 100000
set_option maxHeartbeats 4000000
/-- Words that are added, in a variable. -/
abbrev wO (i : Nat) (L : List ByteArray) : List (Nat × Ob) := [(big, .mix 87 [.gsl i 1 L.length]), (i, .gro 9 (strsP L))]
section
variable {C : Ctx} {n : Nat} {σ : St} {dst : Option Tmp} {ty : TypeId} {ts : Array TypeId} {pos : String} {after : Array Edge} {gd : Option (Nat × Bool)}
/-- oj_callO with the contract first. -/
theorem oj_callF2 {f : FuncId} {xs : Array Operand} {args : List V} {os : List (Nat × Ob)} {k' : Nat} {Q : V → (Nat → Option Ob) → Prop} {K : St → Prop} (ids : List Nat) (base : Nat) (hc : CallOk C.P f) (hf : FnO C.P f ids.length k' args os Q) (hargs : xs.toList.map (σ.ev n) = V.renL (renI ids base) args)
    (ha : V.allL (okR ids.length 0) args = true) (hos : os.map (·.1) = (List.range ids.length).map (big + ·)) (hob : os.all (fun p => p.2.all (okR ids.length 0)) = true) (hobs : allObR σ (renI ids base) os)
    (hnd : ids.Nodup) (hav : (nwO base k').all σ.av = true)
    (hk : ∀ v ob', Q v ob' → K (σ.app dst ⟨v.ren (renI ids base), wrO ids base k' ob', nwO base k'⟩)) :
    OJ C n ⟨dst, .call { callee := .value (.func f), args := xs, argTypes := ts }, ty, pos, after, gd⟩ K σ := oj_callO ids base hc hargs ha hos hob hobs hnd hav hf hk
end
theorem put_spec (L M : List ByteArray) (hM : 0 < M.length) (hL : L.length + M.length ≤ 1000000) : FnO Tryz.prog 49 2 1 [.ptr big 0, .pv (pstrs M)] (wO 1000001 L) (fun r ob' => r = .tup [] ∧ ob' = lookO (wO 0 (L ++ M))) := by
  refine FnO.of Tryz.func49 rfl Tryz.ntmps49 (by simp) fun m0 w0 F R0 => ?_
  repeat refine AW.seq ?_
  refine AW.region ?_
  iterate 6 refine A1 rfl ?_
  refine RL.step (d := some 10) rfl rfl (xj_appendG 0 el74 rfl rfl (by simp) (.inl ⟨_, rfl⟩) (by simp) (by simp [PV.leaf]) (by omega) hM rfl) ?_
  iterate 3 refine A1 rfl ?_
  exact ⟨[], wO 0 (L ++ M), [], St.le_mk trivial ⟨by rw [List.length_append]; rfl, Eq.trans (b := some (.gro 9 (strsP L ++ strsP M))) rfl (congrArg (fun c => some (Ob.gro 9 c)) (by simp)), trivial⟩ rfl rfl, rfl, rfl, rfl, rfl, rfl⟩
/-- A number as a word. -/
def itoaT (n : Int) : ByteArray := ⟨(Lib.itoa n).toArray⟩
theorem wnumber_spec (L : List ByteArray) (n : Int) (h0 : -9223372036854775808 ≤ n ∧ n ≤ 9223372036854775807) (hL : L.length + 1 ≤ 1000000) : FnO Tryz.prog 48 2 1 [.ptr big 0, .pv (.int .i64 n)] (wO 1000001 L) (fun r ob' => r = .tup [] ∧ ob' = lookO (wO 0 (L ++ [itoaT n]))) := by
  refine FnO.of Tryz.func48 rfl Tryz.ntmps48 (by simp) fun m0 w0 F R0 => ?_
  have hit : FnP Tryz.prog 78 [.int .i64 n] (· = .str (itoaT n)) := itoa_fn n h0.1 h0.2
  have hput := put_spec L [itoaT n] (by simp) hL
  repeat refine AW.seq ?_
  refine AW.region ?_
  iterate 2 refine A1 rfl ?_
  refine RL.step (d := some 6) rfl rfl (xj_call Tryz.call78 hit rfl) ?_
  refine RL.step (d := some 7) rfl rfl (xj_buildSliceP none (by simp) el74 rfl (by decide) (by decide) rfl rfl) ?_
  refine RL.call rfl (oj_callF2 [big, 1000001] 0 Tryz.call49 hput rfl rfl rfl rfl ⟨rfl, rfl, trivial⟩ (by decide) rfl ?_)
  rintro _ _ ⟨rfl, rfl⟩
  exact ⟨[], wO 0 (L ++ [itoaT n]), [], St.le_mk trivial ⟨rfl, rfl, trivial⟩ rfl rfl, rfl, rfl, rfl, rfl, rfl⟩
def dashT : ByteArray := ⟨#[45]⟩
/-- A category as a word. -/
def catT (c : ByteArray) : ByteArray := if (c.toList == emptyT.toList) = true then dashT else c
theorem wparam_spec (L : List ByteArray) (p : Par) (hp : POk p) (hL : L.length + 2 ≤ 1000000) : FnO Tryz.prog 50 2 1 [.ptr big 0, .pv (.agg (parC p))] (wO 1000001 L) (fun r ob' => r = .tup [] ∧ ob' = lookO (wO 0 (L ++ [itoaT p.f, catT p.c]))) := by
  refine FnO.of Tryz.func50 rfl Tryz.ntmps50 (by simp) fun m0 w0 F R0 => ?_
  have hnum := wnumber_spec L p.f hp.1 (by omega)
  have hput1 := put_spec (L ++ [itoaT p.f]) [dashT] (by simp) (by simp; omega)
  have hput2 := put_spec (L ++ [itoaT p.f]) [p.c] (by simp) (by simp; omega)
  have e : L ++ [itoaT p.f, catT p.c] = L ++ [itoaT p.f] ++ [catT p.c] := by simp
  rw [e]
  generalize hct : catT p.c = ct
  repeat refine AW.seq ?_
  refine AW.region ?_
  refine A1 rfl ?_
  repeat refine AW.seq ?_
  refine AW.region ?_
  iterate 3 refine A1 rfl ?_
  refine RL.call rfl (oj_callF2 [big, 1000001] 1 Tryz.call48 hnum rfl rfl rfl rfl ⟨rfl, rfl, trivial⟩ (by decide) rfl ?_)
  rintro _ _ ⟨rfl, rfl⟩
  repeat refine AW.seq ?_
  refine AW.region ?_
  iterate 3 refine A1 rfl ?_
  repeat refine AW.seq ?_
  refine AW.cond rfl (fun hc10 => ?_) (fun hc10 => ?_)
  · obtain rfl : ct = dashT := hct.symm.trans (if_pos hc10)
    repeat refine AW.seq ?_
    refine AW.region ?_
    refine A1 rfl ?_
    refine RL.step (d := some 12) rfl rfl (xj_buildSliceP none (by simp) el74 rfl (by decide) (by decide) rfl rfl) ?_
    refine RL.call rfl (oj_callF2 [big, 1] 2 Tryz.call49 hput1 rfl rfl rfl rfl ⟨by kernel_rfl, by kernel_rfl, trivial⟩ (by decide) rfl ?_)
    rintro _ _ ⟨rfl, rfl⟩
    exact ⟨[], wO 0 (L ++ [itoaT p.f] ++ [dashT]), [], St.le_mkB [2] trivial ⟨by kernel_rfl, by kernel_rfl, trivial⟩ rfl rfl (by decide) rfl, rfl, rfl, rfl, rfl, rfl⟩
  · obtain rfl : ct = p.c := hct.symm.trans (if_neg fun h => Bool.false_ne_true (hc10.symm.trans h))
    repeat refine AW.seq ?_
    refine AW.region ?_
    iterate 3 refine A1 rfl ?_
    refine RL.step (d := some 17) rfl rfl (xj_buildSliceP none (by simp) el74 rfl (by decide) (by decide) rfl rfl) ?_
    refine RL.call rfl (oj_callF2 [big, 1] 2 Tryz.call49 hput2 rfl rfl rfl rfl ⟨by kernel_rfl, by kernel_rfl, trivial⟩ (by decide) rfl ?_)
    rintro _ _ ⟨rfl, rfl⟩
    exact ⟨[], wO 0 (L ++ [itoaT p.f] ++ [p.c]), [], St.le_mkB [2] trivial ⟨by kernel_rfl, by kernel_rfl, trivial⟩ rfl rfl (by decide) rfl, rfl, rfl, rfl, rfl, rfl⟩
end Go.Proofs.YtopjkdddicgajaaGreatDoor
namespace Go.Proofs.YtopjkdddicgajaaGreatDoor
open Go.RowKit Go.Sort Go.Lib
theorem holds0 (w : World) (T : TypeId) (nd : Nat) (hs : nd ≤ 24) : Holds (fun (b : UInt8) => Value.int .u8 (b.toNat : Int)) (w.alloc (.cells zeros24 T)) w.heap.size 0 (Array.replicate nd (0 : UInt8)) := fun j hj => by
  have hj' : j < nd := by simpa using hj
  refine ⟨?_, World.frozen?_alloc_new _ _ _ _⟩
  rw [World.cell?_alloc_new, zeros24_at _ (by omega), getElem!_pos _ j hj]
  simp
theorem fin0 (w : World) (o : Obj) (dk : Array UInt8) (k : Nat) : ∃ os, (putRow (fun (b : UInt8) => Value.int .u8 (b.toNat : Int)) (w.alloc o) w.heap.size 0 dk).drewN k = grow (w.drewN k) os := by
  rw [alloc_eq_grow]
  obtain ⟨os', _, e⟩ := putRow_grow_new (fun (b : UInt8) => Value.int .u8 (b.toNat : Int)) w #[o] w.heap.size 0 dk (Nat.le_refl _)
  exact ⟨os', by rw [e]; rfl⟩
set_option maxHeartbeats 6400000
set_option maxRecDepth 100000
theorem formatU_walk (u : Nat) (hu64 : u < 18446744073709551616) (w : World) (htab : Lib.TabIs Tryz.prog w "internal/strconv.uint64pow10" .u64 Lib.pow10Tab) :
    Calls Tryz.prog 52 #[.int .u64 u, .int .i64 10] w fun e w' => e = .returned (.string ⟨(Lib.decDigits u).toArray⟩) ∧ ∃ k os, w' = grow (w.drewN k) os := by
  by_cases hs : u < 100
  · have hwr : IntKind.i64.wrap (u : Int) = (u : Int) := wrap_in (by omega)
    have hlt : ((u : Int) < 100) := by omega
    go_enter Tryz.func52, Tryz.ntmps52
    go_wp2_with (fail)
    refine (Tryz.internal_strconv_small u hs _).mono ?_
    rintro e w' ⟨rfl, rfl⟩
    go_wp2
    go_ret
    exact ⟨rfl, 0, #[], by simp [World.drewN_zero]⟩
  · have hu1 : 1 ≤ u := by omega
    have hge : ¬ ((u : Int) < 100) := by omega
    have hnd20 : Lib.nDigits u ≤ 20 := by have := Lib.numDigits_eq u hu1 hu64; split at this <;> omega
    have hb3 : Lib.nDigits u ≤ 23 := by omega
    have hal : Tryz.prog.arrayLen 135 = 24 := by simp [Program.arrayLen, Tryz.underlying135]
    have hsl1 : ∀ W, (Instr.sliceAt 135 (.pointer (some ⟨w.heap.size, 0, none⟩)) none (some (.int .i64 (Lib.nDigits u : Int))) none).run Tryz.prog W = .ok (.slice (some ⟨w.heap.size, 0, none⟩) (Lib.nDigits u) 24) W := fun W => by
      rw [run_sliceAt_array_h W 135 ⟨w.heap.size, 0, none⟩ (by simp [Program.arrayLen, Program.elem, Tryz.underlying135]) .i64 (Lib.nDigits u : Int) (by omega) (by rw [hal]; omega)]
      go_simp
    have hH0 := holds0 w 135 (Lib.nDigits u) (by omega)
    have hfmt := Tryz.internal_strconv_formatBase10 w.heap.size 0 24 u (Array.replicate (Lib.nDigits u) 0) (w.alloc (.cells Lib.zeros24 135)) hH0 (by rw [Array.size_replicate]; exact Lib.lt_pow_nDigits u) hu64 (by rw [Array.size_replicate]; omega)
    rw [Array.size_replicate] at hfmt
    have HH0 := Lib.hid hH0
    clear hH0 hal
    go_enter Tryz.func52, Tryz.ntmps52
    go_wp2_with (fail)
    refine (Tryz.internal_strconv_numDigits u hu1 hu64 _ (Lib.tabIs_alloc htab _)).mono ?_
    rintro e w' ⟨rfl, rfl⟩
    go_wp2_with (fail)
    refine hfmt.mono ?_
    rintro e w' ⟨rfl, k, v', dk, rfl, hF⟩
    have hcv : (convert 56 9 (.slice (some ⟨w.heap.size, 0, none⟩) (Lib.nDigits u) 24)).run Tryz.prog ((putRow (fun (b : UInt8) => Value.int .u8 (b.toNat : Int)) (w.alloc (.cells Lib.zeros24 135)) w.heap.size 0 dk).drewN k) = .ok (.string ⟨(Lib.decDigits u).toArray⟩) ((putRow (fun (b : UInt8) => Value.int .u8 (b.toNat : Int)) (w.alloc (.cells Lib.zeros24 135)) w.heap.size 0 dk).drewN k) := by
      have h := run_convert_bytes_back (P := Tryz.prog) ((putRow (fun (b : UInt8) => Value.int .u8 (b.toNat : Int)) (w.alloc (.cells Lib.zeros24 135)) w.heap.size 0 dk).drewN k) 56 9 5 ⟨w.heap.size, 0, none⟩ 24 (Lib.decDigits u) Tryz.underlying56 Tryz.underlying5 Tryz.underlying9 (fun j hj => by
        rw [Lib.row_is_numeral hF j hj, Lib.add_plain, World.cell?_drewN]
        exact cell?_putRow (fun (b : UInt8) => Value.int .u8 (b.toNat : Int)) _ w.heap.size 0 _ dk HH0.out (by rw [hF.size, Array.size_replicate]) j (by rw [hF.size]; rw [Lib.decDigits_length] at hj; exact hj))
      rw [Lib.decDigits_length] at h
      exact h
    go_wp2
    go_ret
    obtain ⟨os, eo⟩ := fin0 w (.cells Lib.zeros24 135) dk k
    exact ⟨rfl, k, os, eo⟩
theorem formatUint_fn (u : Nat) (hu64 : u < 18446744073709551616) : FnP Tryz.prog 23 [.int .u64 u, .int .i64 10] (· = .str ⟨(Lib.decDigits u).toArray⟩) := by
  have hin : FnP Tryz.prog 52 [.int .u64 u, .int .i64 10] (· = .str ⟨(Lib.decDigits u).toArray⟩) := by
    intro w R us hG hR hrel
    obtain ⟨v11, rfl, h11⟩ := rel_int hrel
    obtain ⟨v12, rfl, h12⟩ := rel_int h11
    obtain rfl := rel_nil h12
    exact (formatU_walk u hu64 w (glb_tab hG)).mono fun e w' ⟨he, k, os, hw⟩ => ⟨_, _, he, rfl, by rw [hw]; exact below_grown w k os, by simp only [RelP]⟩
  refine FnP.of Tryz.func23 rfl Tryz.ntmps23 (by simp) fun m0 w0 F R0 => ?_
  repeat refine AW.seq ?_
  refine AW.region ?_
  refine A1 rfl ?_
  repeat refine AW.seq ?_
  refine AW.region ?_
  iterate 2 refine A1 rfl ?_
  refine RL.step (d := some 7) rfl rfl (xj_call Tryz.call52 hin rfl) ?_
  refine A1 rfl ?_
  repeat refine AW.seq ?_
  refine AW.ret ?_
  exact ⟨_, _, rfl, rfl, rfl⟩
end Go.Proofs.YtopjkdddicgajaaGreatDoor
namespace Go.Proofs.YtopjkdddicgajaaGreatDoor
open Go.RowKit Mk
set_option maxRecDepth 100000
set_option maxHeartbeats 4000000
/-- One step of the hash, as the code makes it. -/
def hstep (h : Nat) (x : UInt8) : Nat := (IntKind.u64.wrap (IntKind.u64.wrap ((BitVec.ofInt IntKind.u64.bits (h : Int) ^^^ BitVec.ofInt IntKind.u64.bits (IntKind.u64.wrap (x.toNat : Int))).toNat : Int) * 1099511628211)).toNat
def hash0 : Nat := 14695981039346656037
def hashN (l : List UInt8) : Nat := l.foldl hstep hash0
theorem wrapU_bd (i : Int) : 0 ≤ IntKind.u64.wrap i ∧ IntKind.u64.wrap i < 18446744073709551616 := by rw [wrapU]; omega
theorem hstep_cast (h : Nat) (x : UInt8) : IntKind.u64.wrap (IntKind.u64.wrap ((BitVec.ofInt IntKind.u64.bits (h : Int) ^^^ BitVec.ofInt IntKind.u64.bits (IntKind.u64.wrap (x.toNat : Int))).toNat : Int) * 1099511628211) = ((hstep h x : Nat) : Int) := by
  rw [hstep, Int.toNat_of_nonneg (wrapU_bd _).1]
theorem hstep_lt (h : Nat) (x : UInt8) : hstep h x < 18446744073709551616 := by
  have h1 := hstep_cast h x
  have h2 := wrapU_bd (IntKind.u64.wrap ((BitVec.ofInt IntKind.u64.bits (h : Int) ^^^ BitVec.ofInt IntKind.u64.bits (IntKind.u64.wrap (x.toNat : Int))).toNat : Int) * 1099511628211)
  rw [h1] at h2
  omega
theorem hash0_cast : (14695981039346656037 : Int) = ((hash0 : Nat) : Int) := rfl
attribute [irreducible] hstep hash0
theorem hash_lt (l : List UInt8) : hashN l < 18446744073709551616 := by
  have : ∀ h, h < 18446744073709551616 → l.foldl hstep h < 18446744073709551616 := by
    induction l with
    | nil => exact fun h hh => hh
    | cons x l ih => exact fun h _ => ih _ (hstep_lt h x)
  exact this _ (by unfold hash0; decide)
theorem hash_none (l : List UInt8) : hash0 = hashN (l.take 0) := by rw [hashN, List.take_zero, List.foldl_nil]
theorem hash_snoc {l : List UInt8} {k : Nat} (hlt : k < l.length) : hashN (l.take (k + 1)) = hstep (hashN (l.take k)) l[k] := by
  rw [hashN, hashN, List.take_succ_eq_append_getElem hlt, List.foldl_append, List.foldl_cons, List.foldl_nil]
theorem hash_spec (l : List UInt8) (b : Option Bool) (hl : l.length ≤ 1000000000) : FnP Tryz.prog 24 [.sl b l.length (bytesP l)] (· = .int .u64 (hashN l : Int)) := by
  refine FnP.of Tryz.func24 rfl Tryz.ntmps24 (by simp) fun m0 w0 F R0 => ?_
  repeat refine AW.seq ?_
  refine AW.region ?_
  refine A1 rfl ?_
  have h00 := congrArg (fun i : Int => V.pv (.int .u64 i)) (hash0_cast.trans (congrArg (fun n : Nat => (n : Int)) (hash_none l)))
  repeat refine AW.seq ?_
  refine AW.region ?_
  refine RL.step (d := some 3) rfl rfl (XJ.cast (v' := .pv (.int .u64 (hashN (l.take 0) : Int))) xj_assign h00) ?_
  repeat refine AW.seq ?_
  refine AW.region ?_
  iterate 3 refine A1 rfl ?_
  repeat refine AW.seq ?_
  refine AW.block ?_
  repeat refine AW.seq ?_
  refine AW.loop (st := fun x_0 : Nat => mkS [(3, .pv (.int .u64 (hashN (l.take x_0) : Int))), (6, .pv (.sl b l.length (bytesP l))), (7, .pv (.int .i64 l.length)), (8, .pv (.int .i64 x_0))] [] 0)
    (I := fun x_0 => x_0 ≤ l.length) (μ := fun x_0 => l.length - x_0) (x0 := (0)) (St.le_mk ⟨rfl, rfl, rfl, rfl, trivial⟩ trivial rfl rfl) (Nat.zero_le _) ?_
  rintro k hk
  repeat refine AW.seq ?_
  refine AW.region ?_
  refine A1 rfl ?_
  repeat refine AW.seq ?_
  refine AW.condP rfl (fun hc9 => ?_) (fun hc9 => ?_)
  · have hlt : k < l.length := by omega
    have hv := bytesP_at hlt
    have hne := bytesP_ne hlt
    have hs := congrArg (fun n : Nat => V.pv (.int .u64 (n : Int))) (hash_snoc hlt).symm
    have hcs := congrArg (fun i : Int => V.pv (.int .u64 i)) (hstep_cast (hashN (l.take k)) l[k])
    refine AW.skip ?_
    repeat refine AW.seq ?_
    refine AW.block ?_
    repeat refine AW.seq ?_
    refine AW.region ?_
    refine A1 rfl ?_
    first | refine A2 rfl (by assumption) ?_ | refine A1 rfl ?_
    refine A1 rfl ?_
    repeat refine AW.seq ?_
    refine AW.region ?_
    iterate 2 refine A1 rfl ?_
    refine RL.step (d := some 14) rfl rfl (xj_conv Tryz.underlying5 Tryz.underlying54 rfl) ?_
    refine RL.step (d := some 15) rfl rfl (xj_bin rfl rfl rfl) ?_
    refine RL.step (d := some 16) rfl rfl (XJ.cast (v' := .pv (.int .u64 (hashN (l.take (k + 1)) : Int))) (xj_bin rfl rfl rfl) (hcs.trans hs)) ?_
    refine A1 rfl ?_
    repeat refine AW.seq ?_
    refine AW.region ?_
    iterate 2 refine A1 rfl ?_
    exact ⟨(k + 1), St.le_mk ⟨rfl, rfl, rfl, rfl, trivial⟩ trivial rfl rfl, by omega, by omega⟩
  · have hke : l.take k = l := List.take_of_length_le (by omega)
    repeat refine AW.seq ?_
    refine AW.exit ?_
    repeat refine AW.seq ?_
    refine AW.region ?_
    iterate 2 refine A1 rfl ?_
    repeat refine AW.seq ?_
    refine AW.ret ?_
    exact ⟨_, _, rfl, rfl, congrArg (fun l => PV.int .u64 (hashN l : Int)) hke⟩
/-- A cofactor, a progress. -/
structure Cof where
  n : ByteArray
  s : List Trm
  q : List Prr
structure Pgs where
  job : Int
  done : Int
  sum : Cof
abbrev cofC (c : Cof) : List PV := [.str c.n, .sl none c.s.length (trmsC c.s), .sl none c.q.length (prrsC c.q)]
abbrev pgsC (p : Pgs) : List PV := [.int .i64 p.job, .int .i64 p.done, .str p.sum.n, .sl none p.sum.s.length (trmsC p.sum.s), .sl none p.sum.q.length (prrsC p.sum.q)]
structure COk (c : Cof) : Prop where
  n : ROk c.n
  s : ∀ t ∈ c.s, POk t.p ∧ ROk t.v
  q : ∀ t ∈ c.q, POk t.a ∧ POk t.b ∧ ROk t.v
  sl : c.s.length ≤ 100000
  ql : c.q.length ≤ 100000
/-- ring.Valid. -/
def cvalid (c : Cof) : Bool := rvalid c.n && (!c.s.any badT && (!c.q.any badQ && (ascL lessT c.s && ascL lessQ c.q)))
theorem cvalid_spec (c : Cof) (h : COk c) : FnP Tryz.prog 21 [.agg (cofC c)] (· = .bool (cvalid c)) := by
  refine FnP.of Tryz.func21 rfl Tryz.ntmps21 (by simp) fun m0 w0 F R0 => ?_
  have hv := rvalid_spec c.n h.n.1 h.n.2
  have h1 := containsTrm_spec c.s 38 badT (by have := h.sl; omega) Tryz.call38 (fun t ht => badt_spec t (h.s t ht))
  have h2 := containsPrr_spec c.q 42 badQ (by have := h.ql; omega) Tryz.call42 (fun t ht => badq_spec t (h.q t ht))
  have h3 := ascTrm_spec c.s 45 lessT (by have := h.sl; omega) Tryz.call45 lesst_spec
  have h4 := ascPrr_spec c.q 47 lessQ (by have := h.ql; omega) Tryz.call47 pairs_spec
  repeat refine AW.seq ?_
  refine AW.region ?_
  iterate 2 refine A1 rfl ?_
  repeat refine AW.seq ?_
  refine AW.region ?_
  iterate 2 refine A1 rfl ?_
  refine RL.step (d := some 5) rfl rfl (xj_call Tryz.call36 hv rfl) ?_
  refine A1 rfl ?_
  repeat refine AW.seq ?_
  refine AW.cond rfl (fun hc6 => ?_) (fun hc6 => ?_)
  · repeat refine AW.seq ?_
    refine AW.region ?_
    refine A1 rfl ?_
    repeat refine AW.seq ?_
    refine AW.ret ?_
    exact ⟨_, _, rfl, rfl, congrArg PV.bool (by simp at hc6; rw [cvalid, hc6]; rfl)⟩
  · refine AW.skip ?_
    repeat refine AW.seq ?_
    refine AW.region ?_
    iterate 2 refine A1 rfl ?_
    refine RL.step (d := some 9) rfl rfl (xj_call Tryz.call37 h1 rfl) ?_
    repeat refine AW.seq ?_
    refine AW.cond rfl (fun hc9 => ?_) (fun hc9 => ?_)
    · repeat refine AW.seq ?_
      refine AW.region ?_
      refine A1 rfl ?_
      repeat refine AW.seq ?_
      refine AW.ret ?_
      exact ⟨_, _, rfl, rfl, congrArg PV.bool (by rw [cvalid, hc9]; simp)⟩
    · refine AW.skip ?_
      repeat refine AW.seq ?_
      refine AW.region ?_
      iterate 2 refine A1 rfl ?_
      refine RL.step (d := some 12) rfl rfl (xj_call Tryz.call41 h2 rfl) ?_
      repeat refine AW.seq ?_
      refine AW.cond rfl (fun hc12 => ?_) (fun hc12 => ?_)
      · repeat refine AW.seq ?_
        refine AW.region ?_
        refine A1 rfl ?_
        repeat refine AW.seq ?_
        refine AW.ret ?_
        exact ⟨_, _, rfl, rfl, congrArg PV.bool (by rw [cvalid, hc12]; simp)⟩
      · refine AW.skip ?_
        repeat refine AW.seq ?_
        refine AW.region ?_
        iterate 2 refine A1 rfl ?_
        refine RL.step (d := some 15) rfl rfl (xj_call Tryz.call44 h3 rfl) ?_
        refine A1 rfl ?_
        apply RL.andB 4 16 20 [17, 18, 19] rfl (by first | exact MonoK.le | exact MonoK.aw | exact MonoK.back)
        · intro hb3
          iterate 2 refine A1 rfl ?_
          refine RL.stepG (d := some 19) rfl rfl rfl (xj_call Tryz.call46 h4 rfl) ?_
          refine A1 rfl ?_
          exact St.le_fg (fEq.upd (fEq.upd (fEq.upd (fEq.upd (fEq.upd (fEq.refl) rfl) rfl) rfl) rfl) rfl) rfl rfl rfl
        · intro hb3
          iterate 4 refine A1 rfl ?_
          exact St.le_fg (fEq.upd (fEq.upd (fEq.upd (fEq.upd (fEq.upd (fEq.refl) rfl) rfl) rfl) rfl) rfl) rfl rfl rfl
        refine A1 rfl ?_
        repeat refine AW.seq ?_
        refine AW.ret ?_
        exact ⟨_, _, rfl, rfl, congrArg PV.bool (by simp at hc6; rw [cvalid, hc6, hc9, hc12]; rfl)⟩
end Go.Proofs.YtopjkdddicgajaaGreatDoor
