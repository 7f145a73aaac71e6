/-
  Walks of slices.Repeat, at lists of one element, and of acyclic.all.
-/
import Derived.Test.YtopblgabadljdaaAcyc
import Derived.Laws.CopyOwn
import Derived.Deep.RegionLaw
namespace Go.Proofs.Ytopblgabadljdaa
open Go.RowKit

theorem mul64_any (n : Nat) (hn : n ≤ 1000) (w : World) : Calls Try.prog 71 #[.int .u64 1, .int .u64 n] w fun e w' => e = .returned (.tuple #[.int .u64 0, .int .u64 n]) ∧ w = w' := by
  have f1 : bits BinOp.and IntKind.u64 1 4294967295 = 1 := by decide
  have f2 : bits BinOp.and IntKind.u64 (n : Int) 4294967295 = (n : Int) := by
    have := u64_and_nat n 4294967295 (by omega) (by omega)
    rw [show ((4294967295 : Nat) : Int) = 4294967295 from rfl] at this
    rw [this, show (4294967295 : Nat) = 2 ^ 32 - 1 by decide, Nat.and_two_pow_sub_one_eq_mod, Nat.mod_eq_of_lt (by omega)]
  have f3 : bits BinOp.and IntKind.u64 0 4294967295 = 0 := by decide
  have f4 : (n : Int) / 4294967296 = 0 := by omega
  have f5 : IntKind.u64.wrap (n : Int) = (n : Int) := by
    simp only [IntKind.wrap, IntKind.bits, IntKind.signed]
    simp
    omega
  have f6 : IntKind.u64.wrap 0 = 0 := by decide
  go_enter Try.func71, Try.ntmps71
  go_wp2
  go_ret2
  exact ⟨rfl, rfl⟩

theorem mul_any (n : Nat) (hn : n ≤ 1000) (w : World) : Calls Try.prog 65 #[.int .u64 1, .int .u64 n] w fun e w' => e = .returned (.tuple #[.int .u64 0, .int .u64 n]) ∧ w = w' := by
  go_enter Try.func65, Try.ntmps65
  go_wp2_with (go_at_call 71; go_must (refine (mul64_any n hn w).mono ?_; rintro e w1 ⟨rfl, rfl⟩))
  go_ret2
  exact ⟨rfl, rfl⟩

theorem own_full {w : World} {base : Nat} {e : TypeId} {g n : Nat} {xs : List Value} (h : w.ownsRow base e 1 (.slice (some ⟨g, 0, none⟩) n n) n xs) : w.heap[g]? = some (.cells xs.toArray e (0, 0)) := by
  rcases h.2 with ⟨h', _⟩ | ⟨g', cap, cur, h', _, hg, _, _, hs, ht⟩
  · simp at h'
  · simp only [Value.slice.injEq, Option.some.injEq, Addr.mk.injEq, and_true, true_and] at h'
    obtain ⟨rfl, rfl⟩ := h'
    rw [List.take_of_length_le (by rw [Array.length_toList, hs]; exact Nat.le_refl _)] at ht
    rw [hg, ← ht]
theorem full_own {w : World} {base : Nat} {e : TypeId} {g n : Nat} {xs : List Value} (h : w.heap[g]? = some (.cells xs.toArray e (0, 0))) (hb : base ≤ g) (hl : xs.length = n) (hm : n ≤ maxLen) : w.ownsRow base e 1 (.slice (some ⟨g, 0, none⟩) n n) n xs :=
  ⟨by simp [hl], .inr ⟨g, n, xs.toArray, rfl, hb, h, Nat.le_refl _, hm, by simp [hl], by rw [Nat.mul_one, ← hl]; exact List.take_length⟩⟩
/-- q elements x, then zeros z. -/
def repL (x z : Value) (n q : Nat) : List Value := List.replicate q x ++ List.replicate (n - q) z
theorem repL_len (x z : Value) (n q : Nat) (h : q ≤ n) : (repL x z n q).length = n := by simp [repL]; omega
theorem repL_splice (x z : Value) (n q m : Nat) (h : q + m ≤ n) : splice (repL x z n q) q (List.replicate m x) = repL x z n (q + m) := by
  unfold splice repL
  rw [List.take_append_of_le_length (by simp), List.take_of_length_le (by simp), List.drop_append, List.length_replicate, List.length_replicate]
  rw [List.drop_eq_nil_of_le (by simp), List.nil_append, List.drop_replicate, show n - q - (q + m - q) = n - (q + m) by omega, ← List.append_assoc, List.replicate_append_replicate]

set_option maxRecDepth 100000 in
set_option maxHeartbeats 400000 in
theorem repB_any (b off c : Nat) (x : Bool) (n : Nat) (hn : n ≤ 1000) (w : World) (hx : w.cell? ⟨b, off, none⟩ = some (Value.bool x)) (hb : b < w.heap.size) :
    Calls Try.prog 58 #[.slice (some ⟨b, off, none⟩) 1 c, .int .i64 n] w fun e w' =>
      ∃ v, e = .returned v ∧ w'.ownsRow w.heap.size 4 1 v n ((List.replicate n x).map (Value.bool)) ∧ Below w.heap.size w w' := by
  obtain ⟨ib, hib, hz0, hz1, hz2⟩ := info_parts Try.infoBool
  have hcell0 : ∀ W : World, Below w.heap.size w W → W.cell? ⟨b, off, none⟩ = some (Value.bool x) := fun W hW => by rw [hW.cell (p := ⟨b, off, none⟩) hb]; exact hx
  have HC0 := Lib.hid hcell0
  have hdn : decide ((n : Int) < 0) = false := by simp
  have hdb : decide (9223372036854775807 < (n : Int)) = false := by simp; omega
  clear hcell0 hx
  go_enter Try.func58, Try.ntmps58
  go_wp2_with (first
    | (go_at_call 65; go_must (refine (mul_any n hn w).mono ?_; rintro e w1 ⟨rfl, rfl⟩))
    | (at_make
       go_must (
        refine wpList_make_full _ rfl _ _ 36 rfl w.heap.size 4 ib (Value.bool false) 1 Try.underlying36 hib hz0 hz1 _ _ _ _ n rfl rfl rfl rfl (by rw [hz2]; omega) (by simp [maxLen]; omega) (by simp) ?_
        intro w1 hown1 hg1
        rw [made_one (Value.bool false) rfl] at hown1
        have hfull : Hid (w1.heap[w.heap.size]? = some (.cells (repL (Value.bool x) (Value.bool false) n 0).toArray 4 (0, 0))) := Lib.hid (own_full hown1)
        have hbel1 := ext_of_grown hg1
        clear hown1 hg1))
    | (with_reducible refine wpList_copy_splice rfl (.tmp 31) (.tmp 32) 36 36 rfl 4 Try.underlying36 (by kernel_rfl) (some ⟨w.heap.size, 0, none⟩) (some ⟨b, off, none⟩) n n 1 c rfl rfl w.heap.size 0 (repL (Value.bool x) (Value.bool false) n 0) 4 hfull.out (List.replicate (min 1 n) (Value.bool x)) ?c1 ?c2 ?c3 ?c4 w.heap.size w hbel1 (Nat.le_refl _) ?_))
  case c1 => simp
  case c2 =>
    intro _ j v hj
    have hj0 : j = 0 := by have := (List.getElem?_eq_some_iff.1 hj).1; simp at this; omega
    subst hj0
    have : v = Value.bool x := by have := List.mem_of_getElem? hj; simp at this; exact this.2
    rw [this]
    exact HC0.out w1 hbel1
  case c3 => rw [repL_len _ _ _ _ (by omega)]; simp; omega
  case c4 => intro v hv; rw [(List.mem_replicate.1 hv).2]; rfl
  rw [repL_splice _ _ _ _ _ (by omega)]
  intro w2 hfull2 hbel2
  clear hfull hbel1 hdn hdb
  have hmin : ∃ q : Nat, min 1 n = q ∧ q ≤ n ∧ (1 ≤ q ∨ n ≤ q) := ⟨_, rfl, by omega, by omega⟩
  obtain ⟨q0, hq0, hq1, hq2⟩ := hmin
  rw [hq0, Nat.zero_add] at hfull2
  rw [hq0]
  clear hq0
  go_wp2
  go_loopw [8] (fun i wr => ∃ q : Nat, q ≤ n ∧ (1 ≤ q ∨ n ≤ q) ∧ i = .int .i64 q ∧ Hid (wr.heap[w.heap.size]? = some (.cells (repL (Value.bool x) (Value.bool false) n q).toArray 4 (0, 0))) ∧ Below w.heap.size w wr) (fun i _ => n - (intOf i).toNat)
  case atStart => exact ⟨q0, hq1, hq2, rfl, hfull2, hbel2⟩
  case round =>
    clear hfull2 hbel2 hq1 hq2
    obtain ⟨q, hq1, hq2, rfl, hfull, hbel⟩ := hrel
    by_cases hlt : q < n
    · have hq3 : 1 ≤ q := by omega
      have i1 : (0 : Int) ≤ (q : Int) := by omega
      have i2 : (q : Int) ≤ (n : Int) := by omega
      have hmin : ∃ m : Nat, min q (n - q) = m ∧ 1 ≤ m ∧ q + m ≤ n ∧ m ≤ q := ⟨_, rfl, by omega, by omega, by omega⟩
      obtain ⟨m, hm, hm1, hm2, hm3⟩ := hmin
      have hsp := repL_splice (Value.bool x) (Value.bool false) n q m hm2
      have HSP := Lib.hid hsp
      have HM := Lib.hid hm
      have i3 : IntKind.i64.wrap ((q : Int) + (m : Int)) = (q : Int) + (m : Int) := IntWalk.i64_in _ (by omega)
      have hsz := hbel.size
      have hpos : ∀ j v, (List.replicate m (Value.bool x))[j]? = some v → wr.cell? ⟨w.heap.size, j, none⟩ = some v := by
        intro j v hj
        have hj1 := (List.getElem?_eq_some_iff.1 hj).1
        rw [List.length_replicate] at hj1
        have hv : v = Value.bool x := (List.mem_replicate.1 (List.mem_of_getElem? hj)).2
        rw [cell_of_row wr w.heap.size j _ _ _ hfull.out, hv]
        simp only [List.getElem?_toArray, repL]
        rw [List.getElem?_append_left (by rw [List.length_replicate]; omega), List.getElem?_replicate, if_pos (by omega)]
      have HPOS := Lib.hid hpos
      clear hsp hm hpos
      go_wp2
      go_region_law ((refine step_copy_splice rfl (.tmp 41) (.tmp 44) 36 36 rfl 4 Try.underlying36 (by kernel_rfl) (some ⟨w.heap.size, q, none⟩) (some ⟨w.heap.size, 0, none⟩) (n - q) (n - q) q n (by simp [Act.eval, Act.put]; omega) (by simp [Act.eval, Act.put]) w.heap.size q (repL (Value.bool x) (Value.bool false) n q) 4 (by exact hfull.out) (List.replicate m (Value.bool x)) (by rw [List.length_replicate]; exact HM.out.symm) (by exact fun _ => ⟨rfl, _, rfl, fun j v hj => by rw [Addr.add_lit, Nat.zero_add]; exact HPOS.out j v hj⟩) (by rw [repL_len _ _ _ _ hq1, List.length_replicate]; omega) (by intro v hv; rw [(List.mem_replicate.1 hv).2]; rfl) w.heap.size w (by exact below_drewN hbel 1) (Nat.le_refl _) ?_); intro w2 hf2 hb2)
      go_wp2
      exact ⟨⟨q + m, by omega, by omega, by omega, by rw [← HSP.out]; exact hf2⟩, by simp [intOf]; omega⟩
    · obtain rfl : q = n := by omega
      have hd : decide (q < q) = false := by simp
      go_wp2
      go_ret
      refine ⟨_, rfl, ?_, hbel⟩
      have h := hfull.out
      rw [show repL (Value.bool x) (Value.bool false) q q = (List.replicate q x).map (Value.bool) by simp [repL]] at h
      exact full_own h (Nat.le_refl _) (by simp) (by simp [maxLen]; omega)

set_option maxRecDepth 100000 in
set_option maxHeartbeats 400000 in
theorem repI_any (b off c : Nat) (x : Int) (n : Nat) (hn : n ≤ 1000) (w : World) (hx : w.cell? ⟨b, off, none⟩ = some (Value.int .i64 x)) (hb : b < w.heap.size) :
    Calls Try.prog 53 #[.slice (some ⟨b, off, none⟩) 1 c, .int .i64 n] w fun e w' =>
      ∃ v, e = .returned v ∧ w'.ownsRow w.heap.size 3 1 v n ((List.replicate n x).map (Value.int .i64)) ∧ Below w.heap.size w w' := by
  obtain ⟨ib, hib, hz0, hz1, hz2⟩ := info_parts Try.infoInt
  have hcell0 : ∀ W : World, Below w.heap.size w W → W.cell? ⟨b, off, none⟩ = some (Value.int .i64 x) := fun W hW => by rw [hW.cell (p := ⟨b, off, none⟩) hb]; exact hx
  have HC0 := Lib.hid hcell0
  have hdn : decide ((n : Int) < 0) = false := by simp
  have hdb : decide (9223372036854775807 < (n : Int)) = false := by simp; omega
  clear hcell0 hx
  go_enter Try.func53, Try.ntmps53
  go_wp2_with (first
    | (go_at_call 65; go_must (refine (mul_any n hn w).mono ?_; rintro e w1 ⟨rfl, rfl⟩))
    | (at_make
       go_must (
        refine wpList_make_full _ rfl _ _ 22 rfl w.heap.size 3 ib (Value.int .i64 0) 1 Try.underlying22 hib hz0 hz1 _ _ _ _ n rfl rfl rfl rfl (by rw [hz2]; omega) (by simp [maxLen]; omega) (by simp) ?_
        intro w1 hown1 hg1
        rw [made_one (Value.int .i64 0) rfl] at hown1
        have hfull : Hid (w1.heap[w.heap.size]? = some (.cells (repL (Value.int .i64 x) (Value.int .i64 0) n 0).toArray 3 (0, 0))) := Lib.hid (own_full hown1)
        have hbel1 := ext_of_grown hg1
        clear hown1 hg1))
    | (with_reducible refine wpList_copy_splice rfl (.tmp 31) (.tmp 32) 22 22 rfl 3 Try.underlying22 (by kernel_rfl) (some ⟨w.heap.size, 0, none⟩) (some ⟨b, off, none⟩) n n 1 c rfl rfl w.heap.size 0 (repL (Value.int .i64 x) (Value.int .i64 0) n 0) 3 hfull.out (List.replicate (min 1 n) (Value.int .i64 x)) ?c1 ?c2 ?c3 ?c4 w.heap.size w hbel1 (Nat.le_refl _) ?_))
  case c1 => simp
  case c2 =>
    intro _ j v hj
    have hj0 : j = 0 := by have := (List.getElem?_eq_some_iff.1 hj).1; simp at this; omega
    subst hj0
    have : v = Value.int .i64 x := by have := List.mem_of_getElem? hj; simp at this; exact this.2
    rw [this]
    exact HC0.out w1 hbel1
  case c3 => rw [repL_len _ _ _ _ (by omega)]; simp; omega
  case c4 => intro v hv; rw [(List.mem_replicate.1 hv).2]; rfl
  rw [repL_splice _ _ _ _ _ (by omega)]
  intro w2 hfull2 hbel2
  clear hfull hbel1 hdn hdb
  have hmin : ∃ q : Nat, min 1 n = q ∧ q ≤ n ∧ (1 ≤ q ∨ n ≤ q) := ⟨_, rfl, by omega, by omega⟩
  obtain ⟨q0, hq0, hq1, hq2⟩ := hmin
  rw [hq0, Nat.zero_add] at hfull2
  rw [hq0]
  clear hq0
  go_wp2
  go_loopw [8] (fun i wr => ∃ q : Nat, q ≤ n ∧ (1 ≤ q ∨ n ≤ q) ∧ i = .int .i64 q ∧ Hid (wr.heap[w.heap.size]? = some (.cells (repL (Value.int .i64 x) (Value.int .i64 0) n q).toArray 3 (0, 0))) ∧ Below w.heap.size w wr) (fun i _ => n - (intOf i).toNat)
  case atStart => exact ⟨q0, hq1, hq2, rfl, hfull2, hbel2⟩
  case round =>
    clear hfull2 hbel2 hq1 hq2
    obtain ⟨q, hq1, hq2, rfl, hfull, hbel⟩ := hrel
    by_cases hlt : q < n
    · have hq3 : 1 ≤ q := by omega
      have i1 : (0 : Int) ≤ (q : Int) := by omega
      have i2 : (q : Int) ≤ (n : Int) := by omega
      have hmin : ∃ m : Nat, min q (n - q) = m ∧ 1 ≤ m ∧ q + m ≤ n ∧ m ≤ q := ⟨_, rfl, by omega, by omega, by omega⟩
      obtain ⟨m, hm, hm1, hm2, hm3⟩ := hmin
      have hsp := repL_splice (Value.int .i64 x) (Value.int .i64 0) n q m hm2
      have HSP := Lib.hid hsp
      have HM := Lib.hid hm
      have i3 : IntKind.i64.wrap ((q : Int) + (m : Int)) = (q : Int) + (m : Int) := IntWalk.i64_in _ (by omega)
      have hsz := hbel.size
      have hpos : ∀ j v, (List.replicate m (Value.int .i64 x))[j]? = some v → wr.cell? ⟨w.heap.size, j, none⟩ = some v := by
        intro j v hj
        have hj1 := (List.getElem?_eq_some_iff.1 hj).1
        rw [List.length_replicate] at hj1
        have hv : v = Value.int .i64 x := (List.mem_replicate.1 (List.mem_of_getElem? hj)).2
        rw [cell_of_row wr w.heap.size j _ _ _ hfull.out, hv]
        simp only [List.getElem?_toArray, repL]
        rw [List.getElem?_append_left (by rw [List.length_replicate]; omega), List.getElem?_replicate, if_pos (by omega)]
      have HPOS := Lib.hid hpos
      clear hsp hm hpos
      go_wp2
      go_region_law ((refine step_copy_splice rfl (.tmp 41) (.tmp 44) 22 22 rfl 3 Try.underlying22 (by kernel_rfl) (some ⟨w.heap.size, q, none⟩) (some ⟨w.heap.size, 0, none⟩) (n - q) (n - q) q n (by simp [Act.eval, Act.put]; omega) (by simp [Act.eval, Act.put]) w.heap.size q (repL (Value.int .i64 x) (Value.int .i64 0) n q) 3 (by exact hfull.out) (List.replicate m (Value.int .i64 x)) (by rw [List.length_replicate]; exact HM.out.symm) (by exact fun _ => ⟨rfl, _, rfl, fun j v hj => by rw [Addr.add_lit, Nat.zero_add]; exact HPOS.out j v hj⟩) (by rw [repL_len _ _ _ _ hq1, List.length_replicate]; omega) (by intro v hv; rw [(List.mem_replicate.1 hv).2]; rfl) w.heap.size w (by exact below_drewN hbel 1) (Nat.le_refl _) ?_); intro w2 hf2 hb2)
      go_wp2
      exact ⟨⟨q + m, by omega, by omega, by omega, by rw [← HSP.out]; exact hf2⟩, by simp [intOf]; omega⟩
    · obtain rfl : q = n := by omega
      have hd : decide (q < q) = false := by simp
      go_wp2
      go_ret
      refine ⟨_, rfl, ?_, hbel⟩
      have h := hfull.out
      rw [show repL (Value.int .i64 x) (Value.int .i64 0) q q = (List.replicate q x).map (Value.int .i64) by simp [repL]] at h
      exact full_own h (Nat.le_refl _) (by simp) (by simp [maxLen]; omega)

theorem own_mono {w : World} {base base' : Nat} {e : TypeId} {size n : Nat} {v : Value} {xs : List Value} (h : w.ownsRow base e size v n xs) (hb : base' ≤ base) : w.ownsRow base' e size v n xs := by
  refine ⟨h.1, ?_⟩
  rcases h.2 with h2 | ⟨g, cap, cur, h1, h2, h3⟩
  · exact .inl h2
  · exact .inr ⟨g, cap, cur, h1, by omega, h3⟩
theorem new2_cell (w : World) (o : Obj) (u : Value) (t : TypeId) : ((w.alloc o).alloc (.cells #[u] t)).cell? ⟨w.heap.size + 1, 0, none⟩ = some u := by
  have := (Blk.new (w.alloc o) t #[u]).cell 0
  rw [World.size_alloc] at this
  exact this

set_option maxHeartbeats 400000 in
theorem all_any (v : Value) (S : Sch) (w : World) {R : Nat → Prop} (h : SchAt w R v S) (hn : S.rels.length ≤ 1000) :
    Calls Try.prog 41 #[v] w fun e w' => ∃ v', e = .returned v' ∧ w'.ownsRow w.heap.size 4 1 v' S.rels.length (bools (List.replicate S.rels.length true)) ∧ Below w.heap.size w w' := by
  obtain ⟨A1, c1, A2, c2, A3, c3, rfl, l1, l2, l3, h1, h2, h3⟩ := h
  clear h1 h2 h3 l1 l2 l3
  go_enter Try.func41, Try.ntmps41
  go_wp2_with (
    go_at_call 58
    go_must (
      refine (repB_any (w.heap.size + 1) 0 1 true S.rels.length hn _ (by exact new2_cell ..) (by simp)).mono ?_
      rintro e w1 ⟨v', rfl, hown1, hb1⟩
      have hown2 := own_mono hown1 (base' := w.heap.size) (by simp; omega)
      have hb2 : Below w.heap.size w w1 := ext_trans (((Below.refl _ _).alloc (Nat.le_refl _) _).alloc (by simp) _) hb1
      clear hown1 hb1))
  go_ret
  exact ⟨_, rfl, hown2, hb2⟩

end Go.Proofs.Ytopblgabadljdaa
