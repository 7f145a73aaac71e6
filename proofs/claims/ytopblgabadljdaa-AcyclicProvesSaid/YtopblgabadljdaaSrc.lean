/-
  Walks of the source of numbers (joinlearnmake.Src): what N, Range, Some give out.
-/
import Derived.Test.YtopblgabadljdaaLeaf
namespace Go.Proofs.Ytopblgabadljdaa
open Go.RowKit

/-- Block bs is a source whose numbers still to come are r. -/
def SrcAt (w : World) (bs : Nat) (r : List Int) : Prop :=
  ∃ (A : Option Addr) (c : Nat) (L : List Int) (k : Nat), Blk w bs 66 #[.slice A L.length c, .int .i64 k] ∧ k ≤ L.length ∧ r = L.drop k ∧ L.length ≤ 600 ∧
    Row w (· < bs) A (ints L)

/-- The number that N gives. -/
def nxt (r : List Int) (n : Int) : Int := match r with | [] => 0 | x :: _ => x % n

theorem nxt_bd (r : List Int) (n : Int) (h : 1 ≤ n) : 0 ≤ nxt r n ∧ nxt r n < n := by
  unfold nxt
  split
  · omega
  · exact ⟨Int.emod_nonneg _ (by omega), Int.emod_lt_of_pos _ (by omega)⟩

set_option maxHeartbeats 400000 in
theorem n_any (bs : Nat) (r : List Int) (n : Int) (w : World) (h : SrcAt w bs r) (h1 : 1 ≤ n) (h2 : n ≤ 1000000) :
    Calls Try.prog 25 #[.pointer (some ⟨bs, 0, none⟩), .int .i64 n] w fun e w' => e = .returned (.int .i64 (nxt r n)) ∧ SrcAt w' bs r.tail ∧ w.grownBy w' (some bs) := by
  obtain ⟨A, c, L, k, hb, hk, hr, hL, hrow⟩ := h
  have hc0 := hb.cell 0
  have hc1 := hb.cell 1
  have hfz := hb.frozen 1
  simp at hc0 hc1
  have HB := Lib.hid hb
  have HR := Lib.hid hr
  clear hb hr
  by_cases hlt : k < L.length
  · obtain ⟨b, off, rfl, hbl, hck⟩ := hrow.int_at hlt
    go_enter Try.func25, Try.ntmps25
    go_wp2
    go_quiet (fail)
    go_wp2
    obtain ⟨W, hW⟩ : ∃ W, W = (w.drewN nq).setCell ⟨bs, 1, none⟩ (.int .i64 ((k : Int) + 1)) := ⟨_, rfl⟩
    rw [← hW]
    have hB2 := ((HB.out).drewN nq).set 1 (.int .i64 ((k : Int) + 1))
    rw [← hW] at hB2
    have e0 := hB2.cell 0
    have e1 := hB2.cell 1
    simp at e0 e1
    have hrow2 : Row W (· < bs) (some ⟨b, off, none⟩) (ints L) := by rw [hW]; exact (hrow.drewN nq).setCell (fun b e => Nat.ne_of_lt e) _
    have e2 : W.cell? ⟨b, off + k, none⟩ = some (.int .i64 L[k]) := by
      obtain ⟨b', off', hbo, _, hc⟩ := hrow2.int_at hlt
      simp at hbo
      rw [hbo.1, hbo.2]; exact hc
    have hgw : w.grownBy W (some bs) := by rw [hW]; exact grown_set (grown_drewN (World.grownBy.refl w _) nq) (.inl rfl) _
    have HB2 := Lib.hid hB2
    have HW := Lib.hid hW
    clear hW hc0 hc1 hck hB2
    have i1 : IntKind.i64.wrap ((k : Int) + 1 - 1) = (k : Int) := by rw [show ((k : Int) + 1 - 1) = k by omega]; exact IntWalk.i64_in _ (by omega)
    have i2 : (0 : Int) ≤ (k : Int) := by omega
    have i3 : (k : Int) < (L.length : Int) := by omega
    go_quiet ((go_at_call 48; exact quiet_left (mod_any _ _ _ h1 h2)))
    go_wp2
    go_ret
    refine ⟨ret_int ?_, ?_, ?_⟩
    · rw [HR.out, List.drop_eq_getElem_cons hlt]; rfl
    · refine ⟨some ⟨b, off, none⟩, c, L, k + 1, ?_, by omega, by rw [HR.out, List.tail_drop], hL, hrow2⟩
      exact HB2.out
    · exact grown_drewN hgw _
  · go_enter Try.func25, Try.ntmps25
    go_wp2
    go_quiet (fail)
    go_wp2
    go_ret
    have hr0 : r = [] := by rw [HR.out]; exact List.drop_eq_nil_of_le (by omega)
    exact ⟨ret_int (by rw [hr0]; rfl), ⟨A, c, L, k, HB.out, hk, by rw [← HR.out, hr0]; rfl, hL, hrow⟩, grown_drewN (World.grownBy.refl w _) _⟩

theorem Try.infoInt : (Try.prog.info? 3).map (fun i => (i.zero, i.size, i.bytes)) = some (some (.int .i64 0), 1, 8) := by kernel_rfl

/-- The numbers that Some gives. -/
def someL (r : List Int) (n : Nat) (k : Int) : List Int := ((List.range n).filter fun j => nxt (r.drop j) k == k - 1).map Int.ofNat

theorem someL_len (r : List Int) (n : Nat) (k : Int) : (someL r n k).length ≤ n := by
  unfold someL
  rw [List.length_map]
  exact Nat.le_trans (List.length_filter_le _ _) (by simp)
theorem someL_yes {r : List Int} {n : Nat} {k : Int} (h : (nxt (r.drop n) k == k - 1) = true) : someL r (n + 1) k = someL r n k ++ [(n : Int)] := by
  simp [someL, List.range_succ, List.filter_append, h]
theorem someL_no {r : List Int} {n : Nat} {k : Int} (h : (nxt (r.drop n) k == k - 1) = false) : someL r (n + 1) k = someL r n k := by
  simp [someL, List.range_succ, List.filter_append, h]

theorem own_ne {w : World} {base bs size n : Nat} {e : TypeId} {v : Value} {xs : List Value} {r : List Int} (h : w.ownsRow base e size v n xs) (hs : SrcAt w bs r) (he : e ≠ 66) : v.ownBlock ≠ some bs := by
  obtain ⟨A, c, L, k, hb, _⟩ := hs
  exact own_ne_blk h hb he
theorem SrcAt.lt {w : World} {bs : Nat} {r : List Int} (h : SrcAt w bs r) : bs < w.heap.size := by
  obtain ⟨A, c, L, k, hb, _⟩ := h
  exact hb.lt
/-- A row that lies behind the source may grow. -/
theorem SrcAt.keep {w w' : World} {bs : Nat} {r : List Int} (h : SrcAt w bs r) {row : Option Nat} (hg : w.grownBy w' row) (h1 : ∀ g, row = some g → bs < g) : SrcAt w' bs r := by
  obtain ⟨A, c, L, k, hb, hk, hr, hL, hrow⟩ := h
  refine ⟨A, c, L, k, hb.grown hg (fun e => ?_), hk, hr, hL, hrow.grown hg (fun b hb2 _ e2 => ?_)⟩
  · have := h1 bs e.symm; omega
  · have := h1 b e2; omega
theorem own_after {w w0 : World} {bs size n : Nat} {e : TypeId} {v : Value} {xs : List Value} (h : w.ownsRow w0.heap.size e size v n xs) (hb : bs < w0.heap.size) : ∀ g, v.ownBlock = some g → bs < g :=
  fun g hg => by have := (h.lt g hg).1; omega
theorem own_new {w w0 : World} {size n : Nat} {e : TypeId} {v : Value} {xs : List Value} (h : w.ownsRow w0.heap.size e size v n xs) : ∀ g, v.ownBlock = some g → ¬ g < w0.heap.size :=
  fun g hg => by have := (h.lt g hg).1; omega

set_option maxHeartbeats 400000 in
theorem some_any (bs : Nat) (r : List Int) (n : Nat) (k : Int) (w : World) (h : SrcAt w bs r) (hn : n ≤ 1000) (h1 : 1 ≤ k) (h2 : k ≤ 1000000) :
    Calls Try.prog 32 #[.pointer (some ⟨bs, 0, none⟩), .int .i64 n, .int .i64 k] w fun e w' =>
      ∃ v, e = .returned v ∧ w'.ownsRow w.heap.size 3 1 v (someL r n k).length (ints (someL r n k)) ∧ SrcAt w' bs (r.drop n) ∧ w.grownBy w' (some bs) := by
  go_enter Try.func32, Try.ntmps32
  go_wp2
  go_loopw [7, 8] (fun v i wr => ∃ j : Nat, j ≤ n ∧ i = .int .i64 j ∧ wr.ownsRow w.heap.size 3 1 v (someL r j k).length (ints (someL r j k)) ∧ SrcAt wr bs (r.drop j) ∧ w.grownBy wr (some bs)) (fun _ i _ => n - (intOf i).toNat)
  case atStart => exact ⟨0, Nat.zero_le _, rfl, World.ownsRow_nil w _ _ _, h, World.grownBy.refl _ _⟩
  case round =>
    obtain ⟨j, hj, rfl, hown, hsrc, hg⟩ := hrel
    have hlen := someL_len r j k
    by_cases hlt : j < n
    · have hbd := nxt_bd (r.drop j) k h1
      cases htest : (nxt (r.drop j) k == k - 1)
      · go_wp2_with (go_at_call 25; refine (n_any bs (r.drop j) k _ hsrc h1 h2).mono ?_; rintro e w1 ⟨rfl, hsrc1, hg1⟩)
        refine ⟨⟨j + 1, by omega, by go_num, ?_⟩, by simp [intOf]; omega⟩
        rw [someL_no htest, ← List.tail_drop]
        exact ⟨hown.kept hg1 (.inr (own_ne hown hsrc (by decide))), hsrc1, grown_trans hg hg1 (fun _ h _ => h)⟩
      · go_wp2_with (first
          | (go_at_call 25; refine (n_any bs (r.drop j) k _ hsrc h1 h2).mono ?_; rintro e w1 ⟨rfl, hsrc1, hg1⟩)
          | (at_builtin; refine wpList_app rfl _ _ 22 rfl w.heap.size 3 (.int .i64 0) 1 8 Try.underlying22 Try.infoInt rfl (by decide) (by decide) _ (someL r j k).length 1 (ints (someL r j k)) rfl rfl rfl (hown.kept hg1 (.inr (own_ne hown hsrc (by decide)))) rfl (by simp; rfl) (by omega) (Nat.le_trans hg.size hg1.size) ?_; intro A2 c2 w2 hown2 hg2 hat2))
        refine ⟨⟨j + 1, by omega, by go_num, ?_⟩, by simp [intOf]; omega⟩
        rw [someL_yes htest, ← List.tail_drop]
        exact ⟨by simpa using hown2, hsrc1.keep hg2 (own_after hown h.lt), grown_trans (grown_trans hg hg1 (fun _ h _ => h)) hg2 (fun g e hlt => absurd hlt (own_new hown g e))⟩
    · go_wp2
      go_ret
      have : j = n := by omega
      subst this
      exact ⟨_, rfl, hown, hsrc, hg⟩

theorem new_any (A : Option Addr) (c : Nat) (l : List Int) (w : World) {R : Nat → Prop} (h : Row w R A (ints l)) (hl : l.length ≤ 300) (hc : l.length ≤ c) :
    Calls Try.prog 10 #[.slice A l.length c] w fun e w' => ∃ bs, e = .returned (.pointer (some ⟨bs, 0, none⟩)) ∧ SrcAt w' bs l ∧ w.heap.size ≤ bs ∧ Below w.heap.size w w' := by
  go_enter Try.func10, Try.ntmps10
  go_wp2
  go_ret
  refine ⟨w.heap.size, rfl, ?_, Nat.le_refl _, ?_⟩
  · exact ⟨A, c, l, 0, Blk.new w _ _, Nat.zero_le _, rfl, by omega, (h.mono fun b hb _ => hb).alloc _⟩
  · exact (Below.refl _ _).alloc (Nat.le_refl _) _

/-- (*Src).Range. -/
theorem range_any (bs : Nat) (r : List Int) (lo hi : Int) (w : World) (h : SrcAt w bs r) (h1 : lo ≤ hi) (h2 : -1000 ≤ lo) (h3 : hi ≤ 1000) :
    Calls Try.prog 16 #[.pointer (some ⟨bs, 0, none⟩), .int .i64 lo, .int .i64 hi] w fun e w' => e = .returned (.int .i64 (lo + nxt r (hi - lo + 1))) ∧ SrcAt w' bs r.tail ∧ w.grownBy w' (some bs) := by
  have hbd := nxt_bd r (hi - lo + 1) (by omega)
  go_enter Try.func16, Try.ntmps16
  go_wp2_with (go_at_call 25; refine (n_any bs r (hi - lo + 1) _ h (by omega) (by omega)).mono ?_; rintro e w1 ⟨rfl, hsrc1, hg1⟩)
  go_ret
  exact ⟨rfl, hsrc1, hg1⟩

end Go.Proofs.Ytopblgabadljdaa
