/-
  The walk of (*Src).Shuffle: it gives the numbers below n in some order.
-/
import Derived.Test.YtopblgabadljdaaSrc
import Derived.Deep.AppendLies
namespace Go.Proofs.Ytopblgabadljdaa
open Go.RowKit

/-- The numbers below n. -/
def upL (n : Nat) : List Int := (List.range n).map Int.ofNat
theorem upL_len (n : Nat) : (upL n).length = n := by simp [upL]
theorem upL_succ (n : Nat) : upL (n + 1) = upL n ++ [(n : Int)] := by simp [upL, List.range_succ]
theorem up_perm {n : Nat} {q : List Int} (h : q.Perm (upL n)) : ∃ p : List Nat, p.Perm (List.range n) ∧ q = p.map Int.ofNat := by
  refine ⟨q.map Int.toNat, ?_, ?_⟩
  · have h1 := h.map Int.toNat
    have h2 : (upL n).map Int.toNat = List.range n := by
      unfold upL
      rw [List.map_map]
      apply List.ext_getElem
      · simp
      · intro i h1 h2; simp
    rwa [h2] at h1
  · rw [List.map_map]
    apply List.ext_getElem
    · simp
    · intro i h1 h2
      have hm := h.mem_iff.1 (List.getElem_mem h1)
      unfold upL at hm
      obtain ⟨k, _, e⟩ := List.mem_map.1 hm
      simp [← e]
def swapL (q : List Int) (i k : Nat) : List Int := (q.set i (q.getD k 0)).set k (q.getD i 0)
theorem swap_perm {q : List Int} {i k : Nat} (hi : i < q.length) (hk : k < q.length) : (swapL q i k).Perm q := by
  unfold swapL
  simp only [List.getD, List.getElem?_eq_getElem hi, List.getElem?_eq_getElem hk, Option.getD_some]
  exact List.set_set_perm hi hk

set_option maxHeartbeats 400000 in
theorem shuffle_any (bs : Nat) (r : List Int) (n : Nat) (w : World) (h : SrcAt w bs r) (hn1 : 1 ≤ n) (hn : n ≤ 1000) :
    Calls Try.prog 14 #[.pointer (some ⟨bs, 0, none⟩), .int .i64 n] w fun e w' =>
      ∃ (A : Option Addr) (c : Nat) (p : List Nat), e = .returned (.slice A n c) ∧ p.Perm (List.range n) ∧ Row w' (w.heap.size ≤ ·) A (ints (p.map Int.ofNat)) ∧ w.grownBy w' (some bs) := by
  go_enter Try.func14, Try.ntmps14
  go_wp2
  go_loopw [5, 6] (fun v i wr => ∃ j : Nat, j ≤ n ∧ i = .int .i64 j ∧ wr.ownsRow w.heap.size 3 1 v (upL j).length (ints (upL j)) ∧ SrcAt wr bs r ∧ w.grownBy wr (some bs)) (fun _ i _ => n - (intOf i).toNat)
  case atStart => exact ⟨0, Nat.zero_le _, rfl, World.ownsRow_nil w _ _ _, h, World.grownBy.refl _ _⟩
  case round =>
    obtain ⟨j, hj, rfl, hown, hsrc, hg⟩ := hrel
    have hlen := upL_len j
    by_cases hlt : j < n
    · go_wp2_with (at_builtin; refine wpList_app rfl _ _ 22 rfl w.heap.size 3 (.int .i64 0) 1 8 Try.underlying22 Try.infoInt rfl (by decide) (by decide) _ (upL j).length 1 (ints (upL j)) rfl rfl rfl hown rfl (by simp; rfl) (by omega) hg.size ?_; intro A2 c2 w2 hown2 hg2 hat2)
      refine ⟨⟨j + 1, by omega, by go_num, ?_⟩, by simp [intOf]; omega⟩
      rw [upL_succ]
      exact ⟨by simpa [ints, upL_len] using hown2, hsrc.keep hg2 (own_after hown h.lt), grown_trans hg hg2 (fun g e hlt => absurd hlt (own_new hown g e))⟩
    · have : j = n := by omega
      subst this
      rw [hlen] at hown
      obtain ⟨g, cap, rfl, hgb, hgl⟩ := hown.form hn1
      obtain ⟨wo, rfl⟩ : ∃ wo : World, wo = wr := ⟨_, rfl⟩
      go_wp2
      go_loopw [7] (fun i wr => ∃ (k : Nat) (q : List Int) (r' : List Int), k < j ∧ i = .int .i64 k ∧ q.Perm (upL j) ∧ wr.ownsRow w.heap.size 3 1 (.slice (some ⟨g, 0, none⟩) j cap) j (ints q) ∧ SrcAt wr bs r' ∧ w.grownBy wr (some bs)) (fun i _ => (intOf i).toNat)
      case atStart => exact ⟨j - 1, upL j, r, by omega, by go_num, .refl _, hown, hsrc, hg⟩
      case round =>
        clear hown hsrc hg hlen
        obtain ⟨k, q, r', hk, rfl, hperm, hown, hsrc, hg⟩ := hrel
        have hql : q.length = j := by rw [hperm.length_eq, upL_len]
        by_cases hk0 : k = 0
        · subst hk0
          go_wp2
          go_ret
          obtain ⟨p, hp, rfl⟩ := up_perm hperm
          exact ⟨_, _, p, rfl, hp, (Row.of_own hown).mono fun b _ hb => hb.1, hg⟩
        · have hbd := nxt_bd r' ((k : Int) + 1) (by omega)
          obtain ⟨m, hm⟩ : ∃ m : Nat, nxt r' ((k : Int) + 1) = (m : Int) := ⟨(nxt r' ((k : Int) + 1)).toNat, by omega⟩
          have hmk : m ≤ k := by omega
          have ct := n_any bs r' ((k : Int) + 1) wr hsrc (by omega) (by omega)
          rw [hm] at ct
          have CT := Lib.hid ct
          clear ct hm hbd
          go_wp2_with (
            go_at_call 25
            go_must (
              refine CT.out.mono ?_
              rintro e w1 ⟨rfl, hsrc1, hg1⟩
              have hown1 := hown.kept hg1 (.inr (own_ne hown hsrc (by decide)))
              have c1 : w1.cell? ⟨g, k, none⟩ = some (.int .i64 (q.getD k 0)) := by rw [hown1.cellAt k (by omega)]; simp [ints, List.getD, hql, hk]
              have c2 : w1.cell? ⟨g, m, none⟩ = some (.int .i64 (q.getD m 0)) := by rw [hown1.cellAt m (by omega)]; simp [ints, List.getD, hql, show m < j by omega]
              have f1 := hown1.frozenAt k
              have f2 := hown1.frozenAt m
              have hgl1 := (hown1.lt g rfl).2
              have i1 : (0 : Int) ≤ (k : Int) := by omega
              have i2 : (k : Int) < (j : Int) := by omega
              have i3 : (0 : Int) ≤ (m : Int) := by omega
              have i4 : (m : Int) < (j : Int) := by omega
              generalize hX : q.getD k 0 = X at *
              generalize hY : q.getD m 0 = Y at *
              have HX := Lib.hid hX
              have HY := Lib.hid hY
              have hst := hown1.stored k (.int .i64 Y)
              obtain ⟨Z, c3⟩ : ∃ Z, (w1.setCell ⟨g, k, none⟩ (.int .i64 Y)).cell? ⟨g, m, none⟩ = some Z := by
                rw [hst.1.cellAt m (by omega)]
                exact ⟨_, List.getElem?_eq_getElem (by simp [ints, hql]; omega)⟩
              have f3 := hst.1.frozenAt m
              have hst2 := hst.1.stored m (.int .i64 X)
              have HST := Lib.hid hst
              have HST2 := Lib.hid hst2
              clear hX hY hst hst2))
          go_region
          go_wp2
          have hgne : ∀ g', some g = some g' → bs < g' := fun g' e => by injection e with e; have := h.lt; omega
          have hq2 : ((ints q).set k (.int .i64 Y)).set m (.int .i64 X) = ints (swapL q k m) := by
            rw [← HX.out, ← HY.out]; simp [ints, swapL, List.map_set]
          refine ⟨⟨k - 1, swapL q k m, r'.tail, by omega, by go_num, (swap_perm (by omega) (by omega)).trans hperm, ?_, ?_, ?_⟩, by simp [intOf]; omega⟩
          · rw [← hq2]; exact HST2.out.1
          · exact (hsrc1.keep HST.out.2 hgne).keep (grown_drewN HST2.out.2 1) hgne
          · exact grown_trans (grown_trans (grown_trans hg hg1 (fun _ h _ => h)) HST.out.2 (fun g' e hlt => by injection e with e; omega)) (grown_drewN HST2.out.2 1) (fun g' e hlt => by injection e with e; omega)

end Go.Proofs.Ytopblgabadljdaa
