/-
  The walk of sane: the examples of the chapter hold.
-/
import Derived.Test.YtopblgabadljdaaClosed
namespace Go.Proofs.Ytopblgabadljdaa
open Go.RowKit

theorem row_new (w : World) (t : TypeId) (cs : Array Value) : Row (w.alloc (.cells cs t)) (w.heap.size ≤ ·) (some ⟨w.heap.size, 0, none⟩) cs.toList := by
  intro _
  refine ⟨w.heap.size, 0, rfl, Nat.le_refl _, by simp, fun j hj => ?_⟩
  rw [Nat.zero_add, (Blk.new w t cs).cell j]
  simp
theorem lists3 (w : World) (a b c d e f : Int) (t u : TypeId) :
    ListsAt ((((w.alloc (.cells #[.int .i64 a, .int .i64 b] t)).alloc (.cells #[.int .i64 c, .int .i64 d] t)).alloc (.cells #[.int .i64 e, .int .i64 f] t)).alloc
      (.cells #[.slice (some ⟨w.heap.size, 0, none⟩) 2 2, .slice (some ⟨w.heap.size + 1, 0, none⟩) 2 2, .slice (some ⟨w.heap.size + 1 + 1, 0, none⟩) 2 2] u)) (w.heap.size ≤ ·) (some ⟨w.heap.size + 1 + 1 + 1, 0, none⟩) [[a, b], [c, d], [e, f]] := by
  have r1 := row_new w t #[.int .i64 a, .int .i64 b]
  have r2 := row_new (w.alloc (.cells #[.int .i64 a, .int .i64 b] t)) t #[.int .i64 c, .int .i64 d]
  have r3 := row_new ((w.alloc (.cells #[.int .i64 a, .int .i64 b] t)).alloc (.cells #[.int .i64 c, .int .i64 d] t)) t #[.int .i64 e, .int .i64 f]
  have r4 := row_new (((w.alloc (.cells #[.int .i64 a, .int .i64 b] t)).alloc (.cells #[.int .i64 c, .int .i64 d] t)).alloc (.cells #[.int .i64 e, .int .i64 f] t)) u #[.slice (some ⟨w.heap.size, 0, none⟩) 2 2, .slice (some ⟨w.heap.size + 1, 0, none⟩) 2 2, .slice (some ⟨w.heap.size + 1 + 1, 0, none⟩) 2 2]
  simp only [World.size_alloc] at r2 r3 r4
  refine ⟨_, ?_, r4.mono fun b _ hb => by omega, fun k hk => ?_⟩
  · rfl
  · match k, hk with
    | 0, _ => exact ⟨_, 2, rfl, ((r1.alloc _).alloc _).alloc _⟩
    | 1, _ => exact ⟨_, 2, rfl, ((r2.mono fun b _ hb => by omega).alloc _).alloc _⟩
    | 2, _ => exact ⟨_, 2, rfl, (r3.mono fun b _ hb => by omega).alloc _⟩

theorem schOf_bd (ls : List (List Int)) (hn : ls.length ≤ 6) (hl : ∀ l ∈ ls, l.length ≤ 100 ∧ ∀ a ∈ l, 0 ≤ a ∧ a ≤ 20) : SBd (schOf ls) := by
  have hm := mostOf_bd ls.flatten 20 (by omega) (fun a ha => by
    obtain ⟨l, hl1, hl2⟩ := List.mem_flatten.1 ha
    exact (hl l hl1).2 a hl2)
  have hnm : ∀ p i, (nm p i).size = 2 := fun p i => rfl
  refine ⟨by simp [schOf]; omega, by simp [schOf]; omega, by simp [schOf], ?_, ?_, ?_⟩
  · intro x hx
    simp [schOf] at hx
    obtain ⟨i, _, rfl⟩ := hx
    rw [hnm]; omega
  · intro x hx
    obtain ⟨i, hi, rfl⟩ := List.getElem_of_mem hx
    simp only [schOf, List.getElem_mapIdx]
    rw [hnm]; omega
  · intro x hx
    obtain ⟨i, hi, rfl⟩ := List.getElem_of_mem hx
    simp only [schOf, List.getElem_mapIdx]
    have hi' : i < ls.length := by simpa [schOf] using hi
    have := (hl ls[i] (List.getElem_mem hi')).1
    omega

def exA : List (List Int) := [[0, 1], [1, 2], [2, 3]]
def exB : List (List Int) := [[0, 1], [1, 2], [0, 2]]
theorem exA_tree : treB (schOf exA) = true ∧ witS (schOf exA) = [1, 2, -1] := by decide +kernel
theorem exB_red : ordS (schOf exB) = [] ∧ corS (schOf exB) = [0, 1, 2] ∧ closedB (schOf exB) [] [0, 1, 2] = true := by decide +kernel
theorem exA_bd : ∀ l ∈ exA, l.length ≤ 100 ∧ ∀ a ∈ l, 0 ≤ a ∧ a ≤ 20 := by decide
theorem exB_bd : ∀ l ∈ exB, l.length ≤ 100 ∧ ∀ a ∈ l, 0 ≤ a ∧ a ≤ 20 := by decide

set_option maxRecDepth 100000 in
set_option maxHeartbeats 1000000 in
theorem sane_any (w : World) : Calls Try.prog 8 #[] w fun e w' => e = .returned (.bool true) ∧ Below w.heap.size w w' := by
  go_enter Try.func8, Try.ntmps8
  go_wp2_with fail
  refine (sch_any (some ⟨w.heap.size + 1 + 1 + 1, 0, none⟩) 3 exA _ (lists3 w 0 1 1 2 2 3 _ _) (by decide) exA_bd).mono ?_
  rintro e w1 ⟨v1, rfl, hs1, hb1⟩
  have hbel1 : Below w.heap.size w w1 := ext_trans (((((Below.refl _ _).alloc (Nat.le_refl _) _).alloc (by simp) _).alloc (by simp; omega) _).alloc (by simp; omega) _) hb1
  clear hb1
  go_wp2_with fail
  refine (tree_any v1 (schOf exA) w1 hs1 (schOf_bd exA (by decide) exA_bd)).mono ?_
  rintro e w2 ⟨Aw, cw, rfl, hrw, hb2⟩
  rw [exA_tree.1]
  rw [exA_tree.2] at hrw ⊢
  have hbel2 := ext_trans hbel1 hb2
  clear hbel1 hb2 hs1
  have hl2 := lists3 (w2.alloc (.cells #[Value.slice Aw 3 cw] 46)) 0 1 1 2 0 2 3 22
  simp only [World.size_alloc] at hl2
  have HL2 := Lib.hid hl2
  clear hl2
  go_wp2_with fail
  refine (sch_any (some ⟨w2.heap.size + 1 + 1 + 1 + 1, 0, none⟩) 3 exB _ HL2.out (by decide) exB_bd).mono ?_
  rintro e w3 ⟨v3, rfl, hs3, hb3⟩
  have hty := ((((Blk.new w2 46 #[Value.slice Aw 3 cw]).alloc _).alloc _).alloc _).alloc _ |>.ext hb3
  have hb23 : Below w2.heap.size w2 w3 := ext_trans (((((((Below.refl _ _).alloc (Nat.le_refl _) _).alloc (by simp) _).alloc (by simp; omega) _).alloc (by simp; omega) _).alloc (by simp; omega) _)) hb3
  have HTY := Lib.hid hty
  have hbel3 := ext_trans hbel2 hb23
  clear hb3 HL2 hty
  go_wp2_with fail
  refine (reduceE_any v3 (schOf exB) w3 hs3 (schOf_bd exB (by decide) exB_bd)).mono ?_
  rintro e w4 ⟨Ao, co, Ac, cc, rfl, hro, hrc, hb4⟩
  rw [exB_red.1] at hro ⊢
  rw [exB_red.2.1] at hrc ⊢
  have t0 := (HTY.out.ext hb4).cell 0
  have hbel4 := ext_trans hbel3 hb4
  have hrw4 := hrw.ext (ext_trans hb23 hb4)
  simp at t0
  clear hro HTY hs3 hb23 hb4 hbel3 hbel2 hrw
  go_wp2_with fail
  have hra := row_new w4 3 #[.int .i64 1, .int .i64 2, .int .i64 (-1)]
  refine (ints_any Aw (some ⟨w4.heap.size, 0, none⟩) cw 3 [1, 2, -1] [1, 2, -1] _ (hrw4.alloc _) hra (by decide) (by decide)).mono ?_
  rintro e w5 ⟨rfl, n5, rfl⟩
  rw [show eqB [1, 2, -1] [1, 2, -1] = true by decide]
  have hbel5 := ext_alloc hbel4 (.cells #[.int .i64 1, .int .i64 2, .int .i64 (-1)] 3)
  have hrc5 := hrc.alloc (.cells #[.int .i64 1, .int .i64 2, .int .i64 (-1)] 3)
  generalize (w4.alloc (Obj.cells #[Value.int IntKind.i64 1, Value.int IntKind.i64 2, Value.int IntKind.i64 (-1)] 3)) = w5 at *
  clear hra hrw4 hrc t0 hbel4
  go_wp2_with fail
  have hra := row_new (w5.drewN n5) 3 #[.int .i64 0, .int .i64 1, .int .i64 2]
  refine (ints_any Ac (some ⟨w5.heap.size, 0, none⟩) cc 3 [0, 1, 2] [0, 1, 2] _ ((hrc5.drewN n5).alloc _) hra (by decide) (by decide)).mono ?_
  rintro e w6 ⟨rfl, n6, rfl⟩
  rw [show eqB [0, 1, 2] [0, 1, 2] = true by decide]
  have hbel6 : Below w.heap.size w (((w5.drewN n5).alloc (.cells #[.int .i64 0, .int .i64 1, .int .i64 2] 3)).drewN n6) := below_drewN (ext_alloc (below_drewN hbel5 n5) _) n6
  generalize (((w5.drewN n5).alloc (Obj.cells #[Value.int IntKind.i64 0, Value.int IntKind.i64 1, Value.int IntKind.i64 2] 3)).drewN n6) = w6 at *
  clear hra hrc5 hbel5
  have hl6 := lists3 w6 0 1 1 2 0 2 3 22
  have HL6 := Lib.hid hl6
  clear hl6
  go_wp2_with fail
  refine (sch_any (some ⟨w6.heap.size + 1 + 1 + 1, 0, none⟩) 3 exB _ HL6.out (by decide) exB_bd).mono ?_
  rintro e w7 ⟨v7, rfl, hs7, hb7⟩
  have hbel7 : Below w6.heap.size w6 w7 := ext_trans (((((Below.refl _ _).alloc (Nat.le_refl _) _).alloc (by simp) _).alloc (by simp; omega) _).alloc (by simp; omega) _) hb7
  clear hb7 HL6
  go_wp2_with fail
  have hra := row_new w7 3 #[.int .i64 0, .int .i64 1, .int .i64 2]
  refine (closed_any v7 (schOf exB) none 0 [] (some ⟨w7.heap.size, 0, none⟩) 3 [0, 1, 2] _ (hs7.ext ((Below.refl _ _).alloc (Nat.le_refl _) _)) (schOf_bd exB (by decide) exB_bd) (R1 := Any) Row.nil (by decide) hra (by decide)).mono ?_
  rintro e w8 ⟨rfl, hb8⟩
  rw [exB_red.2.2]
  go_wp2_with fail
  go_ret
  exact ⟨rfl, ext_trans hbel6 (ext_trans hbel7 (ext_trans ((Below.refl _ _).alloc (Nat.le_refl _) _) hb8))⟩

end Go.Proofs.Ytopblgabadljdaa
