/-
  The walk of relations, which makes a valid schema of at most five relations over five attributes.
-/
import Derived.Test.YtopblgabadljdaaSch
namespace Go.Proofs.Ytopblgabadljdaa
open Go.RowKit

def OkL (l : List Int) : Prop := l ≠ [] ∧ l.Pairwise (· < ·) ∧ ∀ a ∈ l, 0 ≤ a ∧ a ≤ 4
/-- The lists lie behind the slices vs, apart from the source and from the row itself. -/
def LLV (w : World) (bs : Nat) (v : Value) (ls : List (List Int)) (vs : List Value) : Prop :=
  vs.length = ls.length ∧ ∀ k (hk : k < ls.length), ∃ (A' : Option Addr) (c' : Nat), vs[k]? = some (.slice A' ls[k].length c') ∧ Row w (fun b => bs < b ∧ v.ownBlock ≠ some b) A' (ints ls[k])

section
variable {w w' : World} {bs : Nat} {v v' : Value} {ls : List (List Int)} {vs : List Value}
theorem LLV.keep (h : LLV w bs v ls vs) (hs : w.heap.size ≤ w'.heap.size) (hk : ∀ b, bs < b → v.ownBlock ≠ some b → b < w.heap.size → w'.heap[b]? = w.heap[b]?) : LLV w' bs v ls vs := by
  refine ⟨h.1, fun k hk2 => ?_⟩
  obtain ⟨A', c', h1, h2⟩ := h.2 k hk2
  exact ⟨A', c', h1, h2.keep hs fun b _ _ hR hlt => hk b hR.1 hR.2 hlt⟩
theorem LLV.ext (h : LLV w bs v ls vs) (hb : Below w.heap.size w w') : LLV w' bs v ls vs := h.keep hb.size fun b _ _ hlt => hb.block b hlt
theorem LLV.src (h : LLV w bs v ls vs) {b0 : Nat} (hb0 : b0 ≤ bs) (hg : w.grownBy w' (some b0)) : LLV w' bs v ls vs := h.keep hg.size fun b h1 _ hlt => hg.block b hlt (by simp; omega)
theorem LLV.snoc (h : LLV w bs v ls vs) (hg : w.grownBy w' v.ownBlock) (hat : v'.ownBlock = v.ownBlock ∨ ∃ g, v'.ownBlock = some g ∧ w.heap.size ≤ g) {A : Option Addr} {x : List Int} (c : Nat)
    (hrow : Row w (fun b => bs < b ∧ v.ownBlock ≠ some b) A (ints x)) : LLV w' bs v' (ls ++ [x]) (vs ++ [.slice A x.length c]) := by
  have key : ∀ {A : Option Addr} {x : List Int}, Row w (fun b => bs < b ∧ v.ownBlock ≠ some b) A (ints x) → Row w' (fun b => bs < b ∧ v'.ownBlock ≠ some b) A (ints x) := by
    intro A x hr
    have h1 : Row w (fun b => (bs < b ∧ v.ownBlock ≠ some b) ∧ v'.ownBlock ≠ some b) A (ints x) := hr.mono fun b hlt hR => ⟨hR, by
      rcases hat with e | ⟨g, e, hge⟩
      · rw [e]; exact hR.2
      · rw [e]; simp; omega⟩
    exact (h1.keep (w' := w') hg.size fun b _ _ hR hlt => hg.block b hlt fun e => hR.1.2 e.symm).mono fun b _ hR => ⟨hR.1.1, hR.2⟩
  refine ⟨by simp [h.1], fun k hk => ?_⟩
  by_cases hlt : k < ls.length
  · obtain ⟨A', c', h1, h2⟩ := h.2 k hlt
    refine ⟨A', c', ?_, ?_⟩
    · rw [List.getElem?_append_left (by rw [h.1]; exact hlt), h1, List.getElem_append_left hlt]
    · rw [List.getElem_append_left hlt]; exact key h2
  · obtain rfl : k = ls.length := by simp at hk; omega
    refine ⟨A, c, ?_, ?_⟩
    · rw [List.getElem?_append_right (by rw [h.1]; exact Nat.le_refl _)]; simp [h.1]
    · simpa using key hrow
theorem LLV.set {g n cap : Nat} (h : LLV w bs (.slice (some ⟨g, 0, none⟩) n cap) ls vs) (k : Nat) {A : Option Addr} {y : List Int} (c : Nat)
    (hrow : Row w (fun b => bs < b ∧ (Value.slice (some ⟨g, 0, none⟩) n cap).ownBlock ≠ some b) A (ints y)) :
    LLV (w.setCell ⟨g, k, none⟩ (.slice A y.length c)) bs (.slice (some ⟨g, 0, none⟩) n cap) (ls.set k y) (vs.set k (.slice A y.length c)) := by
  have key : ∀ {A' : Option Addr} {x : List Int}, Row w (fun b => bs < b ∧ (Value.slice (some ⟨g, 0, none⟩) n cap).ownBlock ≠ some b) A' (ints x) →
      Row (w.setCell ⟨g, k, none⟩ (.slice A y.length c)) (fun b => bs < b ∧ (Value.slice (some ⟨g, 0, none⟩) n cap).ownBlock ≠ some b) A' (ints x) := fun hr =>
    hr.setCell (fun b hR e => hR.2 (by rw [e]; rfl)) _
  refine ⟨by simp [h.1], fun j hj => ?_⟩
  have hj' : j < ls.length := by simpa using hj
  by_cases e : k = j
  · subst e
    refine ⟨A, c, ?_, ?_⟩
    · rw [List.getElem?_set_self (by rw [h.1]; exact hj')]; simp
    · simpa using key hrow
  · obtain ⟨A', c', h1, h2⟩ := h.2 j hj'
    refine ⟨A', c', ?_, ?_⟩
    · rw [List.getElem?_set_ne e, h1, List.getElem_set_ne e]
    · rw [List.getElem_set_ne e]; exact key h2
end

theorem okL_some (r : List Int) (h : someL r 5 2 ≠ []) : OkL (someL r 5 2) := by
  refine ⟨h, ?_, ?_⟩
  · unfold someL
    rw [List.pairwise_map]
    exact (List.pairwise_lt_range.filter _).imp (fun h => by simpa using h)
  · intro a ha
    unfold someL at ha
    obtain ⟨j, hj, rfl⟩ := List.mem_map.1 ha
    have := (List.mem_filter.1 hj).1
    simp at this
    simp; omega
theorem okL_one (x : Int) (h : 0 ≤ x ∧ x < 5) : OkL [x] := ⟨by simp, by simp, fun a ha => by simp at ha; omega⟩
/-- A number put into an ascending list. -/
def insL (a : Int) (l : List Int) : List Int := l.filter (fun b => decide (b < a)) ++ [a] ++ l.filter (fun b => decide (a < b))
theorem insL_ok (a : Int) (l : List Int) (h : OkL l) (ha : 0 ≤ a ∧ a ≤ 4) : OkL (insL a l) := by
  refine ⟨by simp [insL], ?_, ?_⟩
  · unfold insL
    rw [List.pairwise_append, List.pairwise_append]
    refine ⟨⟨h.2.1.filter _, by simp, ?_⟩, h.2.1.filter _, ?_⟩
    · intro x hx y hy; simp at hx hy; omega
    · intro x hx y hy; simp at hx hy; rcases hx with hx | hx <;> omega
  · intro b hb
    simp [insL] at hb
    rcases hb with hb | hb | hb
    · exact h.2.2 b hb.1
    · omega
    · exact h.2.2 b hb.1
theorem insL_mem (a b : Int) (l : List Int) : b ∈ insL a l ↔ b = a ∨ b ∈ l := by
  simp [insL]
  constructor
  · rintro (h | h | h)
    · exact .inr h.1
    · exact .inl h
    · exact .inr h.1
  · rintro (h | h)
    · exact .inr (.inl h)
    · rcases Int.lt_trichotomy b a with h1 | h1 | h1
      · exact .inl ⟨h, h1⟩
      · exact .inr (.inl h1)
      · exact .inr (.inr ⟨h, h1⟩)

theorem rel_new1 {w w3 : World} {bs : Nat} {v : Value} (x : Int) (h : ∀ g, v.ownBlock = some g → g < w.heap.size) (hs : w.heap.size ≤ w3.heap.size ∧ bs < w3.heap.size) :
    Row (w3.alloc (.cells #[.int .i64 x] 3)) (fun b => bs < b ∧ v.ownBlock ≠ some b) (some ⟨w3.heap.size, 0, none⟩) (ints [x]) := by
  intro _
  refine ⟨w3.heap.size, 0, rfl, ⟨by omega, fun e => by have := h _ e; omega⟩, by simp, fun j hj => ?_⟩
  rw [Nat.zero_add, (Blk.new w3 3 #[.int .i64 x]).cell j]
  simp

theorem Try.infoInts : (Try.prog.info? 22).map (fun i => (i.zero, i.size, i.bytes)) = some (some (.slice none 0 0), 1, 24) := by kernel_rfl

/-- What relations makes: at most five ascending lists over 0 to 4, which have all of these. -/
def GoodL (ls : List (List Int)) : Prop := 1 ≤ ls.length ∧ ls.length ≤ 5 ∧ (∀ l ∈ ls, OkL l) ∧ ∀ a : Nat, a < 5 → ∃ l ∈ ls, (a : Int) ∈ l

def loL (a : Int) (l : List Int) (q : Nat) : List Int := (l.take q).filter fun b => decide (b < a)
theorem loL_len (a : Int) (l : List Int) (q : Nat) : (loL a l q).length ≤ l.length := Nat.le_trans (List.length_filter_le _ _) (List.length_take_le' _ _)
theorem loL_succ (a : Int) (l : List Int) (q : Nat) (h : q < l.length) : loL a l (q + 1) = if l[q] < a then loL a l q ++ [l[q]] else loL a l q := by
  unfold loL
  rw [List.take_succ_eq_append_getElem h, List.filter_append]
  split <;> simp_all
def hiL (a : Int) (l : List Int) (q : Nat) : List Int := l.filter (fun b => decide (b < a)) ++ [a] ++ (l.take q).filter fun b => decide (a < b)
theorem hiL_len (a : Int) (l : List Int) (q : Nat) : (hiL a l q).length ≤ l.length + 1 + l.length := by
  unfold hiL
  have h1 := List.length_filter_le (fun b => decide (b < a)) l
  have h2 := List.length_filter_le (fun b => decide (a < b)) (l.take q)
  have h3 := List.length_take_le' q l
  simp only [List.length_append, List.length_cons, List.length_nil]
  omega
theorem hiL_succ (a : Int) (l : List Int) (q : Nat) (h : q < l.length) : hiL a l (q + 1) = if a < l[q] then hiL a l q ++ [l[q]] else hiL a l q := by
  unfold hiL
  rw [List.take_succ_eq_append_getElem h, List.filter_append]
  split <;> simp_all

def anyL (ls : List (List Int)) (a : Int) : Bool := ls.any fun l => inB l a
theorem anyL_succ (ls : List (List Int)) (a : Int) (j : Nat) (h : j < ls.length) : anyL (ls.take (j + 1)) a = (anyL (ls.take j) a || inB ls[j] a) := by
  unfold anyL
  rw [List.take_succ_eq_append_getElem h, List.any_append]
  simp
theorem asc_len : ∀ (l : List Int) (lo hi : Int), l.Pairwise (· < ·) → (∀ a ∈ l, lo ≤ a ∧ a ≤ hi) → (l.length : Int) ≤ max 0 (hi + 1 - lo) := by
  intro l
  induction l with
  | nil => intro lo hi _ _; simp; omega
  | cons x t ih =>
    intro lo hi hp hb
    have hp' := List.pairwise_cons.1 hp
    have hx := hb x (by simp)
    have := ih (x + 1) hi hp'.2 (fun a ha => ⟨by have := hp'.1 a ha; omega, (hb a (by simp [ha])).2⟩)
    simp only [List.length_cons]
    omega
theorem okL_len5 (l : List Int) (h : OkL l) : l.length ≤ 5 := by
  have := asc_len l 0 4 h.2.1 h.2.2
  omega
theorem okL_len (l : List Int) (h : OkL l) : l.length ≤ 1000000 := by have := okL_len5 l h; omega

set_option maxRecDepth 100000 in
set_option maxHeartbeats 1000000 in
theorem relations_any (bs : Nat) (r : List Int) (w : World) (h : SrcAt w bs r) :
    Calls Try.prog 9 #[.pointer (some ⟨bs, 0, none⟩)] w fun e w' => ∃ v ls r', e = .returned v ∧ GoodL ls ∧ SchAt w' (fun b => b ≠ bs) v (schOf ls) ∧ SrcAt w' bs r' ∧ w.grownBy w' (some bs) := by
  have hbs := h.lt
  have hn0 := nxt_bd r 5 (by omega)
  go_enter Try.func9, Try.ntmps9
  go_wp2_with (
    go_at_call 25
    refine (n_any bs r 5 _ (h.keep (World.grownBy_alloc _ _ none) (by simp)) (by omega) (by omega)).mono ?_
    rintro e w1 ⟨rfl, hsrc1, hg1⟩
    obtain ⟨m, hm⟩ := Int.eq_ofNat_of_zero_le hn0.1
    rw [hm]
    have hm5 : m < 5 := by omega
    have hb0 := (Blk.new w 28 #[.slice none 0 0, .slice none 0 0, .slice none 0 0, .int .i64 0]).grown hg1 (by simp; omega)
    have HB0 := Lib.hid hb0
    clear hm hn0 hb0)
  have hg0 : w.grownBy w1 (some bs) := grown_trans (World.grownBy_alloc _ _ _) hg1 (fun _ h _ => h)
  clear h hg1
  go_loopw [4, 5] (fun v i wr => ∃ (k : Nat) (ls : List (List Int)) (vs : List Value) (r' : List Int), k ≤ 1 + m ∧ i = .int .i64 k ∧ ls.length = k ∧ (∀ l ∈ ls, OkL l) ∧ wr.ownsRow (w.heap.size + 1) 22 1 v k vs ∧
      LLV wr w.heap.size v ls vs ∧ SrcAt wr bs r' ∧ Blk wr w.heap.size 28 #[.slice none 0 0, .slice none 0 0, .slice none 0 0, .int .i64 0] ∧ w.grownBy wr (some bs)) (fun _ i _ => 1 + m - (intOf i).toNat)
  case atStart => exact ⟨0, [], [], _, by omega, rfl, rfl, by simp, World.ownsRow_nil _ _ _ _, ⟨rfl, fun k hk => absurd hk (by simp)⟩, hsrc1, HB0.out, hg0⟩
  case round =>
    obtain ⟨k, ls, vs, r', hk, rfl, hlen, hok, hown, hll, hsrc, hb0, hg⟩ := hrel
    clear HB0 hsrc1 hg0
    have HB0 := Lib.hid hb0
    have HLEN := Lib.hid hlen
    have hwr : w.heap.size + 1 ≤ wr.heap.size := hb0.lt
    clear hb0 hlen
    have hnb : u4.ownBlock = none ∨ u4.ownBlock ≠ some bs := .inr (own_ne hown hsrc (by decide))
    have hnb2 : ∀ g, u4.ownBlock = some g → g < wr.heap.size := fun g e => (hown.lt g e).2
    by_cases hlt : k < 1 + m
    · by_cases hem : someL r' 5 2 = []
      · have hxn := nxt_bd (r'.drop 5) 5 (by omega)
        have HE := Lib.hid hem
        clear hem
        go_wp2_with (first
          | (go_at_call 32
             go_must (
              refine (some_any bs r' 5 2 _ hsrc (by omega) (by omega) (by omega)).mono ?_
              rintro e w2 ⟨v2, rfl, hown2, hsrc2, hg2⟩
              rw [HE.out] at hown2
              obtain ⟨A2, c2, rfl, _, _⟩ := own_slice hown2))
          | (go_at_call 25
             go_must (
              refine (n_any bs (r'.drop 5) 5 _ hsrc2 (by omega) (by omega)).mono ?_
              rintro e w3 ⟨rfl, hsrc3, hg3⟩
              generalize nxt (r'.drop 5) 5 = x at *
              have hg23 := grown_trans hg2 hg3 (fun _ h _ => h)
              have hown3 := hown.kept hg23 hnb
              have hll3 := hll.src (Nat.le_of_lt hbs) hg23
              have hb3 := HB0.out.grown hg23 (by simp; omega)
              have HB3 := Lib.hid hb3
              clear hb3))
          | (at_builtin
             go_must (
              refine wpList_app (W := w3.alloc (.cells #[.int .i64 x] 3)) rfl _ _ 63 rfl (w.heap.size + 1) 22 _ 1 24 Try.underlying63 Try.infoInts rfl (by decide) (by decide) u4 k 1 vs rfl rfl (by simp) (hown3.alloc _) rfl (by simp; rfl) (by omega) (by have := hg23.size; simp; omega) ?_
              intro A4 c4 w4 hown4 hg4 hat4)))
        refine ⟨⟨k + 1, ls ++ [[x]], _, (r'.drop 5).tail, by omega, by go_num, by simp [HLEN.out], ?_, hown4, ?_, ?_, ?_, ?_⟩, by simp [intOf]; omega⟩
        · intro l hl
          rcases List.mem_append.1 hl with h1 | h1
          · exact hok l h1
          · simp at h1; subst h1; exact okL_one x hxn
        · exact (hll3.ext (ext_alloc (Below.refl _ _) _)).snoc hg4 hat4 1 (rel_new1 x hnb2 (by have := hg23.size; omega))
        · exact hsrc3.keep (grown_trans (World.grownBy_alloc _ _ _) hg4 (fun _ h _ => h)) (fun g e => by have := (hown.lt g e).1; omega)
        · exact (HB3.out.alloc _).grown hg4 (fun e => by have := (hown.lt _ e.symm).1; omega)
        · exact grown_trans (grown_alloc (grown_trans hg hg23 (fun _ h _ => h)) _) hg4 (fun g e hlt => by have := (hown.lt _ e).1; omega)
      · have hok1 := okL_some r' hem
        have hl5 := someL_len r' 5 2
        have hne0 : ((((someL r' 5 2).length : Nat) : Int) == 0) = false := by
          have : 0 < (someL r' 5 2).length := List.length_pos_iff.2 hem
          simp; omega
        generalize hX : someL r' 5 2 = X at *
        have HX := Lib.hid hX
        clear hX
        go_wp2_with (first
          | (go_at_call 32
             go_must (
              refine (some_any bs r' 5 2 _ hsrc (by omega) (by omega) (by omega)).mono ?_
              rintro e w2 ⟨v2, rfl, hown2, hsrc2, hg2⟩
              rw [HX.out] at hown2
              obtain ⟨A2, c2, rfl, _, _⟩ := own_slice hown2
              have hown3 := hown.kept hg2 hnb
              have hll3 := hll.src (Nat.le_of_lt hbs) hg2
              have hb3 := HB0.out.grown hg2 (by simp; omega)
              have HB3 := Lib.hid hb3
              clear hb3))
          | (at_builtin
             go_must (
              refine wpList_app (W := w2) rfl _ _ 63 rfl (w.heap.size + 1) 22 _ 1 24 Try.underlying63 Try.infoInts rfl (by decide) (by decide) u4 k 1 vs rfl rfl (by simp) hown3 rfl (by simp; rfl) (by omega) (by have := hg2.size; omega) ?_
              intro A4 c4 w4 hown4 hg4 hat4)))
        refine ⟨⟨k + 1, ls ++ [X], _, r'.drop 5, by omega, by go_num, by simp [HLEN.out], ?_, hown4, ?_, ?_, ?_, ?_⟩, by simp [intOf]; omega⟩
        · intro l hl
          rcases List.mem_append.1 hl with h1 | h1
          · exact hok l h1
          · simp at h1; subst h1; exact hok1
        · exact hll3.snoc hg4 hat4 c2 ((Row.of_own hown2).mono fun b _ hb => ⟨by omega, fun e => by have := (hown.lt _ e).2; omega⟩)
        · exact hsrc2.keep hg4 (fun g e => by have := (hown.lt g e).1; omega)
        · exact HB3.out.grown hg4 (fun e => by have := (hown.lt _ e.symm).1; omega)
        · exact grown_trans (grown_trans hg hg2 (fun _ h _ => h)) hg4 (fun g e hlt => by have := (hown.lt _ e).1; omega)
    · have hk1 : k = 1 + m := by omega
      rcases hown.2 with ⟨_, h0⟩ | ⟨g, cap, cur, rfl, hbg, hblk, hnc, hcm, hcs, htake⟩
      · omega
      · have hgs := hnb2 g rfl
        clear hblk hcs htake hnb hnb2 hk1
        obtain ⟨wo, rfl⟩ : ∃ wo : World, wo = wr := ⟨_, rfl⟩
        have hd1 : decide ((k : Int) < 1 + (m : Int)) = false := by simp; omega
        go_wp2
        clear hd1
        go_loopw [7] (fun i wr => ∃ (a : Nat) (ls : List (List Int)) (vs : List Value) (r' : List Int), a ≤ 5 ∧ i = .int .i64 a ∧ ls.length = k ∧ (∀ l ∈ ls, OkL l) ∧ (∀ a' : Nat, a' < a → ∃ l ∈ ls, (a' : Int) ∈ l) ∧
          wr.ownsRow (w.heap.size + 1) 22 1 (.slice (some ⟨g, 0, none⟩) k cap) k vs ∧ LLV wr w.heap.size (.slice (some ⟨g, 0, none⟩) k cap) ls vs ∧ SrcAt wr bs r' ∧
          Blk wr w.heap.size 28 #[.slice none 0 0, .slice none 0 0, .slice none 0 0, .int .i64 0] ∧ w.grownBy wr (some bs)) (fun i _ => 5 - (intOf i).toNat)
        case atStart => exact ⟨0, ls, vs, r', by omega, rfl, HLEN.out, hok, fun a' h => absurd h (by omega), hown, hll, hsrc, HB0.out, hg⟩
        case round =>
          clear hok hown hll hsrc HB0 hg HLEN
          obtain ⟨a, ls, vs, r', ha, rfl, hlen, hok, hcov, hown, hll, hsrc, hb0, hg⟩ := hrel
          have HB0 := Lib.hid hb0
          have HLEN := Lib.hid hlen
          have HOK := Lib.hid hok
          have HCOV := Lib.hid hcov
          have hwr : w.heap.size + 1 ≤ wr.heap.size := hb0.lt
          have hgs2 := (hown.lt g rfl).2
          have hgbs : (Value.slice (some ⟨g, 0, none⟩) k cap).ownBlock ≠ some bs := own_ne hown hsrc (by decide)
          clear hb0 hlen hok hcov
          by_cases ha5 : a < 5
          · obtain ⟨wp, rfl⟩ : ∃ wp : World, wp = wr := ⟨_, rfl⟩
            have hd2 : decide ((a : Int) < 5) = true := by simp; omega
            go_wp2
            clear hd2
            go_loopw [8, 43] (fun f i wq => ∃ j : Nat, j ≤ k ∧ i = .int .i64 j ∧ f = .bool (anyL (ls.take j) a) ∧ wq = wp) (fun _ i _ => k - (intOf i).toNat)
            case atStart => exact ⟨0, by omega, rfl, rfl, rfl⟩
            case round =>
              obtain ⟨j, hj, rfl, rfl, rfl⟩ := hrel
              by_cases hjk : j < k
              · have hjl : j < ls.length := by rw [HLEN.out]; exact hjk
                obtain ⟨A', c', e1, hrow⟩ := hll.2 j hjl
                have hcell := hown.cellAt j (by omega)
                rw [e1] at hcell
                have hlj : ls[j].length ≤ 1000000 := okL_len _ (HOK.out _ (List.getElem_mem hjl))
                have HS := Lib.hid (anyL_succ ls a j hjl)
                clear e1
                cases hany : anyL (ls.take j) a
                · go_wp2_with (go_at_call 13; refine (mkin_any A' c' ls[j] a wr hrow hlj).mono ?_; rintro e w' ⟨rfl, rfl⟩)
                  refine ⟨⟨j + 1, by omega, by go_num, ?_, trivial⟩, by simp [intOf]; omega⟩
                  rw [HS.out, hany]; rfl
                · go_wp2_with (go_at_call 13; refine (mkin_any A' c' ls[j] a wr hrow hlj).mono ?_; rintro e w' ⟨rfl, rfl⟩)
                  refine ⟨⟨j + 1, by omega, by go_num, ?_, trivial⟩, by simp [intOf]; omega⟩
                  rw [HS.out, hany]; rfl
              · have hfin : anyL (ls.take j) a = anyL ls a := by rw [List.take_of_length_le (by rw [HLEN.out]; omega)]
                rw [hfin]
                cases hany : anyL ls a
                · have hbd := nxt_bd r' k (by omega)
                  have hd3 : decide (j < k) = false := by simp; omega
                  have HANY := Lib.hid hany
                  clear hfin
                  go_wp2_with (
                    go_at_call 25
                    go_must (
                      refine (n_any bs r' k _ hsrc (by omega) (by omega)).mono ?_
                      rintro e w5 ⟨rfl, hsrc5, hg5⟩
                      obtain ⟨kn, hkn⟩ := Int.eq_ofNat_of_zero_le hbd.1
                      rw [hkn] at hbd ⊢
                      have hknk : kn < k := by omega
                      have hknl : kn < ls.length := by rw [HLEN.out]; exact hknk
                      have hown5 := hown.kept hg5 (.inr hgbs)
                      have hll5 := hll.src (Nat.le_of_lt hbs) hg5
                      have hb5 := HB0.out.grown hg5 (by simp; omega)
                      have HB5 := Lib.hid hb5
                      obtain ⟨A', c', e1, hrow5⟩ := hll5.2 kn hknl
                      have hcell := hown5.cellAt kn (by omega)
                      rw [e1] at hcell
                      have HE1 := Lib.hid e1
                      have hokn := HOK.out _ (List.getElem_mem hknl)
                      have hlkn := okL_len5 _ hokn
                      have hg05 := grown_trans hg hg5 (fun _ h _ => h)
                      generalize hL : ls[kn] = L at *
                      have HL := Lib.hid hL
                      clear hb5 hkn hbd e1 hL hsrc hll hown hg))
                  have hs5 : wr.heap.size ≤ w5.heap.size := hg5.size
                  go_loopw [11, 65] (fun y i wq => ∃ q : Nat, q ≤ L.length ∧ i = .int .i64 q ∧ wq.ownsRow w5.heap.size 3 1 y (loL a L q).length (ints (loL a L q)) ∧ Below w5.heap.size w5 wq) (fun _ i _ => L.length - (intOf i).toNat)
                  case atStart => exact ⟨0, by omega, rfl, World.ownsRow_nil _ _ _ _, Below.refl _ _⟩
                  case round =>
                    obtain ⟨q, hq, rfl, hy, hbel⟩ := hrel
                    have hyl := loL_len a L q
                    by_cases hql : q < L.length
                    · obtain ⟨b', off', rfl, hbb, hcq⟩ := hrow5.int_at hql
                      have hcq' : wr.cell? ⟨b', off' + q, none⟩ = some (.int .i64 L[q]) := by rw [hbel.cell (p := ⟨b', off' + q, none⟩) hbb]; exact hcq
                      have HLO := Lib.hid (loL_succ a L q hql)
                      clear hcq hcell
                      by_cases hlt2 : L[q] < (a : Int)
                      · go_wp2_with (
                          at_builtin
                          go_must (
                            refine wpList_app (W := wr) rfl _ _ 22 rfl w5.heap.size 3 _ 1 8 Try.underlying22 Try.infoInt rfl (by decide) (by decide) u11 (loL a L q).length 1 (ints (loL a L q)) rfl rfl rfl hy rfl (by simp; rfl) (by omega) hbel.size ?_
                            intro A6 c6 w6 hown6 hg6 hat6))
                        refine ⟨⟨q + 1, by omega, by go_num, ?_, hbel.grown hg6 hbel.size (fun g e => (hy.lt g e).1)⟩, by simp [intOf]; omega⟩
                        rw [HLO.out, if_pos hlt2]; simpa using hown6
                      · go_wp2
                        refine ⟨⟨q + 1, by omega, by go_num, ?_, hbel⟩, by simp [intOf]; omega⟩
                        rw [HLO.out, if_neg hlt2]; exact hy
                    · obtain rfl : q = L.length := by omega
                      obtain ⟨wq, rfl⟩ : ∃ wq : World, wq = wr := ⟨_, rfl⟩
                      have hcell2 : wq.cell? ⟨g, kn, none⟩ = some (.slice A' L.length c') := by rw [hbel.cell (p := ⟨g, kn, none⟩) (by show g < _; omega)]; exact hcell
                      have hd4 : decide (L.length < L.length) = false := by simp
                      clear hcell
                      go_wp2_with (
                        at_builtin
                        go_must (
                          refine wpList_app (W := wq) rfl _ _ 22 rfl w5.heap.size 3 _ 1 8 Try.underlying22 Try.infoInt rfl (by decide) (by decide) u11 (loL a L L.length).length 1 (ints (loL a L L.length)) rfl rfl rfl hy rfl (by simp; rfl) (by omega) hbel.size ?_
                          intro A6 c6 w6 hown6 hg6 hat6
                          have hbel6 := hbel.grown hg6 hbel.size (fun g e => (hy.lt g e).1)
                          have hcell6 : w6.cell? ⟨g, kn, none⟩ = some (.slice A' L.length c') := by rw [hbel6.cell (p := ⟨g, kn, none⟩) (by show g < _; omega), ← hbel.cell (p := ⟨g, kn, none⟩) (by show g < _; omega)]; exact hcell2
                          clear hd4 hcell2))
                      have hhi0 : (loL a L L.length) ++ [(a : Int)] = hiL a L 0 := by simp [loL, hiL]
                      have hown7 : w6.ownsRow w5.heap.size 3 1 (.slice A6 ((loL a L L.length).length + 1) c6) (hiL a L 0).length (ints (hiL a L 0)) := by rw [← hhi0]; simpa using hown6
                      clear hhi0 hown6 hg6 hat6 hy hyl
                      go_loopw [11, 86] (fun y i wq => ∃ q : Nat, q ≤ L.length ∧ i = .int .i64 q ∧ wq.ownsRow w5.heap.size 3 1 y (hiL a L q).length (ints (hiL a L q)) ∧ Below w5.heap.size w5 wq) (fun _ i _ => L.length - (intOf i).toNat)
                      case atStart => exact ⟨0, by omega, rfl, hown7, hbel6⟩
                      case round =>
                        obtain ⟨q, hq, rfl, hy, hbel⟩ := hrel
                        have hyl := hiL_len a L q
                        by_cases hql : q < L.length
                        · obtain ⟨b', off', rfl, hbb, hcq⟩ := hrow5.int_at hql
                          have hcq' : wr.cell? ⟨b', off' + q, none⟩ = some (.int .i64 L[q]) := by rw [hbel.cell (p := ⟨b', off' + q, none⟩) hbb]; exact hcq
                          have HLO := Lib.hid (hiL_succ a L q hql)
                          clear hcq hcell6
                          by_cases hlt2 : (a : Int) < L[q]
                          · go_wp2_with (
                              at_builtin
                              go_must (
                                refine wpList_app (W := wr) rfl _ _ 22 rfl w5.heap.size 3 _ 1 8 Try.underlying22 Try.infoInt rfl (by decide) (by decide) u11 (hiL a L q).length 1 (ints (hiL a L q)) rfl rfl rfl hy rfl (by simp; rfl) (by omega) hbel.size ?_
                                intro A8 c8 w8 hown8 hg8 hat8))
                            refine ⟨⟨q + 1, by omega, by go_num, ?_, hbel.grown hg8 hbel.size (fun g e => (hy.lt g e).1)⟩, by simp [intOf]; omega⟩
                            rw [HLO.out, if_pos hlt2]; simpa using hown8
                          · go_wp2
                            refine ⟨⟨q + 1, by omega, by go_num, ?_, hbel⟩, by simp [intOf]; omega⟩
                            rw [HLO.out, if_neg hlt2]; exact hy
                        · obtain rfl : q = L.length := by omega
                          have hins : hiL a L L.length = insL a L := by simp [hiL, insL]
                          rw [hins] at hy
                          clear hins
                          obtain ⟨A9, c9, rfl, _, _⟩ := own_slice hy
                          have hown9 := hown5.kept (grown_of_ext hbel none) (by simp [Value.ownBlock])
                          have hcell9 : wr.cell? ⟨g, kn, none⟩ = some (.slice A' L.length c') := by rw [hown9.cellAt kn (by omega)]; exact HE1.out
                          have hfz9 := hown9.frozenAt kn
                          have hll9 := hll5.ext hbel
                          have hsrc9 := hsrc5.keep (grown_of_ext hbel none) (by simp)
                          have hb9 := HB5.out.ext hbel
                          have HB9 := Lib.hid hb9
                          have hst := hown9.stored kn (.slice A9 (insL a L).length c9)
                          have hy9 : Row wr (fun b => w.heap.size < b ∧ (Value.slice (some ⟨g, 0, none⟩) k cap).ownBlock ≠ some b) A9 (ints (insL a L)) :=
                            (Row.of_own hy).mono fun b _ hb => ⟨by have := hsrc5.lt; omega, by simp [Value.ownBlock]; omega⟩
                          have hllS := hll9.set kn c9 hy9
                          have hd5 : decide (L.length < L.length) = false := by simp
                          clear hb9
                          go_wp2
                          refine ⟨⟨a + 1, ls.set kn (insL a L), _, r'.tail, by omega, by go_num, by simpa using HLEN.out, ?_, ?_, hst.1, hllS, ?_, ?_, ?_⟩, by simp [intOf]; omega⟩
                          · intro l hl
                            rcases List.mem_or_eq_of_mem_set hl with h1 | h1
                            · exact HOK.out l h1
                            · rw [h1]; exact insL_ok _ _ hokn (by omega)
                          · intro a' ha'
                            by_cases e : a' < a
                            · obtain ⟨l, h1, h2⟩ := HCOV.out a' e
                              obtain ⟨i, hi, rfl⟩ := List.getElem_of_mem h1
                              by_cases hik : kn = i
                              · subst hik
                                exact ⟨insL a L, List.mem_iff_getElem.2 ⟨kn, by simpa using hi, by simp⟩, by rw [insL_mem]; right; rw [← HL.out]; exact h2⟩
                              · exact ⟨ls[i], List.mem_of_getElem (i := i) (by rw [List.getElem_set_ne hik]; simpa using hi), h2⟩
                            · obtain rfl : a' = a := by omega
                              exact ⟨insL a' L, List.mem_iff_getElem.2 ⟨kn, by simpa using hknl, by simp⟩, by rw [insL_mem]; left; rfl⟩
                          · exact hsrc9.keep hst.2 (fun g' e => by injection e with e; omega)
                          · exact HB9.out.far (by simp; omega) _
                          · exact grown_trans (grown_trans hg05 (grown_of_ext hbel none) (by simp)) hst.2 (fun g' e hlt => by injection e with e; omega)
                · go_wp2
                  refine ⟨⟨a + 1, ls, vs, r', by omega, by go_num, HLEN.out, HOK.out, ?_, hown, hll, hsrc, HB0.out, hg⟩, by simp [intOf]; omega⟩
                  intro a' ha'
                  by_cases e : a' < a
                  · exact HCOV.out a' e
                  · obtain rfl : a' = a := by omega
                    simpa [anyL, inB] using hany
          · have hcv := HCOV.out
            have hok := HOK.out
            obtain rfl := HLEN.out
            have hLs : ListsAt wr (fun b => w.heap.size < b) (some ⟨g, 0, none⟩) ls := by
              refine ⟨vs, hll.1, (Row.of_own hown).mono fun b _ hb => by omega, fun i hi => ?_⟩
              obtain ⟨A', c', e1, e2⟩ := hll.2 i hi
              exact ⟨A', c', e1, e2.mono fun b _ hb => hb.1⟩
            have hgood : GoodL ls := ⟨by omega, by omega, hok, fun a' h => hcv a' (by omega)⟩
            have hbnd : ∀ l ∈ ls, l.length ≤ 100 ∧ ∀ a ∈ l, 0 ≤ a ∧ a ≤ 20 := fun l hl => ⟨by have := okL_len5 l (hok l hl); omega, fun a ha => by have := (hok l hl).2.2 a ha; omega⟩
            have HG := Lib.hid hgood
            have HBD := Lib.hid hbnd
            clear hcv hok hgood hbnd
            go_wp2_with (
              go_at_call 31
              go_must (
                refine (sch_any (some ⟨g, 0, none⟩) cap ls wr hLs (by omega) HBD.out).mono ?_
                rintro e w2 ⟨v, rfl, hsch, hbel⟩
                have hsch2 := hsch.mono (R' := fun b => w.heap.size < b) fun b _ hb => by omega
                obtain ⟨A1, c1, A2, c2, A3, c3, rfl, hrest⟩ := hsch
                have hb2 := HB0.out.ext hbel
                have q0 := hb2.cell 0
                have q1 := hb2.cell 1
                have q2 := hb2.cell 2
                have q3 := hb2.cell 3
                have z0 := hb2.frozen 0
                have z1 := hb2.frozen 1
                have z2 := hb2.frozen 2
                have z3 := hb2.frozen 3
                simp at q0 q1 q2 q3
                clear hb2 hrest))
            refine bodyPost_ret (v := .agg #[.slice A1 (schOf ls).attrs.length c1, .slice A2 (schOf ls).rels.length c2, .slice A3 (schOf ls).feats.length c3, .int .i64 (schOf ls).label]) (by simp [results, Try.results9, go_sem, q0, q1, q2, q3]) rfl ?_
            have hk : ∀ b, b ≠ w.heap.size → ((((w2.setCell ⟨w.heap.size, 0, none⟩ (.slice A1 (schOf ls).attrs.length c1)).setCell ⟨w.heap.size, 1, none⟩ (.slice A2 (schOf ls).rels.length c2)).setCell ⟨w.heap.size, 2, none⟩ (.slice A3 (schOf ls).feats.length c3)).setCell ⟨w.heap.size, 3, none⟩ (.int .i64 (schOf ls).label)).heap[b]? = w2.heap[b]? := fun b hb => by
              rw [Below.heap_setCell _ _ _ _ hb, Below.heap_setCell _ _ _ _ hb, Below.heap_setCell _ _ _ _ hb, Below.heap_setCell _ _ _ _ hb]
            have hgW : w2.grownBy ((((w2.setCell ⟨w.heap.size, 0, none⟩ (.slice A1 (schOf ls).attrs.length c1)).setCell ⟨w.heap.size, 1, none⟩ (.slice A2 (schOf ls).rels.length c2)).setCell ⟨w.heap.size, 2, none⟩ (.slice A3 (schOf ls).feats.length c3)).setCell ⟨w.heap.size, 3, none⟩ (.int .i64 (schOf ls).label)) (some w.heap.size) :=
              ⟨rfl, rfl, rfl, by simp [World.setCell], fun b _ hb => hk b (by simpa using hb)⟩
            refine ⟨_, ls, r', rfl, HG.out, ?_, ?_, ?_⟩
            · exact (hsch2.keep hgW.size fun b hb _ => hk b (by omega)).mono fun b _ hb => by omega
            · exact (hsrc.keep (grown_of_ext hbel none) (by simp)).keep hgW (fun g e => by injection e with e; omega)
            · exact grown_trans (grown_trans hg (grown_of_ext hbel none) (by simp)) hgW (fun g e hlt => by injection e with e; omega)

end Go.Proofs.Ytopblgabadljdaa
