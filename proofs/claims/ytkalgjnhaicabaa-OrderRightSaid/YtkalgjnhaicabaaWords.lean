/-
  Words for memory that all walks of this seat use: a row of cells that a slice value shows, kept while memory only grows. No statement of the program is proved here.
-/
import Derived.Test.YtkalgjnhaicabaaRows
import Derived.WalkKit
import Derived.WalkSpells
import Derived.WalkLawsBesides
import Derived.Deep.QuietTactic
import Derived.BigQuiet
import Derived.Deep.Draws
import Derived.Lib.Hide
import Derived.Maps.AppendAt
import Derived.RegionTactic
import Derived.Deep.RegionLaw
namespace Go.Proofs.Ytkalgjnhaicabaa
open Go.RowKit

/-- The slice address A shows the cells xs (nothing is asked if there are none); the block is one of those that R names. -/
def Row (w : World) (R : Nat → Prop) (A : Option Addr) (xs : List Value) : Prop :=
  xs ≠ [] → ∃ b off : Nat, A = some ⟨b, off, none⟩ ∧ R b ∧ b < w.heap.size ∧ ∀ j, j < xs.length → w.cell? ⟨b, off + j, none⟩ = xs[j]?

abbrev ints (l : List Int) : List Value := l.map (Value.int .i64)
abbrev bools (l : List Bool) : List Value := l.map Value.bool
abbrev strs (l : List ByteArray) : List Value := l.map Value.string
/-- Any block. -/
def Any (_ : Nat) : Prop := True

section
variable {w w' : World} {R R' : Nat → Prop} {A : Option Addr} {xs : List Value}
theorem Row.nil : Row w R A [] := fun h => absurd rfl h
theorem Row.at_ (h : Row w R A xs) {k : Nat} (hk : k < xs.length) :
    ∃ b off : Nat, A = some ⟨b, off, none⟩ ∧ R b ∧ b < w.heap.size ∧ ∀ j, j < xs.length → w.cell? ⟨b, off + j, none⟩ = xs[j]? :=
  h (by rintro rfl; simp at hk)
theorem Row.int_at {l : List Int} (h : Row w R A (ints l)) {k : Nat} (hk : k < l.length) :
    ∃ b off : Nat, A = some ⟨b, off, none⟩ ∧ b < w.heap.size ∧ w.cell? ⟨b, off + k, none⟩ = some (.int .i64 l[k]) := by
  obtain ⟨b, off, e, _, hb, hc⟩ := h.at_ (k := k) (by simpa using hk)
  exact ⟨b, off, e, hb, by rw [hc k (by simpa using hk)]; simp [hk]⟩
theorem Row.bool_at {l : List Bool} (h : Row w R A (bools l)) {k : Nat} (hk : k < l.length) :
    ∃ b off : Nat, A = some ⟨b, off, none⟩ ∧ b < w.heap.size ∧ w.cell? ⟨b, off + k, none⟩ = some (.bool l[k]) := by
  obtain ⟨b, off, e, _, hb, hc⟩ := h.at_ (k := k) (by simpa using hk)
  exact ⟨b, off, e, hb, by rw [hc k (by simpa using hk)]; simp [hk]⟩
theorem Row.str_at {l : List ByteArray} (h : Row w R A (strs l)) {k : Nat} (hk : k < l.length) :
    ∃ b off : Nat, A = some ⟨b, off, none⟩ ∧ b < w.heap.size ∧ w.cell? ⟨b, off + k, none⟩ = some (.string l[k]) := by
  obtain ⟨b, off, e, _, hb, hc⟩ := h.at_ (k := k) (by simpa using hk)
  exact ⟨b, off, e, hb, by rw [hc k (by simpa using hk)]; simp [hk]⟩
/-- The row's own block is as it was. -/
theorem Row.keep (h : Row w R A xs) (hs : w.heap.size ≤ w'.heap.size)
    (hk : ∀ b off, A = some ⟨b, off, none⟩ → R b → b < w.heap.size → w'.heap[b]? = w.heap[b]?) : Row w' R A xs := by
  intro hne
  obtain ⟨b, off, rfl, hR, hlt, hc⟩ := h hne
  have hb := hk b off rfl hR hlt
  exact ⟨b, off, rfl, hR, by omega, fun j hj => by rw [World.cell?_of_block (w := w) (a := ⟨b, off + j, none⟩) hb]; exact hc j hj⟩
theorem Row.mono (h : Row w R A xs) (hR : ∀ b, b < w.heap.size → R b → R' b) : Row w R' A xs := by
  intro hne
  obtain ⟨b, off, rfl, hRb, hlt, hc⟩ := h hne
  exact ⟨b, off, rfl, hR b hlt hRb, hlt, hc⟩
theorem Row.any (h : Row w R A xs) : Row w Any A xs := h.mono fun _ _ _ => trivial
theorem Row.take (h : Row w R A xs) (n : Nat) : Row w R A (xs.take n) := by
  intro hne
  obtain ⟨b, off, rfl, hR, hlt, hc⟩ := h (by rintro rfl; simp at hne)
  refine ⟨b, off, rfl, hR, hlt, fun j hj => ?_⟩
  have hj2 : j < n ∧ j < xs.length := by rw [List.length_take] at hj; omega
  rw [hc j hj2.2, List.getElem?_take, if_pos hj2.1]
/-- Old memory is as it was. -/
theorem Row.below (h : Row w R A xs) {B : Nat} (hb : Below B w w') (hB : w.heap.size ≤ B) : Row w' R A xs :=
  h.keep hb.size fun b _ _ _ hlt => hb.block b (by omega)
theorem Row.ext (h : Row w R A xs) (hb : Below w.heap.size w w') : Row w' R A xs := h.below hb (Nat.le_refl _)
theorem Row.drewN (h : Row w R A xs) (n : Nat) : Row (w.drewN n) R A xs := h
theorem Row.alloc (h : Row w R A xs) (o : Obj) : Row (w.alloc o) R A xs :=
  h.keep (by simp) fun b _ _ _ hlt => Below.heap_alloc w o b hlt
theorem Row.grown {row : Option Nat} (h : Row w R A xs) (hg : w.grownBy w' row)
    (hne : ∀ b, R b → b < w.heap.size → row ≠ some b) : Row w' R A xs :=
  h.keep hg.size fun b _ _ hR hlt => hg.block b hlt fun e => hne b hR hlt e.symm
theorem Row.setCell (h : Row w R A xs) {p : Addr} (hp : ∀ b, R b → b ≠ p.block) (u : Value) : Row (w.setCell p u) R A xs :=
  h.keep (by simp [World.setCell]) fun b _ _ hR _ => Below.heap_setCell w p u b (hp b hR)
theorem Row.of_own {base : Nat} {e : TypeId} {size n c : Nat} (h : w.ownsRow base e size (.slice A n c) n xs) : Row w (fun b => base ≤ b ∧ (Value.slice A n c).ownBlock = some b) A xs := by
  intro hne
  rcases h.2 with ⟨hv, hn⟩ | ⟨g, cap, cur, hv, hb, hg, hnc, hm, hs, ht⟩
  · exfalso
    have := h.1
    simp [hn] at this
    exact hne this
  · simp only [Value.slice.injEq] at hv
    obtain ⟨rfl, -, rfl⟩ := hv
    refine ⟨g, 0, rfl, ⟨hb, rfl⟩, (Array.getElem?_eq_some_iff.1 hg).1, fun j hj => ?_⟩
    rw [Nat.zero_add, cell_of_row w g j cur e (0, 0) hg, ← ht, List.getElem?_take, if_pos (by rw [h.1] at hj; exact hj)]
    simp
end
/-- An owned row's value is a slice. -/
theorem own_slice {w : World} {base : Nat} {e : TypeId} {size n : Nat} {v : Value} {xs : List Value} (h : w.ownsRow base e size v n xs) : ∃ A c, v = .slice A n c ∧ n ≤ c ∧ c ≤ maxLen := by
  rcases h.2 with ⟨rfl, rfl⟩ | ⟨g, cap, cur, rfl, _, _, hnc, hm, _⟩
  · exact ⟨none, 0, rfl, Nat.le_refl _, by simp [maxLen]⟩
  · exact ⟨_, cap, rfl, hnc, hm⟩

/-- What the call made is new, and nothing else has turned: composed. -/
theorem ext_trans {a b c : World} (h : Below a.heap.size a b) (k : Below b.heap.size b c) : Below a.heap.size a c := h.trans (k.mono h.size)
theorem ext_alloc {a b : World} (h : Below a.heap.size a b) (o : Obj) : Below a.heap.size a (b.alloc o) := h.alloc h.size o
theorem below_drewN {B : Nat} {a b : World} (h : Below B a b) (n : Nat) : Below B a (b.drewN n) := ⟨h.os, h.tape, h.output, h.size, h.block⟩
theorem grown_drewN {a b : World} {row : Option Nat} (h : a.grownBy b row) (n : Nat) : a.grownBy (b.drewN n) row := ⟨h.os, h.tape, h.output, h.size, h.block⟩
theorem grown_alloc {a b : World} {row : Option Nat} (h : a.grownBy b row) (o : Obj) : a.grownBy (b.alloc o) row :=
  ⟨h.os, h.tape, h.output, Nat.le_trans h.size (by simp), fun i hi hne => (Below.heap_alloc b o i (Nat.lt_of_lt_of_le hi h.size)).trans (h.block i hi hne)⟩
theorem grown_set {a b : World} {g : Nat} (h : a.grownBy b (some g)) {p : Addr} (hp : p.block = g ∨ a.heap.size ≤ p.block) (u : Value) : a.grownBy (b.setCell p u) (some g) :=
  ⟨h.os, h.tape, h.output, by simpa [World.setCell] using h.size, fun i hi hne => (Below.heap_setCell b p u i (by
    rintro rfl
    rcases hp with hp | hp
    · exact hne (by rw [hp])
    · omega)).trans (h.block i hi hne)⟩
theorem grown_trans {a b c : World} {row row' : Option Nat} (h : a.grownBy b row) (k : b.grownBy c row') (hr : ∀ g, row' = some g → g < a.heap.size → row = some g) : a.grownBy c row :=
  ⟨k.os.trans h.os, k.tape.trans h.tape, k.output.trans h.output, Nat.le_trans h.size k.size,
    fun i hi hne => (k.block i (Nat.lt_of_lt_of_le hi h.size) (fun e => hne (hr i e.symm hi).symm)).trans (h.block i hi hne)⟩
theorem grown_of_ext {a b : World} (h : Below a.heap.size a b) (row : Option Nat) : a.grownBy b row := ⟨h.os, h.tape, h.output, h.size, fun i hi _ => h.block i hi⟩
theorem ext_of_grown {a b : World} (h : a.grownBy b none) : Below a.heap.size a b := ⟨h.os, h.tape, h.output, h.size, fun i hi => h.block i hi (by simp)⟩

/-- Block g is just these cells of type t, none of them frozen. -/
def Blk (w : World) (g : Nat) (t : TypeId) (cs : Array Value) : Prop := w.heap[g]? = some (.cells cs t (0, 0))
theorem Blk.lt {w : World} {g : Nat} {t : TypeId} {cs : Array Value} (h : Blk w g t cs) : g < w.heap.size := (Array.getElem?_eq_some_iff.1 h).1
theorem Blk.cell {w : World} {g : Nat} {t : TypeId} {cs : Array Value} (h : Blk w g t cs) (i : Nat) : w.cell? ⟨g, i, none⟩ = cs[i]? := cell_of_row w g i cs t (0, 0) h
theorem Blk.frozen {w : World} {g : Nat} {t : TypeId} {cs : Array Value} (h : Blk w g t cs) (i : Nat) : w.frozen? ⟨g, i, none⟩ = false := by
  unfold Blk at h
  simp [World.frozen?, h]
theorem Blk.new (w : World) (t : TypeId) (cs : Array Value) : Blk (w.alloc (.cells cs t)) w.heap.size t cs := heap_alloc_new w _
theorem Blk.drewN {w : World} {g : Nat} {t : TypeId} {cs : Array Value} (h : Blk w g t cs) (n : Nat) : Blk (w.drewN n) g t cs := h
theorem Blk.alloc {w : World} {g : Nat} {t : TypeId} {cs : Array Value} (h : Blk w g t cs) (o : Obj) : Blk (w.alloc o) g t cs := (Below.heap_alloc w o g h.lt).trans h
theorem Blk.set {w : World} {g : Nat} {t : TypeId} {cs : Array Value} (h : Blk w g t cs) (i : Nat) (u : Value) : Blk (w.setCell ⟨g, i, none⟩ u) g t (cs.setIfInBounds i u) := by
  unfold Blk at h ⊢
  simp [World.setCell, Array.getElem?_modify, h]
theorem Blk.far {w : World} {g : Nat} {t : TypeId} {cs : Array Value} (h : Blk w g t cs) {p : Addr} (hp : g ≠ p.block) (u : Value) : Blk (w.setCell p u) g t cs := (Below.heap_setCell w p u g hp).trans h
theorem Blk.below {w w' : World} {g B : Nat} {t : TypeId} {cs : Array Value} (h : Blk w g t cs) (hb : Below B w w') (hg : g < B) : Blk w' g t cs := (hb.block g hg).trans h
theorem Blk.ext {w w' : World} {g : Nat} {t : TypeId} {cs : Array Value} (h : Blk w g t cs) (hb : Below w.heap.size w w') : Blk w' g t cs := (hb.block g h.lt).trans h
theorem Blk.grown {w w' : World} {g : Nat} {t : TypeId} {cs : Array Value} {row : Option Nat} (h : Blk w g t cs) (hb : w.grownBy w' row) (hg : some g ≠ row) : Blk w' g t cs := (hb.block g h.lt hg).trans h

theorem own_ne_blk {w : World} {base : Nat} {e : TypeId} {size n g : Nat} {v : Value} {xs : List Value} {t : TypeId} {cs : Array Value} (h : w.ownsRow base e size v n xs) (hg : Blk w g t cs) (hne : e ≠ t) : v.ownBlock ≠ some g := by
  rcases h.2 with ⟨rfl, _⟩ | ⟨g', cap, cur, rfl, _, hh, _⟩
  · simp [Value.ownBlock]
  · intro he
    have : g' = g := by simpa [Value.ownBlock] using he
    subst this
    unfold Blk at hg
    rw [hg] at hh
    simp at hh
    exact hne hh.2.symm

theorem own_ne_own {w : World} {base base' : Nat} {e e' : TypeId} {size size' n n' : Nat} {v v' : Value} {xs xs' : List Value} (h : w.ownsRow base e size v n xs) (h' : w.ownsRow base' e' size' v' n' xs') (hne : e ≠ e') : v.ownBlock = none ∨ v.ownBlock ≠ v'.ownBlock := by
  rcases h'.2 with ⟨rfl, _⟩ | ⟨g', cap, cur, rfl, _, hh, _⟩
  · cases hv : v.ownBlock <;> simp [Value.ownBlock]
  · exact .inr (own_ne_blk h (g := g') (cs := cur) hh hne)

theorem own_ne_own' {a : Option Nat} {g : Nat} (h : a = none ∨ a ≠ some g) : some g ≠ a := by
  rcases h with h | h
  · rw [h]; simp
  · exact fun e => h e.symm

/-- append of elements that lie in a new block: the row grows by them; where it lies now. -/
theorem wp_app {P : Program} {W : World} {o : Oper} {a : Act} {K : Act → World → Prop} {Q : Exit → Act → World → Prop} {cs : Array Value} {te : TypeId} (s x : Operand) (t : TypeId)
    (ho : o.op = .call { callee := .builtin .append, args := #[s, x], argTypes := #[t, t] })
    (base : Nat) (e : TypeId) (z : Value) (size bytes : Nat) (ht : P.underlying t = some (.slice e)) (hinfo : (P.info? e).map (fun i => (i.zero, i.size, i.bytes)) = some (some z, size, bytes))
    (hzs : z.cells.size = size) (hsz : 0 < size) (hby : bytes ≤ 1000)
    (v : Value) (n m : Nat) (xs : List Value) (hs : a.eval s = v) {g : Nat} (hx : a.eval x = .slice (some ⟨g, 0, none⟩) m m) (hgW : g = W.heap.size) (hown : W.ownsRow base e size v n xs)
    (hl : cs.size = m * size) (h1 : ∀ u ∈ cs.toList, u.oneCell' = true) (hb : n + m ≤ 1000000000) (hbase : base ≤ W.heap.size)
    (h : ∀ A' c' w', w'.ownsRow base e size (.slice A' (n + m) c') (n + m) (xs ++ cs.toList) → W.grownBy w' v.ownBlock → ((Value.slice A' (n + m) c').ownBlock = v.ownBlock ∨ ∃ g, (Value.slice A' (n + m) c').ownBlock = some g ∧ W.heap.size ≤ g) → K (a.put o.dst (.slice A' (n + m) c')) w') :
    o.wp P a (W.alloc (.cells cs te)) K Q := by
  subst hgW
  obtain ⟨i, hi, hz, hsize, hbytes⟩ := info_parts hinfo
  have hbb : (n + m) * bytes ≤ 140737488355328 := Nat.le_trans (Nat.mul_le_mul hb hby) (by decide)
  obtain ⟨v', w', hrun, h2, h3, _, h5⟩ := run_append_own_at (P := P) (W.alloc (.cells cs te)) base t o.type e i z size bytes ht hi hz hsize hbytes hzs hsz v n xs (hown.alloc _) ⟨W.heap.size, 0, none⟩ m m cs.toList
    (by simpa using hl) (fun j u hu => by rw [Addr.add_lit, Nat.zero_add, (Blk.new W te cs).cell j]; simpa using hu) h1 (by simp only [maxLen]; omega) hbb (by simp; omega)
  unfold Oper.wp execOp
  simp only [ho, resolve, invoke, builtin, Sem.run_bind, Sem.run_pure, Result.andThen_ok, List.map_toArray, List.map_cons, List.map_nil, hs, hx, hrun]
  obtain ⟨A', c', rfl, _, _⟩ := own_slice h2
  refine h A' c' w' h2 ?_ ?_
  · exact grown_trans (World.grownBy_alloc W _ _) h3 (fun g hg hlt => hg)
  · rcases h5 with h5 | h5
    · exact .inl h5
    · exact .inr ⟨_, h5, by simp⟩

/-- append(s, xs...): what the source shows is put behind. -/
theorem wp_appS {P : Program} {W : World} {o : Oper} {a : Act} {K : Act → World → Prop} {Q : Exit → Act → World → Prop} (s x : Operand) (t : TypeId)
    (ho : o.op = .call { callee := .builtin .append, args := #[s, x], argTypes := #[t, t] })
    (base : Nat) (e : TypeId) (z : Value) (size bytes : Nat) (ht : P.underlying t = some (.slice e)) (hinfo : (P.info? e).map (fun i => (i.zero, i.size, i.bytes)) = some (some z, size, bytes))
    (hzs : z.cells.size = size) (hsz : 0 < size) (hby : bytes ≤ 1000)
    (v : Value) (n m c : Nat) (A : Option Addr) (xs news : List Value) (hs : a.eval s = v) (hx : a.eval x = .slice A m c) (hown : W.ownsRow base e size v n xs) {R : Nat → Prop} (hr : Row W R A news)
    (hl : news.length = m * size) (h1 : ∀ u ∈ news, u.oneCell' = true) (hb : n + m ≤ 1000000000) (hbase : base ≤ W.heap.size)
    (h : ∀ A' c' w', w'.ownsRow base e size (.slice A' (n + m) c') (n + m) (xs ++ news) → W.grownBy w' v.ownBlock → ((Value.slice A' (n + m) c').ownBlock = v.ownBlock ∨ ∃ g, (Value.slice A' (n + m) c').ownBlock = some g ∧ W.heap.size ≤ g) → K (a.put o.dst (.slice A' (n + m) c')) w') :
    o.wp P a W K Q := by
  obtain ⟨i, hi, hz, hsize, hbytes⟩ := info_parts hinfo
  have hbb : (n + m) * bytes ≤ 140737488355328 := Nat.le_trans (Nat.mul_le_mul hb hby) (by decide)
  unfold Oper.wp execOp
  cases A with
  | none =>
    have hne : news = [] := by
      rcases Classical.em (news = []) with h0 | h0
      · exact h0
      · obtain ⟨b, off, hh, _⟩ := hr h0; cases hh
    subst hne
    have hm : m = 0 := by
      rcases Nat.eq_zero_or_pos m with h0 | h0
      · exact h0
      · have := Nat.mul_pos h0 hsz; simp at hl; omega
    subst hm
    have hrun : (Builtin.append_ #[t, t] o.type #[v, .slice none 0 c]).run P W = .ok v W := by
      rcases hown.2 with ⟨rfl, rfl⟩ | ⟨g, cap, cur, rfl, _, _, hnc, _⟩
      · simp [Builtin.append_, run_underlying ht, sizeOf, typeInfo, hi, Builtin.lenOf, Builtin.firstCells]
      · simp [Builtin.append_, run_underlying ht, sizeOf, typeInfo, hi, Builtin.lenOf, Builtin.firstCells, hnc, storeCells]
    simp only [ho, resolve, invoke, builtin, Sem.run_bind, Sem.run_pure, Result.andThen_ok, List.map_toArray, List.map_cons, List.map_nil, hs, hx, hrun]
    obtain ⟨A', c', rfl, _, _⟩ := own_slice hown
    exact h A' c' W (by simpa using hown) (World.grownBy.refl _ _) (.inl rfl)
  | some ad =>
    have hcells : ∀ j u, news[j]? = some u → W.cell? (ad.add j) = some u := by
      intro j u hu
      have hj : j < news.length := (List.getElem?_eq_some_iff.1 hu).1
      obtain ⟨b, off, hh, _, _, hc⟩ := hr (by rintro rfl; simp at hj)
      cases hh
      rw [Addr.add_lit, hc j hj]; exact hu
    obtain ⟨v', w', hrun, h2, h3, _, h5⟩ := run_append_own_at (P := P) W base t o.type e i z size bytes ht hi hz hsize hbytes hzs hsz v n xs hown ad m c news
      hl hcells h1 (by simp only [maxLen]; omega) hbb hbase
    simp only [ho, resolve, invoke, builtin, Sem.run_bind, Sem.run_pure, Result.andThen_ok, List.map_toArray, List.map_cons, List.map_nil, hs, hx, hrun]
    obtain ⟨A', c', rfl, _, _⟩ := own_slice h2
    refine h A' c' w' h2 h3 ?_
    rcases h5 with h5 | h5
    · exact .inl h5
    · exact .inr ⟨_, h5, Nat.le_refl _⟩

theorem wpList_app {P : Program} {W : World} {o : Oper} {a : Act} {ops : Array Oper} {rest : List Oper} {Q : Exit → Act → World → Prop} {cs : Array Value} {te : TypeId} (hgd : o.guard = none) (s x : Operand) (t : TypeId)
    (ho : o.op = .call { callee := .builtin .append, args := #[s, x], argTypes := #[t, t] })
    (base : Nat) (e : TypeId) (z : Value) (size bytes : Nat) (ht : P.underlying t = some (.slice e)) (hinfo : (P.info? e).map (fun i => (i.zero, i.size, i.bytes)) = some (some z, size, bytes))
    (hzs : z.cells.size = size) (hsz : 0 < size) (hby : bytes ≤ 1000)
    (v : Value) (n m : Nat) (xs : List Value) (hs : a.eval s = v) {g : Nat} (hx : a.eval x = .slice (some ⟨g, 0, none⟩) m m) (hgW : g = W.heap.size) (hown : W.ownsRow base e size v n xs)
    (hl : cs.size = m * size) (h1 : ∀ u ∈ cs.toList, u.oneCell' = true) (hb : n + m ≤ 1000000000) (hbase : base ≤ W.heap.size)
    (h : ∀ A' c' w', w'.ownsRow base e size (.slice A' (n + m) c') (n + m) (xs ++ cs.toList) → W.grownBy w' v.ownBlock → ((Value.slice A' (n + m) c').ownBlock = v.ownBlock ∨ ∃ g, (Value.slice A' (n + m) c').ownBlock = some g ∧ W.heap.size ≤ g) → wpList P ops Q rest (a.put o.dst (.slice A' (n + m) c')) w') :
    wpList P ops Q (o :: rest) a (W.alloc (.cells cs te)) :=
  wpList_plain hgd fun _ hK => wp_app s x t ho base e z size bytes ht hinfo hzs hsz hby v n m xs hs hx hgW hown hl h1 hb hbase fun A' c' w' h2 h3 h4 => hK _ _ (h A' c' w' h2 h3 h4)
theorem step_app {P : Program} {W : World} {o : Oper} {a : Act} {ops : Array Oper} {K : Act → World → Prop} {E : Prop} {Q : Exit → Act → World → Prop} {cs : Array Value} {te : TypeId} (hgd : o.guard = none) (s x : Operand) (t : TypeId)
    (ho : o.op = .call { callee := .builtin .append, args := #[s, x], argTypes := #[t, t] })
    (base : Nat) (e : TypeId) (z : Value) (size bytes : Nat) (ht : P.underlying t = some (.slice e)) (hinfo : (P.info? e).map (fun i => (i.zero, i.size, i.bytes)) = some (some z, size, bytes))
    (hzs : z.cells.size = size) (hsz : 0 < size) (hby : bytes ≤ 1000)
    (v : Value) (n m : Nat) (xs : List Value) (hs : a.eval s = v) {g : Nat} (hx : a.eval x = .slice (some ⟨g, 0, none⟩) m m) (hgW : g = W.heap.size) (hown : W.ownsRow base e size v n xs)
    (hl : cs.size = m * size) (h1 : ∀ u ∈ cs.toList, u.oneCell' = true) (hb : n + m ≤ 1000000000) (hbase : base ≤ W.heap.size)
    (h : ∀ A' c' w', w'.ownsRow base e size (.slice A' (n + m) c') (n + m) (xs ++ cs.toList) → W.grownBy w' v.ownBlock → ((Value.slice A' (n + m) c').ownBlock = v.ownBlock ∨ ∃ g, (Value.slice A' (n + m) c').ownBlock = some g ∧ W.heap.size ≤ g) → K (a.put o.dst (.slice A' (n + m) c')) w') :
    if Region.wanted o (yielded ops a.tmps) = true then Oper.wp P o a (W.alloc (.cells cs te)) K Q else E := by
  have hw : Region.wanted o (yielded ops a.tmps) = true := by simp [Region.wanted, hgd]
  rw [if_pos hw]
  exact wp_app s x t ho base e z size bytes ht hinfo hzs hsz hby v n m xs hs hx hgW hown hl h1 hb hbase h
theorem wpList_appS {P : Program} {W : World} {o : Oper} {a : Act} {ops : Array Oper} {rest : List Oper} {Q : Exit → Act → World → Prop} (hgd : o.guard = none) (s x : Operand) (t : TypeId)
    (ho : o.op = .call { callee := .builtin .append, args := #[s, x], argTypes := #[t, t] })
    (base : Nat) (e : TypeId) (z : Value) (size bytes : Nat) (ht : P.underlying t = some (.slice e)) (hinfo : (P.info? e).map (fun i => (i.zero, i.size, i.bytes)) = some (some z, size, bytes))
    (hzs : z.cells.size = size) (hsz : 0 < size) (hby : bytes ≤ 1000)
    (v : Value) (n m c : Nat) (A : Option Addr) (xs news : List Value) (hs : a.eval s = v) (hx : a.eval x = .slice A m c) (hown : W.ownsRow base e size v n xs) {R : Nat → Prop} (hr : Row W R A news)
    (hl : news.length = m * size) (h1 : ∀ u ∈ news, u.oneCell' = true) (hb : n + m ≤ 1000000000) (hbase : base ≤ W.heap.size)
    (h : ∀ A' c' w', w'.ownsRow base e size (.slice A' (n + m) c') (n + m) (xs ++ news) → W.grownBy w' v.ownBlock → ((Value.slice A' (n + m) c').ownBlock = v.ownBlock ∨ ∃ g, (Value.slice A' (n + m) c').ownBlock = some g ∧ W.heap.size ≤ g) → wpList P ops Q rest (a.put o.dst (.slice A' (n + m) c')) w') :
    wpList P ops Q (o :: rest) a W :=
  wpList_plain hgd fun _ hK => wp_appS s x t ho base e z size bytes ht hinfo hzs hsz hby v n m c A xs news hs hx hown hr hl h1 hb hbase fun A' c' w' h2 h3 h4 => hK _ _ (h A' c' w' h2 h3 h4)
theorem step_appS {P : Program} {W : World} {o : Oper} {a : Act} {ops : Array Oper} {K : Act → World → Prop} {E : Prop} {Q : Exit → Act → World → Prop} (hgd : o.guard = none) (s x : Operand) (t : TypeId)
    (ho : o.op = .call { callee := .builtin .append, args := #[s, x], argTypes := #[t, t] })
    (base : Nat) (e : TypeId) (z : Value) (size bytes : Nat) (ht : P.underlying t = some (.slice e)) (hinfo : (P.info? e).map (fun i => (i.zero, i.size, i.bytes)) = some (some z, size, bytes))
    (hzs : z.cells.size = size) (hsz : 0 < size) (hby : bytes ≤ 1000)
    (v : Value) (n m c : Nat) (A : Option Addr) (xs news : List Value) (hs : a.eval s = v) (hx : a.eval x = .slice A m c) (hown : W.ownsRow base e size v n xs) {R : Nat → Prop} (hr : Row W R A news)
    (hl : news.length = m * size) (h1 : ∀ u ∈ news, u.oneCell' = true) (hb : n + m ≤ 1000000000) (hbase : base ≤ W.heap.size)
    (h : ∀ A' c' w', w'.ownsRow base e size (.slice A' (n + m) c') (n + m) (xs ++ news) → W.grownBy w' v.ownBlock → ((Value.slice A' (n + m) c').ownBlock = v.ownBlock ∨ ∃ g, (Value.slice A' (n + m) c').ownBlock = some g ∧ W.heap.size ≤ g) → K (a.put o.dst (.slice A' (n + m) c')) w') :
    if Region.wanted o (yielded ops a.tmps) = true then Oper.wp P o a W K Q else E := by
  have hw : Region.wanted o (yielded ops a.tmps) = true := by simp [Region.wanted, hgd]
  rw [if_pos hw]
  exact wp_appS s x t ho base e z size bytes ht hinfo hzs hsz hby v n m c A xs news hs hx hown hr hl h1 hb hbase h

theorem quiet_left {P : Program} {f : FuncId} {args : Array Value} {w : World} {n : Nat} {v : Value}
    (h : Calls P f args (w.drewN n) fun e w' => e = .returned v ∧ w.drewN n = w') : Calls P f args (w.drewN n) fun e w'' => e = .returned v ∧ ∃ m, w'' = w.drewN m :=
  h.mono fun _ _ ⟨he, hm⟩ => ⟨he, n, hm.symm⟩

theorem ret_bool {a b : Bool} (h : a = b) : Ending.returned (.bool a) = .returned (.bool b) := by rw [h]
theorem ret_int {k : IntKind} {a b : Int} (h : a = b) : Ending.returned (.int k a) = .returned (.int k b) := by rw [h]

end Go.Proofs.Ytkalgjnhaicabaa
