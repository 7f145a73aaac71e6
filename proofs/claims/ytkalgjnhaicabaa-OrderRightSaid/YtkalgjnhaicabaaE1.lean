/-
  The words of our own step logic: plain values (PV), values with places (V), how they stand in memory. No statement of the program is proved here.
-/
import Derived.Test.YtkalgjnhaicabaaRows
import Derived.WalkKit
import Derived.WalkSpells
import Derived.WalkLawsBesides
import Derived.Maps.AppendAt
import Derived.Orders
namespace Go.Proofs.Ytkalgjnhaicabaa
open Go.RowKit

/-- Plain values: no place of the caller's own stands in them. -/
inductive PV where
  | int (k : IntKind) (n : Int)
  | bool (b : Bool)
  | str (s : ByteArray)
  | agg (cs : List PV)
  | tup (cs : List PV)
  | sl (nil : Option Bool) (n : Nat) (cs : List PV)
  | rp (cs : List PV) (off : Nat)
  | fn (f : Fn) (first captured : List PV)
  | nilfn
  | nilptr
  | nilmap
  | iface (t : TypeId) (v : PV)
  | niliface
  | any
  deriving Inhabited

/-- The cells from off on in block b are us; the block is one of R. -/
def Shows (w : World) (R : Nat → Prop) (b off : Nat) (us : List Value) : Prop :=
  R b ∧ ∀ j, j < us.length → w.cell? ⟨b, off + j, none⟩ = us[j]?

mutual
def RelP (w : World) (R : Nat → Prop) : PV → Value → Prop
  | .int k n, u => u = .int k n
  | .bool b, u => u = .bool b
  | .str s, u => u = .string s
  | .agg cs, u => ∃ us : List Value, u = .agg us.toArray ∧ RelPL w R cs us
  | .tup cs, u => ∃ us : List Value, u = .tuple us.toArray ∧ RelPL w R cs us
  | .sl nil n cs, u => ∃ A c, u = .slice A n c ∧ n ≤ c ∧ c ≤ maxLen ∧ (∀ b, nil = some b → b = A.isNone) ∧ (nil = some true → c = 0) ∧
      (cs ≠ [] → ∃ b off us, A = some ⟨b, off, none⟩ ∧ RelPL w R cs us ∧ Shows w R b off us)
  | .rp cs o, u => ∃ b off us, u = .pointer (some ⟨b, off + o, none⟩) ∧ RelPL w R cs us ∧ Shows w R b off us
  | .fn f fs cs, u => ∃ us vs : List Value, u = .func f us.toArray vs.toArray ∧ RelPL w R fs us ∧ RelPL w R cs vs
  | .nilfn, u => u = .nilFunc
  | .nilptr, u => u = .pointer none
  | .nilmap, u => u = .map none
  | .iface t v, u => ∃ x, u = .iface t x ∧ RelP w R v x
  | .niliface, u => u = .nilIface
  | .any, _ => True
def RelPL (w : World) (R : Nat → Prop) : List PV → List Value → Prop
  | [], us => us = []
  | c :: cs, us => ∃ u vs, us = u :: vs ∧ RelP w R c u ∧ RelPL w R cs vs
end

section
variable {w w' : World} {R R' : Nat → Prop}
theorem Shows.mono (hR : ∀ b, R b → R' b ∧ w'.heap[b]? = w.heap[b]?) {b off : Nat} {us : List Value} (h : Shows w R b off us) : Shows w' R' b off us :=
  ⟨(hR b h.1).1, fun j hj => (World.cell?_of_block (w := w) (a := ⟨b, off + j, none⟩) (hR b h.1).2).trans (h.2 j hj)⟩
mutual
theorem RelP.mono (hR : ∀ b, R b → R' b ∧ w'.heap[b]? = w.heap[b]?) : ∀ (p : PV) (u : Value), RelP w R p u → RelP w' R' p u
  | .int _ _, _, h => h
  | .bool _, _, h => h
  | .str _, _, h => h
  | .agg cs, _, h => by
    simp only [RelP] at h ⊢
    obtain ⟨us, e, h⟩ := h
    exact ⟨us, e, RelPL.mono hR cs us h⟩
  | .tup cs, _, h => by
    simp only [RelP] at h ⊢
    obtain ⟨us, e, h⟩ := h
    exact ⟨us, e, RelPL.mono hR cs us h⟩
  | .sl nil n cs, _, h => by
    simp only [RelP] at h ⊢
    obtain ⟨A, c, e, h1, h2, h3, h4, h5⟩ := h
    refine ⟨A, c, e, h1, h2, h3, h4, fun hne => ?_⟩
    obtain ⟨b, off, us, e, hl, hs⟩ := h5 hne
    exact ⟨b, off, us, e, RelPL.mono hR cs us hl, hs.mono hR⟩
  | .rp cs o, _, h => by
    simp only [RelP] at h ⊢
    obtain ⟨b, off, us, e, hl, hs⟩ := h
    exact ⟨b, off, us, e, RelPL.mono hR cs us hl, hs.mono hR⟩
  | .fn f fs cs, _, h => by
    simp only [RelP] at h ⊢
    obtain ⟨us, vs, e, h1, h2⟩ := h
    exact ⟨us, vs, e, RelPL.mono hR fs us h1, RelPL.mono hR cs vs h2⟩
  | .nilfn, _, h => h
  | .nilptr, _, h => h
  | .nilmap, _, h => h
  | .iface t v, _, h => by
    simp only [RelP] at h ⊢
    obtain ⟨x, e, h⟩ := h
    exact ⟨x, e, RelP.mono hR v x h⟩
  | .niliface, _, h => h
  | .any, _, _ => trivial
theorem RelPL.mono (hR : ∀ b, R b → R' b ∧ w'.heap[b]? = w.heap[b]?) : ∀ (ps : List PV) (us : List Value), RelPL w R ps us → RelPL w' R' ps us
  | [], _, h => h
  | c :: cs, _, h => by
    simp only [RelPL] at h ⊢
    obtain ⟨u, vs, e, h1, h2⟩ := h
    exact ⟨u, vs, e, RelP.mono hR c u h1, RelPL.mono hR cs vs h2⟩
end

theorem RelPL.length : ∀ {ps : List PV} {us : List Value}, RelPL w R ps us → us.length = ps.length
  | [], _, h => by simp only [RelPL] at h; simp [h]
  | c :: cs, _, h => by
    simp only [RelPL] at h
    obtain ⟨u, vs, rfl, _, h2⟩ := h
    simp [RelPL.length h2]
theorem RelPL.get : ∀ {ps : List PV} {us : List Value}, RelPL w R ps us → ∀ {i : Nat} {p : PV}, ps[i]? = some p → ∃ u, us[i]? = some u ∧ RelP w R p u
  | [], _, _, i, p, hp => by simp at hp
  | c :: cs, _, h, i, p, hp => by
    simp only [RelPL] at h
    obtain ⟨u, vs, rfl, h1, h2⟩ := h
    cases i with
    | zero => simp at hp; subst hp; exact ⟨u, by simp, h1⟩
    | succ i => simp at hp; obtain ⟨x, hx, hr⟩ := RelPL.get h2 hp; exact ⟨x, by simpa using hx, hr⟩
theorem RelPL.nil : RelPL w R [] [] := by simp [RelPL]
theorem RelPL.cons {p : PV} {u : Value} {ps : List PV} {us : List Value} (h : RelP w R p u) (hs : RelPL w R ps us) : RelPL w R (p :: ps) (u :: us) := by
  simp only [RelPL]
  exact ⟨u, us, rfl, h, hs⟩
theorem RelPL.append : ∀ {ps qs : List PV} {us vs : List Value}, RelPL w R ps us → RelPL w R qs vs → RelPL w R (ps ++ qs) (us ++ vs)
  | [], _, _, _, h, k => by simp only [RelPL] at h; subst h; simpa using k
  | c :: cs, _, _, _, h, k => by
    simp only [RelPL] at h
    obtain ⟨u, xs, rfl, h1, h2⟩ := h
    exact RelPL.cons h1 (RelPL.append h2 k)
theorem RelPL.take : ∀ {ps : List PV} {us : List Value} (n : Nat), RelPL w R ps us → RelPL w R (ps.take n) (us.take n)
  | [], _, n, h => by simp only [RelPL] at h; subst h; simpa using RelPL.nil
  | c :: cs, _, 0, h => by simpa using RelPL.nil
  | c :: cs, _, n + 1, h => by
    simp only [RelPL] at h
    obtain ⟨u, xs, rfl, h1, h2⟩ := h
    simpa using RelPL.cons h1 (RelPL.take n h2)
theorem RelPL.drop : ∀ {ps : List PV} {us : List Value} (n : Nat), RelPL w R ps us → RelPL w R (ps.drop n) (us.drop n)
  | [], _, n, h => by simp only [RelPL] at h; subst h; simpa using RelPL.nil
  | c :: cs, _, 0, h => by simpa using h
  | c :: cs, _, n + 1, h => by
    simp only [RelPL] at h
    obtain ⟨u, xs, rfl, h1, h2⟩ := h
    simpa using RelPL.drop n h2
theorem RelPL.set : ∀ {ps : List PV} {us : List Value} (i : Nat) {p : PV} {u : Value}, RelPL w R ps us → RelP w R p u → RelPL w R (ps.set i p) (us.set i u)
  | [], _, n, _, _, h, _ => by simp only [RelPL] at h; subst h; simpa using RelPL.nil
  | c :: cs, _, 0, _, _, h, k => by
    simp only [RelPL] at h
    obtain ⟨u, xs, rfl, h1, h2⟩ := h
    simpa using RelPL.cons k h2
  | c :: cs, _, n + 1, _, _, h, k => by
    simp only [RelPL] at h
    obtain ⟨u, xs, rfl, h1, h2⟩ := h
    simpa using RelPL.cons h1 (RelPL.set n h2 k)
theorem RelPL.replicate {p : PV} {u : Value} (h : RelP w R p u) : ∀ n, RelPL w R (List.replicate n p) (List.replicate n u)
  | 0 => by simpa using RelPL.nil
  | n + 1 => by simpa [List.replicate_succ] using RelPL.cons h (RelPL.replicate h n)
end

/-- Values: plain ones, and those with places of the call's own (numbered by id). -/
inductive V where
  | pv (p : PV)
  | ptr (id off : Nat)
  | osl (id sz n : Nat)
  | gsl (id sz n : Nat)
  | map (id : Nat)
  | agg (cs : List V)
  | tup (cs : List V)
  | fn (f : Fn) (first captured : List V)
  deriving Inhabited

/-- Where the call's own places lie: block and size. -/
abbrev Gm := Nat → Option (Nat × Nat)
/-- Which numbers are still free. -/
abbrev Av := Nat → Bool

mutual
def Rel (w : World) (m : Gm) (av : Av) (R : Nat → Prop) : V → Value → Prop
  | .pv p, u => RelP w R p u
  | .ptr id off, u => av id = false ∧ ∀ b N, m id = some (b, N) → u = .pointer (some ⟨b, off, none⟩)
  | .osl id sz n, u => av id = false ∧ ∀ b N, m id = some (b, N) → ∃ c, u = .slice (some ⟨b, 0, none⟩) n c ∧ n ≤ c ∧ c ≤ maxLen ∧ N = c * sz
  | .gsl id sz n, u => av id = false ∧ ∃ A c, u = .slice A n c ∧ n ≤ c ∧ c ≤ maxLen ∧ (n = 0 → A = none ∧ c = 0 ∧ m id = none) ∧ (0 < n → ∀ b N, m id = some (b, N) → A = some ⟨b, 0, none⟩ ∧ N = c * sz)
  | .map id, u => av id = false ∧ ∀ b N, m id = some (b, N) → u = .map (some b)
  | .agg cs, u => ∃ us : List Value, u = .agg us.toArray ∧ RelL w m av R cs us
  | .tup cs, u => ∃ us : List Value, u = .tuple us.toArray ∧ RelL w m av R cs us
  | .fn f fs cs, u => ∃ us vs : List Value, u = .func f us.toArray vs.toArray ∧ RelL w m av R fs us ∧ RelL w m av R cs vs
def RelL (w : World) (m : Gm) (av : Av) (R : Nat → Prop) : List V → List Value → Prop
  | [], us => us = []
  | c :: cs, us => ∃ u vs, us = u :: vs ∧ Rel w m av R c u ∧ RelL w m av R cs vs
end

theorem sub_none {α : Type} {a b : Option α} (h : ∀ x, a = some x → b = some x) (hb : b = none) : a = none := by
  cases a with
  | none => rfl
  | some x => rw [h x rfl] at hb; cases hb

section
variable {w w' : World} {R R' : Nat → Prop} {m m' : Gm} {av av' : Av}
mutual
theorem Rel.mono (hR : ∀ b, R b → R' b ∧ w'.heap[b]? = w.heap[b]?) (hm : ∀ id x, av id = false → m' id = some x → m id = some x) (ha : ∀ id, av id = false → av' id = false) :
    ∀ (p : V) (u : Value), Rel w m av R p u → Rel w' m' av' R' p u
  | .pv p, u, h => by simp only [Rel] at h ⊢; exact h.mono hR
  | .ptr id off, _, h => by simp only [Rel] at h ⊢; exact ⟨ha id h.1, fun b N e => h.2 b N (hm _ _ h.1 e)⟩
  | .osl id sz n, _, h => by simp only [Rel] at h ⊢; exact ⟨ha id h.1, fun b N e => h.2 b N (hm _ _ h.1 e)⟩
  | .gsl id sz n, _, h => by
    simp only [Rel] at h ⊢
    obtain ⟨h0, A, c, e, h1, h2, h3, h4⟩ := h
    exact ⟨ha id h0, A, c, e, h1, h2, fun hn => ⟨(h3 hn).1, (h3 hn).2.1, sub_none (fun x => hm id x h0) (h3 hn).2.2⟩, fun hp b N e => h4 hp b N (hm _ _ h0 e)⟩
  | .map id, _, h => by simp only [Rel] at h ⊢; exact ⟨ha id h.1, fun b N e => h.2 b N (hm _ _ h.1 e)⟩
  | .agg cs, _, h => by
    simp only [Rel] at h ⊢
    obtain ⟨us, e, h⟩ := h
    exact ⟨us, e, RelL.mono hR hm ha cs us h⟩
  | .tup cs, _, h => by
    simp only [Rel] at h ⊢
    obtain ⟨us, e, h⟩ := h
    exact ⟨us, e, RelL.mono hR hm ha cs us h⟩
  | .fn f fs cs, _, h => by
    simp only [Rel] at h ⊢
    obtain ⟨us, vs, e, h1, h2⟩ := h
    exact ⟨us, vs, e, RelL.mono hR hm ha fs us h1, RelL.mono hR hm ha cs vs h2⟩
theorem RelL.mono (hR : ∀ b, R b → R' b ∧ w'.heap[b]? = w.heap[b]?) (hm : ∀ id x, av id = false → m' id = some x → m id = some x) (ha : ∀ id, av id = false → av' id = false) :
    ∀ (ps : List V) (us : List Value), RelL w m av R ps us → RelL w' m' av' R' ps us
  | [], _, h => by simpa only [RelL] using h
  | c :: cs, _, h => by
    simp only [RelL] at h ⊢
    obtain ⟨u, vs, e, h1, h2⟩ := h
    exact ⟨u, vs, e, Rel.mono hR hm ha c u h1, RelL.mono hR hm ha cs vs h2⟩
end
theorem RelL.length : ∀ {ps : List V} {us : List Value}, RelL w m av R ps us → us.length = ps.length
  | [], _, h => by simp only [RelL] at h; simp [h]
  | c :: cs, _, h => by
    simp only [RelL] at h
    obtain ⟨u, vs, rfl, _, h2⟩ := h
    simp [RelL.length h2]
theorem RelL.get : ∀ {ps : List V} {us : List Value}, RelL w m av R ps us → ∀ {i : Nat} {p : V}, ps[i]? = some p → ∃ u, us[i]? = some u ∧ Rel w m av R p u
  | [], _, _, i, p, hp => by simp at hp
  | c :: cs, _, h, i, p, hp => by
    simp only [RelL] at h
    obtain ⟨u, vs, rfl, h1, h2⟩ := h
    cases i with
    | zero => simp at hp; subst hp; exact ⟨u, by simp, h1⟩
    | succ i => simp at hp; obtain ⟨x, hx, hr⟩ := RelL.get h2 hp; exact ⟨x, by simpa using hx, hr⟩
theorem RelL.nil : RelL w m av R [] [] := by simp [RelL]
theorem RelL.cons {p : V} {u : Value} {ps : List V} {us : List Value} (h : Rel w m av R p u) (hs : RelL w m av R ps us) : RelL w m av R (p :: ps) (u :: us) := by
  simp only [RelL]
  exact ⟨u, us, rfl, h, hs⟩
theorem RelL.append : ∀ {ps qs : List V} {us vs : List Value}, RelL w m av R ps us → RelL w m av R qs vs → RelL w m av R (ps ++ qs) (us ++ vs)
  | [], _, _, _, h, k => by simp only [RelL] at h; subst h; simpa using k
  | c :: cs, _, _, _, h, k => by
    simp only [RelL] at h
    obtain ⟨u, xs, rfl, h1, h2⟩ := h
    exact RelL.cons h1 (RelL.append h2 k)
theorem RelL.take : ∀ {ps : List V} {us : List Value} (n : Nat), RelL w m av R ps us → RelL w m av R (ps.take n) (us.take n)
  | [], _, n, h => by simp only [RelL] at h; subst h; simpa using RelL.nil
  | c :: cs, _, 0, h => by simpa using RelL.nil
  | c :: cs, _, n + 1, h => by
    simp only [RelL] at h
    obtain ⟨u, xs, rfl, h1, h2⟩ := h
    simpa using RelL.cons h1 (RelL.take n h2)
theorem RelL.drop : ∀ {ps : List V} {us : List Value} (n : Nat), RelL w m av R ps us → RelL w m av R (ps.drop n) (us.drop n)
  | [], _, n, h => by simp only [RelL] at h; subst h; simpa using RelL.nil
  | c :: cs, _, 0, h => by simpa using h
  | c :: cs, _, n + 1, h => by
    simp only [RelL] at h
    obtain ⟨u, xs, rfl, h1, h2⟩ := h
    simpa using RelL.drop n h2
theorem RelL.set : ∀ {ps : List V} {us : List Value} (i : Nat) {p : V} {u : Value}, RelL w m av R ps us → Rel w m av R p u → RelL w m av R (ps.set i p) (us.set i u)
  | [], _, n, _, _, h, _ => by simp only [RelL] at h; subst h; simpa using RelL.nil
  | c :: cs, _, 0, _, _, h, k => by
    simp only [RelL] at h
    obtain ⟨u, xs, rfl, h1, h2⟩ := h
    simpa using RelL.cons k h2
  | c :: cs, _, n + 1, _, _, h, k => by
    simp only [RelL] at h
    obtain ⟨u, xs, rfl, h1, h2⟩ := h
    simpa using RelL.cons h1 (RelL.set n h2 k)
theorem RelL.ofP : ∀ {ps : List PV} {us : List Value}, RelPL w R ps us → RelL w m av R (ps.map V.pv) us
  | [], _, h => by simpa only [RelL, RelPL, List.map_nil] using h
  | c :: cs, _, h => by
    simp only [RelPL] at h
    obtain ⟨u, vs, rfl, h1, h2⟩ := h
    exact RelL.cons (by simpa only [Rel] using h1) (RelL.ofP h2)
theorem RelL.toP : ∀ {ps : List PV} {us : List Value}, RelL w m av R (ps.map V.pv) us → RelPL w R ps us
  | [], _, h => by simpa only [RelL, RelPL, List.map_nil] using h
  | c :: cs, _, h => by
    simp only [List.map_cons, RelL] at h
    obtain ⟨u, vs, rfl, h1, h2⟩ := h
    exact RelPL.cons (by simpa only [Rel] using h1) (RelL.toP h2)
end

/-- A place of the call's own. -/
inductive Ob where
  | cells (ty : TypeId) (cs : List PV)
  | mix (ty : TypeId) (cs : List V)
  | gro (ty : TypeId) (cs : List PV)

/-- Is there a block for the place? None, while a growing slice is nil. -/
def Ob.real : Ob → Bool
  | .gro _ [] => false
  | _ => true
def liveO : Option Ob → Bool
  | some o => o.real
  | none => false

/-- The object o lies in block b, which has N cells. -/
def ORel (w : World) (m : Gm) (av : Av) (R : Nat → Prop) (b N : Nat) : Ob → Prop
  | .cells ty cs => ∃ arr : Array Value, w.heap[b]? = some (.cells arr ty (0, 0)) ∧ arr.size = N ∧ cs.length ≤ N ∧ RelPL w R cs (arr.toList.take cs.length)
  | .gro ty cs => ∃ arr : Array Value, w.heap[b]? = some (.cells arr ty (0, 0)) ∧ arr.size = N ∧ cs.length ≤ N ∧ RelPL w R cs (arr.toList.take cs.length)
  | .mix ty cs => ∃ arr : Array Value, w.heap[b]? = some (.cells arr ty (0, 0)) ∧ arr.size = N ∧ cs.length ≤ N ∧ RelL w m av R cs (arr.toList.take cs.length)

theorem ORel.mono {w w' : World} {R R' : Nat → Prop} {m m' : Gm} {av av' : Av} {b N : Nat} {o : Ob} (hR : ∀ b, R b → R' b ∧ w'.heap[b]? = w.heap[b]?)
    (hm : ∀ id x, av id = false → m' id = some x → m id = some x) (ha : ∀ id, av id = false → av' id = false) (hb : w'.heap[b]? = w.heap[b]?) (h : ORel w m av R b N o) : ORel w' m' av' R' b N o := by
  cases o with
  | cells ty cs =>
    obtain ⟨arr, h1, h2, h3, h4⟩ := h
    exact ⟨arr, hb.trans h1, h2, h3, h4.mono hR⟩
  | mix ty cs =>
    obtain ⟨arr, h1, h2, h3, h4⟩ := h
    exact ⟨arr, hb.trans h1, h2, h3, h4.mono hR hm ha⟩
  | gro ty cs =>
    obtain ⟨arr, h1, h2, h3, h4⟩ := h
    exact ⟨arr, hb.trans h1, h2, h3, h4.mono hR⟩

/-- What a call stands on: the program, the places that were handed to it (numbers from big on), the world at its entry, the blocks that it may turn (F), the blocks that it may read as they are (R0). -/
structure Ctx where
  P : Program
  m0 : Gm
  w0 : World
  F : Nat → Prop
  R0 : Nat → Prop

/-- Numbers from here on are places that the caller handed over: they are never taken anew. -/
abbrev big : Nat := 1000000

/-- A state: what the slots hold, the places of the call's own, which numbers are free. -/
structure St where
  sl : Nat → V
  ob : Nat → Option Ob
  av : Av

/-- Of what was there at the entry only blocks of F have turned. -/
structure Fr (F : Nat → Prop) (w w' : World) : Prop where
  os : w'.os = w.os
  tape : w'.tape = w.tape
  output : w'.output = w.output
  size : w.heap.size ≤ w'.heap.size
  block : ∀ k, k < w.heap.size → ¬ F k → w'.heap[k]? = w.heap[k]?

theorem Fr.refl (F : Nat → Prop) (w : World) : Fr F w w := ⟨rfl, rfl, rfl, Nat.le_refl _, fun _ _ _ => rfl⟩
theorem Fr.below {w w' : World} (h : Fr (fun _ => False) w w') : Below w.heap.size w w' := ⟨h.os, h.tape, h.output, h.size, fun k hk => h.block k hk id⟩
theorem Fr.ofBelow {w w' : World} (h : Below w.heap.size w w') (F : Nat → Prop) : Fr F w w' := ⟨h.os, h.tape, h.output, h.size, fun k hk _ => h.block k hk⟩

structure HR (C : Ctx) (m : Gm) (R : Nat → Prop) (ob : Nat → Option Ob) (av : Av) (w : World) : Prop where
  dom : ∀ id, (m id).isSome = liveO (ob id)
  free : ∀ id, av id = true → ob id = none
  obj : ∀ id o b N, ob id = some o → m id = some (b, N) → ORel w m av R b N o
  inj : ∀ i j b N N', m i = some (b, N) → m j = some (b, N') → i = j
  own : ∀ id b N, m id = some (b, N) → b < w.heap.size ∧ ¬ R b ∧ (C.F b ∨ C.w0.heap.size ≤ b)
  rsz : ∀ b, R b → b < w.heap.size
  rfr : ∀ b, R b → C.R0 b ∨ C.w0.heap.size ≤ b ∨ C.F b
  r0 : ∀ b, C.R0 b → R b
  frame : Fr C.F C.w0 w
  keep : ∀ id x, big ≤ id → m id = some x → C.m0 id = some x
  res : ∀ id, big ≤ id → av id = false

end Go.Proofs.Ytkalgjnhaicabaa
