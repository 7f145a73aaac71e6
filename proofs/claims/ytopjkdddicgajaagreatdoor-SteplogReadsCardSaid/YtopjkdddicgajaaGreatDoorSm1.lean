/-
  Texts of ours, joined: E1, E2, E3, Words, E4, E5, E6, E7, E8, E9, E10. No statement of the program is proved here.
-/
import Derived.Test.YtopjkdddicgajaaGreatDoorRows
import Derived.WalkKit
import Derived.WalkSpells
import Derived.WalkLawsBesides
import Derived.Maps.AppendAt
import Derived.Orders
import Derived.Deep.QuietTactic
import Derived.BigQuiet
import Derived.Deep.Draws
import Derived.Lib.Hide
import Derived.RegionTactic
import Derived.Deep.RegionLaw
import Derived.Deep.MidRow
import Derived.Laws.MakeOwn
import Derived.Great.BuildSlice
namespace Go.Proofs.YtopjkdddicgajaaGreatDoor
open Go.RowKit
/-- Plain values: no place of the caller's own stands in them. -/
inductive PV where
  | int (k : IntKind) (n : Int)
  | bool (b : Bool)
  | str (s : ByteArray)
  | agg (cs : List PV)
  | tup (cs : List PV)
  | sl (nil : Option Bool) (n : Nat) (cs : List PV)
  | rp (cs : List PV) (off : Nat)
  | fn (f : Fn) (first captured : List PV)
  | nilfn
  | nilptr
  | nilmap
  | iface (t : TypeId) (v : PV)
  | niliface
  | mp (ks vs : List PV)
  | any
  deriving Inhabited
/-- The cells from off on in block b are us; the block is one of R. -/
def Shows (w : World) (R : Nat → Prop) (b off : Nat) (us : List Value) : Prop :=
  R b ∧ ∀ j, j < us.length → w.cell? ⟨b, off + j, none⟩ = us[j]?
/-- The stamps of a map's entries. -/
def Stamps (es : List MapEntry) (clock : Nat) : Prop := (es.map (·.born)).Nodup ∧ ∀ e ∈ es, e.born < clock
mutual
def RelP (w : World) (R : Nat → Prop) : PV → Value → Prop
  | .int k n, u => u = .int k n
  | .bool b, u => u = .bool b
  | .str s, u => u = .string s
  | .agg cs, u => ∃ us : List Value, u = .agg us.toArray ∧ RelPL w R cs us
  | .tup cs, u => ∃ us : List Value, u = .tuple us.toArray ∧ RelPL w R cs us
  | .sl nil n cs, u => ∃ A c, u = .slice A n c ∧ n ≤ c ∧ c ≤ maxLen ∧ (∀ b, nil = some b → b = A.isNone) ∧ (nil = some true → c = 0) ∧
      (cs ≠ [] → ∃ b off us, A = some ⟨b, off, none⟩ ∧ RelPL w R cs us ∧ Shows w R b off us)
  | .rp cs o, u => ∃ b off us, u = .pointer (some ⟨b, off + o, none⟩) ∧ RelPL w R cs us ∧ Shows w R b off us
  | .fn f fs cs, u => ∃ us vs : List Value, u = .func f us.toArray vs.toArray ∧ RelPL w R fs us ∧ RelPL w R cs vs
  | .nilfn, u => u = .nilFunc
  | .nilptr, u => u = .pointer none
  | .nilmap, u => u = .map none
  | .iface t v, u => ∃ x, u = .iface t x ∧ RelP w R v x
  | .niliface, u => u = .nilIface
  | .mp ks vs, u => ∃ b, u = .map (some b) ∧ R b ∧ ∃ es clock, w.heap[b]? = some (.map es clock) ∧ RelPL w R ks (es.toList.map (·.key)) ∧ RelPL w R vs (es.toList.map (·.val)) ∧ Stamps es.toList clock
  | .any, _ => True
def RelPL (w : World) (R : Nat → Prop) : List PV → List Value → Prop
  | [], us => us = []
  | c :: cs, us => ∃ u vs, us = u :: vs ∧ RelP w R c u ∧ RelPL w R cs vs
end
section
variable {w w' : World} {R R' : Nat → Prop}
theorem Shows.mono (hR : ∀ b, R b → R' b ∧ w'.heap[b]? = w.heap[b]?) {b off : Nat} {us : List Value} (h : Shows w R b off us) : Shows w' R' b off us :=
  ⟨(hR b h.1).1, fun j hj => (World.cell?_of_block (w := w) (a := ⟨b, off + j, none⟩) (hR b h.1).2).trans (h.2 j hj)⟩
mutual
theorem RelP.mono (hR : ∀ b, R b → R' b ∧ w'.heap[b]? = w.heap[b]?) : ∀ (p : PV) (u : Value), RelP w R p u → RelP w' R' p u
  | .int _ _, _, h => h
  | .bool _, _, h => h
  | .str _, _, h => h
  | .agg cs, _, h => by
    simp only [RelP] at h ⊢
    obtain ⟨us, e, h⟩ := h
    exact ⟨us, e, RelPL.mono hR cs us h⟩
  | .tup cs, _, h => by
    simp only [RelP] at h ⊢
    obtain ⟨us, e, h⟩ := h
    exact ⟨us, e, RelPL.mono hR cs us h⟩
  | .sl nil n cs, _, h => by
    simp only [RelP] at h ⊢
    obtain ⟨A, c, e, h1, h2, h3, h4, h5⟩ := h
    refine ⟨A, c, e, h1, h2, h3, h4, fun hne => ?_⟩
    obtain ⟨b, off, us, e, hl, hs⟩ := h5 hne
    exact ⟨b, off, us, e, RelPL.mono hR cs us hl, hs.mono hR⟩
  | .rp cs o, _, h => by
    simp only [RelP] at h ⊢
    obtain ⟨b, off, us, e, hl, hs⟩ := h
    exact ⟨b, off, us, e, RelPL.mono hR cs us hl, hs.mono hR⟩
  | .fn f fs cs, _, h => by
    simp only [RelP] at h ⊢
    obtain ⟨us, vs, e, h1, h2⟩ := h
    exact ⟨us, vs, e, RelPL.mono hR fs us h1, RelPL.mono hR cs vs h2⟩
  | .nilfn, _, h => h
  | .nilptr, _, h => h
  | .nilmap, _, h => h
  | .iface t v, _, h => by
    simp only [RelP] at h ⊢
    obtain ⟨x, e, h⟩ := h
    exact ⟨x, e, RelP.mono hR v x h⟩
  | .niliface, _, h => h
  | .mp ks vs, _, h => by
    simp only [RelP] at h ⊢
    obtain ⟨b, e, hb, es, clock, h1, h2, h3, h4⟩ := h
    exact ⟨b, e, (hR b hb).1, es, clock, (hR b hb).2.trans h1, RelPL.mono hR ks _ h2, RelPL.mono hR vs _ h3, h4⟩
  | .any, _, _ => trivial
theorem RelPL.mono (hR : ∀ b, R b → R' b ∧ w'.heap[b]? = w.heap[b]?) : ∀ (ps : List PV) (us : List Value), RelPL w R ps us → RelPL w' R' ps us
  | [], _, h => h
  | c :: cs, _, h => by
    simp only [RelPL] at h ⊢
    obtain ⟨u, vs, e, h1, h2⟩ := h
    exact ⟨u, vs, e, RelP.mono hR c u h1, RelPL.mono hR cs vs h2⟩
end
theorem RelPL.length : ∀ {ps : List PV} {us : List Value}, RelPL w R ps us → us.length = ps.length
  | [], _, h => by simp only [RelPL] at h; simp [h]
  | c :: cs, _, h => by
    simp only [RelPL] at h
    obtain ⟨u, vs, rfl, _, h2⟩ := h
    simp [RelPL.length h2]
theorem RelPL.get : ∀ {ps : List PV} {us : List Value}, RelPL w R ps us → ∀ {i : Nat} {p : PV}, ps[i]? = some p → ∃ u, us[i]? = some u ∧ RelP w R p u
  | [], _, _, i, p, hp => by simp at hp
  | c :: cs, _, h, i, p, hp => by
    simp only [RelPL] at h
    obtain ⟨u, vs, rfl, h1, h2⟩ := h
    cases i with
    | zero => simp at hp; subst hp; exact ⟨u, by simp, h1⟩
    | succ i => simp at hp; obtain ⟨x, hx, hr⟩ := RelPL.get h2 hp; exact ⟨x, by simpa using hx, hr⟩
theorem RelPL.nil : RelPL w R [] [] := by simp [RelPL]
theorem RelPL.cons {p : PV} {u : Value} {ps : List PV} {us : List Value} (h : RelP w R p u) (hs : RelPL w R ps us) : RelPL w R (p :: ps) (u :: us) := by
  simp only [RelPL]
  exact ⟨u, us, rfl, h, hs⟩
theorem RelPL.append : ∀ {ps qs : List PV} {us vs : List Value}, RelPL w R ps us → RelPL w R qs vs → RelPL w R (ps ++ qs) (us ++ vs)
  | [], _, _, _, h, k => by simp only [RelPL] at h; subst h; simpa using k
  | c :: cs, _, _, _, h, k => by
    simp only [RelPL] at h
    obtain ⟨u, xs, rfl, h1, h2⟩ := h
    exact RelPL.cons h1 (RelPL.append h2 k)
theorem RelPL.take : ∀ {ps : List PV} {us : List Value} (n : Nat), RelPL w R ps us → RelPL w R (ps.take n) (us.take n)
  | [], _, n, h => by simp only [RelPL] at h; subst h; simpa using RelPL.nil
  | c :: cs, _, 0, h => by simpa using RelPL.nil
  | c :: cs, _, n + 1, h => by
    simp only [RelPL] at h
    obtain ⟨u, xs, rfl, h1, h2⟩ := h
    simpa using RelPL.cons h1 (RelPL.take n h2)
theorem RelPL.drop : ∀ {ps : List PV} {us : List Value} (n : Nat), RelPL w R ps us → RelPL w R (ps.drop n) (us.drop n)
  | [], _, n, h => by simp only [RelPL] at h; subst h; simpa using RelPL.nil
  | c :: cs, _, 0, h => by simpa using h
  | c :: cs, _, n + 1, h => by
    simp only [RelPL] at h
    obtain ⟨u, xs, rfl, h1, h2⟩ := h
    simpa using RelPL.drop n h2
theorem RelPL.set : ∀ {ps : List PV} {us : List Value} (i : Nat) {p : PV} {u : Value}, RelPL w R ps us → RelP w R p u → RelPL w R (ps.set i p) (us.set i u)
  | [], _, n, _, _, h, _ => by simp only [RelPL] at h; subst h; simpa using RelPL.nil
  | c :: cs, _, 0, _, _, h, k => by
    simp only [RelPL] at h
    obtain ⟨u, xs, rfl, h1, h2⟩ := h
    simpa using RelPL.cons k h2
  | c :: cs, _, n + 1, _, _, h, k => by
    simp only [RelPL] at h
    obtain ⟨u, xs, rfl, h1, h2⟩ := h
    simpa using RelPL.cons h1 (RelPL.set n h2 k)
theorem RelPL.replicate {p : PV} {u : Value} (h : RelP w R p u) : ∀ n, RelPL w R (List.replicate n p) (List.replicate n u)
  | 0 => by simpa using RelPL.nil
  | n + 1 => by simpa [List.replicate_succ] using RelPL.cons h (RelPL.replicate h n)
end
/-- Values: plain ones, and those with places of the call's own (numbered by id). -/
inductive V where
  | pv (p : PV)
  | ptr (id off : Nat)
  | osl (id sz n : Nat)
  | gsl (id sz n : Nat)
  | map (id : Nat)
  | agg (cs : List V)
  | tup (cs : List V)
  | fn (f : Fn) (first captured : List V)
  deriving Inhabited
/-- Where the call's own places lie: block and size. -/
abbrev Gm := Nat → Option (Nat × Nat)
/-- Which numbers are still free. -/
abbrev Av := Nat → Bool
mutual
def Rel (w : World) (m : Gm) (av : Av) (R : Nat → Prop) : V → Value → Prop
  | .pv p, u => RelP w R p u
  | .ptr id off, u => av id = false ∧ ∀ b N, m id = some (b, N) → u = .pointer (some ⟨b, off, none⟩)
  | .osl id sz n, u => av id = false ∧ ∀ b N, m id = some (b, N) → ∃ c, u = .slice (some ⟨b, 0, none⟩) n c ∧ n ≤ c ∧ c ≤ maxLen ∧ N = c * sz
  | .gsl id sz n, u => av id = false ∧ ∃ A c, u = .slice A n c ∧ n ≤ c ∧ c ≤ maxLen ∧ (n = 0 → A = none ∧ c = 0 ∧ m id = none) ∧ (0 < n → ∀ b N, m id = some (b, N) → A = some ⟨b, 0, none⟩ ∧ N = c * sz)
  | .map id, u => av id = false ∧ ∀ b N, m id = some (b, N) → u = .map (some b)
  | .agg cs, u => ∃ us : List Value, u = .agg us.toArray ∧ RelL w m av R cs us
  | .tup cs, u => ∃ us : List Value, u = .tuple us.toArray ∧ RelL w m av R cs us
  | .fn f fs cs, u => ∃ us vs : List Value, u = .func f us.toArray vs.toArray ∧ RelL w m av R fs us ∧ RelL w m av R cs vs
def RelL (w : World) (m : Gm) (av : Av) (R : Nat → Prop) : List V → List Value → Prop
  | [], us => us = []
  | c :: cs, us => ∃ u vs, us = u :: vs ∧ Rel w m av R c u ∧ RelL w m av R cs vs
end
theorem sub_none {α : Type} {a b : Option α} (h : ∀ x, a = some x → b = some x) (hb : b = none) : a = none := by
  cases a with
  | none => rfl
  | some x => rw [h x rfl] at hb; cases hb
section
variable {w w' : World} {R R' : Nat → Prop} {m m' : Gm} {av av' : Av}
mutual
theorem Rel.mono (hR : ∀ b, R b → R' b ∧ w'.heap[b]? = w.heap[b]?) (hm : ∀ id x, av id = false → m' id = some x → m id = some x) (ha : ∀ id, av id = false → av' id = false) :
    ∀ (p : V) (u : Value), Rel w m av R p u → Rel w' m' av' R' p u
  | .pv p, u, h => by simp only [Rel] at h ⊢; exact h.mono hR
  | .ptr id off, _, h => by simp only [Rel] at h ⊢; exact ⟨ha id h.1, fun b N e => h.2 b N (hm _ _ h.1 e)⟩
  | .osl id sz n, _, h => by simp only [Rel] at h ⊢; exact ⟨ha id h.1, fun b N e => h.2 b N (hm _ _ h.1 e)⟩
  | .gsl id sz n, _, h => by
    simp only [Rel] at h ⊢
    obtain ⟨h0, A, c, e, h1, h2, h3, h4⟩ := h
    exact ⟨ha id h0, A, c, e, h1, h2, fun hn => ⟨(h3 hn).1, (h3 hn).2.1, sub_none (fun x => hm id x h0) (h3 hn).2.2⟩, fun hp b N e => h4 hp b N (hm _ _ h0 e)⟩
  | .map id, _, h => by simp only [Rel] at h ⊢; exact ⟨ha id h.1, fun b N e => h.2 b N (hm _ _ h.1 e)⟩
  | .agg cs, _, h => by
    simp only [Rel] at h ⊢
    obtain ⟨us, e, h⟩ := h
    exact ⟨us, e, RelL.mono hR hm ha cs us h⟩
  | .tup cs, _, h => by
    simp only [Rel] at h ⊢
    obtain ⟨us, e, h⟩ := h
    exact ⟨us, e, RelL.mono hR hm ha cs us h⟩
  | .fn f fs cs, _, h => by
    simp only [Rel] at h ⊢
    obtain ⟨us, vs, e, h1, h2⟩ := h
    exact ⟨us, vs, e, RelL.mono hR hm ha fs us h1, RelL.mono hR hm ha cs vs h2⟩
theorem RelL.mono (hR : ∀ b, R b → R' b ∧ w'.heap[b]? = w.heap[b]?) (hm : ∀ id x, av id = false → m' id = some x → m id = some x) (ha : ∀ id, av id = false → av' id = false) :
    ∀ (ps : List V) (us : List Value), RelL w m av R ps us → RelL w' m' av' R' ps us
  | [], _, h => by simpa only [RelL] using h
  | c :: cs, _, h => by
    simp only [RelL] at h ⊢
    obtain ⟨u, vs, e, h1, h2⟩ := h
    exact ⟨u, vs, e, Rel.mono hR hm ha c u h1, RelL.mono hR hm ha cs vs h2⟩
end
theorem RelL.length : ∀ {ps : List V} {us : List Value}, RelL w m av R ps us → us.length = ps.length
  | [], _, h => by simp only [RelL] at h; simp [h]
  | c :: cs, _, h => by
    simp only [RelL] at h
    obtain ⟨u, vs, rfl, _, h2⟩ := h
    simp [RelL.length h2]
theorem RelL.get : ∀ {ps : List V} {us : List Value}, RelL w m av R ps us → ∀ {i : Nat} {p : V}, ps[i]? = some p → ∃ u, us[i]? = some u ∧ Rel w m av R p u
  | [], _, _, i, p, hp => by simp at hp
  | c :: cs, _, h, i, p, hp => by
    simp only [RelL] at h
    obtain ⟨u, vs, rfl, h1, h2⟩ := h
    cases i with
    | zero => simp at hp; subst hp; exact ⟨u, by simp, h1⟩
    | succ i => simp at hp; obtain ⟨x, hx, hr⟩ := RelL.get h2 hp; exact ⟨x, by simpa using hx, hr⟩
theorem RelL.nil : RelL w m av R [] [] := by simp [RelL]
theorem RelL.cons {p : V} {u : Value} {ps : List V} {us : List Value} (h : Rel w m av R p u) (hs : RelL w m av R ps us) : RelL w m av R (p :: ps) (u :: us) := by
  simp only [RelL]
  exact ⟨u, us, rfl, h, hs⟩
theorem RelL.append : ∀ {ps qs : List V} {us vs : List Value}, RelL w m av R ps us → RelL w m av R qs vs → RelL w m av R (ps ++ qs) (us ++ vs)
  | [], _, _, _, h, k => by simp only [RelL] at h; subst h; simpa using k
  | c :: cs, _, _, _, h, k => by
    simp only [RelL] at h
    obtain ⟨u, xs, rfl, h1, h2⟩ := h
    exact RelL.cons h1 (RelL.append h2 k)
theorem RelL.take : ∀ {ps : List V} {us : List Value} (n : Nat), RelL w m av R ps us → RelL w m av R (ps.take n) (us.take n)
  | [], _, n, h => by simp only [RelL] at h; subst h; simpa using RelL.nil
  | c :: cs, _, 0, h => by simpa using RelL.nil
  | c :: cs, _, n + 1, h => by
    simp only [RelL] at h
    obtain ⟨u, xs, rfl, h1, h2⟩ := h
    simpa using RelL.cons h1 (RelL.take n h2)
theorem RelL.drop : ∀ {ps : List V} {us : List Value} (n : Nat), RelL w m av R ps us → RelL w m av R (ps.drop n) (us.drop n)
  | [], _, n, h => by simp only [RelL] at h; subst h; simpa using RelL.nil
  | c :: cs, _, 0, h => by simpa using h
  | c :: cs, _, n + 1, h => by
    simp only [RelL] at h
    obtain ⟨u, xs, rfl, h1, h2⟩ := h
    simpa using RelL.drop n h2
theorem RelL.set : ∀ {ps : List V} {us : List Value} (i : Nat) {p : V} {u : Value}, RelL w m av R ps us → Rel w m av R p u → RelL w m av R (ps.set i p) (us.set i u)
  | [], _, n, _, _, h, _ => by simp only [RelL] at h; subst h; simpa using RelL.nil
  | c :: cs, _, 0, _, _, h, k => by
    simp only [RelL] at h
    obtain ⟨u, xs, rfl, h1, h2⟩ := h
    simpa using RelL.cons k h2
  | c :: cs, _, n + 1, _, _, h, k => by
    simp only [RelL] at h
    obtain ⟨u, xs, rfl, h1, h2⟩ := h
    simpa using RelL.cons h1 (RelL.set n h2 k)
theorem RelL.ofP : ∀ {ps : List PV} {us : List Value}, RelPL w R ps us → RelL w m av R (ps.map V.pv) us
  | [], _, h => by simpa only [RelL, RelPL, List.map_nil] using h
  | c :: cs, _, h => by
    simp only [RelPL] at h
    obtain ⟨u, vs, rfl, h1, h2⟩ := h
    exact RelL.cons (by simpa only [Rel] using h1) (RelL.ofP h2)
theorem RelL.toP : ∀ {ps : List PV} {us : List Value}, RelL w m av R (ps.map V.pv) us → RelPL w R ps us
  | [], _, h => by simpa only [RelL, RelPL, List.map_nil] using h
  | c :: cs, _, h => by
    simp only [List.map_cons, RelL] at h
    obtain ⟨u, vs, rfl, h1, h2⟩ := h
    exact RelPL.cons (by simpa only [Rel] using h1) (RelL.toP h2)
end
/-- A place of the call's own. -/
inductive Ob where
  | cells (ty : TypeId) (cs : List PV)
  | mix (ty : TypeId) (cs : List V)
  | gro (ty : TypeId) (cs : List PV)
  | mp (ks vs : List PV)
  | it (s : ByteArray) (pos : Nat)
/-- Is there a block for the place? None, while a growing slice is nil. -/
def Ob.real : Ob → Bool
  | .gro _ [] => false
  | _ => true
def liveO : Option Ob → Bool
  | some o => o.real
  | none => false
/-- The object o lies in block b, which has N cells. -/
def ORel (w : World) (m : Gm) (av : Av) (R : Nat → Prop) (b N : Nat) : Ob → Prop
  | .cells ty cs => ∃ arr : Array Value, w.heap[b]? = some (.cells arr ty (0, 0)) ∧ arr.size = N ∧ cs.length ≤ N ∧ RelPL w R cs (arr.toList.take cs.length)
  | .gro ty cs => ∃ arr : Array Value, w.heap[b]? = some (.cells arr ty (0, 0)) ∧ arr.size = N ∧ cs.length ≤ N ∧ RelPL w R cs (arr.toList.take cs.length)
  | .mix ty cs => ∃ arr : Array Value, w.heap[b]? = some (.cells arr ty (0, 0)) ∧ arr.size = N ∧ cs.length ≤ N ∧ RelL w m av R cs (arr.toList.take cs.length)
  | .mp ks vs => ∃ es clock, w.heap[b]? = some (.map es clock) ∧ RelPL w R ks (es.toList.map (·.key)) ∧ RelPL w R vs (es.toList.map (·.val)) ∧ Stamps es.toList clock
  | .it s pos => w.heap[b]? = some (.stringIter s pos)
theorem ORel.mono {w w' : World} {R R' : Nat → Prop} {m m' : Gm} {av av' : Av} {b N : Nat} {o : Ob} (hR : ∀ b, R b → R' b ∧ w'.heap[b]? = w.heap[b]?)
    (hm : ∀ id x, av id = false → m' id = some x → m id = some x) (ha : ∀ id, av id = false → av' id = false) (hb : w'.heap[b]? = w.heap[b]?) (h : ORel w m av R b N o) : ORel w' m' av' R' b N o := by
  cases o with
  | cells ty cs =>
    obtain ⟨arr, h1, h2, h3, h4⟩ := h
    exact ⟨arr, hb.trans h1, h2, h3, h4.mono hR⟩
  | mix ty cs =>
    obtain ⟨arr, h1, h2, h3, h4⟩ := h
    exact ⟨arr, hb.trans h1, h2, h3, h4.mono hR hm ha⟩
  | gro ty cs =>
    obtain ⟨arr, h1, h2, h3, h4⟩ := h
    exact ⟨arr, hb.trans h1, h2, h3, h4.mono hR⟩
  | mp ks vs =>
    obtain ⟨es, clock, h1, h2, h3, h4⟩ := h
    exact ⟨es, clock, hb.trans h1, h2.mono hR, h3.mono hR, h4⟩
  | it s pos => exact hb.trans h
def gInt (o : Obj) : Prop := ∃ (m : Int) (t : TypeId) (f : Nat × Nat), o = .cells #[.int .i64 m] t f
def gTab (k : IntKind) (zs : List Int) (o : Obj) : Prop := ∃ (t : TypeId) (f : Nat × Nat), o = .cells (zs.map (Value.int k)).toArray t f
def gIface (o : Obj) : Prop := ∃ (tp : TypeId) (p : Value) (t : TypeId) (f : Nat × Nat), o = .cells #[.iface tp p] t f
/-- The package variables that a text may lean on, with what their blocks hold while the call runs (none in most seats). -/
def glb : List (Nat × (Obj → Prop)) := [(0, gTab .u64 [1, 10, 100, 1000, 10000, 100000, 1000000, 10000000, 100000000, 1000000000, 10000000000, 100000000000, 1000000000000, 10000000000000, 100000000000000, 1000000000000000, 10000000000000000, 100000000000000000, 1000000000000000000, 10000000000000000000]), (1, gInt), (4, gIface), (5, gIface)]
/-- They hold what they should, in blocks that nothing turns. -/
def GlbOk (w : World) (R : Nat → Prop) : Prop := ∀ x ∈ glb, R x.1 ∧ ∃ o, w.heap[x.1]? = some o ∧ x.2 o
theorem GlbOk.mono {w w' : World} {R R' : Nat → Prop} (h : GlbOk w R) (hR : ∀ b, R b → R' b ∧ w'.heap[b]? = w.heap[b]?) : GlbOk w' R' := fun x hx => by
  obtain ⟨h0, o, h1, h2⟩ := h x hx
  exact ⟨(hR _ h0).1, o, (hR _ h0).2.trans h1, h2⟩
/-- The blocks that a call may read as they are: among them the package variables that it leans on; none of them is one that it may turn. -/
structure RT (w : World) (F : Nat → Prop) where
  p : Nat → Prop
  g : GlbOk w p
  d : ∀ b, p b → b < w.heap.size ∧ ¬ F b
/-- What a call stands on: the program, the places that were handed to it (numbers from big on), the world at its entry, the blocks that it may turn (F), the blocks that it may read as they are (R0). -/
structure Ctx where
  P : Program
  m0 : Gm
  w0 : World
  F : Nat → Prop
  R0 : RT w0 F
/-- Numbers from here on are places that the caller handed over: they are never taken anew. -/
abbrev big : Nat := 1000000
/-- A state: what the slots hold, the places of the call's own, which numbers are free. -/
structure St where
  sl : Nat → V
  ob : Nat → Option Ob
  av : Av
/-- Of what was there at the entry only blocks of F have turned. -/
structure Fr (F : Nat → Prop) (w w' : World) : Prop where
  os : w'.os = w.os
  tape : w'.tape = w.tape
  output : w'.output = w.output
  size : w.heap.size ≤ w'.heap.size
  block : ∀ k, k < w.heap.size → ¬ F k → w'.heap[k]? = w.heap[k]?
theorem Fr.refl (F : Nat → Prop) (w : World) : Fr F w w := ⟨rfl, rfl, rfl, Nat.le_refl _, fun _ _ _ => rfl⟩
theorem Fr.below {w w' : World} (h : Fr (fun _ => False) w w') : Below w.heap.size w w' := ⟨h.os, h.tape, h.output, h.size, fun k hk => h.block k hk id⟩
structure HR (C : Ctx) (m : Gm) (R : Nat → Prop) (ob : Nat → Option Ob) (av : Av) (w : World) : Prop where
  dom : ∀ id, (m id).isSome = liveO (ob id)
  free : ∀ id, av id = true → ob id = none
  obj : ∀ id o b N, ob id = some o → m id = some (b, N) → ORel w m av R b N o
  inj : ∀ i j b N N', m i = some (b, N) → m j = some (b, N') → i = j
  own : ∀ id b N, m id = some (b, N) → b < w.heap.size ∧ ¬ R b ∧ (C.F b ∨ C.w0.heap.size ≤ b)
  rsz : ∀ b, R b → b < w.heap.size
  rfr : ∀ b, R b → C.R0.p b ∨ C.w0.heap.size ≤ b ∨ C.F b
  r0 : ∀ b, C.R0.p b → R b
  frame : Fr C.F C.w0 w
  keep : ∀ id x, big ≤ id → m id = some x → C.m0 id = some x
  res : ∀ id, big ≤ id → av id = false
theorem HR.gi {C : Ctx} {m : Gm} {R : Nat → Prop} {ob : Nat → Option Ob} {av : Av} {w : World} (h : HR C m R ob av w) : GlbOk w R :=
  C.R0.g.mono fun b hb => ⟨h.r0 b hb, h.frame.block b (C.R0.d b hb).1 (C.R0.d b hb).2⟩
end Go.Proofs.YtopjkdddicgajaaGreatDoor
namespace Go.Proofs.YtopjkdddicgajaaGreatDoor
open Go.RowKit
def upd {α : Type} (f : Nat → α) (d : Nat) (v : α) : Nat → α := fun t => bif Nat.beq t d then v else f t
theorem upd_same {α : Type} (f : Nat → α) (d : Nat) (v : α) : upd f d v d = v := by simp [upd]
theorem upd_ne {α : Type} (f : Nat → α) {d t : Nat} (v : α) (h : t ≠ d) : upd f d v t = f t := by
  have : Nat.beq t d = false := by cases hb : Nat.beq t d; rfl; exact absurd (Nat.eq_of_beq_eq_true hb) h
  simp [upd, this]
def leafC : Value → PV
  | .int k n => .int k n
  | .bool b => .bool b
  | .string s => .str s
  | .slice none 0 0 => .sl (some true) 0 []
  | .pointer none => .nilptr
  | .map none => .nilmap
  | .nilFunc => .nilfn
  | .nilIface => .niliface
  | _ => .any
def ofC : Value → PV
  | .agg cs => .agg (cs.toList.map leafC)
  | v => leafC v
theorem leafC_rel (w : World) (R : Nat → Prop) : ∀ v, RelP w R (leafC v) v := by
  intro v
  unfold leafC
  split <;> simp [RelP]
  exact ⟨none, 0, ⟨rfl, rfl⟩, by simp [maxLen], rfl, rfl⟩
theorem ofC_rel (w : World) (R : Nat → Prop) : ∀ v, RelP w R (ofC v) v := by
  intro v
  unfold ofC
  split
  · rename_i cs
    simp only [RelP]
    refine ⟨cs.toList, by simp, ?_⟩
    generalize cs.toList = l
    induction l with
    | nil => simpa using RelPL.nil
    | cons x l ih => simpa using RelPL.cons (leafC_rel w R x) ih
  · exact leafC_rel w R v
/-- What an operand holds. -/
def St.ev (n : Nat) (σ : St) : Operand → V
  | .tmp t => bif Nat.blt t n then σ.sl t else .pv .any
  | .const c => .pv (ofC c)
  | .global _ => .pv .any
  | .func f => .pv (.fn (.func f) [] [])
def St.put (σ : St) (d : Option Tmp) (v : V) : St := match d with | some d => { σ with sl := upd σ.sl d v } | none => σ
/-- SR with its witnesses. -/
structure SW (C : Ctx) (n : Nat) (σ : St) (a : Act) (w : World) (m : Gm) (R : Nat → Prop) : Prop where
  hr : HR C m R σ.ob σ.av w
  df : a.defers = []
  sz : a.tmps.size = n
  sl : ∀ t, t < n → Rel w m σ.av R (σ.sl t) (a.eval (.tmp t))
def SJ (C : Ctx) (n : Nat) (σ : St) (a : Act) (w : World) : Prop := ∃ m R, SW C n σ a w m R
section
variable {C : Ctx} {n : Nat} {σ τ : St} {a : Act} {w : World} {m : Gm} {R : Nat → Prop}
theorem SW.ev (h : SW C n σ a w m R) (x : Operand) : Rel w m σ.av R (σ.ev n x) (a.eval x) := by
  cases x with
  | tmp t =>
    by_cases ht : t < n
    · have hb : Nat.blt t n = true := by simpa [Nat.blt_eq] using ht
      simpa only [St.ev, hb, cond_true] using h.sl t ht
    · have hb : Nat.blt t n = false := by cases e : Nat.blt t n; rfl; exact absurd (by simpa [Nat.blt_eq] using e) ht
      simp only [St.ev, hb, cond_false, Rel, RelP]
  | const c => simpa only [St.ev, Rel, Act.eval] using ofC_rel w R c
  | global g => simp only [St.ev, Rel, RelP]
  | func f =>
    simp only [St.ev, Rel, RelP, Act.eval]
    exact ⟨[], [], rfl, by simp [RelPL], by simp [RelPL]⟩
theorem act_put_get (a : Act) (d : Nat) (u : Value) (t : Nat) : (a.put (some d) u).eval (.tmp t) = if d = t ∧ d < a.tmps.size then u else a.eval (.tmp t) := by
  simp only [Act.put, Act.eval, Array.getD_eq_getD_getElem?, Array.getElem?_setIfInBounds]
  by_cases h : d = t
  · subst h
    by_cases h2 : d < a.tmps.size <;> simp [h2]
  · simp [h]
theorem SW.put (h : SW C n σ a w m R) (d : Option Tmp) {v : V} {u : Value} (hv : Rel w m σ.av R v u) : SW C n (σ.put d v) (a.put d u) w m R := by
  cases d with
  | none => exact h
  | some d =>
    refine ⟨h.hr, h.df, by simpa [Act.put] using h.sz, fun t ht => ?_⟩
    rw [act_put_get]
    show Rel w m σ.av R (upd σ.sl d v t) _
    by_cases e : d = t
    · subst e
      rw [upd_same, if_pos ⟨rfl, by rw [h.sz]; exact ht⟩]
      exact hv
    · rw [upd_ne _ _ (fun e' => e e'.symm), if_neg (fun e' => e e'.1)]
      exact h.sl t ht
end
/-- The code c, begun in state σ, ends as Q says. -/
structure AW (C : Ctx) (n : Nat) (c : Code) (Q : Exit → St → Prop) (σ : St) : Prop where
  go : ∀ a w, SJ C n σ a w → c.wp C.P (fun ex a' w' => ∃ σ', Q ex σ' ∧ SJ C n σ' a' w') a w
def thenQ (K : St → Prop) (Q : Exit → St → Prop) : Exit → St → Prop
  | .normal, σ => K σ
  | e, σ => Q e σ
def blockQ (id : Nat) (Q : Exit → St → Prop) : Exit → St → Prop
  | .exit id', σ => if id' = id then Q .normal σ else Q (.exit id') σ
  | e, σ => Q e σ
section
variable {C : Ctx} {n : Nat} {Q : Exit → St → Prop} {σ τ : St}
theorem AW.mono {c : Code} {Q' : Exit → St → Prop} (h : AW C n c Q σ) (hq : ∀ e s, Q e s → Q' e s) : AW C n c Q' σ :=
  ⟨fun a w hs => wp_mono (h.go a w hs) fun e _ _ ⟨s, q, r⟩ => ⟨s, hq e s q, r⟩⟩
theorem AW.skip (h : Q .normal σ) : AW C n .skip Q σ := ⟨fun _ _ hs => wp_skip ⟨σ, h, hs⟩⟩
theorem AW.exit {id : Nat} (h : Q (.exit id) σ) : AW C n (.exit id) Q σ := ⟨fun _ _ hs => wp_exit ⟨σ, h, hs⟩⟩
theorem AW.ret (h : Q .ret σ) : AW C n .ret Q σ := ⟨fun _ _ hs => wp_ret ⟨σ, h, hs⟩⟩
theorem AW.seq {x y : Code} (h : AW C n x (thenQ (AW C n y Q) Q) σ) : AW C n (.seq x y) Q σ := by
  refine ⟨fun a w hs => ?_⟩
  refine wp_seq (wp_mono (h.go a w hs) ?_)
  rintro e a' w' ⟨s, q, r⟩
  cases e <;> first | exact AW.go q a' w' r | exact ⟨s, q, r⟩
theorem AW.block {id : Nat} {c : Code} (h : AW C n c (blockQ id Q) σ) : AW C n (.block id c) Q σ := by
  refine ⟨fun a w hs => ?_⟩
  refine wp_block (wp_mono (h.go a w hs) ?_)
  rintro e a' w' ⟨s, q, r⟩
  cases e with
  | exit id' =>
    simp only [blockQ] at q
    simp only [Exit.inBlock]
    split
    · rename_i hid; rw [if_pos hid] at q; exact ⟨s, q, r⟩
    · rename_i hid; rw [if_neg hid] at q; exact ⟨s, q, r⟩
  | _ => exact ⟨s, q, r⟩
theorem AW.condP {c : Operand} {x y : Code} {p : Prop} [Decidable p] (hc : σ.ev n c = .pv (.bool (decide p))) (ht : p → AW C n x Q σ) (hf : ¬ p → AW C n y Q σ) : AW C n (.cond c x y) Q σ := by
  refine ⟨fun a w hs => ?_⟩
  obtain ⟨m, R, hw⟩ := hs
  have he := hw.ev c
  rw [hc] at he
  simp only [Rel, RelP] at he
  exact wp_cond_split he (fun e => (ht (of_decide_eq_true e)).go a w ⟨m, R, hw⟩) (fun e => (hf (of_decide_eq_false e)).go a w ⟨m, R, hw⟩)
theorem AW.cond {c : Operand} {x y : Code} {b : Bool} (hc : σ.ev n c = .pv (.bool b)) (ht : b = true → AW C n x Q σ) (hf : b = false → AW C n y Q σ) : AW C n (.cond c x y) Q σ := by
  refine ⟨fun a w hs => ?_⟩
  obtain ⟨m, R, hw⟩ := hs
  have he := hw.ev c
  rw [hc] at he
  simp only [Rel, RelP] at he
  exact wp_cond_split he (fun e => (ht e).go a w ⟨m, R, hw⟩) (fun e => (hf e).go a w ⟨m, R, hw⟩)
/-- A state that says less. -/
def St.le (σ τ : St) : Prop := ∀ (C : Ctx) (n : Nat) (a : Act) (w : World), SJ C n σ a w → SJ C n τ a w
theorem AW.weaken {c : Code} (hl : σ.le τ) (h : AW C n c Q τ) : AW C n c Q σ := ⟨fun a w hs => h.go a w (hl C n a w hs)⟩
theorem AW.loop {c : Code} {X : Type} (st : X → St) (I : X → Prop) (μ : X → Nat) (x0 : X) (h0 : σ.le (st x0)) (hi : I x0)
    (round : ∀ x, I x → AW C n c (thenQ (fun s => ∃ x', s.le (st x') ∧ I x' ∧ μ x' < μ x) Q) (st x)) : AW C n (.loop c) Q σ := by
  refine ⟨fun a w hs => ?_⟩
  have key : ∀ k x, μ x = k → I x → ∀ a w, SJ C n (st x) a w → ∀ (b : Frame) (kk : List Item) (cs : List Frame),
      ∃ e a' w', (∃ σ', Q e σ' ∧ SJ C n σ' a' w') ∧ Arrives C.P (lone (b.at a (.code c :: .inLoop c :: kk)) cs w) b kk cs e a' w' := by
    intro k
    induction k using Nat.strongRecOn with
    | _ k ih =>
      intro x hk hx a w hs b kk cs
      obtain ⟨e, a₁, w₁, hq, harr⟩ := (round x hx).go a w hs b (.inLoop c :: kk) cs
      obtain ⟨s, q, r⟩ := hq
      cases e with
      | normal =>
        obtain ⟨x', hl, hx', hlt⟩ := q
        obtain ⟨e₂, a₂, w₂, hq₂, harr₂⟩ := ih (μ x') (hk ▸ hlt) x' rfl hx' a₁ w₁ (hl C n a₁ w₁ r) b kk cs
        exact ⟨e₂, a₂, w₂, hq₂, .of_steps (Steps.trans harr (.one step_inLoop)) harr₂⟩
      | exit id => exact ⟨_, a₁, w₁, ⟨s, q, r⟩, .pass (x := .inLoop c) rfl (fun _ _ => .inl (by simp)) harr⟩
      | goto l => exact ⟨_, a₁, w₁, ⟨s, q, r⟩, .pass (x := .inLoop c) rfl (fun _ _ => .inl (by simp)) harr⟩
      | ret => exact ⟨_, a₁, w₁, ⟨s, q, r⟩, .pass (x := .inLoop c) rfl (fun _ _ => .inl (by simp)) harr⟩
      | panic ch => exact ⟨_, a₁, w₁, ⟨s, q, r⟩, .pass (x := .inLoop c) rfl (fun _ _ => .inl (by simp)) harr⟩
      | outgrown => exact ⟨_, a₁, w₁, ⟨s, q, r⟩, .pass (x := .inLoop c) rfl (fun _ _ => .inl (by simp)) harr⟩
  intro b kk cs
  obtain ⟨e, a', w', hq, harr⟩ := key _ x0 rfl hi a w (h0 C n a w hs) b kk cs
  exact ⟨e, a', w', hq, .of_steps (.one step_loop) harr⟩
end
/-- One operation, begun in state σ. -/
def OJ (C : Ctx) (n : Nat) (o : Oper) (K : St → Prop) (σ : St) : Prop :=
  ∀ a w Q, SJ C n σ a w → o.wp C.P a w (fun a' w' => ∃ σ', K σ' ∧ SJ C n σ' a' w') Q
/-- What an operation leaves: its value, the places that it turns, the numbers that it takes. -/
structure OS where
  v : V
  wr : List (Nat × Option Ob) := []
  nw : List Nat := []
def obL : List (Nat × Option Ob) → (Nat → Option Ob) → Nat → Option Ob
  | [], f, id => f id
  | (i, o) :: l, f, id => bif Nat.beq id i then o else obL l f id
def avL : List Nat → Av → Av
  | [], f, id => f id
  | i :: l, f, id => bif Nat.beq id i then false else avL l f id
def St.app (σ : St) (d : Option Tmp) (s : OS) : St :=
  { sl := match d with | some d => upd σ.sl d s.v | none => σ.sl, ob := obL s.wr σ.ob, av := avL s.nw σ.av }
/-- The operation, in state σ, leaves just s. -/
def XJ (C : Ctx) (n : Nat) (o : Oper) (σ : St) (s : OS) : Prop := OJ C n o (fun τ => τ = σ.app o.dst s) σ
/-- What a slot tells as a guard: a truth value, or that its operation was not carried out. -/
def V.gd : V → Option (Option Bool)
  | .pv (.bool b) => some (some b)
  | .pv (.tup []) => some none
  | _ => none
/-- What an operation leaves that is not carried out. -/
abbrev und : V := .pv (.tup [])
theorem und_rel (w : World) (m : Gm) (av : Av) (R : Nat → Prop) : Rel w m av R und undef := by
  simp only [und, Rel, RelP]
  exact ⟨[], rfl, RelPL.nil⟩
theorem V.gd_bool {v : V} {b : Bool} (h : v = .pv (.bool b)) : v.gd = some (some b) := by rw [h]; rfl
/-- An operation that is not carried out. -/
def SK (C : Ctx) (n : Nat) (o : Oper) (K : St → Prop) (σ : St) : Prop := ∀ a w, SJ C n σ a w → ∃ s, K s ∧ SJ C n s (a.put o.dst undef) w
/-- The rest of a region, in the order of the text. -/
def RL (C : Ctx) (n : Nat) (ops : Array Oper) : List Oper → (St → Prop) → St → Prop
  | [], K, σ => K σ
  | o :: os, K, σ =>
    match o.guard with
    | none => OJ C n o (RL C n ops os K) σ
    | some (j, want) => ∃ b, (∀ a w, SJ C n σ a w → yielded ops a.tmps j = b) ∧ (b = some want → OJ C n o (RL C n ops os K) σ) ∧ (b ≠ some want → SK C n o (RL C n ops os K) σ)
section
variable {C : Ctx} {n : Nat} {Q : Exit → St → Prop} {σ τ : St} {ops : Array Oper}
theorem OJ.mono {o : Oper} {K K' : St → Prop} (h : OJ C n o K σ) (hk : ∀ s, K s → K' s) : OJ C n o K' σ :=
  fun a w Q hs => Oper.wp_mono (fun _ _ ⟨s, q, r⟩ => ⟨s, hk s q, r⟩) (h a w Q hs)
theorem yielded_of {a : Act} {w : World} {m : Gm} {R : Nat → Prop} (h : SW C n σ a w m R) {j : Nat} {b : Option Bool} (he : (σ.ev n (.tmp (((ops[j]?).bind (·.dst)).getD n))).gd = some b) : yielded ops a.tmps j = b := by
  have hv := h.ev (.tmp (((ops[j]?).bind (·.dst)).getD n))
  generalize σ.ev n (.tmp (((ops[j]?).bind (·.dst)).getD n)) = v at he hv
  have hval : ∃ u, a.eval (.tmp (((ops[j]?).bind (·.dst)).getD n)) = u ∧ ((∃ c, u = .bool c ∧ b = some c) ∨ (u = undef ∧ b = none)) := by
    unfold V.gd at he
    split at he
    · simp only [Option.some.injEq] at he
      simp only [Rel, RelP] at hv
      exact ⟨_, hv, .inl ⟨_, rfl, he.symm⟩⟩
    · simp only [Option.some.injEq] at he
      simp only [Rel, RelP] at hv
      obtain ⟨us, hu, hr⟩ := hv
      simp only [RelPL] at hr
      subst hr
      exact ⟨_, hu, .inr ⟨rfl, he.symm⟩⟩
    · cases he
  obtain ⟨u, hu, hb⟩ := hval
  simp only [Act.eval] at hu
  unfold yielded
  cases hd : (ops[j]?).bind (·.dst) with
  | none =>
    rw [hd] at hu
    simp only [Option.getD_none, Array.getD_eq_getD_getElem?] at hu
    rw [Array.getElem?_eq_none (by have := h.sz; omega)] at hu
    simp at hu
    subst hu
    rcases hb with ⟨c, hc, _⟩ | ⟨_, rfl⟩
    · simp [undef] at hc
    · rfl
  | some d =>
    rw [hd] at hu
    simp only [Option.getD_some, Array.getD_eq_getD_getElem?] at hu
    simp only [Option.bind_some]
    cases ht : a.tmps[d]? with
    | none =>
      rw [ht] at hu
      simp at hu
      subst hu
      rcases hb with ⟨c, hc, _⟩ | ⟨_, rfl⟩
      · simp [undef] at hc
      · rfl
    | some u' =>
      rw [ht] at hu
      simp at hu
      subst hu
      rcases hb with ⟨c, rfl, rfl⟩ | ⟨rfl, rfl⟩ <;> rfl
theorem RL.sound (K : St → Prop) : ∀ (os : List Oper) (k : Nat) (σ : St), ops.toList.drop k = os → RL C n ops os K σ → ∀ a w, SJ C n σ a w → ∀ Q : Exit → Act → World → Prop,
    (∀ a w, (∃ s, K s ∧ SJ C n s a w) → Q .normal a w) → wpOps C.P ops Q (List.range' k (ops.size - k)) a w := by
  intro os
  induction os with
  | nil =>
    intro k σ hd h a w hs Q hQ
    have : ops.size - k = 0 := by
      have := congrArg List.length hd
      simpa using this
    rw [this]
    simp only [List.range'_zero, wpOps]
    exact hQ a w ⟨σ, h, hs⟩
  | cons o os ih =>
    intro k σ hd h a w hs Q hQ
    have hlt : k < ops.size := by
      have := congrArg List.length hd
      simp at this
      omega
    have ho : ops[k]? = some o := by
      have := congrArg (·[0]?) hd
      simpa using this
    have hd' : ops.toList.drop (k + 1) = os := by
      have := congrArg (List.drop 1) hd
      simpa [Nat.add_comm] using this
    have e : ops.size - k = (ops.size - (k + 1)) + 1 := by omega
    rw [e, List.range'_succ]
    have next : ∀ a' w', (∃ s, RL C n ops os K s ∧ SJ C n s a' w') → wpOps C.P ops Q (List.range' (k + 1) (ops.size - (k + 1))) a' w' := by
      rintro a' w' ⟨s, hs', hr⟩
      exact ih (k + 1) s hd' hs' a' w' hr Q hQ
    simp only [wpOps, ho]
    simp only [RL] at h
    cases hg : o.guard with
    | none =>
      rw [hg] at h
      simp only [Region.wanted, hg, if_true]
      exact .inl (Oper.wp_mono next (h a w Q hs))
    | some jw =>
      obtain ⟨j, want⟩ := jw
      rw [hg] at h
      obtain ⟨b, hb, h1, h2⟩ := h
      have hy := hb a w hs
      simp only [Region.wanted, hg, hy]
      by_cases hbw : b = some want
      · subst hbw
        simp only [beq_self_eq_true, if_true]
        exact .inl (Oper.wp_mono next (h1 rfl a w Q hs))
      · have : (b == some want) = false := by simpa using hbw
        simp only [this, Bool.false_eq_true, if_false]
        exact next _ _ (h2 hbw a w hs)
theorem AW.region {id : Nat} (h : RL C n ops ops.toList (Q .normal) σ) : AW C n (.region id ops false) Q σ := by
  refine ⟨fun a w hs => ?_⟩
  refine wp_region ?_
  have := RL.sound (Q .normal) ops.toList 0 σ (by simp) h a w hs (fun ex a' w' => ∃ σ', Q ex σ' ∧ SJ C n σ' a' w') (fun _ _ x => x)
  rw [List.range_eq_range']
  simpa using this
theorem RL.step {o : Oper} {os : List Oper} {K : St → Prop} {s : OS} {d : Option Tmp} (hg : o.guard = none) (hd : o.dst = d) (hx : XJ C n o σ s) (h : RL C n ops os K (σ.app d s)) : RL C n ops (o :: os) K σ := by
  subst hd
  simp only [RL, hg]
  exact hx.mono fun _ e => e ▸ h
theorem RL.stepG {o : Oper} {os : List Oper} {K : St → Prop} {s : OS} {d : Option Tmp} {j : Nat} {want : Bool} (hg : o.guard = some (j, want)) (hd : o.dst = d) (hb : σ.ev n (.tmp (((ops[j]?).bind (·.dst)).getD n)) = .pv (.bool want))
    (hx : XJ C n o σ s) (h : RL C n ops os K (σ.app d s)) : RL C n ops (o :: os) K σ := by
  subst hd
  simp only [RL, hg]
  exact ⟨some want, fun a w ⟨m, R, hw⟩ => yielded_of hw (V.gd_bool hb), fun _ => hx.mono fun _ e => e ▸ h, fun e => absurd rfl e⟩
theorem RL.call {o : Oper} {os : List Oper} {K : St → Prop} (hg : o.guard = none) (h : OJ C n o (RL C n ops os K) σ) : RL C n ops (o :: os) K σ := by
  simp only [RL, hg]
  exact h
end
end Go.Proofs.YtopjkdddicgajaaGreatDoor
namespace Go.Proofs.YtopjkdddicgajaaGreatDoor
open Go.RowKit
theorem St.app_pure (σ : St) (d : Option Tmp) (v : V) : σ.app d ⟨v, [], []⟩ = σ.put d v := by
  cases d <;> rfl
section
variable {C : Ctx} {n : Nat} {σ : St} {dst : Option Tmp} {ty t t' : TypeId} {pos : String} {after : Array Edge} {gd : Option (Nat × Bool)} {x y : Operand}
theorem XJ.val {o : Oper} {v : V} (h : ∀ a w m R, SW C n σ a w m R → ∃ u, (execOp a.eval o).run C.P w = .ok (.value u) w ∧ Rel w m σ.av R v u) : XJ C n o σ ⟨v, [], []⟩ := by
  rintro a w Q ⟨m, R, hw⟩
  obtain ⟨u, hrun, hrel⟩ := h a w m R hw
  unfold Oper.wp
  rw [hrun]
  exact ⟨_, rfl, m, R, St.app_pure σ o.dst v ▸ hw.put o.dst hrel⟩
theorem xj_move : XJ C n ⟨dst, .move x, ty, pos, after, gd⟩ σ ⟨σ.ev n x, [], []⟩ :=
  .val fun a w m R hw => ⟨a.eval x, rfl, hw.ev x⟩
theorem xj_assign : XJ C n ⟨dst, .assign x, ty, pos, after, gd⟩ σ ⟨σ.ev n x, [], []⟩ :=
  .val fun a w m R hw => ⟨a.eval x, rfl, hw.ev x⟩
theorem SW.pv {a : Act} {w : World} {m : Gm} {R : Nat → Prop} (h : SW C n σ a w m R) {x : Operand} {p : PV} (hx : σ.ev n x = .pv p) : RelP w R p (a.eval x) := by
  have := h.ev x
  rw [hx] at this
  simpa only [Rel] using this
theorem SW.int {a : Act} {w : World} {m : Gm} {R : Nat → Prop} (h : SW C n σ a w m R) {x : Operand} {k : IntKind} {i : Int} (hx : σ.ev n x = .pv (.int k i)) : a.eval x = .int k i := by
  simpa only [RelP] using h.pv hx
theorem SW.bool {a : Act} {w : World} {m : Gm} {R : Nat → Prop} (h : SW C n σ a w m R) {x : Operand} {b : Bool} (hx : σ.ev n x = .pv (.bool b)) : a.eval x = .bool b := by
  simpa only [RelP] using h.pv hx
theorem SW.str {a : Act} {w : World} {m : Gm} {R : Nat → Prop} (h : SW C n σ a w m R) {x : Operand} {s : ByteArray} (hx : σ.ev n x = .pv (.str s)) : a.eval x = .string s := by
  simpa only [RelP] using h.pv hx
theorem xj_pick {c x y : Operand} {b : Bool} (hc : σ.ev n c = .pv (.bool b)) : XJ C n ⟨dst, .pick c x y, ty, pos, after, gd⟩ σ ⟨bif b then σ.ev n x else σ.ev n y, [], []⟩ :=
  .val fun a w m R hw => by
    refine ⟨bif b then a.eval x else a.eval y, ?_, ?_⟩
    · simp only [execOp, hw.bool hc, asBool]
      cases b <;> rfl
    · cases b
      · exact hw.ev y
      · exact hw.ev x
/-- The value of a number, a bool or a string. -/
def litV : PV → Value
  | .int k n => .int k n
  | .bool b => .bool b
  | .str s => .string s
  | _ => undef
def PV.scal : PV → Bool
  | .int _ _ | .bool _ | .str _ => true
  | _ => false
theorem XJ.lit {o : Oper} {p : PV} (hp : p.scal = true) (h : ∀ a w m R, SW C n σ a w m R → (execOp a.eval o).run C.P w = .ok (.value (litV p)) w) : XJ C n o σ ⟨.pv p, [], []⟩ :=
  .val fun a w m R hw => ⟨litV p, h a w m R hw, by cases p <;> simp [PV.scal] at hp <;> simp only [Rel, RelP, litV]⟩
/-- What a binary operator on integers gives. -/
def binI (op : BinOp) (k : IntKind) (a b : Int) : Option PV :=
  match op with
  | .add => some (.int k (k.wrap (a + b)))
  | .sub => some (.int k (k.wrap (a - b)))
  | .mul => some (.int k (k.wrap (a * b)))
  | .eql => some (.bool (a == b))
  | .neq => some (.bool (a != b))
  | .lss => some (.bool (decide (a < b)))
  | .leq => some (.bool (decide (a ≤ b)))
  | .gtr => some (.bool (decide (a > b)))
  | .geq => some (.bool (decide (a ≥ b)))
  | .and => some (.int k (k.wrap (BitVec.ofInt k.bits a &&& BitVec.ofInt k.bits b).toNat))
  | .or => some (.int k (k.wrap (BitVec.ofInt k.bits a ||| BitVec.ofInt k.bits b).toNat))
  | .xor => some (.int k (k.wrap (BitVec.ofInt k.bits a ^^^ BitVec.ofInt k.bits b).toNat))
  | .andNot => some (.int k (k.wrap (BitVec.ofInt k.bits a &&& ~~~ (BitVec.ofInt k.bits b)).toNat))
  | _ => none
theorem xj_bin {op : BinOp} {k : IntKind} {i j : Int} {p : PV} (hx : σ.ev n x = .pv (.int k i)) (hy : σ.ev n y = .pv (.int k j)) (hp : binI op k i j = some p) :
    XJ C n ⟨dst, .binOp op t x y t', ty, pos, after, gd⟩ σ ⟨.pv p, [], []⟩ :=
  .lit (by cases op <;> simp only [binI, Option.some.injEq, reduceCtorEq] at hp <;> subst hp <;> rfl) fun a w m R hw => by
    have e1 := hw.int hx
    have e2 := hw.int hy
    cases op <;> simp only [binI, Option.some.injEq, reduceCtorEq] at hp <;> subst hp <;>
      simp [execOp, e1, e2, eqGuard, binOp, Op.intArith, Op.intCmp, Op.intBits, litV]
theorem wrap_in {i : Int} (h : -9223372036854775808 ≤ i ∧ i ≤ 9223372036854775807) : IntKind.i64.wrap i = i := IntWalk.i64_in _ h
theorem xj_add {i j : Int} (hx : σ.ev n x = .pv (.int .i64 i)) (hy : σ.ev n y = .pv (.int .i64 j)) (h : -9223372036854775808 ≤ i + j ∧ i + j ≤ 9223372036854775807) :
    XJ C n ⟨dst, .binOp .add t x y t', ty, pos, after, gd⟩ σ ⟨.pv (.int .i64 (i + j)), [], []⟩ :=
  xj_bin hx hy (by simp only [binI, wrap_in h])
theorem xj_sub {i j : Int} (hx : σ.ev n x = .pv (.int .i64 i)) (hy : σ.ev n y = .pv (.int .i64 j)) (h : -9223372036854775808 ≤ i - j ∧ i - j ≤ 9223372036854775807) :
    XJ C n ⟨dst, .binOp .sub t x y t', ty, pos, after, gd⟩ σ ⟨.pv (.int .i64 (i - j)), [], []⟩ :=
  xj_bin hx hy (by simp only [binI, wrap_in h])
theorem xj_mul {i j : Int} (hx : σ.ev n x = .pv (.int .i64 i)) (hy : σ.ev n y = .pv (.int .i64 j)) (h : -9223372036854775808 ≤ i * j ∧ i * j ≤ 9223372036854775807) :
    XJ C n ⟨dst, .binOp .mul t x y t', ty, pos, after, gd⟩ σ ⟨.pv (.int .i64 (i * j)), [], []⟩ :=
  xj_bin hx hy (by simp only [binI, wrap_in h])
theorem xj_quo {k : IntKind} {i j : Int} (hx : σ.ev n x = .pv (.int k i)) (hy : σ.ev n y = .pv (.int k j)) (h : j ≠ 0) :
    XJ C n ⟨dst, .binOp .quo t x y t', ty, pos, after, gd⟩ σ ⟨.pv (.int k (k.wrap (i.tdiv j))), [], []⟩ :=
  .lit rfl fun a w m R hw => by simp [execOp, hw.int hx, hw.int hy, eqGuard, binOp, Op.intDiv, h, litV]
theorem xj_rem {k : IntKind} {i j : Int} (hx : σ.ev n x = .pv (.int k i)) (hy : σ.ev n y = .pv (.int k j)) (h : j ≠ 0) :
    XJ C n ⟨dst, .binOp .rem t x y t', ty, pos, after, gd⟩ σ ⟨.pv (.int k (i.tmod j)), [], []⟩ :=
  .lit rfl fun a w m R hw => by simp [execOp, hw.int hx, hw.int hy, eqGuard, binOp, Op.intDiv, h, litV]
/-- What a comparison of strings gives. -/
def binS (op : BinOp) (a b : ByteArray) : Option PV :=
  match op with
  | .eql => some (.bool (a.toList == b.toList))
  | .neq => some (.bool !(a.toList == b.toList))
  | .lss => some (.bool (Op.bytesLess a.toList b.toList))
  | .leq => some (.bool (Op.bytesLess a.toList b.toList || a.toList == b.toList))
  | .gtr => some (.bool !(Op.bytesLess a.toList b.toList || a.toList == b.toList))
  | .geq => some (.bool !(Op.bytesLess a.toList b.toList))
  | _ => none
theorem xj_binS {op : BinOp} {i j : ByteArray} {p : PV} (hx : σ.ev n x = .pv (.str i)) (hy : σ.ev n y = .pv (.str j)) (hp : binS op i j = some p) :
    XJ C n ⟨dst, .binOp op t x y t', ty, pos, after, gd⟩ σ ⟨.pv p, [], []⟩ :=
  .lit (by cases op <;> simp only [binS, Option.some.injEq, reduceCtorEq] at hp <;> subst hp <;> rfl) fun a w m R hw => by
    have e1 := hw.str hx
    have e2 := hw.str hy
    cases op <;> simp only [binS, Option.some.injEq, reduceCtorEq] at hp <;> subst hp <;>
      simp [execOp, e1, e2, eqGuard, binOp, Op.stringOp, litV]
theorem xj_cat {i j : ByteArray} (hx : σ.ev n x = .pv (.str i)) (hy : σ.ev n y = .pv (.str j)) (h : i.size + j.size ≤ 9223372036854775807) :
    XJ C n ⟨dst, .binOp .add t x y t', ty, pos, after, gd⟩ σ ⟨.pv (.str (i ++ j)), [], []⟩ :=
  .val fun a w m R hw => ⟨.string (i ++ j), by
    have hm : IntKind.i64.max = 9223372036854775807 := by decide
    simp [execOp, hw.str hx, hw.str hy, eqGuard, binOp, Op.stringOp]
    omega, by simp only [Rel, RelP]⟩
theorem xj_eqlB {i j : Bool} (hu : C.P.underlying t = some .bool) (hx : σ.ev n x = .pv (.bool i)) (hy : σ.ev n y = .pv (.bool j)) :
    XJ C n ⟨dst, .binOp .eql t x y t', ty, pos, after, gd⟩ σ ⟨.pv (.bool (i == j)), [], []⟩ :=
  .val fun a w m R hw => ⟨.bool (i == j), by
    simp [execOp, hw.bool hx, hw.bool hy, eqGuard, run_eql_bool _ _ _ _ hu], by simp only [Rel, RelP]⟩
theorem xj_neqB {i j : Bool} (hu : C.P.underlying t = some .bool) (hx : σ.ev n x = .pv (.bool i)) (hy : σ.ev n y = .pv (.bool j)) :
    XJ C n ⟨dst, .binOp .neq t x y t', ty, pos, after, gd⟩ σ ⟨.pv (.bool (i != j)), [], []⟩ :=
  .val fun a w m R hw => ⟨.bool (i != j), by
    simp [execOp, hw.bool hx, hw.bool hy, eqGuard, run_neq_bool _ _ _ _ hu]; cases i <;> cases j <;> rfl, by simp only [Rel, RelP]⟩
theorem xj_eqlNil {e : TypeId} {b : Bool} {k : Nat} {cs : List PV} (hu : C.P.underlying t = some (.slice e)) (hx : σ.ev n x = .pv (.sl (some b) k cs)) :
    XJ C n ⟨dst, .binOp .eql t x (.const (.slice none 0 0)) t', ty, pos, after, gd⟩ σ ⟨.pv (.bool b), [], []⟩ :=
  .val fun a w m R hw => by
    have := hw.pv hx
    simp only [RelP] at this
    obtain ⟨A, c, e, _, _, hb, _⟩ := this
    have hb := hb b rfl
    have hc : a.eval (.const (.slice none 0 0)) = .slice none 0 0 := rfl
    exact ⟨.bool b, by simp [execOp, e, eqGuard, binOp, hc, run_equal_slice_nil _ _ _ _ _ _ hu, hb], by simp only [Rel, RelP]⟩
theorem xj_neqNil {e : TypeId} {b : Bool} {k : Nat} {cs : List PV} (hu : C.P.underlying t = some (.slice e)) (hx : σ.ev n x = .pv (.sl (some b) k cs)) :
    XJ C n ⟨dst, .binOp .neq t x (.const (.slice none 0 0)) t', ty, pos, after, gd⟩ σ ⟨.pv (.bool (!b)), [], []⟩ :=
  .val fun a w m R hw => by
    have := hw.pv hx
    simp only [RelP] at this
    obtain ⟨A, c, e, _, _, hb, _⟩ := this
    have hb := hb b rfl
    have hc : a.eval (.const (.slice none 0 0)) = .slice none 0 0 := rfl
    exact ⟨.bool (!b), by simp [execOp, e, eqGuard, binOp, hc, run_equal_slice_nil _ _ _ _ _ _ hu, hb], by simp only [Rel, RelP]⟩
theorem xj_not {b : Bool} (hx : σ.ev n x = .pv (.bool b)) : XJ C n ⟨dst, .unOp .not t x, ty, pos, after, gd⟩ σ ⟨.pv (.bool (!b)), [], []⟩ :=
  .val fun a w m R hw => ⟨.bool (!b), by simp [execOp, hw.bool hx, Op.unary], by simp only [Rel, RelP]⟩
theorem xj_neg {i : Int} (hx : σ.ev n x = .pv (.int .i64 i)) (h : -9223372036854775807 ≤ i) (h2 : i ≤ 9223372036854775807) : XJ C n ⟨dst, .unOp .neg t x, ty, pos, after, gd⟩ σ ⟨.pv (.int .i64 (-i)), [], []⟩ :=
  .val fun a w m R hw => ⟨.int .i64 (-i), by
    have := wrap_in (i := -i) (by omega)
    simp [execOp, hw.int hx, Op.unary, Op.intArith, this], by simp only [Rel, RelP]⟩
theorem xj_conv {k k' : IntKind} {i : Int} {src d : TypeId} {sd : TypeDesc} (hs : C.P.underlying src = some sd) (hd : C.P.underlying d = some (.int k')) (hx : σ.ev n x = .pv (.int k i)) :
    XJ C n ⟨dst, .convert src d x, ty, pos, after, gd⟩ σ ⟨.pv (.int k' (k'.wrap i)), [], []⟩ :=
  .val fun a w m R hw => ⟨.int k' (k'.wrap i), by
    simp only [execOp, hw.int hx, convert, Sem.run_bind, run_underlying hs, run_underlying hd, Result.andThen_ok]
    cases sd <;> simp [Conv.intToInt], by simp only [Rel, RelP]⟩
theorem xj_extractP {ps : List PV} {p : PV} {i : Nat} (hx : σ.ev n x = .pv (.tup ps)) (hp : ps[i]? = some p) : XJ C n ⟨dst, .extract x i, ty, pos, after, gd⟩ σ ⟨.pv p, [], []⟩ :=
  .val fun a w m R hw => by
    have := hw.pv hx
    simp only [RelP] at this
    obtain ⟨us, e, hl⟩ := this
    obtain ⟨u, hu, hr⟩ := hl.get hp
    exact ⟨u, by simp [execOp, e, Instr.extract, hu], by simpa only [Rel] using hr⟩
theorem xj_extract {ps : List V} {p : V} {i : Nat} (hx : σ.ev n x = .tup ps) (hp : ps[i]? = some p) : XJ C n ⟨dst, .extract x i, ty, pos, after, gd⟩ σ ⟨p, [], []⟩ :=
  .val fun a w m R hw => by
    have := hw.ev x
    rw [hx] at this
    simp only [Rel] at this
    obtain ⟨us, e, hl⟩ := this
    obtain ⟨u, hu, hr⟩ := hl.get hp
    exact ⟨u, by simp [execOp, e, Instr.extract, hu], hr⟩
theorem xj_lenS {s : ByteArray} (hu : C.P.underlying t = some .string) (hx : σ.ev n x = .pv (.str s)) :
    XJ C n ⟨dst, .call { callee := .builtin .len, args := #[x], argTypes := #[t] }, ty, pos, after, gd⟩ σ ⟨.pv (.int .i64 s.size), [], []⟩ :=
  .val fun a w m R hw => ⟨.int .i64 s.size, by simp [execOp, resolve, invoke, builtin, Builtin.len_, hw.str hx, run_underlying hu, goInt], by simp only [Rel, RelP]⟩
theorem xj_len {e : TypeId} {b : Option Bool} {k : Nat} {cs : List PV} (hu : C.P.underlying t = some (.slice e)) (hx : σ.ev n x = .pv (.sl b k cs)) :
    XJ C n ⟨dst, .call { callee := .builtin .len, args := #[x], argTypes := #[t] }, ty, pos, after, gd⟩ σ ⟨.pv (.int .i64 k), [], []⟩ :=
  .val fun a w m R hw => by
    have := hw.pv hx
    simp only [RelP] at this
    obtain ⟨A, c, e, _⟩ := this
    exact ⟨.int .i64 k, by simp [execOp, resolve, invoke, builtin, Builtin.len_, e, run_underlying hu, goInt], by simp only [Rel, RelP]⟩
theorem xj_lenO {e : TypeId} {id sz k : Nat} {o : Ob} (hu : C.P.underlying t = some (.slice e)) (hx : σ.ev n x = .osl id sz k) (ho : σ.ob id = some o) (hre : o.real = true := by rfl) :
    XJ C n ⟨dst, .call { callee := .builtin .len, args := #[x], argTypes := #[t] }, ty, pos, after, gd⟩ σ ⟨.pv (.int .i64 k), [], []⟩ :=
  .val fun a w m R hw => by
    have := hw.ev x
    rw [hx] at this
    simp only [Rel] at this
    have hd := hw.hr.dom id
    rw [ho] at hd
    replace hd := hd.trans hre
    obtain ⟨⟨b, N⟩, hm⟩ := Option.isSome_iff_exists.1 hd
    obtain ⟨c, e, _⟩ := this.2 b N hm
    exact ⟨.int .i64 k, by simp [execOp, resolve, invoke, builtin, Builtin.len_, e, run_underlying hu, goInt], by simp only [Rel, RelP]⟩
theorem xj_lenG {e : TypeId} {id sz k : Nat} (hu : C.P.underlying t = some (.slice e)) (hx : σ.ev n x = .gsl id sz k) :
    XJ C n ⟨dst, .call { callee := .builtin .len, args := #[x], argTypes := #[t] }, ty, pos, after, gd⟩ σ ⟨.pv (.int .i64 k), [], []⟩ :=
  .val fun a w m R hw => by
    have := hw.ev x
    rw [hx] at this
    simp only [Rel] at this
    obtain ⟨_, A, c, e, _⟩ := this
    exact ⟨.int .i64 k, by simp [execOp, resolve, invoke, builtin, Builtin.len_, e, run_underlying hu, goInt], by simp only [Rel, RelP]⟩
theorem xj_max {k : IntKind} {i j : Int} (hx : σ.ev n x = .pv (.int k i)) (hy : σ.ev n y = .pv (.int k j)) :
    XJ C n ⟨dst, .call { callee := .builtin .max, args := #[x, y], argTypes := #[t, t'] }, ty, pos, after, gd⟩ σ ⟨.pv (.int k (if j > i then j else i)), [], []⟩ :=
  .val fun a w m R hw => ⟨.int k (if j > i then j else i), by simp [execOp, resolve, invoke, builtin, Builtin.max_, Builtin.max2, hw.int hx, hw.int hy], by simp only [Rel, RelP]⟩
theorem xj_min {k : IntKind} {i j : Int} (hx : σ.ev n x = .pv (.int k i)) (hy : σ.ev n y = .pv (.int k j)) :
    XJ C n ⟨dst, .call { callee := .builtin .min, args := #[x, y], argTypes := #[t, t'] }, ty, pos, after, gd⟩ σ ⟨.pv (.int k (if j < i then j else i)), [], []⟩ :=
  .val fun a w m R hw => ⟨.int k (if j < i then j else i), by simp [execOp, resolve, invoke, builtin, Builtin.min_, Builtin.min2, hw.int hx, hw.int hy], by simp only [Rel, RelP]⟩
end
end Go.Proofs.YtopjkdddicgajaaGreatDoor
namespace Go.Proofs.YtopjkdddicgajaaGreatDoor
open Go.RowKit
/-- The slice address A shows the cells xs (nothing is asked if there are none); the block is one of those that R names. -/
def Row (w : World) (R : Nat → Prop) (A : Option Addr) (xs : List Value) : Prop :=
  xs ≠ [] → ∃ b off : Nat, A = some ⟨b, off, none⟩ ∧ R b ∧ b < w.heap.size ∧ ∀ j, j < xs.length → w.cell? ⟨b, off + j, none⟩ = xs[j]?
/-- Any block. -/
def Any (_ : Nat) : Prop := True
section
variable {w w' : World} {R R' : Nat → Prop} {A : Option Addr} {xs : List Value}
theorem Row.nil : Row w R A [] := fun h => absurd rfl h
theorem Row.at_ (h : Row w R A xs) {k : Nat} (hk : k < xs.length) :
    ∃ b off : Nat, A = some ⟨b, off, none⟩ ∧ R b ∧ b < w.heap.size ∧ ∀ j, j < xs.length → w.cell? ⟨b, off + j, none⟩ = xs[j]? :=
  h (by rintro rfl; simp at hk)
/-- The row's own block is as it was. -/
theorem Row.keep (h : Row w R A xs) (hs : w.heap.size ≤ w'.heap.size)
    (hk : ∀ b off, A = some ⟨b, off, none⟩ → R b → b < w.heap.size → w'.heap[b]? = w.heap[b]?) : Row w' R A xs := by
  intro hne
  obtain ⟨b, off, rfl, hR, hlt, hc⟩ := h hne
  have hb := hk b off rfl hR hlt
  exact ⟨b, off, rfl, hR, by omega, fun j hj => by rw [World.cell?_of_block (w := w) (a := ⟨b, off + j, none⟩) hb]; exact hc j hj⟩
theorem Row.mono (h : Row w R A xs) (hR : ∀ b, b < w.heap.size → R b → R' b) : Row w R' A xs := by
  intro hne
  obtain ⟨b, off, rfl, hRb, hlt, hc⟩ := h hne
  exact ⟨b, off, rfl, hR b hlt hRb, hlt, hc⟩
theorem Row.any (h : Row w R A xs) : Row w Any A xs := h.mono fun _ _ _ => trivial
theorem Row.take (h : Row w R A xs) (n : Nat) : Row w R A (xs.take n) := by
  intro hne
  obtain ⟨b, off, rfl, hR, hlt, hc⟩ := h (by rintro rfl; simp at hne)
  refine ⟨b, off, rfl, hR, hlt, fun j hj => ?_⟩
  have hj2 : j < n ∧ j < xs.length := by rw [List.length_take] at hj; omega
  rw [hc j hj2.2, List.getElem?_take, if_pos hj2.1]
/-- Old memory is as it was. -/
theorem Row.below (h : Row w R A xs) {B : Nat} (hb : Below B w w') (hB : w.heap.size ≤ B) : Row w' R A xs :=
  h.keep hb.size fun b _ _ _ hlt => hb.block b (by omega)
theorem Row.ext (h : Row w R A xs) (hb : Below w.heap.size w w') : Row w' R A xs := h.below hb (Nat.le_refl _)
theorem Row.drewN (h : Row w R A xs) (n : Nat) : Row (w.drewN n) R A xs := h
theorem Row.alloc (h : Row w R A xs) (o : Obj) : Row (w.alloc o) R A xs :=
  h.keep (by simp) fun b _ _ _ hlt => Below.heap_alloc w o b hlt
theorem Row.setCell (h : Row w R A xs) {p : Addr} (hp : ∀ b, R b → b ≠ p.block) (u : Value) : Row (w.setCell p u) R A xs :=
  h.keep (by simp [World.setCell]) fun b _ _ hR _ => Below.heap_setCell w p u b (hp b hR)
end
/-- An owned row's value is a slice. -/
theorem own_slice {w : World} {base : Nat} {e : TypeId} {size n : Nat} {v : Value} {xs : List Value} (h : w.ownsRow base e size v n xs) : ∃ A c, v = .slice A n c ∧ n ≤ c ∧ c ≤ maxLen := by
  rcases h.2 with ⟨rfl, rfl⟩ | ⟨g, cap, cur, rfl, _, _, hnc, hm, _⟩
  · exact ⟨none, 0, rfl, Nat.le_refl _, by simp [maxLen]⟩
  · exact ⟨_, cap, rfl, hnc, hm⟩
/-- Block g is just these cells of type t, none of them frozen. -/
def Blk (w : World) (g : Nat) (t : TypeId) (cs : Array Value) : Prop := w.heap[g]? = some (.cells cs t (0, 0))
theorem Blk.lt {w : World} {g : Nat} {t : TypeId} {cs : Array Value} (h : Blk w g t cs) : g < w.heap.size := (Array.getElem?_eq_some_iff.1 h).1
theorem Blk.cell {w : World} {g : Nat} {t : TypeId} {cs : Array Value} (h : Blk w g t cs) (i : Nat) : w.cell? ⟨g, i, none⟩ = cs[i]? := cell_of_row w g i cs t (0, 0) h
theorem Blk.frozen {w : World} {g : Nat} {t : TypeId} {cs : Array Value} (h : Blk w g t cs) (i : Nat) : w.frozen? ⟨g, i, none⟩ = false := by
  unfold Blk at h
  simp [World.frozen?, h]
theorem Blk.new (w : World) (t : TypeId) (cs : Array Value) : Blk (w.alloc (.cells cs t)) w.heap.size t cs := heap_alloc_new w _
theorem Blk.drewN {w : World} {g : Nat} {t : TypeId} {cs : Array Value} (h : Blk w g t cs) (n : Nat) : Blk (w.drewN n) g t cs := h
theorem Blk.alloc {w : World} {g : Nat} {t : TypeId} {cs : Array Value} (h : Blk w g t cs) (o : Obj) : Blk (w.alloc o) g t cs := (Below.heap_alloc w o g h.lt).trans h
theorem Blk.set {w : World} {g : Nat} {t : TypeId} {cs : Array Value} (h : Blk w g t cs) (i : Nat) (u : Value) : Blk (w.setCell ⟨g, i, none⟩ u) g t (cs.setIfInBounds i u) := by
  unfold Blk at h ⊢
  simp [World.setCell, Array.getElem?_modify, h]
theorem Blk.below {w w' : World} {g B : Nat} {t : TypeId} {cs : Array Value} (h : Blk w g t cs) (hb : Below B w w') (hg : g < B) : Blk w' g t cs := (hb.block g hg).trans h
theorem Blk.ext {w w' : World} {g : Nat} {t : TypeId} {cs : Array Value} (h : Blk w g t cs) (hb : Below w.heap.size w w') : Blk w' g t cs := (hb.block g h.lt).trans h
/-- append(s, xs...): what the source shows is put behind. -/
theorem wp_appS {P : Program} {W : World} {o : Oper} {a : Act} {K : Act → World → Prop} {Q : Exit → Act → World → Prop} (s x : Operand) (t : TypeId)
    (ho : o.op = .call { callee := .builtin .append, args := #[s, x], argTypes := #[t, t] })
    (base : Nat) (e : TypeId) (z : Value) (size bytes : Nat) (ht : P.underlying t = some (.slice e)) (hinfo : (P.info? e).map (fun i => (i.zero, i.size, i.bytes)) = some (some z, size, bytes))
    (hzs : z.cells.size = size) (hsz : 0 < size) (hby : bytes ≤ 1000)
    (v : Value) (n m c : Nat) (A : Option Addr) (xs news : List Value) (hs : a.eval s = v) (hx : a.eval x = .slice A m c) (hown : W.ownsRow base e size v n xs) {R : Nat → Prop} (hr : Row W R A news)
    (hl : news.length = m * size) (h1 : ∀ u ∈ news, u.oneCell' = true) (hb : n + m ≤ 1000000000) (hbase : base ≤ W.heap.size)
    (h : ∀ A' c' w', w'.ownsRow base e size (.slice A' (n + m) c') (n + m) (xs ++ news) → W.grownBy w' v.ownBlock → ((Value.slice A' (n + m) c').ownBlock = v.ownBlock ∨ ∃ g, (Value.slice A' (n + m) c').ownBlock = some g ∧ W.heap.size ≤ g) → K (a.put o.dst (.slice A' (n + m) c')) w') :
    o.wp P a W K Q := by
  obtain ⟨i, hi, hz, hsize, hbytes⟩ := info_parts hinfo
  have hbb : (n + m) * bytes ≤ 140737488355328 := Nat.le_trans (Nat.mul_le_mul hb hby) (by decide)
  unfold Oper.wp execOp
  cases A with
  | none =>
    have hne : news = [] := by
      rcases Classical.em (news = []) with h0 | h0
      · exact h0
      · obtain ⟨b, off, hh, _⟩ := hr h0; cases hh
    subst hne
    have hm : m = 0 := by
      rcases Nat.eq_zero_or_pos m with h0 | h0
      · exact h0
      · have := Nat.mul_pos h0 hsz; simp at hl; omega
    subst hm
    have hrun : (Builtin.append_ #[t, t] o.type #[v, .slice none 0 c]).run P W = .ok v W := by
      rcases hown.2 with ⟨rfl, rfl⟩ | ⟨g, cap, cur, rfl, _, _, hnc, _⟩
      · simp [Builtin.append_, run_underlying ht, sizeOf, typeInfo, hi, Builtin.lenOf, Builtin.firstCells]
      · simp [Builtin.append_, run_underlying ht, sizeOf, typeInfo, hi, Builtin.lenOf, Builtin.firstCells, hnc, storeCells]
    simp only [ho, resolve, invoke, builtin, Sem.run_bind, Sem.run_pure, Result.andThen_ok, List.map_toArray, List.map_cons, List.map_nil, hs, hx, hrun]
    obtain ⟨A', c', rfl, _, _⟩ := own_slice hown
    exact h A' c' W (by simpa using hown) (World.grownBy.refl _ _) (.inl rfl)
  | some ad =>
    have hcells : ∀ j u, news[j]? = some u → W.cell? (ad.add j) = some u := by
      intro j u hu
      have hj : j < news.length := (List.getElem?_eq_some_iff.1 hu).1
      obtain ⟨b, off, hh, _, _, hc⟩ := hr (by rintro rfl; simp at hj)
      cases hh
      rw [Addr.add_lit, hc j hj]; exact hu
    obtain ⟨v', w', hrun, h2, h3, _, h5⟩ := run_append_own_at (P := P) W base t o.type e i z size bytes ht hi hz hsize hbytes hzs hsz v n xs hown ad m c news
      hl hcells h1 (by simp only [maxLen]; omega) hbb hbase
    simp only [ho, resolve, invoke, builtin, Sem.run_bind, Sem.run_pure, Result.andThen_ok, List.map_toArray, List.map_cons, List.map_nil, hs, hx, hrun]
    obtain ⟨A', c', rfl, _, _⟩ := own_slice h2
    refine h A' c' w' h2 h3 ?_
    rcases h5 with h5 | h5
    · exact .inl h5
    · exact .inr ⟨_, h5, Nat.le_refl _⟩
end Go.Proofs.YtopjkdddicgajaaGreatDoor
namespace Go.Proofs.YtopjkdddicgajaaGreatDoor
open Go.RowKit
/-- The cells of a value. -/
def V.cells : V → List V
  | .agg cs => cs
  | .pv (.agg ps) => ps.map .pv
  | v => [v]
mutual
/-- One cell, for sure. -/
def PV.leaf : PV → Bool
  | .agg _ | .tup _ | .any => false
  | _ => true
end
def V.leaf : V → Bool
  | .pv p => p.leaf
  | .agg _ | .tup _ => false
  | _ => true
section
variable {w w' : World} {m m' : Gm} {av av' : Av} {R R' : Nat → Prop}
theorem RelP.leaf {p : PV} {u : Value} (h : RelP w R p u) (hl : p.leaf = true) : u.oneCell' = true := by
  cases p <;> simp only [PV.leaf, Bool.false_eq_true] at hl <;> simp only [RelP] at h
  case sl => obtain ⟨A, c, rfl, _⟩ := h; rfl
  case rp => obtain ⟨b, o, us, rfl, _⟩ := h; rfl
  case fn => obtain ⟨b, o, rfl, _⟩ := h; rfl
  case iface => obtain ⟨x, rfl, _⟩ := h; rfl
  case mp => obtain ⟨x, rfl, _⟩ := h; rfl
  all_goals (subst h; rfl)
/-- The value's cells. -/
theorem Rel.cells {v : V} {u : Value} (h : Rel w m av R v u) (hl : ∀ c ∈ v.cells, c.leaf = true) (hlive : ∀ id o, v = .ptr id o → (m id).isSome) (hlive2 : ∀ id s k, v = .osl id s k → (m id).isSome) (hlive3 : ∀ id, v = .map id → (m id).isSome) :
    RelL w m av R v.cells u.cells.toList := by
  have one : u.oneCell' = true → RelL w m av R [v] u.cells.toList := by
    intro h1
    have : u.cells = #[u] := by cases u <;> simp [Value.oneCell'] at h1 <;> rfl
    rw [this]
    exact RelL.cons h RelL.nil
  cases v with
  | agg cs =>
    simp only [Rel] at h
    obtain ⟨us, rfl, h⟩ := h
    simpa [V.cells, Value.cells] using h
  | pv p =>
    cases p with
    | agg ps =>
      simp only [Rel, RelP] at h
      obtain ⟨us, rfl, h⟩ := h
      simpa [V.cells, Value.cells] using RelL.ofP h
    | _ =>
      refine one ?_
      simp only [Rel] at h
      exact h.leaf (by simpa [V.cells, V.leaf] using hl)
  | tup cs => simp [V.cells, V.leaf] at hl
  | fn f a b =>
    refine one ?_
    simp only [Rel] at h
    obtain ⟨us, vs, rfl, _⟩ := h
    rfl
  | ptr id o =>
    refine one ?_
    obtain ⟨⟨b, N⟩, hm⟩ := Option.isSome_iff_exists.1 (hlive id o rfl)
    simp only [Rel] at h
    rw [h.2 b N hm]; rfl
  | osl id s k =>
    refine one ?_
    obtain ⟨⟨b, N⟩, hm⟩ := Option.isSome_iff_exists.1 (hlive2 id s k rfl)
    simp only [Rel] at h
    obtain ⟨c, e, _⟩ := h.2 b N hm
    rw [e]; rfl
  | gsl id s k =>
    refine one ?_
    simp only [Rel] at h
    obtain ⟨_, A, c, e, _⟩ := h
    rw [e]; rfl
  | map id =>
    refine one ?_
    obtain ⟨⟨b, N⟩, hm⟩ := Option.isSome_iff_exists.1 (hlive3 id rfl)
    simp only [Rel] at h
    rw [h.2 b N hm]; rfl
end
section
variable {C : Ctx} {n : Nat} {σ : St} {a : Act} {w : World} {m : Gm} {R : Nat → Prop}
theorem SW.world (h : SW C n σ a w m R) {w' : World} {m' : Gm} {R' : Nat → Prop} {ob' : Nat → Option Ob} {av' : Av} (hHR : HR C m' R' ob' av' w') (hR : ∀ b, R b → R' b ∧ w'.heap[b]? = w.heap[b]?)
    (hm : ∀ id x, σ.av id = false → m' id = some x → m id = some x) (ha : ∀ id, σ.av id = false → av' id = false) : SW C n ⟨σ.sl, ob', av'⟩ a w' m' R' :=
  ⟨hHR, h.df, h.sz, fun t ht => (h.sl t ht).mono hR hm ha⟩
theorem SW.live (h : SW C n σ a w m R) {id : Nat} {o : Ob} (ho : σ.ob id = some o) (hre : o.real = true := by rfl) : ∃ b N, m id = some (b, N) ∧ ORel w m σ.av R b N o := by
  have hd := h.hr.dom id
  rw [ho] at hd
  replace hd := hd.trans hre
  obtain ⟨⟨b, N⟩, hm⟩ := Option.isSome_iff_exists.1 hd
  exact ⟨b, N, hm, h.hr.obj id o b N ho hm⟩
theorem SW.ptr (h : SW C n σ a w m R) {x : Operand} {id off : Nat} {o : Ob} (hx : σ.ev n x = .ptr id off) (ho : σ.ob id = some o) (hre : o.real = true := by rfl) :
    ∃ b N, a.eval x = .pointer (some ⟨b, off, none⟩) ∧ m id = some (b, N) ∧ ORel w m σ.av R b N o := by
  obtain ⟨b, N, hm, hr⟩ := h.live ho hre
  have := h.ev x
  rw [hx] at this
  simp only [Rel] at this
  exact ⟨b, N, this.2 b N hm, hm, hr⟩
theorem SW.osl (h : SW C n σ a w m R) {x : Operand} {id sz k : Nat} {o : Ob} (hx : σ.ev n x = .osl id sz k) (ho : σ.ob id = some o) (hre : o.real = true := by rfl) :
    ∃ b N c, a.eval x = .slice (some ⟨b, 0, none⟩) k c ∧ k ≤ c ∧ c ≤ maxLen ∧ N = c * sz ∧ m id = some (b, N) ∧ ORel w m σ.av R b N o := by
  obtain ⟨b, N, hm, hr⟩ := h.live ho hre
  have := h.ev x
  rw [hx] at this
  simp only [Rel] at this
  obtain ⟨c, e, h1, h2, h3⟩ := this.2 b N hm
  exact ⟨b, N, c, e, h1, h2, h3, hm, hr⟩
/-- A new block becomes a place of the call's own. -/
theorem SW.alloc (h : SW C n σ a w m R) {id : Nat} (hid : σ.av id = true) (arr : Array Value) (ty : TypeId) (o : Ob)
    (ho : ∀ (w' : World) (m' : Gm) (av' : Av), (∀ b, R b → R b ∧ w'.heap[b]? = w.heap[b]?) → (∀ i x, σ.av i = false → m' i = some x → m i = some x) → (∀ i, σ.av i = false → av' i = false) →
      w'.heap[w.heap.size]? = some (.cells arr ty (0, 0)) → ORel w' m' av' R w.heap.size arr.size o) (hre : o.real = true := by rfl) :
    SW C n ⟨σ.sl, obL [(id, some o)] σ.ob, avL [id] σ.av⟩ a (w.alloc (.cells arr ty)) (upd m id (some (w.heap.size, arr.size))) R := by
  have hR : ∀ b, R b → R b ∧ (w.alloc (.cells arr ty)).heap[b]? = w.heap[b]? := fun b hb => ⟨hb, Below.heap_alloc w _ b (h.hr.rsz b hb)⟩
  have hne : ∀ i, σ.av i = false → i ≠ id := fun i hi e => by rw [e, hid] at hi; cases hi
  have hmn : m id = none := by
    have := h.hr.dom id
    rw [h.hr.free id hid] at this
    simpa [liveO] using this
  have hm : ∀ i x, σ.av i = false → upd m id (some (w.heap.size, arr.size)) i = some x → m i = some x := fun i x hi e => by rwa [upd_ne _ _ (hne i hi)] at e
  have ha : ∀ i, σ.av i = false → avL [id] σ.av i = false := fun i hi => by
    simp only [avL]
    cases Nat.beq i id <;> simp [hi]
  have hsz : (w.alloc (.cells arr ty)).heap.size = w.heap.size + 1 := by simp
  have obe : ∀ i, i ≠ id → obL [(id, some o)] σ.ob i = σ.ob i := fun i hi => by
    have : Nat.beq i id = false := by cases hb : Nat.beq i id; rfl; exact absurd (Nat.eq_of_beq_eq_true hb) hi
    simp [obL, this]
  have obs : obL [(id, some o)] σ.ob id = some o := by simp [obL]
  have avf : ∀ i, (m i).isSome = true → σ.av i = false := fun i hi => by
    cases hb : σ.av i
    · rfl
    · have := h.hr.dom i
      rw [h.hr.free i hb, hi] at this
      cases this
  refine h.world ⟨?_, ?_, ?_, ?_, ?_, ?_, ?_, ?_, ?_, ?_, ?_⟩ hR hm ha
  · intro i
    by_cases e : i = id
    · subst e; rw [upd_same, obs]; exact hre.symm
    · rw [upd_ne _ _ e, obe i e]; exact h.hr.dom i
  · intro i hi
    simp only [avL] at hi
    cases hb : Nat.beq i id with
    | true => rw [hb] at hi; simp at hi
    | false =>
      rw [hb] at hi
      have e : i ≠ id := fun e => by subst e; simp at hb
      rw [obe i e]
      exact h.hr.free i (by simpa using hi)
  · intro i o' b N h1 h2
    by_cases e : i = id
    · subst e
      rw [obs] at h1
      rw [upd_same] at h2
      cases h1; cases h2
      exact ho _ _ _ hR hm ha (heap_alloc_new w _)
    · rw [obe i e] at h1
      rw [upd_ne _ _ e] at h2
      exact (h.hr.obj i o' b N h1 h2).mono hR hm ha (Below.heap_alloc w _ b (h.hr.own i b N h2).1)
  · intro i j b N N' h1 h2
    by_cases e1 : i = id <;> by_cases e2 : j = id
    · rw [e1, e2]
    · subst e1
      rw [upd_same] at h1
      rw [upd_ne _ _ e2] at h2
      cases h1
      have := (h.hr.own j _ _ h2).1
      omega
    · subst e2
      rw [upd_same] at h2
      rw [upd_ne _ _ e1] at h1
      cases h2
      have := (h.hr.own i _ _ h1).1
      omega
    · rw [upd_ne _ _ e1] at h1
      rw [upd_ne _ _ e2] at h2
      exact h.hr.inj i j b N N' h1 h2
  · intro i b N h1
    by_cases e : i = id
    · subst e
      rw [upd_same] at h1
      cases h1
      exact ⟨by omega, fun hb => by have := h.hr.rsz _ hb; omega, .inr h.hr.frame.size⟩
    · rw [upd_ne _ _ e] at h1
      obtain ⟨h2, h3, h4⟩ := h.hr.own i b N h1
      exact ⟨by omega, h3, h4⟩
  · intro b hb
    have := h.hr.rsz b hb
    omega
  · exact h.hr.rfr
  · exact h.hr.r0
  · refine ⟨h.hr.frame.os, h.hr.frame.tape, h.hr.frame.output, ?_, ?_⟩
    · have := h.hr.frame.size; omega
    · intro k hk hF
      rw [Below.heap_alloc w _ k (by have := h.hr.frame.size; omega)]
      exact h.hr.frame.block k hk hF
  · intro i x hi e
    have hne' : i ≠ id := fun e' => by subst e'; rw [h.hr.res i hi] at hid; cases hid
    rw [upd_ne _ _ hne'] at e
    exact h.hr.keep i x hi e
  · intro i hi
    exact ha i (h.hr.res i hi)
/-- The cells of one place of the call's own are written. -/
theorem SW.store (h : SW C n σ a w m R) {id b N : Nat} (hm0 : m id = some (b, N)) (arr arr' : Array Value) (ty : TypeId) (hb : w.heap[b]? = some (.cells arr ty (0, 0))) (hsz : arr'.size = N) (o : Ob)
    (ho : ∀ (w' : World), (∀ b, R b → R b ∧ w'.heap[b]? = w.heap[b]?) → w'.heap[b]? = some (.cells arr' ty (0, 0)) → ORel w' m σ.av R b N o) (hre : o.real = true := by rfl) :
    SW C n ⟨σ.sl, obL [(id, some o)] σ.ob, avL [] σ.av⟩ a (w.setRow b arr') m R := by
  have own := h.hr.own id b N hm0
  have hheap := setRow_heap w b arr arr' ty (0, 0) hb
  have hoth : ∀ k, k ≠ b → (w.setRow b arr').heap[k]? = w.heap[k]? := fun k hk => setRow_other w b k arr' hk
  have hR : ∀ k, R k → R k ∧ (w.setRow b arr').heap[k]? = w.heap[k]? := fun k hk => ⟨hk, hoth k (fun e => own.2.1 (e ▸ hk))⟩
  have hs : (w.setRow b arr').heap.size = w.heap.size := by simp
  have obe : ∀ i, i ≠ id → obL [(id, some o)] σ.ob i = σ.ob i := fun i hi => by
    have : Nat.beq i id = false := by cases hb : Nat.beq i id; rfl; exact absurd (Nat.eq_of_beq_eq_true hb) hi
    simp [obL, this]
  have obs : obL [(id, some o)] σ.ob id = some o := by simp [obL]
  have hm : ∀ i x, σ.av i = false → m i = some x → m i = some x := fun _ _ _ e => e
  have ha : ∀ i, σ.av i = false → avL [] σ.av i = false := fun _ hi => hi
  refine h.world ⟨?_, ?_, ?_, ?_, ?_, ?_, ?_, ?_, ?_, ?_, ?_⟩ hR hm ha
  · intro i
    by_cases e : i = id
    · subst e; rw [hm0, obs]; exact hre.symm
    · rw [obe i e]; exact h.hr.dom i
  · intro i hi
    have e : i ≠ id := fun e => by
      subst e
      have := h.hr.dom i
      rw [h.hr.free i hi, hm0] at this
      cases this
    rw [obe i e]
    exact h.hr.free i hi
  · intro i o' b' N' h1 h2
    by_cases e : i = id
    · subst e
      rw [obs] at h1
      rw [hm0] at h2
      cases h1; cases h2
      exact ho _ hR hheap
    · rw [obe i e] at h1
      exact (h.hr.obj i o' b' N' h1 h2).mono hR hm ha (hoth b' (fun e' => e (h.hr.inj i id b N' N (e' ▸ h2) hm0)))
  · exact h.hr.inj
  · intro i b' N' h1
    obtain ⟨h2, h3, h4⟩ := h.hr.own i b' N' h1
    exact ⟨by omega, h3, h4⟩
  · intro b' hb'
    have := h.hr.rsz b' hb'
    omega
  · exact h.hr.rfr
  · exact h.hr.r0
  · refine ⟨h.hr.frame.os, h.hr.frame.tape, h.hr.frame.output, ?_, ?_⟩
    · have := h.hr.frame.size; omega
    · intro k hk hF
      rw [hoth k (fun e => by subst e; rcases own.2.2 with h' | h'; exact hF h'; omega)]
      exact h.hr.frame.block k hk hF
  · exact h.hr.keep
  · exact h.hr.res
end
/-- How many cells a type takes. -/
def szIs (P : Program) (t : TypeId) (k : Nat) : Prop := (P.info? t).map (·.size) = some k
def isRow (P : Program) (t : TypeId) : Prop := ∃ d, P.underlying t = some d ∧ d.isRow = true
def notRow (P : Program) (t : TypeId) : Prop := ∃ d, P.underlying t = some d ∧ d.isRow = false
theorem notRow.run {P : Program} {t : TypeId} (h : notRow P t) (w : World) : (isAgg t).run P w = .ok false w := by
  obtain ⟨d, hu, hd⟩ := h
  unfold isAgg
  rw [Sem.run_bind, run_underlying hu w]
  cases d <;> simp_all
theorem isRow.run {P : Program} {t : TypeId} (h : isRow P t) (w : World) : (isAgg t).run P w = .ok true w := by
  obtain ⟨d, hu, hd⟩ := h
  unfold isAgg
  rw [Sem.run_bind, run_underlying hu w]
  cases d <;> simp_all
theorem szIs.run {P : Program} {t : TypeId} {k : Nat} (h : szIs P t k) (w : World) : (sizeOf t).run P w = .ok k w := by
  unfold szIs at h
  cases hq : P.info? t with
  | none => simp [hq] at h
  | some i => simp [hq] at h; simp [sizeOf, typeInfo, hq, h]
section
variable {C : Ctx} {n : Nat} {σ : St} {dst : Option Tmp} {ty t t' : TypeId} {pos : String} {after : Array Edge} {gd : Option (Nat × Bool)} {x y : Operand}
theorem St.app_new (σ : St) (d : Option Tmp) (v : V) (wr : List (Nat × Option Ob)) (nw : List Nat) : σ.app d ⟨v, wr, nw⟩ = St.put ⟨σ.sl, obL wr σ.ob, avL nw σ.av⟩ d v := by
  cases d <;> rfl
/-- A variable is made of a value. -/
theorem xj_box (id : Nat) {T : TypeId} (hid : σ.av id = true) {v : V} (hv : σ.ev n x = v) (hl : v.cells.all V.leaf = true) (hlive : ∀ i o, v = .ptr i o → liveO (σ.ob i) = true) (hlive2 : ∀ i s k, v = .osl i s k → liveO (σ.ob i) = true) (hlive3 : ∀ i, v = .map i → liveO (σ.ob i) = true) :
    XJ C n ⟨dst, .box T x, ty, pos, after, gd⟩ σ ⟨.ptr id 0, [(id, some (.mix T v.cells))], [id]⟩ := by
  rintro a w Q ⟨m, R, hw⟩
  have hrel := hw.ev x
  rw [hv] at hrel
  have hc := hrel.cells (by simpa using hl) (fun i o e => by rw [hw.hr.dom]; exact hlive i o e) (fun i s k e => by rw [hw.hr.dom]; exact hlive2 i s k e) (fun i e => by rw [hw.hr.dom]; exact hlive3 i e)
  unfold Oper.wp
  have hrun : (execOp a.eval ⟨dst, .box T x, ty, pos, after, gd⟩).run C.P w = .ok (.value (.pointer (some ⟨w.heap.size, 0, none⟩))) (w.alloc (.cells (a.eval x).cells T)) := by
    simp [execOp, Instr.box, newVar, newRow]
  rw [hrun]
  refine ⟨_, rfl, upd m id (some (w.heap.size, (a.eval x).cells.size)), R, ?_⟩
  rw [St.app_new]
  refine SW.put (hw.alloc hid (a.eval x).cells T (.mix T v.cells) ?_) dst ?_
  · intro w' m' av' hR hm ha hb
    refine ⟨_, hb, rfl, ?_, ?_⟩
    · rw [← hc.length]; simp
    · have : (a.eval x).cells.toList.take v.cells.length = (a.eval x).cells.toList := List.take_of_length_le (by rw [← hc.length]; exact Nat.le_refl _)
      rw [this]
      exact hc.mono hR hm ha
  · simp only [Rel]
    refine ⟨by simp [avL], fun b N e => ?_⟩
    rw [upd_same] at e
    cases e
    rfl
/-- A variable with its zero value. -/
theorem xj_alloc (id : Nat) {T : TypeId} {z : Value} {cs : List PV} (hz : (C.P.info? T).map (·.zero) = some (some z)) (hcs : z.cells.toList.map leafC = cs) (hid : σ.av id = true) :
    XJ C n ⟨dst, .alloc T, ty, pos, after, gd⟩ σ ⟨.ptr id 0, [(id, some (.mix T (cs.map .pv)))], [id]⟩ := by
  rintro a w Q ⟨m, R, hw⟩
  unfold Oper.wp
  have hrun : (execOp a.eval ⟨dst, .alloc T, ty, pos, after, gd⟩).run C.P w = .ok (.value (.pointer (some ⟨w.heap.size, 0, none⟩))) (w.alloc (.cells z.cells T)) := by
    cases hq : C.P.info? T with
    | none => simp [hq] at hz
    | some i =>
      simp [hq] at hz
      simp [execOp, Instr.alloc, zeroValue, typeInfo, hq, hz, newVar, newRow]
  rw [hrun]
  refine ⟨_, rfl, upd m id (some (w.heap.size, z.cells.size)), R, ?_⟩
  rw [St.app_new]
  refine SW.put (hw.alloc hid z.cells T (.mix T (cs.map .pv)) ?_) dst ?_
  · intro w' m' av' hR hm ha hb
    have hlen : cs.length = z.cells.size := by rw [← hcs]; simp
    refine ⟨_, hb, rfl, by simp [hlen], ?_⟩
    have : z.cells.toList.take (cs.map V.pv).length = z.cells.toList := List.take_of_length_le (by simp [hlen])
    rw [this]
    refine RelL.ofP ?_
    rw [← hcs]
    generalize z.cells.toList = l
    induction l with
    | nil => simpa using RelPL.nil
    | cons x l ih => simpa using RelPL.cons (leafC_rel w' R x) ih
  · simp only [Rel]
    refine ⟨by simp [avL], fun b N e => ?_⟩
    rw [upd_same] at e
    cases e
    rfl
theorem arr_cell {w : World} {b : Nat} {arr : Array Value} {T : TypeId} {us : List Value} (hb : w.heap[b]? = some (.cells arr T (0, 0))) {k : Nat} (hus : arr.toList.take k = us) {j : Nat} (hj : j < k) :
    w.cell? ⟨b, j, none⟩ = us[j]? := by
  rw [cell_of_row w b j arr T (0, 0) hb, ← hus, List.getElem?_take, if_pos hj]
  simp
/-- A variable is read: one cell. -/
theorem xj_load1 {T : TypeId} {id off : Nat} {T' : TypeId} {cs : List V} {v : V} (hT : notRow C.P T) (hx : σ.ev n x = .ptr id off) (ho : σ.ob id = some (.mix T' cs)) (hv : cs[off]? = some v) :
    XJ C n ⟨dst, .load T x, ty, pos, after, gd⟩ σ ⟨v, [], []⟩ :=
  .val fun a w m R hw => by
    obtain ⟨b, N, he, hm, arr, hb, hN, hle, hr⟩ := hw.ptr hx ho
    obtain ⟨u, hu, hrel⟩ := hr.get hv
    have hoff : off < cs.length := (List.getElem?_eq_some_iff.1 hv).1
    have hc : w.cell? ⟨b, off, none⟩ = some u := by rw [arr_cell hb rfl hoff]; exact hu
    exact ⟨u, by simp [execOp, he, Instr.loadAt, Instr.sureAddr, loadVar, hT.run, load, Sem.run, hc], hrel⟩
/-- The same of a place of plain cells. -/
theorem xj_load1P {T : TypeId} {id off : Nat} {T' : TypeId} {cs : List PV} {v : PV} (hT : notRow C.P T) (hx : σ.ev n x = .ptr id off) (ho : σ.ob id = some (.cells T' cs)) (hv : cs[off]? = some v) :
    XJ C n ⟨dst, .load T x, ty, pos, after, gd⟩ σ ⟨.pv v, [], []⟩ :=
  .val fun a w m R hw => by
    obtain ⟨b, N, he, hm, arr, hb, hN, hle, hr⟩ := hw.ptr hx ho
    obtain ⟨u, hu, hrel⟩ := hr.get hv
    have hoff : off < cs.length := (List.getElem?_eq_some_iff.1 hv).1
    have hc : w.cell? ⟨b, off, none⟩ = some u := by rw [arr_cell hb rfl hoff]; exact hu
    exact ⟨u, by simp [execOp, he, Instr.loadAt, Instr.sureAddr, loadVar, hT.run, load, Sem.run, hc], by simpa only [Rel] using hrel⟩
/-- A cell of memory that stands. -/
theorem xj_loadR {T : TypeId} {off : Nat} {cs : List PV} {v : PV} (hT : notRow C.P T) (hx : σ.ev n x = .pv (.rp cs off)) (hv : cs[off]? = some v) :
    XJ C n ⟨dst, .load T x, ty, pos, after, gd⟩ σ ⟨.pv v, [], []⟩ :=
  .val fun a w m R hw => by
    have := hw.pv hx
    simp only [RelP] at this
    obtain ⟨b, o, us, he, hr, hs⟩ := this
    obtain ⟨u, hu, hrel⟩ := hr.get hv
    have hoff : off < us.length := (List.getElem?_eq_some_iff.1 hu).1
    have hc : w.cell? ⟨b, o + off, none⟩ = some u := by rw [hs.2 off hoff]; exact hu
    exact ⟨u, by simp [execOp, he, Instr.loadAt, Instr.sureAddr, loadVar, hT.run, load, Sem.run, hc], by simpa only [Rel] using hrel⟩
/-- A struct is read. -/
theorem xj_loadA {T : TypeId} {id off k : Nat} {T' : TypeId} {cs vs : List V} (hT : isRow C.P T) (hk : szIs C.P T k) (hx : σ.ev n x = .ptr id off) (ho : σ.ob id = some (.mix T' cs)) (hv : (cs.drop off).take k = vs) (hle : vs.length = k) :
    XJ C n ⟨dst, .load T x, ty, pos, after, gd⟩ σ ⟨.agg vs, [], []⟩ :=
  .val fun a w m R hw => by
    obtain ⟨b, N, he, hm, arr, hb, hN, hle', hr⟩ := hw.ptr hx ho
    have hl : off + k ≤ cs.length ∨ k = 0 := by
      have := congrArg List.length hv
      simp at this
      omega
    have hr2 := (hr.drop off).take k
    rw [hv] at hr2
    have hlen := hr2.length
    obtain ⟨d, hu, hd⟩ := hT
    have := run_loadAt_mid (P := C.P) w b off T (((arr.toList.take cs.length).drop off).take k) d (fun j u hu => by
      rw [List.getElem?_take] at hu
      split at hu
      · rename_i hj
        rw [List.getElem?_drop] at hu
        have hlt := (List.getElem?_eq_some_iff.1 hu).1
        rw [arr_cell hb (k := cs.length) rfl (by simp at hlt; omega)]
        exact hu
      · cases hu) hu hd (by unfold szIs at hk; rw [hk, hlen, hle])
    refine ⟨_, by simp only [execOp, he, Sem.run_bind, this, Result.andThen_ok]; rfl, ?_⟩
    simp only [Rel]
    exact ⟨_, rfl, hr2⟩
theorem xj_loadAP {T : TypeId} {id off k : Nat} {T' : TypeId} {cs vs : List PV} (hT : isRow C.P T) (hk : szIs C.P T k) (hx : σ.ev n x = .ptr id off) (ho : σ.ob id = some (.cells T' cs)) (hv : (cs.drop off).take k = vs) (hle : vs.length = k) :
    XJ C n ⟨dst, .load T x, ty, pos, after, gd⟩ σ ⟨.pv (.agg vs), [], []⟩ :=
  .val fun a w m R hw => by
    obtain ⟨b, N, he, hm, arr, hb, hN, hle', hr⟩ := hw.ptr hx ho
    have hr2 := (hr.drop off).take k
    rw [hv] at hr2
    have hlen := hr2.length
    obtain ⟨d, hu, hd⟩ := hT
    have := run_loadAt_mid (P := C.P) w b off T (((arr.toList.take cs.length).drop off).take k) d (fun j u hu => by
      rw [List.getElem?_take] at hu
      split at hu
      · rename_i hj
        rw [List.getElem?_drop] at hu
        have hlt := (List.getElem?_eq_some_iff.1 hu).1
        rw [arr_cell hb (k := cs.length) rfl (by simp at hlt; omega)]
        exact hu
      · cases hu) hu hd (by unfold szIs at hk; rw [hk, hlen, hle])
    refine ⟨_, by simp only [execOp, he, Sem.run_bind, this, Result.andThen_ok]; rfl, ?_⟩
    simp only [Rel, RelP]
    exact ⟨_, rfl, hr2⟩
theorem xj_loadAR {T : TypeId} {off k : Nat} {cs vs : List PV} (hT : isRow C.P T) (hk : szIs C.P T k) (hx : σ.ev n x = .pv (.rp cs off)) (hv : (cs.drop off).take k = vs) (hle : vs.length = k) :
    XJ C n ⟨dst, .load T x, ty, pos, after, gd⟩ σ ⟨.pv (.agg vs), [], []⟩ :=
  .val fun a w m R hw => by
    have := hw.pv hx
    simp only [RelP] at this
    obtain ⟨b, o, us, he, hr, hs⟩ := this
    have hr2 := (hr.drop off).take k
    rw [hv] at hr2
    have hlen := hr2.length
    obtain ⟨d, hu, hd⟩ := hT
    have := run_loadAt_mid (P := C.P) w b (o + off) T ((us.drop off).take k) d (fun j u hu => by
      rw [List.getElem?_take] at hu
      split at hu
      · rw [List.getElem?_drop] at hu
        have hlt := (List.getElem?_eq_some_iff.1 hu).1
        rw [Nat.add_assoc, hs.2 (off + j) hlt]
        exact hu
      · cases hu) hu hd (by unfold szIs at hk; rw [hk, hlen, hle])
    refine ⟨_, by simp only [execOp, he, Sem.run_bind, this, Result.andThen_ok]; rfl, ?_⟩
    simp only [Rel, RelP]
    exact ⟨_, rfl, hr2⟩
end
end Go.Proofs.YtopjkdddicgajaaGreatDoor
namespace Go.Proofs.YtopjkdddicgajaaGreatDoor
open Go.RowKit
theorem take_splice {α : Type} (l vs : List α) (off n : Nat) (h : off + vs.length ≤ n) (hn : n ≤ l.length) :
    (l.take off ++ vs ++ l.drop (off + vs.length)).take n = (l.take n).take off ++ vs ++ (l.take n).drop (off + vs.length) := by
  apply List.ext_getElem?
  intro i
  have e1 : min off l.length = off := by omega
  have e2 : min off (min n l.length) = off := by omega
  simp only [List.getElem?_take, List.getElem?_append, List.length_append, List.length_take, List.getElem?_drop, e1, e2]
  by_cases hi : i < n
  · rw [if_pos hi]
    by_cases b : i < off + vs.length
    · rw [if_pos b, if_pos b]
      by_cases a : i < off
      · simp [a, hi]
      · simp [a]
    · rw [if_neg b, if_neg b, if_pos (by omega)]
  · rw [if_neg hi, if_neg (by omega), if_neg (by omega)]
/-- Some cells of a list put in place of others. -/
def setL {α : Type} (l : List α) (off : Nat) (vs : List α) : List α := l.take off ++ vs ++ l.drop (off + vs.length)
theorem RelL.setL {w : World} {m : Gm} {av : Av} {R : Nat → Prop} {cs vs : List V} {us xs : List Value} (off : Nat) (h : RelL w m av R cs us) (hv : RelL w m av R vs xs) : RelL w m av R (setL cs off vs) (setL us off xs) := by
  unfold Proofs.YtopjkdddicgajaaGreatDoor.setL
  rw [hv.length]
  exact (((h.take off).append hv).append (h.drop _))
theorem RelPL.setL {w : World} {R : Nat → Prop} {cs vs : List PV} {us xs : List Value} (off : Nat) (h : RelPL w R cs us) (hv : RelPL w R vs xs) : RelPL w R (setL cs off vs) (setL us off xs) := by
  unfold Proofs.YtopjkdddicgajaaGreatDoor.setL
  rw [hv.length]
  exact (((h.take off).append hv).append (h.drop _))
theorem setL_length {α : Type} (l : List α) (off : Nat) (vs : List α) (h : off + vs.length ≤ l.length) : (setL l off vs).length = l.length := by
  unfold setL; simp only [List.length_append, List.length_take, List.length_drop]; omega
section
variable {C : Ctx} {n : Nat} {σ : St} {dst : Option Tmp} {ty t t' : TypeId} {pos : String} {after : Array Edge} {gd : Option (Nat × Bool)} {x y : Operand}
theorem run_storeAt {P : Program} {w : World} {b off : Nat} {arr : Array Value} {T T' : TypeId} {u : Value} (hb : w.heap[b]? = some (.cells arr T' (0, 0))) (hk : szIs P T u.cells.size) (hle : off + u.cells.size ≤ arr.size) (h1 : ∀ c ∈ u.cells.toList, c.oneCell' = true) :
    (Instr.storeAt T (.pointer (some ⟨b, off, none⟩)) u).run P w = .ok () (w.setRow b (setL arr.toList off u.cells.toList).toArray) := by
  have := run_storeCells_at (P := P) b off T' u.cells.toList 0 arr w hb (by simpa using hle) h1
  simp only [Nat.add_zero] at this
  simp [Instr.storeAt, Instr.sureAddr, storeVar, hk.run, this, setL]
theorem leaf_cells {w : World} {m : Gm} {av : Av} {R : Nat → Prop} : ∀ {vs : List V} {us : List Value}, RelL w m av R vs us → (∀ c ∈ vs, c.leaf = true) → (∀ c ∈ vs, ∀ id o, c = .ptr id o → (m id).isSome) → (∀ c ∈ vs, ∀ id s k, c = .osl id s k → (m id).isSome) → (∀ c ∈ vs, ∀ id, c = .map id → (m id).isSome) → ∀ u ∈ us, u.oneCell' = true
  | [], _, h, _, _, _, _ => by simp only [RelL] at h; subst h; simp
  | c :: cs, _, h, hl, h1, h2, h3 => by
    simp only [RelL] at h
    obtain ⟨u, us, rfl, hc, hr⟩ := h
    intro v hv
    rcases List.mem_cons.1 hv with rfl | hv
    · have hlc := hl c (by simp)
      cases c with
      | pv p => simp only [Rel] at hc; exact hc.leaf hlc
      | ptr id o =>
        obtain ⟨⟨b, N⟩, hm⟩ := Option.isSome_iff_exists.1 (h1 _ (by simp) id o rfl)
        simp only [Rel] at hc; rw [hc.2 b N hm]; rfl
      | osl id s k =>
        obtain ⟨⟨b, N⟩, hm⟩ := Option.isSome_iff_exists.1 (h2 _ (by simp) id s k rfl)
        simp only [Rel] at hc; obtain ⟨c, e, _⟩ := hc.2 b N hm; rw [e]; rfl
      | gsl id s k => simp only [Rel] at hc; obtain ⟨_, A, c, e, _⟩ := hc; rw [e]; rfl
      | map id =>
        obtain ⟨⟨b, N⟩, hm⟩ := Option.isSome_iff_exists.1 (h3 _ (by simp) id rfl)
        simp only [Rel] at hc; rw [hc.2 b N hm]; rfl
      | agg _ => simp [V.leaf] at hlc
      | tup _ => simp [V.leaf] at hlc
      | fn f a b => simp only [Rel] at hc; obtain ⟨us, vs, rfl, _⟩ := hc; rfl
    · exact leaf_cells hr (fun c hc => hl c (by simp [hc])) (fun c hc => h1 c (by simp [hc])) (fun c hc => h2 c (by simp [hc])) (fun c hc => h3 c (by simp [hc])) v hv
/-- All places that the cells name are there. -/
def V.liveB (ob : Nat → Option Ob) : V → Bool
  | .ptr i _ => liveO (ob i)
  | .osl i _ _ => liveO (ob i)
  | .map i => liveO (ob i)
  | _ => true
/-- A store into a place of the call's own. -/
theorem xj_store {T T' : TypeId} {id off k : Nat} {cs : List V} {v : V} (hk : szIs C.P T k) (hx : σ.ev n x = .ptr id off) (ho : σ.ob id = some (.mix T' cs)) (hv : σ.ev n y = v) (hlen : v.cells.length = k) (hle : off + k ≤ cs.length)
    (hl : v.cells.all (fun c => c.leaf && c.liveB σ.ob) = true) (hlv : v.liveB σ.ob = true) :
    XJ C n ⟨none, .store T x y, ty, pos, after, gd⟩ σ ⟨.pv .any, [(id, some (.mix T' (setL cs off v.cells)))], []⟩ := by
  rintro a w Q ⟨m, R, hw⟩
  obtain ⟨b, N, he, hm, arr, hb, hN, hle', hr⟩ := hw.ptr hx ho
  have hrel := hw.ev y
  rw [hv] at hrel
  have live : ∀ i, liveO (σ.ob i) = true → (m i).isSome = true := fun i hi => by rw [hw.hr.dom]; exact hi
  have hl' : ∀ c ∈ v.cells, c.leaf = true ∧ c.liveB σ.ob = true := by simpa using hl
  have hc := hrel.cells (fun c hc => (hl' c hc).1) (fun i o e => live _ (by rw [e] at hlv; exact hlv)) (fun i s k e => live _ (by rw [e] at hlv; exact hlv)) (fun i e => live _ (by rw [e] at hlv; exact hlv))
  have h1 := leaf_cells hc (fun c hc => (hl' c hc).1) (fun c hc i o e => live _ (by have := (hl' c hc).2; rw [e] at this; exact this)) (fun c hc i s k e => live _ (by have := (hl' c hc).2; rw [e] at this; exact this)) (fun c hc i e => live _ (by have := (hl' c hc).2; rw [e] at this; exact this))
  have hcl : (a.eval y).cells.size = k := by have := hc.length; simp at this; omega
  have hrun := run_storeAt (P := C.P) (T := T) (u := a.eval y) (off := off) hb (by rw [hcl]; exact hk) (by omega) h1
  unfold Oper.wp
  have hrun' : (execOp a.eval ⟨none, .store T x y, ty, pos, after, gd⟩).run C.P w = .ok .skip (w.setRow b (setL arr.toList off (a.eval y).cells.toList).toArray) := by
    simp only [execOp, he, Sem.run_bind, hrun, Result.andThen_ok, Sem.run_pure]
  rw [hrun']
  refine ⟨_, rfl, m, R, ?_⟩
  refine hw.store hm arr _ T' hb (by simp only [List.size_toArray]; rw [setL_length _ _ _ (by simp; omega)]; simpa using hN) _ ?_
  intro w' hR hb'
  refine ⟨_, hb', by simp only [List.size_toArray]; rw [setL_length _ _ _ (by simp; omega)]; simpa using hN, by rw [setL_length _ _ _ (by omega)]; exact hle', ?_⟩
  rw [setL_length cs off v.cells (by omega)]
  have e : (setL arr.toList off (a.eval y).cells.toList).toArray.toList.take cs.length = setL (arr.toList.take cs.length) off (a.eval y).cells.toList := by
    simp only [setL]
    exact take_splice _ _ _ _ (by simp; omega) (by simp; omega)
  rw [e]
  exact (hr.setL off hc).mono hR (fun _ _ _ e => e) (fun _ e => e)
/-- A store into plain cells. -/
theorem xj_storeP {T T' : TypeId} {id off : Nat} {cs : List PV} {v : PV} (hk : szIs C.P T 1) (hx : σ.ev n x = .ptr id off) (ho : σ.ob id = some (.cells T' cs)) (hv : σ.ev n y = .pv v) (hlf : v.leaf = true) (hle : off < cs.length) :
    XJ C n ⟨none, .store T x y, ty, pos, after, gd⟩ σ ⟨.pv .any, [(id, some (.cells T' (cs.set off v)))], []⟩ := by
  rintro a w Q ⟨m, R, hw⟩
  obtain ⟨b, N, he, hm, arr, hb, hN, hle', hr⟩ := hw.ptr hx ho
  have hrel := hw.pv hv
  have h1 := hrel.leaf hlf
  have hcl : (a.eval y).cells = #[a.eval y] := by
    generalize a.eval y = u at h1
    cases u <;> simp [Value.oneCell'] at h1 <;> rfl
  have hrun := run_storeAt (P := C.P) (T := T) (u := a.eval y) (off := off) hb (by rw [hcl]; exact hk) (by rw [hcl]; simp; omega) (by rw [hcl]; simpa using h1)
  unfold Oper.wp
  have hrun' : (execOp a.eval ⟨none, .store T x y, ty, pos, after, gd⟩).run C.P w = .ok .skip (w.setRow b (setL arr.toList off [a.eval y]).toArray) := by
    simp only [execOp, he, Sem.run_bind, hrun, Result.andThen_ok, Sem.run_pure, hcl]
  rw [hrun']
  have setE : ∀ {α : Type} (l : List α) (z : α), off < l.length → setL l off [z] = l.set off z := by
    intro α l z hl
    simp only [setL, List.length_singleton]
    rw [List.set_eq_take_append_cons_drop, if_pos hl]
    simp
  refine ⟨_, rfl, m, R, ?_⟩
  refine hw.store hm arr _ T' hb (by simp only [List.size_toArray]; rw [setL_length _ _ _ (by simp; omega)]; simpa using hN) _ ?_
  intro w' hR hb'
  refine ⟨_, hb', by simp only [List.size_toArray]; rw [setL_length _ _ _ (by simp; omega)]; simpa using hN, by simpa using hle', ?_⟩
  have e : (setL arr.toList off [a.eval y]).toArray.toList.take (cs.set off v).length = (arr.toList.take cs.length).set off (a.eval y) := by
    have h3 := take_splice arr.toList [a.eval y] off cs.length (by simp; omega) (by simp; omega)
    have h4 := setE (arr.toList.take cs.length) (a.eval y) (by simp; omega)
    simp only [setL] at h4 ⊢
    simp only [List.length_set]
    rw [h3, h4]
  rw [e]
  exact (hr.set off hrel).mono hR
/-- Where a field lies. -/
def fieldOff (P : Program) (s : TypeId) (i : Nat) : Option Nat :=
  match P.underlying s with
  | some (.struct fs) =>
    match fs[i]? with
    | some f => match P.info? f.type with
      | some inf => bif Nat.beq inf.size 0 then none else some f.offset
      | none => none
    | none => none
  | _ => none
theorem run_fieldAt {P : Program} {s : TypeId} {i o : Nat} (h : fieldOff P s i = some o) (w : World) (b off : Nat) : (Instr.fieldAt s (.pointer (some ⟨b, off, none⟩)) i).run P w = .ok (.pointer (some ⟨b, off + o, none⟩)) w := by
  unfold fieldOff at h
  split at h
  · rename_i fs hu
    split at h
    · rename_i f hf
      split at h
      · rename_i inf hi
        have hne : inf.size ≠ 0 := by
          intro e
          rw [e] at h
          simp at h
        have hb : Nat.beq inf.size 0 = false := by cases hb : Nat.beq inf.size 0; rfl; exact absurd (Nat.eq_of_beq_eq_true hb) hne
        rw [hb] at h
        simp at h
        subst h
        simp [Instr.fieldAt, run_underlying hu, hf, Instr.sureAddr, fieldPlace, sizeOf, typeInfo, hi, hne, Addr.add_lit]
      · cases h
    · cases h
  · cases h
theorem xj_fieldAddr {s : TypeId} {i o id off : Nat} {ob : Ob} (hf : fieldOff C.P s i = some o) (hx : σ.ev n x = .ptr id off) (ho : σ.ob id = some ob) (hre : ob.real = true := by rfl) :
    XJ C n ⟨dst, .fieldAddr s x i, ty, pos, after, gd⟩ σ ⟨.ptr id (off + o), [], []⟩ :=
  .val fun a w m R hw => by
    obtain ⟨b, N, he, hm, _⟩ := hw.ptr hx ho hre
    have hx' := hw.ev x
    rw [hx] at hx'
    simp only [Rel] at hx'
    refine ⟨_, by simp only [execOp, he, Sem.run_bind, run_fieldAt hf, Result.andThen_ok]; rfl, ?_⟩
    simp only [Rel]
    exact ⟨hx'.1, fun b' N' e => by rw [hm] at e; cases e; rfl⟩
theorem xj_fieldAddrR {s : TypeId} {i o off : Nat} {cs : List PV} (hf : fieldOff C.P s i = some o) (hx : σ.ev n x = .pv (.rp cs off)) :
    XJ C n ⟨dst, .fieldAddr s x i, ty, pos, after, gd⟩ σ ⟨.pv (.rp cs (off + o)), [], []⟩ :=
  .val fun a w m R hw => by
    have := hw.pv hx
    simp only [RelP] at this
    obtain ⟨b, o', us, he, hr, hs⟩ := this
    refine ⟨_, by simp only [execOp, he, Sem.run_bind, run_fieldAt hf, Result.andThen_ok]; rfl, ?_⟩
    simp only [Rel, RelP]
    exact ⟨b, o', us, by rw [Nat.add_assoc], hr, hs⟩
theorem run_indexAt {P : Program} {T e : TypeId} {s j k c : Nat} {kk : IntKind} {i : Int} (hT : P.underlying T = some (.slice e)) (hs : szIs P e s) (hi : i = (j : Int)) (hj : j < k) (w : World) (b off : Nat) :
    (Instr.indexAt T (.slice (some ⟨b, off, none⟩) k c) (.int kk i)).run P w = .ok (.pointer (some ⟨b, off + j * s, none⟩)) w := by
  subst hi
  have h2 : ((j : Int)) < (k : Int) := by omega
  simp [Instr.indexAt, asIntOf, run_underlying hT, hs.run, hj, Addr.add_lit]
theorem xj_indexAddr {T e : TypeId} {s k : Nat} {kk : IntKind} {i : Int} {bn : Option Bool} {cs : List PV} (j : Nat) (hT : C.P.underlying T = some (.slice e)) (hs : szIs C.P e s) (hx : σ.ev n x = .pv (.sl bn k cs)) (hy : σ.ev n y = .pv (.int kk i)) (hi : i = (j : Int)) (hj : j < k) (hne : cs ≠ []) :
    XJ C n ⟨dst, .indexAddr T x y, ty, pos, after, gd⟩ σ ⟨.pv (.rp cs (j * s)), [], []⟩ :=
  .val fun a w m R hw => by
    have := hw.pv hx
    simp only [RelP] at this
    obtain ⟨A, c, he, _, _, _, _, h5⟩ := this
    obtain ⟨b, off, us, rfl, hr, hsh⟩ := h5 hne
    refine ⟨_, by simp only [execOp, he, hw.int hy, Sem.run_bind, run_indexAt hT hs hi hj, Result.andThen_ok]; rfl, ?_⟩
    simp only [Rel, RelP]
    exact ⟨b, off, us, rfl, hr, hsh⟩
theorem xj_indexAddrO {T e : TypeId} {s k id sz : Nat} {kk : IntKind} {i : Int} {o : Ob} (j : Nat) (hT : C.P.underlying T = some (.slice e)) (hs : szIs C.P e s) (hx : σ.ev n x = .osl id sz k) (ho : σ.ob id = some o) (hy : σ.ev n y = .pv (.int kk i)) (hi : i = (j : Int)) (hj : j < k) (hre : o.real = true := by rfl) :
    XJ C n ⟨dst, .indexAddr T x y, ty, pos, after, gd⟩ σ ⟨.ptr id (j * s), [], []⟩ :=
  .val fun a w m R hw => by
    obtain ⟨b, N, c, he, _, _, _, hm, _⟩ := hw.osl hx ho hre
    have hx' := hw.ev x
    rw [hx] at hx'
    simp only [Rel] at hx'
    refine ⟨_, by simp only [execOp, he, hw.int hy, Sem.run_bind, run_indexAt hT hs hi hj, Result.andThen_ok]; rfl, ?_⟩
    simp only [Rel]
    exact ⟨hx'.1, fun b' N' e => by rw [hm] at e; cases e; simp⟩
/-- A field of a struct value. -/
theorem xj_field1 {s : TypeId} {i o : Nat} {ps : List PV} {p : PV} {f : Field} {fs : Array Field} (hu : C.P.underlying s = some (.struct fs)) (hf : fs[i]? = some f) (ho : f.offset = o) (hT : notRow C.P f.type) (hx : σ.ev n x = .pv (.agg ps)) (hp : ps[o]? = some p) :
    XJ C n ⟨dst, .field s x i, ty, pos, after, gd⟩ σ ⟨.pv p, [], []⟩ :=
  .val fun a w m R hw => by
    have := hw.pv hx
    simp only [RelP] at this
    obtain ⟨us, he, hr⟩ := this
    obtain ⟨u, hu', hrel⟩ := hr.get hp
    refine ⟨u, ?_, by simpa only [Rel] using hrel⟩
    simp [execOp, he, Instr.field, run_underlying hu, hf, asAgg, part, hT.run, ho, hu']
/-- x[l:h] of a slice that stands. -/
theorem xj_slice {T e : TypeId} {s k : Nat} {kl kh : IntKind} {il ih : Int} {bn : Option Bool} {cs : List PV} (lo hi : Option Operand) (l h : Nat) (hT : C.P.underlying T = some (.slice e)) (hs : szIs C.P e s) (hx : σ.ev n x = .pv (.sl bn k cs))
    (hlo : ∀ y, lo = some y → σ.ev n y = .pv (.int kl il) ∧ il = (l : Int)) (hlo0 : lo = none → l = 0) (hhi : ∀ y, hi = some y → σ.ev n y = .pv (.int kh ih) ∧ ih = (h : Int)) (hhi0 : hi = none → h = k) (h1 : l ≤ h) (h2 : h ≤ k) (hcs : cs.length = k * s) :
    XJ C n ⟨dst, .slice T x lo hi none, ty, pos, after, gd⟩ σ ⟨.pv (.sl bn (h - l) ((cs.drop (l * s)).take ((h - l) * s))), [], []⟩ :=
  .val fun a w m R hw => by
    have := hw.pv hx
    simp only [RelP] at this
    obtain ⟨A, c, he, hkc, hcm, hbn, hb0, h5⟩ := this
    have e1 : ∀ y, lo = some y → a.eval y = .int kl l := fun y hy => by rw [hw.int (hlo y hy).1, (hlo y hy).2]
    have e2 : ∀ y, hi = some y → a.eval y = .int kh h := fun y hy => by rw [hw.int (hhi y hy).1, (hhi y hy).2]
    refine ⟨.slice (if c = l then A else A.map (·.add (l * s))) (h - l) (c - l), ?_, ?_⟩
    · have hlc : h ≤ c := by omega
      cases lo with
      | none =>
        have l0 := hlo0 rfl
        subst l0
        cases hi with
        | none =>
          have hh0 := hhi0 rfl
          subst hh0
          simp [execOp, he, Instr.sliceAt, Instr.slice, Instr.sliceBounds, run_underlying hT, hs.run]
        | some y2 =>
          simp [execOp, he, e2 y2 rfl, Instr.sliceAt, Instr.slice, Instr.sliceBounds, Instr.sliceBound, asIntOf, run_underlying hT, hs.run, hlc]
      | some y1 =>
        cases hi with
        | none =>
          have hh0 := hhi0 rfl
          subst hh0
          simp [execOp, he, e1 y1 rfl, Instr.sliceAt, Instr.slice, Instr.sliceBounds, Instr.sliceBound, asIntOf, run_underlying hT, hs.run, h1]
        | some y2 =>
          simp [execOp, he, e1 y1 rfl, e2 y2 rfl, Instr.sliceAt, Instr.slice, Instr.sliceBounds, Instr.sliceBound, asIntOf, run_underlying hT, hs.run, h1, hlc]
    · simp only [Rel, RelP]
      refine ⟨_, _, rfl, by omega, by omega, ?_, fun e => by have := hb0 e; omega, ?_⟩
      · intro q hq
        rw [hbn q hq]
        split <;> simp
      · intro hne
        have hcs2 : cs ≠ [] := by rintro rfl; simp at hne
        obtain ⟨b, off, us, rfl, hr, hsh⟩ := h5 hcs2
        have hpos : c ≠ l := by
          rintro rfl
          have : h - c = 0 := by omega
          rw [this] at hne
          simp at hne
        rw [if_neg hpos]
        refine ⟨b, off + l * s, (us.drop (l * s)).take ((h - l) * s), by simp [Addr.add_lit], (hr.drop _).take _, hsh.1, ?_⟩
        intro j hj
        simp only [List.length_take, List.length_drop] at hj
        rw [List.getElem?_take, if_pos (by omega), List.getElem?_drop, Nat.add_assoc]
        exact hsh.2 _ (by omega)
theorem xj_sliceS {T : TypeId} {kl kh : IntKind} {il ih : Int} {z : ByteArray} (lo hi : Option Operand) (l h : Nat) (hT : C.P.underlying T = some .string) (hx : σ.ev n x = .pv (.str z))
    (hlo : ∀ y, lo = some y → σ.ev n y = .pv (.int kl il) ∧ il = (l : Int)) (hlo0 : lo = none → l = 0) (hhi : ∀ y, hi = some y → σ.ev n y = .pv (.int kh ih) ∧ ih = (h : Int)) (hhi0 : hi = none → h = z.size) (h1 : l ≤ h) (h2 : h ≤ z.size) :
    XJ C n ⟨dst, .slice T x lo hi none, ty, pos, after, gd⟩ σ ⟨.pv (.str (z.extract l h)), [], []⟩ :=
  .lit rfl fun a w m R hw => by
    have he := hw.str hx
    have e1 : ∀ y, lo = some y → a.eval y = .int kl l := fun y hy => by rw [hw.int (hlo y hy).1, (hlo y hy).2]
    have e2 : ∀ y, hi = some y → a.eval y = .int kh h := fun y hy => by rw [hw.int (hhi y hy).1, (hhi y hy).2]
    cases lo with
    | none =>
      have l0 := hlo0 rfl
      subst l0
      cases hi with
      | none =>
        have hh0 := hhi0 rfl
        subst hh0
        simp [execOp, he, Instr.sliceAt, Instr.slice, Instr.sliceBounds, run_underlying hT, litV]
      | some y2 =>
        simp [execOp, he, e2 y2 rfl, Instr.sliceAt, Instr.slice, Instr.sliceBounds, Instr.sliceBound, asIntOf, run_underlying hT, h2, litV]
    | some y1 =>
      cases hi with
      | none =>
        have hh0 := hhi0 rfl
        subst hh0
        simp [execOp, he, e1 y1 rfl, Instr.sliceAt, Instr.slice, Instr.sliceBounds, Instr.sliceBound, asIntOf, run_underlying hT, h1, litV]
      | some y2 =>
        simp [execOp, he, e1 y1 rfl, e2 y2 rfl, Instr.sliceAt, Instr.slice, Instr.sliceBounds, Instr.sliceBound, asIntOf, run_underlying hT, h1, h2, litV]
theorem xj_indexS {T : TypeId} {kk : IntKind} {i : Int} {z : ByteArray} (j : Nat) (hT : C.P.underlying T = some .string) (hx : σ.ev n x = .pv (.str z)) (hy : σ.ev n y = .pv (.int kk i)) (hi : i = (j : Int)) (hj : j < z.size) :
    XJ C n ⟨dst, .index T x y, ty, pos, after, gd⟩ σ ⟨.pv (.int .u8 (z[j]'hj).toNat), [], []⟩ :=
  .lit rfl fun a w m R hw => by
    subst hi
    simp [execOp, hw.str hx, hw.int hy, Instr.index, asIntOf, run_underlying hT, litV, hj]
end
end Go.Proofs.YtopjkdddicgajaaGreatDoor
namespace Go.Proofs.YtopjkdddicgajaaGreatDoor
open Go.RowKit
section
variable {C : Ctx} {n : Nat} {σ : St} {a : Act} {w : World} {m : Gm} {R : Nat → Prop}
/-- A place is given up. -/
theorem SW.drop (h : SW C n σ a w m R) (id : Nat) : SW C n ⟨σ.sl, obL [(id, none)] σ.ob, σ.av⟩ a w (upd m id none) R := by
  have obe : ∀ i, i ≠ id → obL [(id, none)] σ.ob i = σ.ob i := fun i hi => by
    have : Nat.beq i id = false := by cases hb : Nat.beq i id; rfl; exact absurd (Nat.eq_of_beq_eq_true hb) hi
    simp [obL, this]
  have obs : obL [(id, none)] σ.ob id = none := by simp [obL]
  have sub : ∀ i x, upd m id none i = some x → m i = some x := fun i x e => by
    by_cases hi : i = id
    · subst hi; rw [upd_same] at e; cases e
    · rwa [upd_ne _ _ hi] at e
  refine h.world ⟨?_, ?_, ?_, ?_, ?_, ?_, ?_, ?_, ?_, ?_, ?_⟩ (fun b hb => ⟨hb, rfl⟩) (fun i x _ e => sub i x e) (fun _ e => e)
  · intro i
    by_cases e : i = id
    · subst e; rw [upd_same, obs]; rfl
    · rw [upd_ne _ _ e, obe i e]; exact h.hr.dom i
  · intro i hi
    by_cases e : i = id
    · subst e; exact obs
    · rw [obe i e]; exact h.hr.free i hi
  · intro i o b N h1 h2
    have e : i ≠ id := fun e => by subst e; rw [upd_same] at h2; cases h2
    rw [obe i e] at h1
    exact (h.hr.obj i o b N h1 (sub _ _ h2)).mono (fun b hb => ⟨hb, rfl⟩) (fun i x _ e => sub i x e) (fun _ e => e) rfl
  · intro i j b N N' h1 h2
    exact h.hr.inj i j b N N' (sub _ _ h1) (sub _ _ h2)
  · intro i b N h1
    exact h.hr.own i b N (sub _ _ h1)
  · exact h.hr.rsz
  · exact h.hr.rfr
  · exact h.hr.r0
  · exact h.hr.frame
  · exact fun i x hi e => h.hr.keep i x hi (sub i x e)
  · exact h.hr.res
/-- A block that nobody else has becomes a place. -/
theorem SW.fresh (h : SW C n σ a w m R) {id : Nat} (hid : σ.av id = true) {w' : World} {g : Nat} {arr : Array Value} {ty : TypeId} (hg : w'.heap[g]? = some (.cells arr ty (0, 0))) {row : Option Nat} (hgr : w.grownBy w' row) (hrow : ∀ k, row = some k → ¬ R k ∧ (∀ i b N, m i = some (b, N) → b ≠ k) ∧ (C.F k ∨ C.w0.heap.size ≤ k))
    (hgR : ¬ R g) (hgm : ∀ i b N, m i = some (b, N) → b ≠ g) (hgF : C.F g ∨ C.w0.heap.size ≤ g) (o : Ob)
    (ho : ∀ (m' : Gm) (av' : Av), (∀ b, R b → R b ∧ w'.heap[b]? = w.heap[b]?) → (∀ i x, σ.av i = false → m' i = some x → m i = some x) → (∀ i, σ.av i = false → av' i = false) → ORel w' m' av' R g arr.size o) (hre : o.real = true := by rfl) :
    SW C n ⟨σ.sl, obL [(id, some o)] σ.ob, avL [id] σ.av⟩ a w' (upd m id (some (g, arr.size))) R := by
  have hblk : ∀ k, k < w.heap.size → (∀ q, row = some q → k ≠ q) → w'.heap[k]? = w.heap[k]? := fun k hk hne => hgr.block k hk (fun e => hne k e.symm rfl)
  have hgs : g < w'.heap.size := (Array.getElem?_eq_some_iff.1 hg).1
  have hR : ∀ b, R b → R b ∧ w'.heap[b]? = w.heap[b]? := fun b hb => ⟨hb, hblk b (h.hr.rsz b hb) (fun q hq e => (hrow q hq).1 (e ▸ hb))⟩
  have hne : ∀ i, σ.av i = false → i ≠ id := fun i hi e => by rw [e, hid] at hi; cases hi
  have hm : ∀ i x, σ.av i = false → upd m id (some (g, arr.size)) i = some x → m i = some x := fun i x hi e => by rwa [upd_ne _ _ (hne i hi)] at e
  have ha : ∀ i, σ.av i = false → avL [id] σ.av i = false := fun i hi => by
    simp only [avL]
    cases Nat.beq i id <;> simp [hi]
  have obe : ∀ i, i ≠ id → obL [(id, some o)] σ.ob i = σ.ob i := fun i hi => by
    have : Nat.beq i id = false := by cases hb : Nat.beq i id; rfl; exact absurd (Nat.eq_of_beq_eq_true hb) hi
    simp [obL, this]
  have obs : obL [(id, some o)] σ.ob id = some o := by simp [obL]
  refine h.world ⟨?_, ?_, ?_, ?_, ?_, ?_, ?_, ?_, ?_, ?_, ?_⟩ hR hm ha
  · intro i
    by_cases e : i = id
    · subst e; rw [upd_same, obs]; exact hre.symm
    · rw [upd_ne _ _ e, obe i e]; exact h.hr.dom i
  · intro i hi
    simp only [avL] at hi
    cases hb : Nat.beq i id with
    | true => rw [hb] at hi; simp at hi
    | false =>
      rw [hb] at hi
      have e : i ≠ id := fun e => by subst e; simp at hb
      rw [obe i e]
      exact h.hr.free i (by simpa using hi)
  · intro i o' b N h1 h2
    by_cases e : i = id
    · subst e
      rw [obs] at h1
      rw [upd_same] at h2
      cases h1; cases h2
      exact ho _ _ hR hm ha
    · rw [obe i e] at h1
      rw [upd_ne _ _ e] at h2
      exact (h.hr.obj i o' b N h1 h2).mono hR hm ha (hblk b (h.hr.own i b N h2).1 (fun q hq => (hrow q hq).2.1 i b N h2))
  · intro i j b N N' h1 h2
    by_cases e1 : i = id <;> by_cases e2 : j = id
    · rw [e1, e2]
    · subst e1
      rw [upd_same] at h1
      rw [upd_ne _ _ e2] at h2
      cases h1
      exact absurd rfl (hgm j _ _ h2)
    · subst e2
      rw [upd_same] at h2
      rw [upd_ne _ _ e1] at h1
      cases h2
      exact absurd rfl (hgm i _ _ h1)
    · rw [upd_ne _ _ e1] at h1
      rw [upd_ne _ _ e2] at h2
      exact h.hr.inj i j b N N' h1 h2
  · intro i b N h1
    by_cases e : i = id
    · subst e
      rw [upd_same] at h1
      cases h1
      exact ⟨hgs, hgR, hgF⟩
    · rw [upd_ne _ _ e] at h1
      obtain ⟨h2, h3, h4⟩ := h.hr.own i b N h1
      exact ⟨Nat.lt_of_lt_of_le h2 hgr.size, h3, h4⟩
  · intro b hb
    exact Nat.lt_of_lt_of_le (h.hr.rsz b hb) hgr.size
  · exact h.hr.rfr
  · exact h.hr.r0
  · refine ⟨hgr.os.trans h.hr.frame.os, hgr.tape.trans h.hr.frame.tape, hgr.output.trans h.hr.frame.output, Nat.le_trans h.hr.frame.size hgr.size, ?_⟩
    intro k hk hF
    rw [hblk k (Nat.lt_of_lt_of_le hk h.hr.frame.size) (fun q hq e => by subst e; rcases (hrow k hq).2.2 with h' | h'; exact hF h'; omega)]
    exact h.hr.frame.block k hk hF
  · intro i x hi e
    have hne' : i ≠ id := fun e' => by subst e'; rw [h.hr.res i hi] at hid; cases hid
    rw [upd_ne _ _ hne'] at e
    exact h.hr.keep i x hi e
  · intro i hi
    exact ha i (h.hr.res i hi)
end
theorem leafP_cells {w : World} {R : Nat → Prop} : ∀ {vs : List PV} {us : List Value}, RelPL w R vs us → (∀ c ∈ vs, c.leaf = true) → ∀ u ∈ us, u.oneCell' = true
  | [], _, h, _ => by simp only [RelPL] at h; subst h; simp
  | c :: cs, _, h, hl => by
    simp only [RelPL] at h
    obtain ⟨u, us, rfl, hc, hr⟩ := h
    intro v hv
    rcases List.mem_cons.1 hv with rfl | hv
    · exact hc.leaf (hl c (by simp))
    · exact leafP_cells hr (fun c hc => hl c (by simp [hc])) v hv
/-- What append needs to know of an element type. -/
structure ElemIs (P : Program) (t e : TypeId) (z : Value) (size bytes : Nat) : Prop where
  u : P.underlying t = some (.slice e)
  info : (P.info? e).map (fun i => (i.zero, i.size, i.bytes)) = some (some z, size, bytes)
  zs : z.cells.size = size
  pos : 0 < size
  by_ : bytes ≤ 1000
theorem h_inj {C : Ctx} {n : Nat} {σ : St} {a : Act} {w : World} {m : Gm} {R : Nat → Prop} (hw : SW C n σ a w m R) {i j b b' N N' : Nat} (h1 : m i = some (b', N')) (h2 : m j = some (b, N)) (e : b' = b) : i = j := by
  subst e
  exact hw.hr.inj i j b' N' N h1 h2
section
variable {C : Ctx} {n : Nat} {σ : St} {dst : Option Tmp} {ty t t' : TypeId} {pos : String} {after : Array Edge} {gd : Option (Nat × Bool)} {x y : Operand}
/-- What a source of elements shows. -/
def SrcIs (n : Nat) (σ : St) (x : Operand) (k : Nat) (news : List PV) : Prop :=
  (∃ b, σ.ev n x = .pv (.sl b k news)) ∨ (∃ id sz T cs, σ.ev n x = .osl id sz k ∧ σ.ob id = some (.cells T cs) ∧ news = cs.take (k * sz))
theorem SrcIs.row {a : Act} {w : World} {m : Gm} {R : Nat → Prop} (hw : SW C n σ a w m R) {k : Nat} {news : List PV} (h : SrcIs n σ x k news) :
    ∃ A c us, a.eval x = .slice A k c ∧ RelPL w R news us ∧ Row w Any A us := by
  rcases h with ⟨b, hx⟩ | ⟨id, sz, T, cs, hx, ho, rfl⟩
  · have := hw.pv hx
    simp only [RelP] at this
    obtain ⟨A, c, he, _, _, _, _, h5⟩ := this
    by_cases hne : news = []
    · subst hne
      exact ⟨A, c, [], he, RelPL.nil, Row.nil⟩
    · obtain ⟨b, off, us, rfl, hr, hs⟩ := h5 hne
      refine ⟨_, c, us, he, hr, fun hne => ⟨b, off, rfl, trivial, hw.hr.rsz b hs.1, fun j hj => hs.2 j hj⟩⟩
  · obtain ⟨b, N, c, he, _, _, hN, hm, arr, hb, hsz, hle, hr⟩ := hw.osl hx ho
    refine ⟨_, c, _, he, hr.take (k * sz), fun hne => ⟨b, 0, rfl, trivial, (hw.hr.own id b N hm).1, fun j hj => ?_⟩⟩
    simp only [List.length_take] at hj
    rw [Nat.zero_add, cell_of_row w b j arr T (0, 0) hb, List.getElem?_take, if_pos (by omega), List.getElem?_take, if_pos (by omega)]
    simp
/-- append onto a slice of the call's own. -/
theorem xj_append {e : TypeId} {z : Value} {size bytes k j id : Nat} {cs news : List PV} (id' : Nat) (he : ElemIs C.P t e z size bytes) (hs : σ.ev n x = .osl id size k) (ho : σ.ob id = some (.cells e cs)) (hcs : cs.length = k * size)
    (hsrc : SrcIs n σ y j news) (hl : news.length = j * size) (hlf : ∀ c ∈ news, c.leaf = true) (hb : k + j ≤ 1000000000) (hid : σ.av id' = true) :
    XJ C n ⟨dst, .call { callee := .builtin .append, args := #[x, y], argTypes := #[t, t] }, ty, pos, after, gd⟩ σ ⟨.osl id' size (k + j), [(id', some (.cells e (cs ++ news))), (id, none)], [id']⟩ := by
  rintro a w Q ⟨m, R, hw⟩
  obtain ⟨b, N, c, hev, hkc, hcm, hN, hm, arr, hbk, hsz, hle, hr⟩ := hw.osl hs ho
  obtain ⟨A, c2, us, hev2, hr2, hrow⟩ := hsrc.row hw
  have hown : w.ownsRow 0 e size (.slice (some ⟨b, 0, none⟩) k c) k (arr.toList.take (k * size)) := by
    refine ⟨?_, .inr ⟨b, c, arr, rfl, Nat.zero_le _, hbk, hkc, hcm, by rw [hsz, hN], rfl⟩⟩
    have := Nat.mul_le_mul_right size hkc
    simp only [List.length_take, Array.length_toList]
    omega
  refine wp_appS x y t rfl 0 e z size bytes he.u he.info he.zs he.pos he.by_ _ k j c2 A _ us hev hev2 hown hrow (by rw [hr2.length, hl]) (leafP_cells hr2 hlf) hb (Nat.zero_le _) ?_
  intro A' c' w' hown' hgr hat
  have own := hw.hr.own id b N hm
  have hrel : RelPL w R (cs ++ news) (arr.toList.take (k * size) ++ us) := by
    rw [hcs] at hr
    exact hr.append hr2
  have sub : ∀ i x, upd m id none i = some x → m i = some x ∧ i ≠ id := fun i x e => by
    by_cases hi : i = id
    · subst hi; rw [upd_same] at e; cases e
    · rw [upd_ne _ _ hi] at e; exact ⟨e, hi⟩
  have bprop : ¬ R b ∧ (∀ i b' N', upd m id none i = some (b', N') → b' ≠ b) ∧ (C.F b ∨ C.w0.heap.size ≤ b) :=
    ⟨own.2.1, fun i b' N' hi e => (sub i _ hi).2 (h_inj hw (sub i _ hi).1 hm e), own.2.2⟩
  rcases hown'.2 with ⟨hv, h0⟩ | ⟨g, cap, cur, hv, _, hg, hkc', hcm', hcs', htk⟩
  · exfalso
    simp only [Value.slice.injEq] at hv
    obtain ⟨rfl, _, _⟩ := hv
    rcases hat with h | ⟨g', h, _⟩ <;> simp [Value.ownBlock] at h
  · simp only [Value.slice.injEq] at hv
    obtain ⟨rfl, -, rfl⟩ := hv
    have gprop : ¬ R g ∧ (∀ i b' N', upd m id none i = some (b', N') → b' ≠ g) ∧ (C.F g ∨ C.w0.heap.size ≤ g) := by
      rcases hat with h | ⟨g', h, hle⟩
      · simp only [Value.ownBlock, Option.some.injEq] at h
        rw [h]; exact bprop
      · simp only [Value.ownBlock, Option.some.injEq] at h
        subst h
        refine ⟨fun h => ?_, fun i b' N' hi e => ?_, .inr ?_⟩
        · have := hw.hr.rsz _ h; omega
        · have := (hw.hr.own i b' N' (sub i _ hi).1).1; omega
        · have := hw.hr.frame.size; omega
    have hul : (arr.toList.take (k * size) ++ us).length = (k + j) * size := hown'.1
    refine ⟨_, rfl, upd (upd m id none) id' (some (g, cur.size)), R, ?_⟩
    rw [St.app_new]
    refine SW.put ((hw.drop id).fresh hid hg hgr (fun q hq => by simp [Value.ownBlock] at hq; subst hq; exact bprop) gprop.1 gprop.2.1 gprop.2.2 (.cells e (cs ++ news)) ?_) dst ?_
    · intro m' av' hR _ _
      refine ⟨cur, hg, rfl, ?_, ?_⟩
      · rw [hcs', ← hrel.length, hul]; exact Nat.mul_le_mul_right _ hkc'
      · rw [← hrel.length, hul, htk]
        exact hrel.mono hR
    · simp only [Rel]
      refine ⟨by simp [avL], fun b N e => ?_⟩
      rw [upd_same] at e
      cases e
      exact ⟨c', rfl, hkc', hcm', hcs'⟩
/-- append onto nil, at least one element. -/
theorem xj_append0 {e : TypeId} {z : Value} {size bytes j : Nat} {news : List PV} (id' : Nat) (he : ElemIs C.P t e z size bytes) (hs : σ.ev n x = .pv (.sl (some true) 0 []))
    (hsrc : SrcIs n σ y j news) (hl : news.length = j * size) (hlf : ∀ c ∈ news, c.leaf = true) (hb : j ≤ 1000000000) (hj : 0 < j) (hid : σ.av id' = true) :
    XJ C n ⟨dst, .call { callee := .builtin .append, args := #[x, y], argTypes := #[t, t] }, ty, pos, after, gd⟩ σ ⟨.osl id' size j, [(id', some (.cells e news))], [id']⟩ := by
  rintro a w Q ⟨m, R, hw⟩
  have hx := hw.pv hs
  simp only [RelP] at hx
  obtain ⟨A0, c0, hev, _, _, hn, hc0, _⟩ := hx
  have hA0 : A0 = none := by cases A0; rfl; have := hn true rfl; simp at this
  subst hA0
  rw [hc0 trivial] at hev
  obtain ⟨A, c2, us, hev2, hr2, hrow⟩ := hsrc.row hw
  refine wp_appS x y t rfl 0 e z size bytes he.u he.info he.zs he.pos he.by_ _ 0 j c2 A _ us hev hev2 (World.ownsRow_nil w 0 e size) hrow (by rw [hr2.length, hl]) (leafP_cells hr2 hlf) (by omega) (Nat.zero_le _) ?_
  intro A' c' w' hown' hgr hat
  simp only [Nat.zero_add, List.nil_append] at hown' hat ⊢
  rcases hown'.2 with ⟨hv, h0⟩ | ⟨g, cap, cur, hv, _, hg, hkc', hcm', hcs', htk⟩
  · omega
  · simp only [Value.slice.injEq] at hv
    obtain ⟨rfl, -, rfl⟩ := hv
    have gge : w.heap.size ≤ g := by
      rcases hat with h | ⟨g', h, hle⟩
      · simp [Value.ownBlock] at h
      · simp only [Value.ownBlock, Option.some.injEq] at h
        subst h; exact hle
    refine ⟨_, rfl, upd m id' (some (g, cur.size)), R, ?_⟩
    rw [St.app_new]
    refine SW.put (hw.fresh hid hg hgr (fun q hq => by simp [Value.ownBlock] at hq) (fun h => by have := hw.hr.rsz _ h; omega) (fun i b N hi e => by have := (hw.hr.own i b N hi).1; omega) (.inr (by have := hw.hr.frame.size; omega)) (.cells e news) ?_) dst ?_
    · intro m' av' hR _ _
      refine ⟨cur, hg, rfl, ?_, ?_⟩
      · rw [hcs', ← hr2.length, hown'.1]; exact Nat.mul_le_mul_right _ hkc'
      · rw [← hr2.length, hown'.1, htk]
        exact hr2.mono hR
    · simp only [Rel]
      refine ⟨by simp [avL], fun b N e => ?_⟩
      rw [upd_same] at e
      cases e
      exact ⟨c', rfl, hkc', hcm', hcs'⟩
end
end Go.Proofs.YtopjkdddicgajaaGreatDoor
namespace Go.Proofs.YtopjkdddicgajaaGreatDoor
open Go.RowKit
/-- A state written out: some slots, some places, the numbers below k are taken. -/
def look : List (Nat × V) → Nat → V
  | [], _ => .pv .any
  | (d, v) :: l, t => bif Nat.beq t d then v else look l t
def lookO : List (Nat × Ob) → Nat → Option Ob
  | [], _ => none
  | (d, v) :: l, t => bif Nat.beq t d then some v else lookO l t
/-- The numbers from k on are free. -/
def avK (k : Nat) : Av := fun id => Nat.ble k id && Nat.blt id big
def mkS (l : List (Nat × V)) (os : List (Nat × Ob)) (k : Nat) : St := ⟨look l, lookO os, avK k⟩
mutual
def V.okA (k : Nat) : V → Bool
  | .pv _ => true
  | .ptr id _ => Nat.blt id k || Nat.ble big id
  | .osl id _ _ => Nat.blt id k || Nat.ble big id
  | .gsl id _ _ => Nat.blt id k || Nat.ble big id
  | .map id => Nat.blt id k || Nat.ble big id
  | .agg cs => V.okL k cs
  | .tup cs => V.okL k cs
  | .fn _ a b => V.okL k a && V.okL k b
def V.okL (k : Nat) : List V → Bool
  | [] => true
  | c :: cs => V.okA k c && V.okL k cs
end
def Ob.okA (k : Nat) : Ob → Bool
  | .cells _ _ => true
  | .mix _ cs => V.okL k cs
  | .gro _ _ => true
  | .mp _ _ => true
  | .it _ _ => true
section
variable {w : World} {m m' : Gm} {av : Av} {R : Nat → Prop} {k : Nat}
theorem ble_of {k id : Nat} (h : (Nat.blt id k || Nat.ble big id) = true) : avK k id = false := by
  unfold avK
  cases hb : Nat.ble k id
  · rfl
  · cases hc : Nat.blt id big
    · rfl
    · have h1 := Nat.le_of_ble_eq_true hb
      have h3 : id < big := by simpa [Nat.blt_eq] using hc
      rcases (Bool.or_eq_true_iff).1 h with h | h
      · have h2 : id < k := by simpa [Nat.blt_eq] using h
        omega
      · have h2 := Nat.le_of_ble_eq_true h
        omega
theorem avK_lt {k id : Nat} (h : avK k id = true) : k ≤ id ∧ id < big := by
  unfold avK at h
  simp only [Bool.and_eq_true] at h
  exact ⟨Nat.le_of_ble_eq_true h.1, by simpa [Nat.blt_eq] using h.2⟩
theorem avK_big {k id : Nat} (h : big ≤ id) : avK k id = false := by
  cases hb : avK k id
  · rfl
  · have := (avK_lt hb).2; omega
mutual
theorem Rel.okA (hm : ∀ id x, m' id = some x → m id = some x) : ∀ (v : V) (u : Value), v.okA k = true → Rel w m av R v u → Rel w m' (avK k) R v u
  | .pv p, u, _, h => by simpa only [Rel] using h
  | .ptr id off, _, ho, h => by simp only [V.okA] at ho; simp only [Rel] at h ⊢; exact ⟨ble_of ho, fun b N e => h.2 b N (hm _ _ e)⟩
  | .osl id sz n, _, ho, h => by simp only [V.okA] at ho; simp only [Rel] at h ⊢; exact ⟨ble_of ho, fun b N e => h.2 b N (hm _ _ e)⟩
  | .gsl id sz n, _, ho, h => by
    simp only [V.okA] at ho
    simp only [Rel] at h ⊢
    obtain ⟨h0, A, c, e, h1, h2, h3, h4⟩ := h
    exact ⟨ble_of ho, A, c, e, h1, h2, fun hn => ⟨(h3 hn).1, (h3 hn).2.1, sub_none (fun x => hm id x) (h3 hn).2.2⟩, fun hp b N e => h4 hp b N (hm _ _ e)⟩
  | .map id, _, ho, h => by simp only [V.okA] at ho; simp only [Rel] at h ⊢; exact ⟨ble_of ho, fun b N e => h.2 b N (hm _ _ e)⟩
  | .agg cs, _, ho, h => by
    simp only [V.okA] at ho
    simp only [Rel] at h ⊢
    obtain ⟨us, e, h⟩ := h
    exact ⟨us, e, RelL.okA hm cs us ho h⟩
  | .tup cs, _, ho, h => by
    simp only [V.okA] at ho
    simp only [Rel] at h ⊢
    obtain ⟨us, e, h⟩ := h
    exact ⟨us, e, RelL.okA hm cs us ho h⟩
  | .fn f fs cs, _, ho, h => by
    simp only [V.okA, Bool.and_eq_true] at ho
    simp only [Rel] at h ⊢
    obtain ⟨us, vs, e, h1, h2⟩ := h
    exact ⟨us, vs, e, RelL.okA hm fs us ho.1 h1, RelL.okA hm cs vs ho.2 h2⟩
theorem RelL.okA (hm : ∀ id x, m' id = some x → m id = some x) : ∀ (vs : List V) (us : List Value), V.okL k vs = true → RelL w m av R vs us → RelL w m' (avK k) R vs us
  | [], _, _, h => by simpa only [RelL] using h
  | c :: cs, _, ho, h => by
    simp only [V.okL, Bool.and_eq_true] at ho
    simp only [RelL] at h ⊢
    obtain ⟨u, vs, e, h1, h2⟩ := h
    exact ⟨u, vs, e, Rel.okA hm c u ho.1 h1, RelL.okA hm cs vs ho.2 h2⟩
end
end
/-- The state says of these slots and places just this. -/
def allSl (σ : St) : List (Nat × V) → Prop
  | [] => True
  | (t, v) :: l => σ.sl t = v ∧ allSl σ l
def allOb (σ : St) : List (Nat × Ob) → Prop
  | [] => True
  | (t, v) :: l => σ.ob t = some v ∧ allOb σ l
theorem look_spec {σ : St} : ∀ {l : List (Nat × V)}, allSl σ l → ∀ t, look l t = .pv .any ∨ look l t = σ.sl t
  | [], _, _ => .inl rfl
  | (d, v) :: l, h, t => by
    simp only [look]
    cases hb : Nat.beq t d with
    | true => have := Nat.eq_of_beq_eq_true hb; subst this; exact .inr h.1.symm
    | false => simpa using look_spec h.2 t
theorem look_ok {k : Nat} : ∀ {l : List (Nat × V)}, l.all (fun p => p.2.okA k) = true → ∀ t, (look l t).okA k = true
  | [], _, _ => rfl
  | (d, v) :: l, h, t => by
    simp only [List.all_cons, Bool.and_eq_true] at h
    simp only [look]
    cases hb : Nat.beq t d with
    | true => exact h.1
    | false => simpa using look_ok h.2 t
theorem lookO_spec {σ : St} {k : Nat} : ∀ {l : List (Nat × Ob)}, allOb σ l → l.all (fun p => (Nat.blt p.1 k || Nat.ble big p.1) && p.2.okA k) = true → ∀ t o, lookO l t = some o → σ.ob t = some o ∧ avK k t = false ∧ o.okA k = true
  | [], _, _, _, _, h => by simp [lookO] at h
  | (d, v) :: l, h, hk, t, o, ho => by
    simp only [List.all_cons, Bool.and_eq_true] at hk
    simp only [lookO] at ho
    cases hb : Nat.beq t d with
    | true =>
      have := Nat.eq_of_beq_eq_true hb
      subst this
      rw [hb] at ho
      simp at ho
      subst ho
      exact ⟨h.1, ble_of hk.1.1, hk.1.2⟩
    | false => rw [hb] at ho; exact lookO_spec h.2 hk.2 t o (by simpa using ho)
theorem St.le_mk {σ : St} {l : List (Nat × V)} {os : List (Nat × Ob)} {k : Nat} (hl : allSl σ l) (ho : allOb σ os) (h1 : l.all (fun p => p.2.okA k) = true) (h2 : os.all (fun p => (Nat.blt p.1 k || Nat.ble big p.1) && p.2.okA k) = true) : σ.le (mkS l os k) := by
  rintro C n a w ⟨m, R, hw⟩
  refine ⟨fun id => if (lookO os id).isSome then m id else none, R, ?_⟩
  have sub : ∀ id x, (if (lookO os id).isSome then m id else none) = some x → m id = some x := fun id x e => by
    split at e
    · exact e
    · cases e
  refine ⟨⟨?_, ?_, ?_, ?_, ?_, ?_, ?_, ?_, ?_, ?_, ?_⟩, hw.df, hw.sz, ?_⟩
  · intro id
    show (if (lookO os id).isSome then m id else none).isSome = liveO (lookO os id)
    cases e : lookO os id with
    | none => rfl
    | some o =>
      have := hw.hr.dom id
      rw [(lookO_spec ho h2 id o e).1] at this
      simpa using this
  · intro id hid
    show lookO os id = none
    cases e : lookO os id with
    | none => rfl
    | some o =>
      have := (lookO_spec ho h2 id o e).2.1
      have hid' : avK k id = true := hid
      rw [hid'] at this
      cases this
  · intro id o b N h3 h4
    have h5 := lookO_spec ho h2 id o h3
    have h6 := hw.hr.obj id o b N h5.1 (sub _ _ h4)
    cases o with
    | cells ty cs => exact h6
    | gro ty cs => exact h6
    | mp ks vs => exact h6
    | it s pos => exact h6
    | mix ty cs =>
      obtain ⟨arr, q1, q2, q3, q4⟩ := h6
      exact ⟨arr, q1, q2, q3, q4.okA sub _ _ h5.2.2⟩
  · exact fun i j b N N' e1 e2 => hw.hr.inj i j b N N' (sub _ _ e1) (sub _ _ e2)
  · exact fun id b N e => hw.hr.own id b N (sub _ _ e)
  · exact hw.hr.rsz
  · exact hw.hr.rfr
  · exact hw.hr.r0
  · exact hw.hr.frame
  · exact fun id x hi e => hw.hr.keep id x hi (sub id x e)
  · exact fun id hi => avK_big hi
  · intro t ht
    show Rel w _ (avK k) R (look l t) _
    rcases look_spec hl t with e | e
    · rw [e]; simp only [Rel, RelP]
    · have := look_ok h1 t
      rw [e] at this ⊢
      exact (hw.sl t ht).okA sub _ _ this
/-- The plain value of a value: slices of the call's own are seen as they stand. -/
def V.toP1 (ob : Nat → Option Ob) : V → Option PV
  | .pv p => some p
  | .osl id sz k => match ob id with
    | some (.cells _ cs) => some (.sl (some false) k cs)
    | _ => none
  | .gsl id sz k => match ob id with
    | some (.gro _ cs) => some (.sl none k cs)
    | _ => none
  | _ => none
def V.toPL (ob : Nat → Option Ob) : List V → Option (List PV)
  | [] => some []
  | c :: cs => match c.toP1 ob, V.toPL ob cs with
    | some p, some ps => some (p :: ps)
    | _, _ => none
def V.toP (ob : Nat → Option Ob) : V → Option PV
  | .agg cs => match V.toPL ob cs with | some ps => some (.agg ps) | none => none
  | .fn f a b => match V.toPL ob a, V.toPL ob b with | some ps, some qs => some (.fn f ps qs) | _, _ => none
  | v => v.toP1 ob
def V.args (ob : Nat → Option Ob) : List V → Option (List PV)
  | [] => some []
  | c :: cs => match c.toP ob, V.args ob cs with
    | some p, some ps => some (p :: ps)
    | _, _ => none
/-- The blocks of the call's own places. -/
def OwnB (m : Gm) (b : Nat) : Prop := ∃ id N, m id = some (b, N)
section
variable {C : Ctx} {n : Nat} {σ : St} {a : Act} {w : World} {m : Gm} {R : Nat → Prop}
theorem SW.toP1 (hw : SW C n σ a w m R) {v : V} {u : Value} {p : PV} (h : Rel w m σ.av R v u) (hp : v.toP1 σ.ob = some p) : RelP w (fun b => R b ∨ OwnB m b) p u := by
  have hmono : ∀ q, R q → (R q ∨ OwnB m q) ∧ w.heap[q]? = w.heap[q]? := fun q hq => ⟨.inl hq, rfl⟩
  cases v with
  | pv q => simp only [V.toP1, Option.some.injEq] at hp; subst hp; simp only [Rel] at h; exact h.mono hmono
  | osl id sz k =>
    simp only [V.toP1] at hp
    split at hp
    · rename_i T cs ho
      simp at hp
      subst hp
      obtain ⟨b, N, hm, arr, hbk, hN, hle', hr⟩ := hw.live ho
      simp only [Rel] at h
      obtain ⟨c, he, h1, h2, h3⟩ := h.2 b N hm
      simp only [RelP]
      refine ⟨_, c, he, h1, h2, (fun _ e => by cases e; rfl), (fun e => by cases e), fun _ => ⟨b, 0, _, rfl, hr.mono hmono, .inr ⟨id, N, hm⟩, ?_⟩⟩
      intro j hj
      simp only [List.length_take] at hj
      rw [Nat.zero_add, cell_of_row w b j arr T (0, 0) hbk, List.getElem?_take, if_pos (by omega)]
      simp
    · cases hp
  | gsl id sz k =>
    simp only [V.toP1] at hp
    split at hp
    · rename_i T cs ho
      simp at hp
      subst hp
      simp only [Rel] at h
      obtain ⟨h0, A, c, he, h1, h2, h3, h4⟩ := h
      simp only [RelP]
      refine ⟨_, c, he, h1, h2, (fun _ e => by cases e), (fun e => by cases e), fun hne => ?_⟩
      have hre : (Ob.gro T cs).real = true := by cases cs; exact absurd rfl hne; rfl
      obtain ⟨b, N, hm, arr, hbk, hN, hle', hr⟩ := hw.live ho hre
      have hk : 0 < k := by
        rcases Nat.eq_zero_or_pos k with e | e
        · have := (h3 e).2.2; rw [hm] at this; cases this
        · exact e
      refine ⟨b, 0, _, (h4 hk b N hm).1, hr.mono hmono, .inr ⟨id, N, hm⟩, ?_⟩
      intro j hj
      simp only [List.length_take] at hj
      rw [Nat.zero_add, cell_of_row w b j arr T (0, 0) hbk, List.getElem?_take, if_pos (by omega)]
      simp
    · cases hp
  | _ => simp [V.toP1] at hp
theorem SW.toPL (hw : SW C n σ a w m R) : ∀ {vs : List V} {us : List Value} {ps : List PV}, RelL w m σ.av R vs us → V.toPL σ.ob vs = some ps → RelPL w (fun b => R b ∨ OwnB m b) ps us
  | [], _, _, h, hp => by simp only [V.toPL, Option.some.injEq] at hp; subst hp; simpa only [RelL, RelPL] using h
  | c :: cs, _, _, h, hp => by
    simp only [V.toPL] at hp
    split at hp
    · rename_i p ps h1 h2
      simp at hp
      subst hp
      simp only [RelL] at h
      obtain ⟨u, us, rfl, hc, hr⟩ := h
      exact RelPL.cons (hw.toP1 hc h1) (SW.toPL hw hr h2)
    · cases hp
theorem SW.toP (hw : SW C n σ a w m R) {v : V} {u : Value} {p : PV} (h : Rel w m σ.av R v u) (hp : v.toP σ.ob = some p) : RelP w (fun b => R b ∨ OwnB m b) p u := by
  cases v with
  | agg cs =>
    simp only [V.toP] at hp
    split at hp
    · rename_i ps h1
      simp at hp
      subst hp
      simp only [Rel] at h
      obtain ⟨us, rfl, hr⟩ := h
      simp only [RelP]
      exact ⟨us, rfl, hw.toPL hr h1⟩
    · cases hp
  | fn f a b =>
    simp only [V.toP] at hp
    split at hp
    · rename_i ps qs h1 h2
      simp at hp
      subst hp
      simp only [Rel] at h
      obtain ⟨us, vs, rfl, ha, hb⟩ := h
      simp only [RelP]
      exact ⟨us, vs, rfl, hw.toPL ha h1, hw.toPL hb h2⟩
    · cases hp
  | _ => exact hw.toP1 h hp
theorem SW.args (hw : SW C n σ a w m R) : ∀ {vs : List V} {us : List Value} {ps : List PV}, RelL w m σ.av R vs us → V.args σ.ob vs = some ps → RelPL w (fun b => R b ∨ OwnB m b) ps us
  | [], _, _, h, hp => by simp only [V.args, Option.some.injEq] at hp; subst hp; simpa only [RelL, RelPL] using h
  | c :: cs, _, _, h, hp => by
    simp only [V.args] at hp
    split at hp
    · rename_i p ps h1 h2
      simp at hp
      subst hp
      simp only [RelL] at h
      obtain ⟨u, us, rfl, hc, hr⟩ := h
      exact RelPL.cons (hw.toP hc h1) (SW.args hw hr h2)
    · cases hp
theorem SW.evs (hw : SW C n σ a w m R) : ∀ (xs : List Operand), RelL w m σ.av R (xs.map (σ.ev n)) (xs.map a.eval)
  | [] => by simpa using RelL.nil
  | x :: xs => by simpa using RelL.cons (hw.ev x) (SW.evs hw xs)
end
/-- A value of which is not told whether it is nil. -/
def PV.fg1 : PV → PV
  | .sl _ n cs => .sl none n cs
  | p => p
def PV.fgL : List PV → List PV
  | [] => []
  | p :: ps => p.fg1 :: PV.fgL ps
def PV.fg : PV → PV
  | .agg cs => .agg (PV.fgL cs)
  | .tup cs => .tup (PV.fgL cs)
  | p => p.fg1
def PV.fgA : List PV → List PV
  | [] => []
  | p :: ps => p.fg :: PV.fgA ps
theorem RelP.fg1 {w : World} {R : Nat → Prop} {p : PV} {u : Value} (h : RelP w R p u) : RelP w R p.fg1 u := by
  cases p with
  | sl b n cs =>
    simp only [RelP, PV.fg1] at h ⊢
    obtain ⟨A, c, e, h1, h2, _, _, h5⟩ := h
    exact ⟨A, c, e, h1, h2, (fun _ e => by cases e), (fun e => by cases e), h5⟩
  | _ => exact h
theorem RelPL.fgL {w : World} {R : Nat → Prop} : ∀ {ps : List PV} {us : List Value}, RelPL w R ps us → RelPL w R (PV.fgL ps) us
  | [], _, h => h
  | p :: ps, _, h => by
    simp only [RelPL, PV.fgL] at h ⊢
    obtain ⟨u, vs, e, h1, h2⟩ := h
    exact ⟨u, vs, e, h1.fg1, RelPL.fgL h2⟩
theorem RelP.fg {w : World} {R : Nat → Prop} {p : PV} {u : Value} (h : RelP w R p u) : RelP w R p.fg u := by
  cases p with
  | agg cs =>
    simp only [RelP, PV.fg] at h ⊢
    obtain ⟨us, e, h⟩ := h
    exact ⟨us, e, h.fgL⟩
  | tup cs =>
    simp only [RelP, PV.fg] at h ⊢
    obtain ⟨us, e, h⟩ := h
    exact ⟨us, e, h.fgL⟩
  | _ => exact h.fg1
theorem RelPL.fgA {w : World} {R : Nat → Prop} : ∀ {ps : List PV} {us : List Value}, RelPL w R ps us → RelPL w R (PV.fgA ps) us
  | [], _, h => h
  | p :: ps, _, h => by
    simp only [RelPL, PV.fgA] at h ⊢
    obtain ⟨u, vs, e, h1, h2⟩ := h
    exact ⟨u, vs, e, h1.fg, RelPL.fgA h2⟩
/-- What is not told any more: of some slots. -/
def St.fgS (σ : St) (ts : List Nat) : St := ⟨fun t => bif ts.contains t then (match σ.sl t with | .pv p => .pv p.fg | v => v) else σ.sl t, σ.ob, σ.av⟩
theorem St.le_fgS {σ : St} (ts : List Nat) : σ.le (σ.fgS ts) := by
  rintro C n a w ⟨m, R, hw⟩
  refine ⟨m, R, hw.hr, hw.df, hw.sz, fun t ht => ?_⟩
  have h := hw.sl t ht
  show Rel w m σ.av R (bif ts.contains t then (match σ.sl t with | .pv p => .pv p.fg | v => v) else σ.sl t) _
  cases ts.contains t
  · exact h
  · simp only [cond_true]
    cases hv : σ.sl t with
    | pv p => rw [hv] at h; simp only [Rel] at h ⊢; exact h.fg
    | _ => rw [hv] at h; exact h
/-- The contract of a function on plain values: whatever it returns stands in old memory that stood, or in new memory. -/
def FnP (P : Program) (f : FuncId) (args : List PV) (Q : PV → Prop) : Prop :=
  ∀ (w : World) (R : Nat → Prop) (us : List Value), GlbOk w R → (∀ b, R b → b < w.heap.size) → RelPL w R args us →
    Calls P f us.toArray w fun e w' => ∃ u v, e = .returned u ∧ Q v ∧ Below w.heap.size w w' ∧ RelP w' (fun b => R b ∨ (w.heap.size ≤ b ∧ b < w'.heap.size)) v u
theorem FnP.mono {P : Program} {f : FuncId} {args : List PV} {Q Q' : PV → Prop} (h : FnP P f args Q) (hq : ∀ v, Q v → Q' v) : FnP P f args Q' :=
  fun w R us h0 h1 h2 => (h w R us h0 h1 h2).mono fun _ _ ⟨u, v, e, q, r⟩ => ⟨u, v, e, hq v q, r⟩
/-- A call is entered. -/
def CallOk (P : Program) (f : FuncId) : Prop := ∀ args w, (callFunc f args).run P w = .ok (.enter f args) w
section
variable {C : Ctx} {n : Nat} {σ : St} {dst : Option Tmp} {ty : TypeId} {ts : Array TypeId} {pos : String} {after : Array Edge} {gd : Option (Nat × Bool)}
/-- Behind a call that only made memory. -/
theorem SW.called {a : Act} {w w' : World} {m : Gm} {R : Nat → Prop} (hw : SW C n σ a w m R) (hb : Below w.heap.size w w') :
    SW C n σ a w' m (fun b => R b ∨ (w.heap.size ≤ b ∧ b < w'.heap.size)) := by
  have hR : ∀ b, R b → (R b ∨ (w.heap.size ≤ b ∧ b < w'.heap.size)) ∧ w'.heap[b]? = w.heap[b]? := fun b h => ⟨.inl h, hb.block b (hw.hr.rsz b h)⟩
  have := hw.world (w' := w') (m' := m) (R' := fun b => R b ∨ (w.heap.size ≤ b ∧ b < w'.heap.size)) (ob' := σ.ob) (av' := σ.av) ?_ hR (fun _ _ _ e => e) (fun _ e => e)
  · exact this
  refine ⟨hw.hr.dom, hw.hr.free, ?_, hw.hr.inj, ?_, ?_, ?_, fun b h => .inl (hw.hr.r0 b h), ?_, hw.hr.keep, hw.hr.res⟩
  · intro i o b N h1 h2
    exact (hw.hr.obj i o b N h1 h2).mono hR (fun _ _ _ e => e) (fun _ e => e) (hb.block b (hw.hr.own i b N h2).1)
  · intro i b N h1
    obtain ⟨h2, h3, h4⟩ := hw.hr.own i b N h1
    refine ⟨Nat.lt_of_lt_of_le h2 hb.size, ?_, h4⟩
    rintro (h5 | h5)
    · exact h3 h5
    · omega
  · rintro b (h | h)
    · exact Nat.lt_of_lt_of_le (hw.hr.rsz b h) hb.size
    · exact h.2
  · rintro b (h | h)
    · exact hw.hr.rfr b h
    · exact .inr (.inl (Nat.le_trans hw.hr.frame.size h.1))
  · refine ⟨hb.os.trans hw.hr.frame.os, hb.tape.trans hw.hr.frame.tape, hb.output.trans hw.hr.frame.output, Nat.le_trans hw.hr.frame.size hb.size, fun k hk hF => ?_⟩
    rw [hb.block k (Nat.lt_of_lt_of_le hk hw.hr.frame.size)]
    exact hw.hr.frame.block k hk hF
theorem run_callOp {P : Program} {f : FuncId} (hc : CallOk P f) (xs : Array Operand) (a : Act) (w : World) :
    (execOp a.eval ⟨dst, .call { callee := .value (.func f), args := xs, argTypes := ts }, ty, pos, after, gd⟩).run P w = .ok (.enter f (xs.map a.eval)) w := by
  simp [execOp, resolve, Deferred.ofValue, Act.eval, invoke, hc]
  exact hc _ _
/-- A call of a function on plain values: no slice of the call's own among the arguments. -/
theorem oj_call {f : FuncId} {xs : Array Operand} {ps : List PV} {Q : PV → Prop} {K : St → Prop} (hc : CallOk C.P f) (hf : FnP C.P f ps Q) (hargs : (V.args (fun _ => none) (xs.toList.map (σ.ev n))).map PV.fgA = some ps) (hk : ∀ v, Q v → K (σ.put dst (.pv v))) :
    OJ C n ⟨dst, .call { callee := .value (.func f), args := xs, argTypes := ts }, ty, pos, after, gd⟩ K σ := by
  rintro a w Q' ⟨m, R, hw⟩
  unfold Oper.wp
  rw [run_callOp hc]
  have hrel : RelPL w R ps (xs.toList.map a.eval) := by
    have h0 : SW C n ⟨σ.sl, fun _ => none, σ.av⟩ a w (fun _ => none) R := by
      refine ⟨⟨fun _ => rfl, fun _ _ => rfl, fun _ _ _ _ h => (by cases h), fun _ _ _ _ _ h => (by cases h), fun _ _ _ h => (by cases h), hw.hr.rsz, hw.hr.rfr, hw.hr.r0, hw.hr.frame, fun _ _ _ h => (by cases h), hw.hr.res⟩, hw.df, hw.sz, fun t ht => (hw.sl t ht).mono (fun b h => ⟨h, rfl⟩) (fun _ _ _ e => by cases e) (fun _ e => e)⟩
    obtain ⟨ps0, hargs0, rfl⟩ := Option.map_eq_some_iff.1 hargs
    have h1 := (h0.args (h0.evs xs.toList) hargs0).fgA
    exact h1.mono fun b hb => ⟨hb.elim id (fun ⟨_, _, h⟩ => by cases h), rfl⟩
  have := hf w R (xs.toList.map a.eval) hw.hr.gi hw.hr.rsz hrel
  have e : (xs.toList.map a.eval).toArray = xs.map a.eval := by rw [← Array.toList_map, Array.toArray_toList]
  rw [e] at this
  refine Calls.mono this ?_
  rintro e w' ⟨u, v, rfl, hq, hb, hr⟩
  exact ⟨_, hk v hq, m, _, (hw.called hb).put dst (by simpa only [Rel] using hr)⟩
theorem xj_call {f : FuncId} {xs : Array Operand} {ps : List PV} {r : PV} (hc : CallOk C.P f) (hf : FnP C.P f ps (· = r)) (hargs : (V.args (fun _ => none) (xs.toList.map (σ.ev n))).map PV.fgA = some ps) :
    XJ C n ⟨dst, .call { callee := .value (.func f), args := xs, argTypes := ts }, ty, pos, after, gd⟩ σ ⟨.pv r, [], []⟩ :=
  oj_call hc hf hargs (by rintro v rfl; exact (St.app_pure σ dst _).symm)
end
/-- The slots at the entry. -/
def argsL : Nat → List PV → List (Nat × V)
  | _, [] => []
  | k, p :: ps => (k, .pv p) :: argsL (k + 1) ps
/-- What a result is, read off the slots. -/
def resV (n : Nat) (σ : St) : List ResultVar → Option (List V)
  | [] => some []
  | .tmp t :: l => match resV n σ l with | some vs => some (σ.ev n (.tmp t) :: vs) | none => none
  | _ :: _ => none
def resOne : List PV → PV
  | [p] => p
  | ps => .tup ps
/-- How a body must end. -/
def retQ (fn : Func) (n : Nat) (Q : PV → Prop) : Exit → St → Prop
  | .ret, σ | .normal, σ => ∃ vs ps, resV n σ fn.results.toList = some vs ∧ V.args σ.ob vs = some ps ∧ Q (resOne ps)
  | _, _ => False
def resU (a : Act) : ResultVar → Value
  | .tmp t => a.eval (.tmp t)
  | .cell _ _ => undef
theorem mapM_run {n : Nat} {σ : St} {a : Act} (w : World) (P : Program) (f : ResultVar → Sem Value) (hf : ∀ t, f (.tmp t) = pure (a.tmps.getD t undef)) : ∀ {l : List ResultVar} {vs : List V}, resV n σ l = some vs →
    Sem.run P (l.mapM f) w = .ok (l.map (resU a)) w
  | [], vs, h => by simp
  | .tmp t :: l, vs, h => by
    simp only [resV] at h
    split at h
    · rename_i vs' h'
      have hr := mapM_run w P f hf h'
      rw [List.mapM_cons, hf]
      simp [hr, resU, Act.eval]
    · cases h
  | .cell _ _ :: _, _, h => by simp [resV] at h
theorem resV_rel {C : Ctx} {n : Nat} {σ : St} {a : Act} {w : World} {m : Gm} {R : Nat → Prop} (hw : SW C n σ a w m R) : ∀ {l : List ResultVar} {vs : List V}, resV n σ l = some vs → RelL w m σ.av R vs (l.map (resU a))
  | [], vs, h => by simp only [resV, Option.some.injEq] at h; subst h; simpa using RelL.nil
  | .tmp t :: l, vs, h => by
    simp only [resV] at h
    split at h
    · rename_i vs' h'
      simp at h
      subst h
      simpa [resU] using RelL.cons (hw.ev (.tmp t)) (resV_rel hw h')
    · cases h
  | .cell _ _ :: _, _, h => by simp [resV] at h
theorem FnP.of {P : Program} {f : FuncId} {fn : Func} {c : Code} {n : Nat} {args : List PV} {Q : PV → Prop} (hf : P.funcs[f]? = some fn) (hb : fn.body = some c) (hn : fn.ntmps = n) (hna : args.length ≤ n)
    (h : ∀ m0 w0 F R0, AW ⟨P, m0, w0, F, R0⟩ n c (retQ fn n Q) (mkS (argsL 0 args) [] 0)) : FnP P f args Q := by
  intro w R us hG hR hrel
  refine calls_of_wp hf hb ?_
  let C : Ctx := ⟨P, fun _ => none, w, fun _ => False, ⟨R, hG, fun b h => ⟨hR b h, id⟩⟩⟩
  have hl := hrel.length
  have init : SJ C n (mkS (argsL 0 args) [] 0) { tmps := us.toArray ++ Array.replicate (fn.ntmps - us.toArray.size) undef, defers := [] } w := by
    refine ⟨fun _ => none, R, ⟨⟨fun _ => rfl, fun _ _ => rfl, fun _ _ _ _ h => (by cases h), fun _ _ _ _ _ h => (by cases h), fun _ _ _ h => (by cases h), hR, fun b h => .inl h, fun b h => h, Fr.refl _ _, fun _ _ _ h => (by cases h), fun id hi => avK_big (k := 0) hi⟩, rfl, by simp; omega, ?_⟩⟩
    intro t ht
    show Rel w _ (avK 0) R (look (argsL 0 args) t) ((us.toArray ++ Array.replicate (fn.ntmps - us.toArray.size) undef).getD t undef)
    have key : ∀ (ps : List PV) (vs : List Value) (k : Nat), RelPL w R ps vs → k ≤ t → ∀ z : Value, vs[t - k]?.getD z = z ∨ True → Rel w (fun _ => none) (avK 0) R (look (argsL k ps) t) (vs[t - k]?.getD z) := by
      intro ps
      induction ps with
      | nil => intro vs k _ _ z _; simp only [argsL, look, Rel, RelP]
      | cons p ps ih =>
        intro vs k hr hk z _
        simp only [RelPL] at hr
        obtain ⟨u, vs', rfl, h1, h2⟩ := hr
        simp only [argsL, look]
        by_cases e : t = k
        · subst e
          simp only [Nat.beq_eq_true_eq, Nat.beq_refl, cond_true, Nat.sub_self]
          simpa [Rel] using h1
        · have hb : Nat.beq t k = false := by cases hb : Nat.beq t k; rfl; exact absurd (Nat.eq_of_beq_eq_true hb) e
          rw [hb]
          have := ih vs' (k + 1) h2 (by omega) z (.inr trivial)
          have e2 : t - k = (t - (k + 1)) + 1 := by omega
          rw [e2]
          simpa using this
    have := key args us 0 hrel (Nat.zero_le _) undef (.inr trivial)
    simp only [Nat.sub_zero] at this
    rw [Array.getD_eq_getD_getElem?, Array.getElem?_append]
    by_cases e : t < us.length
    · simpa [e] using this
    · rw [List.getElem?_eq_none (by omega)] at this
      simp only [List.size_toArray, e, if_false, Array.getElem?_replicate]
      split <;> simpa using this
  have hbody := (h (fun _ => none) w (fun _ => False) ⟨R, hG, fun b h => ⟨hR b h, id⟩⟩).go _ w init
  refine wp_mono hbody ?_
  rintro ex a' w' ⟨σ', hq, m, R', hw⟩
  have fin : ∀ vs ps, resV n σ' fn.results.toList = some vs → V.args σ'.ob vs = some ps → Q (resOne ps) → a'.defers = [] ∧ ∃ v, (results fn a'.tmps).run P w' = .ok v w' ∧
      ∃ u v_1, Ending.returned v = .returned u ∧ Q v_1 ∧ Below w.heap.size w w' ∧ RelP w' (fun b => R b ∨ (w.heap.size ≤ b ∧ b < w'.heap.size)) v_1 u := by
    intro vs ps h1 h2 h3
    have hrl := resV_rel hw h1
    have hrun := fun f hf => mapM_run (a := a') w' P f hf h1
    generalize fn.results.toList.map (resU a') = us' at hrl hrun
    have hp := hw.args hrl h2
    have hp2 : RelPL w' (fun b => R b ∨ (w.heap.size ≤ b ∧ b < w'.heap.size)) ps us' := hp.mono fun b hb => ⟨by
      rcases hb with hb | ⟨id, N, hb⟩
      · rcases hw.hr.rfr b hb with h | h | h
        · exact .inl h
        · exact .inr ⟨h, hw.hr.rsz b hb⟩
        · exact h.elim
      · rcases (hw.hr.own id b N hb).2.2 with h | h
        · exact h.elim
        · exact .inr ⟨h, (hw.hr.own id b N hb).1⟩, rfl⟩
    have hbel : Below w.heap.size w w' := ⟨hw.hr.frame.os, hw.hr.frame.tape, hw.hr.frame.output, hw.hr.frame.size, fun k hk => hw.hr.frame.block k hk id⟩
    have hlen := hp2.length
    refine ⟨hw.df, (if h : us'.toArray.size = 1 then us'.toArray[0] else .tuple us'.toArray), ?_, ?_⟩
    · unfold results
      rw [Array.mapM_eq_mapM_toList]
      simp only [Sem.run_bind, Sem.run_map]
      rw [hrun _ (fun t => rfl)]
      rfl
    · refine ⟨_, _, rfl, h3, hbel, ?_⟩
      cases ps with
      | nil =>
        simp only [RelPL] at hp2
        subst hp2
        simp only [resOne, RelP]
        exact ⟨[], by simp, RelPL.nil⟩
      | cons p ps =>
        cases ps with
        | nil =>
          simp only [RelPL] at hp2
          obtain ⟨u, vs', rfl, h5, rfl⟩ := hp2
          simpa [resOne] using h5
        | cons p2 ps =>
          simp only [resOne, RelP]
          refine ⟨us', ?_, hp2⟩
          rw [dif_neg (by simp at hlen ⊢; omega)]
  cases ex with
  | normal => obtain ⟨vs, ps, h1, h2, h3⟩ := hq; exact fin vs ps h1 h2 h3
  | ret => obtain ⟨vs, ps, h1, h2, h3⟩ := hq; exact fin vs ps h1 h2 h3
  | _ => exact hq.elim
end Go.Proofs.YtopjkdddicgajaaGreatDoor
namespace Go.Proofs.YtopjkdddicgajaaGreatDoor
open Go.RowKit
theorem SW.drew {C : Ctx} {n : Nat} {σ : St} {a : Act} {w w' : World} {m : Gm} {R : Nat → Prop} (h : SW C n σ a w m R) (hh : w'.heap = w.heap) (ho : w'.os = w.os) (ht : w'.tape = w.tape) (hp : w'.output = w.output) : SW C n σ a w' m R := by
  have hR : ∀ b, R b → R b ∧ w'.heap[b]? = w.heap[b]? := fun b hb => ⟨hb, by rw [hh]⟩
  have := h.world (w' := w') (m' := m) (R' := R) (ob' := σ.ob) (av' := σ.av) ?_ hR (fun _ _ _ e => e) (fun _ e => e)
  · exact this
  refine ⟨h.hr.dom, h.hr.free, ?_, h.hr.inj, ?_, ?_, h.hr.rfr, h.hr.r0, ?_, h.hr.keep, h.hr.res⟩
  · intro i o b N h1 h2
    exact (h.hr.obj i o b N h1 h2).mono hR (fun _ _ _ e => e) (fun _ e => e) (by rw [hh])
  · intro i b N h1; rw [hh]; exact h.hr.own i b N h1
  · intro b hb; rw [hh]; exact h.hr.rsz b hb
  · exact ⟨ho.trans h.hr.frame.os, ht.trans h.hr.frame.tape, hp.trans h.hr.frame.output, by rw [hh]; exact h.hr.frame.size, fun k hk hF => by rw [hh]; exact h.hr.frame.block k hk hF⟩
/-- The slot of an operation's guard. -/
def gslot (ops : Array Oper) (n : Nat) (o : Oper) : Option Tmp :=
  match o.guard with
  | some (j, _) => some (((ops[j]?).bind (·.dst)).getD n)
  | none => none
/-- τ says what σ says of all that the operation looks at. -/
structure Agr (n : Nat) (ops : Array Oper) (o : Oper) (σ τ : St) (s : OS) (rd : List Nat) : Prop where
  e : ∀ (i : Nat) (x : Operand), o.op.operands.toList[i]? = some x → τ.ev n x = σ.ev n x
  g : ∀ t, gslot ops n o = some t → τ.ev n (.tmp t) = σ.ev n (.tmp t)
  o : ∀ (i id : Nat), rd[i]? = some id → τ.ob id = σ.ob id
  n : ∀ (i id : Nat), s.nw[i]? = some id → τ.av id = true
/-- The operation, wherever it is carried out, leaves just s. -/
def LJ (C : Ctx) (n : Nat) (ops : Array Oper) (o : Oper) (σ : St) (s : OS) (rd : List Nat) : Prop :=
  ∀ τ, Agr n ops o σ τ s rd → match o.guard with
    | none => XJ C n o τ s
    | some (j, want) => ∃ b, (τ.ev n (.tmp (((ops[j]?).bind (·.dst)).getD n))).gd = some b ∧ (b = some want → XJ C n o τ s) ∧ (b ≠ some want → s = ⟨und, [], []⟩)
/-- All that an operation names: slots. -/
def namesOf (ops : Array Oper) (n : Nat) (o : Oper) : List Tmp := (o.op.operands.toList.filterMap fun | .tmp t => some t | _ => none) ++ (gslot ops n o).toList
def inL (d : Nat) : List Nat → Bool
  | [] => false
  | x :: l => Nat.beq x d || inL d l
def meet (a : List Nat) : List Nat → Bool
  | [] => false
  | x :: l => inL x a || meet a l
/-- An operation with what it leaves: its number, the places that it turns (wk), takes (nw), looks at (rd). -/
structure It where
  i : Nat
  o : Oper
  s : OS
  wk : List Nat
  nw : List Nat
  rd : List Nat
/-- Two operations that must not change places. -/
def confB (ops : Array Oper) (n : Nat) (a b : It) : Bool :=
  (match a.o.dst with | some d => inL d (namesOf ops n b.o) || (match b.o.dst with | some e => Nat.beq d e | none => false) | none => false) ||
  (match b.o.dst with | some e => inL e (namesOf ops n a.o) | none => false) ||
  meet a.wk (b.rd ++ b.wk ++ b.nw) || meet b.wk (a.rd ++ a.nw) || meet a.nw (b.rd ++ b.nw) || meet b.nw a.rd
/-- What must come before each operation. -/
def cloL (os : List Oper) (acc : List (List Nat)) : List (List Nat) :=
  match os with
  | [] => acc
  | o :: os =>
    let es := o.after.toList.filterMap fun e => if Region.binds .any e then some e.on else none
    cloL os (acc ++ [es.foldl (fun l i => if inL i l then l else (i :: l) ++ ((acc[i]?).getD []).filter (fun z => !(inL z (i :: l)))) []])
/-- Each operation waits for earlier ones alone. -/
def edgesOk : Nat → List Oper → Bool
  | _, [] => true
  | k, o :: os => (o.after.toList.all fun e => !(Region.binds .any e) || Nat.blt e.on k) && edgesOk (k + 1) os
/-- A new item against all earlier ones. -/
def newOk (ops : Array Oper) (n : Nat) (cl : List (List Nat)) (it : It) (acc : List It) : Bool :=
  (acc.all fun b => !(confB ops n b it) || inL b.i ((cl[it.i]?).getD [])) && (acc.all fun b => !(Nat.beq b.i it.i))
/-- The operation is to be carried out. -/
def gOk (n : Nat) (ops : Array Oper) (o : Oper) (τ : St) : Prop := match o.guard with
  | none => True
  | some (j, want) => (τ.ev n (.tmp (((ops[j]?).bind (·.dst)).getD n))).gd = some (some want)
/-- The operation, wherever it is carried out, leaves something that P holds of. -/
def LJR (C : Ctx) (n : Nat) (ops : Array Oper) (o : Oper) (σ : St) (P : OS → Prop) (wk nw rd : List Nat) : Prop :=
  ∀ τ, Agr n ops o σ τ ⟨.pv .any, [], nw⟩ rd → gOk n ops o τ ∧ OJ C n o (fun τ' => ∃ s, P s ∧ s.wr.map (·.1) = wk ∧ s.nw = nw ∧ τ' = τ.app o.dst s) τ
def DL (C : Ctx) (n : Nat) (ops : Array Oper) (cl : List (List Nat)) : List Nat → List It → (St → Prop) → St → Prop
  | [], acc, K, σ => (List.range ops.size).all (fun i => inL i (acc.map (·.i))) = true ∧ K σ
  | i :: is, acc, K, σ => ∃ o, ops[i]? = some o ∧
      ((∃ s rd, LJ C n ops o σ s rd ∧ s.nw.all σ.av = true ∧ newOk ops n cl ⟨i, o, s, s.wr.map (·.1), s.nw, rd⟩ acc = true ∧ DL C n ops cl is (⟨i, o, s, s.wr.map (·.1), s.nw, rd⟩ :: acc) K (σ.app o.dst s)) ∨
       (∃ (P : OS → Prop) (wk nw rd : List Nat), LJR C n ops o σ P wk nw rd ∧ nw.all σ.av = true ∧ newOk ops n cl ⟨i, o, ⟨.pv .any, [], []⟩, wk, nw, rd⟩ acc = true ∧ is.all (fun j => inL i ((cl[j]?).getD [])) = true ∧ (List.range ops.size).all (fun j => inL j (i :: is) || inL j (acc.map (·.i))) = true ∧
          ∀ s, P s → s.wr.map (·.1) = wk → s.nw = nw → DL C n ops cl is (⟨i, o, s, wk, nw, rd⟩ :: acc) K (σ.app o.dst s)))
section
variable {C : Ctx} {n : Nat} {σ τ : St} {ops : Array Oper} {cl : List (List Nat)} {i : Nat} {o : Oper} {is : List Nat} {acc : List It} {K : St → Prop}
theorem DL.step {s : OS} {d : Option Tmp} (rd : List Nat) (ho : ops[i]? = some o) (hg : o.guard = none) (hd : o.dst = d) (hx : ∀ τ, Agr n ops o σ τ s rd → XJ C n o τ s) (hn : s.nw.all σ.av = true) (hc : newOk ops n cl ⟨i, o, s, s.wr.map (·.1), s.nw, rd⟩ acc = true)
    (h : DL C n ops cl is (⟨i, o, s, s.wr.map (·.1), s.nw, rd⟩ :: acc) K (σ.app d s)) : DL C n ops cl (i :: is) acc K σ := by
  subst hd
  exact ⟨o, ho, .inl ⟨s, rd, fun τ ha => by simp only [hg]; exact hx τ ha, hn, hc, h⟩⟩
theorem DL.stepG {s : OS} {d : Option Tmp} (rd : List Nat) {j : Nat} {want : Bool} (ho : ops[i]? = some o) (hg : o.guard = some (j, want)) (hd : o.dst = d) (hb : σ.ev n (.tmp (((ops[j]?).bind (·.dst)).getD n)) = .pv (.bool want))
    (hx : ∀ τ, Agr n ops o σ τ s rd → XJ C n o τ s) (hn : s.nw.all σ.av = true) (hc : newOk ops n cl ⟨i, o, s, s.wr.map (·.1), s.nw, rd⟩ acc = true)
    (h : DL C n ops cl is (⟨i, o, s, s.wr.map (·.1), s.nw, rd⟩ :: acc) K (σ.app d s)) : DL C n ops cl (i :: is) acc K σ := by
  subst hd
  exact ⟨o, ho, .inl ⟨s, rd, fun τ ha => by
    simp only [hg]
    exact ⟨some want, V.gd_bool ((ha.g _ (by simp only [gslot, hg])).trans hb), fun _ => hx τ ha, fun e => absurd rfl e⟩, hn, hc, h⟩⟩
theorem DL.rel {d : Option Tmp} (P : OS → Prop) (wk nw rd : List Nat) (ho : ops[i]? = some o) (hg : o.guard = none) (hd : o.dst = d) (hx : ∀ τ, Agr n ops o σ τ ⟨.pv .any, [], nw⟩ rd → OJ C n o (fun τ' => ∃ s, P s ∧ s.wr.map (·.1) = wk ∧ s.nw = nw ∧ τ' = τ.app o.dst s) τ)
    (hn : nw.all σ.av = true) (hc : newOk ops n cl ⟨i, o, ⟨.pv .any, [], []⟩, wk, nw, rd⟩ acc = true) (hs : is.all (fun j => inL i ((cl[j]?).getD [])) = true) (hall : (List.range ops.size).all (fun j => inL j (i :: is) || inL j (acc.map (·.i))) = true)
    (h : ∀ s, P s → s.wr.map (·.1) = wk → s.nw = nw → DL C n ops cl is (⟨i, o, s, wk, nw, rd⟩ :: acc) K (σ.app d s)) : DL C n ops cl (i :: is) acc K σ := by
  subst hd
  exact ⟨o, ho, .inr ⟨P, wk, nw, rd, fun τ ha => ⟨by unfold gOk; rw [hg]; trivial, hx τ ha⟩, hn, hc, hs, hall, h⟩⟩
theorem Agr.args {s : OS} {rd : List Nat} {f : FuncId} {xs : Array Operand} {ts : Array TypeId} {dst : Option Tmp} {ty : TypeId} {pos : String} {after : Array Edge} {gd : Option (Nat × Bool)}
    (h : Agr n ops ⟨dst, .call { callee := .value (.func f), args := xs, argTypes := ts }, ty, pos, after, gd⟩ σ τ s rd) : xs.toList.map (τ.ev n) = xs.toList.map (σ.ev n) := by
  apply List.map_congr_left
  intro x hx
  obtain ⟨i, hi⟩ := List.getElem?_of_mem hx
  exact h.e (i + 1) x (by simpa [Op.operands, Call.operands, Nat.add_comm] using hi)
end
section
variable {n : Nat} {ops : Array Oper} {σ τ : St} {s : OS} {rd : List Nat} {f : FuncId} {xs : Array Operand} {ts : Array TypeId} {dst : Option Tmp} {ty : TypeId} {pos : String} {after : Array Edge} {gd : Option (Nat × Bool)}
theorem Agr.argsP (h : Agr n ops ⟨dst, .call { callee := .value (.func f), args := xs, argTypes := ts }, ty, pos, after, gd⟩ σ τ s rd) {ps : List PV} (hp : (V.args (fun _ => none) (xs.toList.map (σ.ev n))).map PV.fgA = some ps) :
    (V.args (fun _ => none) (xs.toList.map (τ.ev n))).map PV.fgA = some ps := by rw [h.args]; exact hp
end
section
variable {n : Nat} {ops : Array Oper} {σ τ : St} {s : OS} {rd : List Nat} {dst : Option Tmp} {ty : TypeId} {pos : String} {after : Array Edge} {gd : Option (Nat × Bool)} {T : TypeId} {parts : Array (Nat × Operand)}
theorem Agr.partsB (h : Agr n ops ⟨dst, .build T parts, ty, pos, after, gd⟩ σ τ s rd) : (parts.toList.map fun p => (p.1, τ.ev n p.2)) = parts.toList.map fun p => (p.1, σ.ev n p.2) := by
  apply List.map_congr_left
  intro p hp
  obtain ⟨i, hi⟩ := List.getElem?_of_mem hp
  rw [h.e i p.2 (by simp [Op.operands, hi])]
theorem Agr.partsBS {k : Nat} (h : Agr n ops ⟨dst, .buildSlice T k parts, ty, pos, after, gd⟩ σ τ s rd) : (parts.toList.map fun p => (p.1, τ.ev n p.2)) = parts.toList.map fun p => (p.1, σ.ev n p.2) := by
  apply List.map_congr_left
  intro p hp
  obtain ⟨i, hi⟩ := List.getElem?_of_mem hp
  rw [h.e i p.2 (by simp [Op.operands, hi])]
end
/-! The soundness. -/
section
variable {C : Ctx} {n : Nat} {ops : Array Oper}
theorem inL_iff {d : Nat} : ∀ {l : List Nat}, inL d l = true ↔ d ∈ l
  | [] => by simp [inL]
  | x :: l => by
    simp only [inL, Bool.or_eq_true, List.mem_cons, inL_iff (l := l)]
    exact ⟨fun h => h.imp (fun e => (Nat.eq_of_beq_eq_true e).symm) id, fun h => h.imp (fun e => by rw [e]; exact Nat.beq_refl x) id⟩
theorem meet_iff {a : List Nat} : ∀ {l : List Nat}, meet a l = true ↔ ∃ x, x ∈ a ∧ x ∈ l
  | [] => by simp [meet]
  | x :: l => by
    simp only [meet, Bool.or_eq_true, inL_iff, meet_iff (l := l), List.mem_cons]
    constructor
    · rintro (h | ⟨y, h1, h2⟩)
      · exact ⟨x, h, .inl rfl⟩
      · exact ⟨y, h1, .inr h2⟩
    · rintro ⟨y, h1, rfl | h2⟩
      · exact .inl h1
      · exact .inr ⟨y, h1, h2⟩
theorem obL_get : ∀ (l : List (Nat × Option Ob)) (f : Nat → Option Ob) (id : Nat), id ∉ l.map (·.1) → obL l f id = f id
  | [], _, _, _ => rfl
  | (i, o) :: l, f, id, h => by
    simp only [List.map_cons, List.mem_cons, not_or] at h
    have hb : Nat.beq id i = false := by cases hb : Nat.beq id i; rfl; exact absurd (Nat.eq_of_beq_eq_true hb) h.1
    simp only [obL, hb, cond_false]
    exact obL_get l f id h.2
theorem obL_in : ∀ (l : List (Nat × Option Ob)) (f g : Nat → Option Ob) (id : Nat), id ∈ l.map (·.1) → obL l f id = obL l g id
  | [], _, _, _, h => by simp at h
  | (i, o) :: l, f, g, id, h => by
    simp only [obL]
    cases hb : Nat.beq id i
    · simp only [cond_false]
      refine obL_in l f g id ?_
      simp only [List.map_cons, List.mem_cons] at h
      rcases h with e | h
      · rw [e] at hb; simp at hb
      · exact h
    · rfl
theorem avL_get : ∀ (l : List Nat) (f : Av) (id : Nat), avL l f id = (f id && !inL id l)
  | [], f, id => by simp [avL, inL]
  | i :: l, f, id => by
    simp only [avL, inL]
    by_cases e : id = i
    · subst e; simp
    · have hb : Nat.beq id i = false := by cases hb : Nat.beq id i; rfl; exact absurd (Nat.eq_of_beq_eq_true hb) e
      have hb2 : Nat.beq i id = false := by cases hb : Nat.beq i id; rfl; exact absurd (Nat.eq_of_beq_eq_true hb).symm e
      rw [hb, hb2, avL_get l f id]
      simp
/-- The items of D, in the order in which they were listed (the last one first). -/
def appR (D : Nat → Bool) (σ0 : St) : List It → St
  | [] => σ0
  | it :: l => bif D it.i then (appR D σ0 l).app it.o.dst it.s else appR D σ0 l
theorem app_comm {a b : It} (σ : St) (h : confB ops n a b = false) (ha : a.s.wr.map (·.1) = a.wk) (hb : b.s.wr.map (·.1) = b.wk) : (σ.app a.o.dst a.s).app b.o.dst b.s = (σ.app b.o.dst b.s).app a.o.dst a.s := by
  simp only [confB, Bool.or_eq_false_iff] at h
  obtain ⟨⟨⟨⟨⟨h1, h2⟩, h3⟩, h4⟩, h5⟩, h6⟩ := h
  have hw : ∀ id, id ∈ a.s.wr.map (·.1) → id ∉ b.s.wr.map (·.1) := fun id hx hy => by
    rw [ha] at hx
    rw [hb] at hy
    have : meet a.wk (b.rd ++ b.wk ++ b.nw) = true := meet_iff.2 ⟨id, hx, by simp only [List.mem_append]; exact .inl (.inr hy)⟩
    rw [h3] at this; cases this
  simp only [St.app, St.mk.injEq]
  refine ⟨?_, ?_, ?_⟩
  · cases hd : a.o.dst with
    | none => cases b.o.dst <;> rfl
    | some d =>
      cases he : b.o.dst with
      | none => rfl
      | some e =>
        simp only
        rw [hd, he] at h1
        simp only [Bool.or_eq_false_iff] at h1
        have hne : d ≠ e := fun q => by subst q; simp at h1
        funext x
        by_cases p : x = d
        · subst p
          rw [upd_ne _ _ hne, upd_same, upd_same]
        · by_cases q : x = e
          · subst q
            rw [upd_same, upd_ne _ _ p, upd_same]
          · rw [upd_ne _ _ q, upd_ne _ _ p, upd_ne _ _ p, upd_ne _ _ q]
  · funext id
    by_cases p : id ∈ a.s.wr.map (·.1)
    · rw [obL_get _ _ _ (hw id p)]
      exact obL_in _ _ _ _ p
    · rw [obL_get a.s.wr _ _ p]
      by_cases q : id ∈ b.s.wr.map (·.1)
      · exact obL_in _ _ _ _ q
      · rw [obL_get _ _ _ q, obL_get _ _ _ q, obL_get _ _ _ p]
  · funext id
    simp only [avL_get]
    cases σ.av id <;> cases inL id a.s.nw <;> cases inL id b.s.nw <;> rfl
/-- All that is known of the items listed so far; those of Rl have been carried out. -/
def Good (C : Ctx) (n : Nat) (ops : Array Oper) (cl : List (List Nat)) (σ0 : St) (Rl : List Nat) : List It → Prop
  | [] => True
  | it :: l => (it.i ∈ Rl ∨ (LJ C n ops it.o (appR (fun _ => true) σ0 l) it.s it.rd)) ∧ it.nw.all (appR (fun _ => true) σ0 l).av = true ∧ newOk ops n cl it l = true ∧ ops[it.i]? = some it.o ∧ it.s.wr.map (·.1) = it.wk ∧ it.s.nw = it.nw ∧ Good C n ops cl σ0 Rl l
section
variable {cl : List (List Nat)} {σ0 : St} {Rl : List Nat}
theorem Good.split : ∀ {l1 : List It} {it : It} {l2 : List It}, Good C n ops cl σ0 Rl (l1 ++ it :: l2) → Good C n ops cl σ0 Rl (it :: l2)
  | [], _, _, h => h
  | a :: l1, _, _, h => Good.split (l1 := l1) h.2.2.2.2.2.2
theorem Good.mem : ∀ {l : List It}, Good C n ops cl σ0 Rl l → ∀ it ∈ l, ops[it.i]? = some it.o ∧ it.s.wr.map (·.1) = it.wk ∧ it.s.nw = it.nw
  | [], _, it, h => by simp at h
  | a :: l, h, it, hm => by
    rcases List.mem_cons.1 hm with rfl | hm
    · exact ⟨h.2.2.2.1, h.2.2.2.2.1, h.2.2.2.2.2.1⟩
    · exact Good.mem h.2.2.2.2.2.2 it hm
/-- A later item that conflicts with an earlier one waits for it. -/
theorem Good.waits : ∀ {l1 : List It} {it : It} {l2 : List It}, Good C n ops cl σ0 Rl (l1 ++ it :: l2) → ∀ b ∈ l1, (confB ops n it b = true → it.i ∈ (cl[b.i]?).getD []) ∧ b.i ≠ it.i
  | [], _, _, _, b, hb => by simp at hb
  | a :: l1, it, l2, h, b, hb => by
    rcases List.mem_cons.1 hb with rfl | hb
    · have h1 := h.2.2.1
      simp only [newOk, Bool.and_eq_true] at h1
      have h2 := List.all_eq_true.1 h1.1 it (by simp)
      have h3 := List.all_eq_true.1 h1.2 it (by simp)
      refine ⟨fun hc => ?_, fun e => ?_⟩
      · rw [hc] at h2
        exact inL_iff.1 (by simpa using h2)
      · rw [e] at h3; simp at h3
    · exact Good.waits (l1 := l1) h.2.2.2.2.2.2 b hb
theorem Good.waits2 {it : It} {l2 : List It} (h : Good C n ops cl σ0 Rl (it :: l2)) : ∀ b ∈ l2, (confB ops n b it = true → b.i ∈ (cl[it.i]?).getD []) ∧ b.i ≠ it.i := by
  intro b hb
  have h1 := h.2.2.1
  simp only [newOk, Bool.and_eq_true] at h1
  have h2 := List.all_eq_true.1 h1.1 b hb
  have h3 := List.all_eq_true.1 h1.2 b hb
  refine ⟨fun hc => ?_, fun e => ?_⟩
  · rw [hc] at h2
    exact inL_iff.1 (by simpa using h2)
  · rw [e] at h3; simp at h3
theorem appR_ins {D : Nat → Bool} {it : It} {l2 : List It} (hD : D it.i = false) (hwk : it.s.wr.map (·.1) = it.wk) (hne : ∀ b ∈ l2, b.i ≠ it.i) : ∀ (l1 : List It), (∀ b ∈ l1, b.i ≠ it.i ∧ b.s.wr.map (·.1) = b.wk ∧ (D b.i = true → confB ops n it b = false)) →
    appR (fun j => D j || Nat.beq j it.i) σ0 (l1 ++ it :: l2) = (appR D σ0 (l1 ++ it :: l2)).app it.o.dst it.s
  | [], _ => by
    have low : ∀ l : List It, (∀ b ∈ l, b.i ≠ it.i) → appR (fun j => D j || Nat.beq j it.i) σ0 l = appR D σ0 l := by
      intro l
      induction l with
      | nil => intro _; rfl
      | cons b l ih =>
        intro h
        have hb : Nat.beq b.i it.i = false := by cases hb : Nat.beq b.i it.i; rfl; exact absurd (Nat.eq_of_beq_eq_true hb) (h b (by simp))
        simp only [appR, hb, Bool.or_false, ih (fun c hc => h c (by simp [hc]))]
    simp only [List.nil_append, appR, hD, Nat.beq_refl, Bool.or_true, cond_true, cond_false, low l2 hne]
  | b :: l1, h => by
    have ih := appR_ins hD hwk hne l1 (fun c hc => h c (by simp [hc]))
    obtain ⟨h1, h2, h3⟩ := h b (by simp)
    have hb : Nat.beq b.i it.i = false := by cases hb : Nat.beq b.i it.i; rfl; exact absurd (Nat.eq_of_beq_eq_true hb) h1
    simp only [List.cons_append, appR, hb, Bool.or_false, ih]
    cases hDb : D b.i with
    | false => rfl
    | true =>
      simp only [cond_true]
      exact app_comm (n := n) (ops := ops) _ (h3 hDb) hwk h2
theorem appR_eq {α : Type} (g : St → α) (D D' : Nat → Bool) : ∀ (l : List It), (∀ b ∈ l, D b.i = D' b.i ∨ ∀ τ : St, g (τ.app b.o.dst b.s) = g τ) → (∀ b ∈ l, ∀ τ τ' : St, g τ = g τ' → g (τ.app b.o.dst b.s) = g (τ'.app b.o.dst b.s)) → g (appR D σ0 l) = g (appR D' σ0 l)
  | [], _, _ => rfl
  | b :: l, h, h2 => by
    have ih := appR_eq g D D' l (fun c hc => h c (by simp [hc])) (fun c hc => h2 c (by simp [hc]))
    simp only [appR]
    rcases h b (by simp) with e | e
    · rw [e]
      cases D' b.i
      · exact ih
      · exact h2 b (by simp) _ _ ih
    · cases D b.i <;> cases D' b.i <;> simp only [cond_true, cond_false, e, ih]
/-- Later items that were not carried out, or do not matter. -/
theorem appR_late {α : Type} (g : St → α) (D : Nat → Bool) {l2 : List It} : ∀ (l1 : List It), (∀ b ∈ l1, D b.i = false ∨ ∀ τ : St, g (τ.app b.o.dst b.s) = g τ) → g (appR D σ0 (l1 ++ l2)) = g (appR D σ0 l2)
  | [], _ => rfl
  | b :: l1, h => by
    have ih := appR_late g D l1 (fun c hc => h c (by simp [hc])) (l2 := l2)
    simp only [List.cons_append, appR]
    rcases h b (by simp) with e | e
    · rw [e]; exact ih
    · cases D b.i <;> simp only [cond_true, cond_false, e, ih]
end
theorem app_sl {b : It} {t : Nat} (h : b.o.dst ≠ some t) (τ : St) : (τ.app b.o.dst b.s).sl t = τ.sl t := by
  simp only [St.app]
  cases hd : b.o.dst with
  | none => rfl
  | some d => exact upd_ne _ _ (fun q => h (by rw [hd, q]))
theorem app_sl2 (b : It) (t : Nat) (τ τ' : St) (h : τ.sl t = τ'.sl t) : (τ.app b.o.dst b.s).sl t = (τ'.app b.o.dst b.s).sl t := by
  simp only [St.app]
  cases hd : b.o.dst with
  | none => exact h
  | some d =>
    by_cases e : t = d
    · subst e; simp only [upd_same]
    · simp only [upd_ne _ _ e, h]
theorem app_ob {b : It} {t : Nat} (h : t ∉ b.s.wr.map (·.1)) (τ : St) : (τ.app b.o.dst b.s).ob t = τ.ob t := obL_get _ _ _ h
theorem app_ob2 (b : It) (t : Nat) (τ τ' : St) (h : τ.ob t = τ'.ob t) : (τ.app b.o.dst b.s).ob t = (τ'.app b.o.dst b.s).ob t := by
  by_cases e : t ∈ b.s.wr.map (·.1)
  · exact obL_in _ _ _ _ e
  · rw [app_ob e, app_ob e, h]
theorem app_av {b : It} {t : Nat} (h : t ∉ b.s.nw) (τ : St) : (τ.app b.o.dst b.s).av t = τ.av t := by
  have hn : inL t b.s.nw = false := by cases hb : inL t b.s.nw; rfl; exact absurd (inL_iff.1 hb) h
  simp only [St.app, avL_get, hn, Bool.not_false, Bool.and_true]
theorem app_av2 (b : It) (t : Nat) (τ τ' : St) (h : τ.av t = τ'.av t) : (τ.app b.o.dst b.s).av t = (τ'.app b.o.dst b.s).av t := by
  simp only [St.app, avL_get, h]
/-- What the closure says: a set that holds with each operation what it waits for holds the closure. -/
theorem clo_sound (D : Nat → Bool) (all : List Oper) (hcl : ∀ j o, all[j]? = some o → D j = true → ∀ e ∈ o.after, Region.binds .any e = true → D e.on = true) :
    ∀ (os : List Oper) (acc : List (List Nat)), all.drop acc.length = os → (∀ j, D j = true → ∀ i ∈ (acc[j]?).getD [], D i = true) → ∀ j, D j = true → ∀ i ∈ ((cloL os acc)[j]?).getD [], D i = true := by
  intro os
  induction os with
  | nil => intro acc _ h; simpa only [cloL] using h
  | cons o os ih =>
    intro acc hd h
    simp only [cloL]
    have ho : all[acc.length]? = some o := by
      have := congrArg (·[0]?) hd
      simpa using this
    refine ih _ ?_ ?_
    · have := congrArg (List.drop 1) hd
      simpa [Nat.add_comm] using this
    · intro j hj i hi
      by_cases e : j < acc.length
      · rw [List.getElem?_append_left e] at hi
        exact h j hj i hi
      · by_cases e2 : j = acc.length
        · subst e2
          rw [List.getElem?_append_right (Nat.le_refl _)] at hi
          simp only [Nat.sub_self, List.getElem?_cons_zero, Option.getD_some] at hi
          have hes : ∀ q ∈ (o.after.toList.filterMap fun e => if Region.binds .any e then some e.on else none), D q = true := by
            intro q hq
            obtain ⟨e, he, hq'⟩ := List.mem_filterMap.1 hq
            split at hq'
            · rename_i hbd
              simp at hq'
              subst hq'
              exact hcl _ o ho hj e (by simpa using he) hbd
            · cases hq'
          revert hi hes
          generalize (o.after.toList.filterMap fun e => if Region.binds .any e then some e.on else none) = es
          have gen : ∀ (es : List Nat) (l0 : List Nat), (∀ q ∈ l0, D q = true) → (∀ q ∈ es, D q = true) → ∀ i ∈ es.foldl (fun l i => if inL i l then l else (i :: l) ++ ((acc[i]?).getD []).filter (fun z => !(inL z (i :: l)))) l0, D i = true := by
            intro es
            induction es with
            | nil => intro l0 h0 _ i hi; exact h0 i hi
            | cons q es ihe =>
              intro l0 h0 hes i hi
              simp only [List.foldl_cons] at hi
              refine ihe _ ?_ (fun q' hq' => hes q' (by simp [hq'])) i hi
              intro z hz
              split at hz
              · exact h0 z hz
              · simp only [List.cons_append, List.mem_cons, List.mem_append] at hz
                rcases hz with rfl | hz | hz
                · exact hes _ (by simp)
                · exact h0 z hz
                · exact h q (hes q (by simp)) z (List.mem_filter.1 hz).1
          intro hi hes
          exact gen es [] (by simp) hes i hi
        · rw [List.getElem?_eq_none (by simp; omega)] at hi
          simp at hi
theorem edges_of : ∀ {os : List Oper} {k : Nat}, edgesOk k os = true → ∀ {i : Nat} {o : Oper}, os[i]? = some o → ∀ e ∈ o.after, Region.binds .any e = true → e.on < k + i
  | [], _, _, i, o, h => by simp at h
  | q :: os, k, hk, i, o, h => by
    simp only [edgesOk, Bool.and_eq_true] at hk
    cases i with
    | zero =>
      simp at h
      subst h
      intro e he hb
      have := (List.all_eq_true.1 hk.1) e (by simpa using he)
      simp only [hb, Bool.not_true, Bool.false_or] at this
      simpa [Nat.blt_eq] using this
    | succ i =>
      simp at h
      intro e he hb
      have := edges_of hk.2 h e he hb
      omega
theorem conf_sl {a b : It} {d : Nat} (hd : a.o.dst = some d) (hn : d ∈ namesOf ops n b.o) : confB ops n a b = true := by
  have : inL d (namesOf ops n b.o) = true := inL_iff.2 hn
  simp only [confB, hd, this, Bool.or_true, Bool.true_or]
theorem conf_sl' {a b : It} {d : Nat} (hd : b.o.dst = some d) (hn : d ∈ namesOf ops n a.o) : confB ops n a b = true := by
  have : inL d (namesOf ops n a.o) = true := inL_iff.2 hn
  simp only [confB, hd, this, Bool.or_true, Bool.true_or]
theorem conf_ob {a b : It} {d : Nat} (hd : d ∈ a.wk) (hn : d ∈ b.rd) : confB ops n a b = true := by
  have : meet a.wk (b.rd ++ b.wk ++ b.nw) = true := meet_iff.2 ⟨d, hd, by simp only [List.mem_append]; exact .inl (.inl hn)⟩
  simp only [confB, this, Bool.or_true, Bool.true_or]
theorem conf_ob' {a b : It} {d : Nat} (hd : d ∈ b.wk) (hn : d ∈ a.rd) : confB ops n a b = true := by
  have : meet b.wk (a.rd ++ a.nw) = true := meet_iff.2 ⟨d, hd, by simp only [List.mem_append]; exact .inl hn⟩
  simp only [confB, this, Bool.or_true, Bool.true_or]
theorem conf_nw {a b : It} {d : Nat} (hd : d ∈ a.nw) (hn : d ∈ b.nw) : confB ops n a b = true := by
  have : meet a.nw (b.rd ++ b.nw) = true := meet_iff.2 ⟨d, hd, by simp only [List.mem_append]; exact .inr hn⟩
  simp only [confB, this, Bool.or_true, Bool.true_or]
/-- Which operations have been carried out. -/
abbrev Dn (listed : Array Bool) : Nat → Bool := fun i => listed.getD i false
structure Lst (ops : Array Oper) (listed : Array Bool) (fuel : Nat) (acc : List It) (Rl : List Nat) : Prop where
  sz : listed.size = ops.size
  fuel : ∃ us : List Nat, us.length ≤ fuel ∧ ∀ i, i < ops.size → Dn listed i = false → i ∈ us
  cl : ∀ j o, ops[j]? = some o → Dn listed j = true → ∀ e ∈ o.after, Region.binds .any e = true → Dn listed e.on = true
  sub : ∀ i, Dn listed i = true → i ∈ acc.map (·.i)
  rl : ∀ i ∈ Rl, Dn listed i = true
theorem getTF (listed : Array Bool) (i : Nat) (hi : i < listed.size) : listed.getD i true = listed.getD i false := by simp [hi]
theorem ready_mem {listed : Array Bool} {i : Nat} (hsz : listed.size = ops.size) : i ∈ Region.ready .any ops listed ↔ i < ops.size ∧ Dn listed i = false ∧ ∀ o, ops[i]? = some o → ∀ e ∈ o.after, Region.binds .any e = true → Dn listed e.on = true := by
  unfold Region.ready
  rw [List.mem_filter]
  simp only [List.mem_range, Bool.and_eq_true, Bool.not_eq_true']
  constructor
  · rintro ⟨h1, h2, h3⟩
    refine ⟨h1, (getTF listed i (by omega)).symm.trans h2, fun o ho e he hb => ?_⟩
    rw [ho] at h3
    simp only [Option.map_some, Option.getD_some] at h3
    have := (Array.all_eq_true_iff_forall_mem.1 h3) e he
    simpa [hb] using this
  · rintro ⟨h1, h2, h3⟩
    refine ⟨h1, (getTF listed i (by omega)).trans h2, ?_⟩
    have ho : ops[i]? = some ops[i] := Array.getElem?_eq_getElem h1
    rw [ho]
    simp only [Option.map_some, Option.getD_some]
    rw [Array.all_eq_true_iff_forall_mem]
    intro e he
    cases hb : Region.binds .any e with
    | false => simp
    | true => simpa using h3 _ ho e he hb
theorem none_ready (hedge : edgesOk 0 ops.toList = true) {listed : Array Bool} (hsz : listed.size = ops.size) (hr : Region.ready .any ops listed = []) : ∀ i, i < ops.size → Dn listed i = true := by
  intro i
  induction i using Nat.strongRecOn with
  | _ i ih =>
    intro hi
    cases hb : Dn listed i with
    | true => rfl
    | false =>
      exfalso
      have : i ∈ Region.ready .any ops listed := (ready_mem hsz).2 ⟨hi, hb, fun o ho e he hbd => by
        have := edges_of hedge (i := i) (o := o) (by simpa using ho) e he hbd
        exact ih e.on (by omega) (by omega)⟩
      rw [hr] at this
      simp at this
theorem set_Dn {listed : Array Bool} {i : Nat} (hi : i < listed.size) (j : Nat) : Dn (listed.setIfInBounds i true) j = (Dn listed j || Nat.beq j i) := by
  simp only [Dn, Array.getD_eq_getD_getElem?, Array.getElem?_setIfInBounds]
  by_cases e : i = j
  · subst e
    simp [hi]
  · have hb : Nat.beq j i = false := by cases hb : Nat.beq j i; rfl; exact absurd (Nat.eq_of_beq_eq_true hb).symm e
    simp [e, hb]
theorem Lst.next {listed : Array Bool} {fuel : Nat} {acc : List It} {Rl : List Nat} (h : Lst ops listed (fuel + 1) acc Rl) {i : Nat} (hr : i ∈ Region.ready .any ops listed) {acc' : List It} {Rl' : List Nat} (hsub : ∀ j, j ∈ acc.map (·.i) ∨ j = i → j ∈ acc'.map (·.i)) (hrl : ∀ j ∈ Rl', j ∈ Rl ∨ j = i) :
    Lst ops (listed.setIfInBounds i true) fuel acc' Rl' := by
  obtain ⟨hi, hDi, hedg⟩ := (ready_mem h.sz).1 hr
  have hil : i < listed.size := by rw [h.sz]; exact hi
  obtain ⟨us, hu1, hu2⟩ := h.fuel
  refine ⟨by simpa using h.sz, ⟨us.erase i, ?_, ?_⟩, ?_, ?_, ?_⟩
  · have := hu2 i hi hDi
    rw [List.length_erase_of_mem this]
    omega
  · intro j hj hjl
    rw [set_Dn hil] at hjl
    simp only [Bool.or_eq_false_iff] at hjl
    have hne : j ≠ i := fun e => by subst e; simp at hjl
    exact (List.mem_erase_of_ne hne).2 (hu2 j hj hjl.1)
  · intro j o' ho' hj e he hb
    rw [set_Dn hil] at hj ⊢
    by_cases e1 : j = i
    · subst e1
      rw [hedg o' ho' e he hb]; rfl
    · have hb' : Nat.beq j i = false := by cases hb : Nat.beq j i; rfl; exact absurd (Nat.eq_of_beq_eq_true hb) e1
      rw [hb', Bool.or_false] at hj
      rw [h.cl j o' ho' hj e he hb]; rfl
  · intro j hj
    rw [set_Dn hil] at hj
    rcases (Bool.or_eq_true_iff).1 hj with hj | hj
    · exact hsub j (.inl (h.sub j hj))
    · exact hsub j (.inr (Nat.eq_of_beq_eq_true hj))
  · intro j hj
    rw [set_Dn hil]
    rcases hrl j hj with h' | h'
    · rw [h.rl j h']; rfl
    · subst h'; simp
/-- What the closure says of the operations that have been carried out. -/
theorem Lst.clo {cl : List (List Nat)} (hcl : cloL ops.toList [] = cl) {listed : Array Bool} {fuel : Nat} {acc : List It} {Rl : List Nat} (h : Lst ops listed fuel acc Rl) {i j : Nat} (hj : Dn listed j = true) (hi : i ∈ (cl[j]?).getD []) : Dn listed i = true := by
  rw [← hcl] at hi
  exact clo_sound (Dn listed) ops.toList (fun k q hq => h.cl k q (by simpa using hq)) ops.toList [] rfl (by simp) j hj i hi
/-- One operation that is ready, of those that are known. -/
theorem known_step {cl : List (List Nat)} (hcl : cloL ops.toList [] = cl) {σ0 : St} {Rl : List Nat} {l1 : List It} {it : It} {l2 : List It} (hG : Good C n ops cl σ0 Rl (l1 ++ it :: l2)) {listed : Array Bool} {fuel : Nat} (hL : Lst ops listed (fuel + 1) (l1 ++ it :: l2) Rl)
    (hr : it.i ∈ Region.ready .any ops listed) {a : Act} {w : World} (hsj : SJ C n (appR (Dn listed) σ0 (l1 ++ it :: l2)) a w) {Q : Exit → Act → World → Prop}
    (next : ∀ a' w', Lst ops (listed.setIfInBounds it.i true) fuel (l1 ++ it :: l2) Rl → SJ C n (appR (Dn (listed.setIfInBounds it.i true)) σ0 (l1 ++ it :: l2)) a' w' → wpAny C.P .any ops Q fuel (listed.setIfInBounds it.i true) a' w') :
    wpOp C.P ops Q it.i (wpAny C.P .any ops Q fuel (listed.setIfInBounds it.i true)) a w := by
  obtain ⟨hi, hDi, hedg⟩ := (ready_mem hL.sz).1 hr
  have hil : it.i < listed.size := by rw [hL.sz]; exact hi
  have hG2 := hG.split
  have hL' : Lst ops (listed.setIfInBounds it.i true) fuel (l1 ++ it :: l2) Rl := hL.next hr (fun j hj => by
    rcases hj with hj | hj
    · exact hj
    · rw [hj]; exact List.mem_map.2 ⟨it, by simp, rfl⟩) (fun j hj => .inl hj)
  have later : ∀ b ∈ l1, confB ops n it b = true → Dn listed b.i = false := by
    intro b hb hc
    cases hd : Dn listed b.i with
    | false => rfl
    | true =>
      have := hL.clo hcl hd ((hG.waits b hb).1 hc)
      rw [hDi] at this
      cases this
  have earlier : ∀ b ∈ l2, confB ops n b it = true → Dn listed b.i = true := by
    intro b hb hc
    have h1 := hL'.clo hcl (j := it.i) (i := b.i) (by rw [set_Dn hil]; simp) ((hG2.waits2 b hb).1 hc)
    rw [set_Dn hil] at h1
    have hb' : Nat.beq b.i it.i = false := by cases hb' : Nat.beq b.i it.i; rfl; exact absurd (Nat.eq_of_beq_eq_true hb') (hG2.waits2 b hb).2
    rwa [hb', Bool.or_false] at h1
  have memInfo := hG.mem
  obtain ⟨hspec, hnwall, _, ho, hwk, hnw, _⟩ := hG2
  have hlj : LJ C n ops it.o (appR (fun _ => true) σ0 l2) it.s it.rd := by
    rcases hspec with h | h
    · have := hL.rl it.i h
      rw [hDi] at this
      cases this
    · exact h
  have view : ∀ {α : Type} (g : St → α), (∀ b ∈ l1 ++ it :: l2, ∀ τ τ' : St, g τ = g τ' → g (τ.app b.o.dst b.s) = g (τ'.app b.o.dst b.s)) → (∀ b ∈ l1, confB ops n it b = true ∨ ∀ τ : St, g (τ.app b.o.dst b.s) = g τ) → (∀ b ∈ l2, confB ops n b it = true ∨ ∀ τ : St, g (τ.app b.o.dst b.s) = g τ) →
      g (appR (Dn listed) σ0 (l1 ++ it :: l2)) = g (appR (fun _ => true) σ0 l2) := by
    intro α g h0 h1 h2
    rw [appR_late g (Dn listed) l1 (fun b hb => (h1 b hb).imp (later b hb) id)]
    have : g (appR (Dn listed) σ0 (it :: l2)) = g (appR (Dn listed) σ0 l2) := by simp only [appR, hDi, cond_false]
    rw [this]
    exact appR_eq g _ _ l2 (fun b hb => (h2 b hb).imp (fun hc => earlier b hb hc) id) (fun b hb => h0 b (by simp [hb]))
  have agr : Agr n ops it.o (appR (fun _ => true) σ0 l2) (appR (Dn listed) σ0 (l1 ++ it :: l2)) it.s it.rd := by
    have slot : ∀ t, t ∈ namesOf ops n it.o → (appR (Dn listed) σ0 (l1 ++ it :: l2)).sl t = (appR (fun _ => true) σ0 l2).sl t := by
      intro t ht
      refine view (fun τ => τ.sl t) (fun b _ => app_sl2 b t) (fun b _ => ?_) (fun b _ => ?_)
      · by_cases hd : b.o.dst = some t
        · exact .inl (conf_sl' hd ht)
        · exact .inr (app_sl hd)
      · by_cases hd : b.o.dst = some t
        · exact .inl (conf_sl hd ht)
        · exact .inr (app_sl hd)
    refine ⟨?_, ?_, ?_, ?_⟩
    · intro k x hx
      cases x with
      | tmp t =>
        have : t ∈ namesOf ops n it.o := by
          unfold namesOf
          refine List.mem_append_left _ (List.mem_filterMap.2 ⟨.tmp t, List.mem_of_getElem? hx, rfl⟩)
        simp only [St.ev, slot t this]
      | _ => rfl
    · intro t ht
      have : t ∈ namesOf ops n it.o := by
        unfold namesOf
        exact List.mem_append_right _ (by simp [ht])
      simp only [St.ev, slot t this]
    · intro k q hq
      have hmem : q ∈ it.rd := List.mem_of_getElem? hq
      refine view (fun τ => τ.ob q) (fun b _ => app_ob2 b q) (fun b hb => ?_) (fun b hb => ?_)
      · by_cases hd : q ∈ b.s.wr.map (·.1)
        · exact .inl (conf_ob' (by rw [← (memInfo b (by simp [hb])).2.1]; exact hd) hmem)
        · exact .inr (app_ob hd)
      · by_cases hd : q ∈ b.s.wr.map (·.1)
        · exact .inl (conf_ob (by rw [← (memInfo b (by simp [hb])).2.1]; exact hd) hmem)
        · exact .inr (app_ob hd)
    · intro k q hq
      have hmem : q ∈ it.nw := by rw [← hnw]; exact List.mem_of_getElem? hq
      have h1 := List.all_eq_true.1 hnwall q hmem
      have := view (fun τ => τ.av q) (fun b _ => app_av2 b q) (fun b hb => ?_) (fun b hb => ?_)
      · exact this.trans h1
      · by_cases hd : q ∈ b.s.nw
        · exact .inl (conf_nw hmem (by rw [← (memInfo b (by simp [hb])).2.2]; exact hd))
        · exact .inr (app_av hd)
      · by_cases hd : q ∈ b.s.nw
        · exact .inl (conf_nw (by rw [← (memInfo b (by simp [hb])).2.2]; exact hd) hmem)
        · exact .inr (app_av hd)
  have hx := hlj _ agr
  have ins : appR (Dn (listed.setIfInBounds it.i true)) σ0 (l1 ++ it :: l2) = (appR (Dn listed) σ0 (l1 ++ it :: l2)).app it.o.dst it.s := by
    have e : Dn (listed.setIfInBounds it.i true) = fun j => Dn listed j || Nat.beq j it.i := funext (set_Dn hil)
    rw [e]
    refine appR_ins (n := n) (ops := ops) hDi hwk (fun b hb => ?_) l1 (fun b hb => ⟨(hG.waits b hb).2, (memInfo b (by simp [hb])).2.1, fun hd => ?_⟩)
    · exact (hG.split.waits2 b hb).2
    · cases hc : confB ops n it b with
      | false => rfl
      | true => rw [later b hb hc] at hd; cases hd
  have next' : ∀ a' w', SJ C n ((appR (Dn listed) σ0 (l1 ++ it :: l2)).app it.o.dst it.s) a' w' → wpAny C.P .any ops Q fuel (listed.setIfInBounds it.i true) a' w' := fun a' w' h => next a' w' hL' (by rw [ins]; exact h)
  unfold wpOp
  rw [ho]
  simp only
  cases hg : it.o.guard with
  | none =>
    rw [hg] at hx
    simp only [Region.wanted, hg, if_true]
    refine .inl (Oper.wp_mono ?_ (hx a w _ hsj))
    rintro a' w' ⟨σ', rfl, hsj'⟩
    exact next' a' w' hsj'
  | some jw =>
    obtain ⟨j, want⟩ := jw
    rw [hg] at hx
    obtain ⟨b, hb, h1, h2⟩ := hx
    obtain ⟨m, R, hw⟩ := hsj
    have hy := yielded_of hw hb
    simp only [Region.wanted, hg, hy]
    by_cases hbw : b = some want
    · subst hbw
      simp only [beq_self_eq_true, if_true]
      refine .inl (Oper.wp_mono ?_ (h1 rfl a w _ ⟨m, R, hw⟩))
      rintro a' w' ⟨σ', rfl, hsj'⟩
      exact next' a' w' hsj'
    · have : (b == some want) = false := by simpa using hbw
      simp only [this, Bool.false_eq_true, if_false]
      refine next' _ _ ?_
      rw [h2 hbw, St.app_pure]
      exact ⟨m, R, hw.put it.o.dst (und_rel _ _ _ _)⟩
theorem DL.sound {cl : List (List Nat)} (hcl : cloL ops.toList [] = cl) (hedge : edgesOk 0 ops.toList = true) (σ0 : St) (K : St → Prop) (Q : Exit → Act → World → Prop) (hQ : ∀ a w, (∃ σ', K σ' ∧ SJ C n σ' a w) → Q .normal a w) :
    ∀ (is : List Nat) (acc : List It) (Rl : List Nat), DL C n ops cl is acc K (appR (fun _ => true) σ0 acc) → Good C n ops cl σ0 Rl acc →
      ∀ fuel listed a w, Lst ops listed fuel acc Rl → SJ C n (appR (Dn listed) σ0 acc) a w → wpAny C.P .any ops Q fuel listed a w := by
  intro is
  induction is with
  | nil =>
    intro acc Rl hD hG fuel
    obtain ⟨hcov, hK⟩ := hD
    have all_in : ∀ i, i < ops.size → ∃ l1 it l2, acc = l1 ++ it :: l2 ∧ it.i = i := by
      intro i hi
      have := inL_iff.1 (List.all_eq_true.1 hcov i (by simpa using hi))
      obtain ⟨it, hm, rfl⟩ := List.mem_map.1 this
      obtain ⟨l1, l2, e⟩ := List.append_of_mem hm
      exact ⟨l1, it, l2, e, rfl⟩
    have done : ∀ listed a w, (∀ i, i < ops.size → Dn listed i = true) → SJ C n (appR (Dn listed) σ0 acc) a w → Q .normal a w := by
      intro listed a w hall hsj
      refine hQ a w ⟨_, hK, ?_⟩
      have e : appR (Dn listed) σ0 acc = appR (fun _ => true) σ0 acc := by
        refine appR_eq (σ0 := σ0) (fun τ => τ) (Dn listed) (fun _ => true) acc (fun b hb => .inl (hall b.i ?_)) (fun b _ τ τ' h => by rw [h])
        exact (Array.getElem?_eq_some_iff.1 (hG.mem b hb).1).1
      rw [← e]
      exact hsj
    induction fuel with
    | zero =>
      intro listed a w hL hsj
      obtain ⟨us, hu1, hu2⟩ := hL.fuel
      have hall : ∀ i, i < ops.size → Dn listed i = true := by
        intro i hi
        cases hb : Dn listed i with
        | true => rfl
        | false =>
          have h1 := hu2 i hi hb
          have h2 : us = [] := List.eq_nil_of_length_eq_zero (by omega)
          rw [h2] at h1
          simp at h1
      refine ⟨?_, done listed a w hall hsj⟩
      apply List.eq_nil_iff_forall_not_mem.2
      intro i hi
      have := (ready_mem hL.sz).1 hi
      rw [hall i this.1] at this
      simp at this
    | succ fuel ih =>
      intro listed a w hL hsj
      refine ⟨fun hr => done listed a w (none_ready hedge hL.sz hr) hsj, ?_⟩
      intro i hir
      obtain ⟨l1, it, l2, rfl, rfl⟩ := all_in i ((ready_mem hL.sz).1 hir).1
      exact known_step hcl hG hL hir hsj (fun a' w' h1 h2 => ih _ a' w' h1 h2)
  | cons i is ih =>
    intro acc Rl hD hG
    obtain ⟨o, ho, hD | hD⟩ := hD
    · obtain ⟨s, rd, hlj, hnw, hnew, hD⟩ := hD
      intro fuel listed a w hL hsj
      have hni : Dn listed i = false := by
        cases hb : Dn listed i with
        | false => rfl
        | true =>
          obtain ⟨b, hm, e⟩ := List.mem_map.1 (hL.sub i hb)
          simp only [newOk, Bool.and_eq_true] at hnew
          have := List.all_eq_true.1 hnew.2 b hm
          simp [e] at this
      have hap : appR (fun _ => true) σ0 (⟨i, o, s, s.wr.map (·.1), s.nw, rd⟩ :: acc) = (appR (fun _ => true) σ0 acc).app o.dst s := rfl
      have hD' : DL C n ops cl is (⟨i, o, s, s.wr.map (·.1), s.nw, rd⟩ :: acc) K (appR (fun _ => true) σ0 (⟨i, o, s, s.wr.map (·.1), s.nw, rd⟩ :: acc)) := by rw [hap]; exact hD
      refine ih _ Rl hD' ⟨.inr hlj, hnw, hnew, ho, rfl, rfl, hG⟩ fuel listed a w ⟨hL.sz, hL.fuel, hL.cl, fun j hj => ?_, hL.rl⟩ ?_
      · simp only [List.map_cons, List.mem_cons]
        exact .inr (hL.sub j hj)
      · simpa only [appR, hni, cond_false] using hsj
    · obtain ⟨P, wk, nw, rd, hlj, hnw, hnew, hsucc, hcov, hD⟩ := hD
      have hni : ∀ {listed fuel}, Lst ops listed fuel acc Rl → Dn listed i = false := by
        intro listed fuel hL
        cases hb : Dn listed i with
        | false => rfl
        | true =>
          obtain ⟨b, hm, e⟩ := List.mem_map.1 (hL.sub i hb)
          simp only [newOk, Bool.and_eq_true] at hnew
          have := List.all_eq_true.1 hnew.2 b hm
          simp [e] at this
      have hisz : i < ops.size := (Array.getElem?_eq_some_iff.1 ho).1
      intro fuel
      induction fuel with
      | zero =>
        intro listed a w hL hsj
        obtain ⟨us, hu1, hu2⟩ := hL.fuel
        have h1 := hu2 i hisz (hni hL)
        have h2 : us = [] := List.eq_nil_of_length_eq_zero (by omega)
        rw [h2] at h1
        simp at h1
      | succ fuel ihf =>
        intro listed a w hL hsj
        refine ⟨fun hr => ?_, ?_⟩
        · have := none_ready hedge hL.sz hr i hisz
          rw [hni hL] at this
          cases this
        · intro j hjr
          obtain ⟨hj, hDj, hedgj⟩ := (ready_mem hL.sz).1 hjr
          by_cases e : j = i
          · -- the operation itself
            subst e
            have hil : j < listed.size := by rw [hL.sz]; exact hj
            have agr : Agr n ops o (appR (fun _ => true) σ0 acc) (appR (Dn listed) σ0 acc) ⟨.pv .any, [], nw⟩ rd := by
              have hIt : ∀ (s : OS), s.wr.map (·.1) = wk → s.nw = nw → ∀ b ∈ acc, confB ops n b ⟨j, o, s, wk, nw, rd⟩ = true → Dn listed b.i = true := by
                intro s _ _ b hb hc
                simp only [newOk, Bool.and_eq_true] at hnew
                have h1 := List.all_eq_true.1 hnew.1 b hb
                have hc' : confB ops n b ⟨j, o, ⟨.pv .any, [], []⟩, wk, nw, rd⟩ = true := hc
                rw [hc'] at h1
                have hmem := inL_iff.1 (by simpa using h1 : inL b.i ((cl[j]?).getD []) = true)
                have hL' : Lst ops (listed.setIfInBounds j true) fuel (⟨j, o, s, wk, nw, rd⟩ :: acc) Rl := hL.next hjr (fun k hk => by simp only [List.map_cons, List.mem_cons]; exact hk.symm) (fun k hk => .inl hk)
                have h2 := hL'.clo hcl (j := j) (i := b.i) (by rw [set_Dn hil]; simp) hmem
                rw [set_Dn hil] at h2
                have h3 := List.all_eq_true.1 hnew.2 b hb
                have hb' : Nat.beq b.i j = false := by simpa using h3
                rwa [hb', Bool.or_false] at h2
              have view : ∀ {α : Type} (g : St → α), (∀ b ∈ acc, ∀ τ τ' : St, g τ = g τ' → g (τ.app b.o.dst b.s) = g (τ'.app b.o.dst b.s)) → (∀ b ∈ acc, confB ops n b ⟨j, o, ⟨.pv .any, [], []⟩, wk, nw, rd⟩ = true ∨ ∀ τ : St, g (τ.app b.o.dst b.s) = g τ) → g (appR (Dn listed) σ0 acc) = g (appR (fun _ => true) σ0 acc) := by
                intro α g h0 h2
                exact appR_eq g _ _ acc (fun b hb => (h2 b hb).imp (fun hc => by
                  simp only [newOk, Bool.and_eq_true] at hnew
                  have h1 := List.all_eq_true.1 hnew.1 b hb
                  rw [hc] at h1
                  have hmem := inL_iff.1 (by simpa using h1 : inL b.i ((cl[j]?).getD []) = true)
                  have hL' : Lst ops (listed.setIfInBounds j true) fuel (⟨j, o, ⟨.pv .any, [], []⟩, wk, nw, rd⟩ :: acc) Rl := hL.next hjr (fun k hk => by simp only [List.map_cons, List.mem_cons]; exact hk.symm) (fun k hk => .inl hk)
                  have h2 := hL'.clo hcl (j := j) (i := b.i) (by rw [set_Dn hil]; simp) hmem
                  rw [set_Dn hil] at h2
                  have h3 := List.all_eq_true.1 hnew.2 b hb
                  have hb' : Nat.beq b.i j = false := by simpa using h3
                  rwa [hb', Bool.or_false] at h2) id) h0
              have slot : ∀ t, t ∈ namesOf ops n o → (appR (Dn listed) σ0 acc).sl t = (appR (fun _ => true) σ0 acc).sl t := by
                intro t ht
                refine view (fun τ => τ.sl t) (fun b _ => app_sl2 b t) (fun b _ => ?_)
                by_cases hd : b.o.dst = some t
                · exact .inl (conf_sl (b := ⟨j, o, ⟨.pv .any, [], []⟩, wk, nw, rd⟩) hd ht)
                · exact .inr (app_sl hd)
              refine ⟨?_, ?_, ?_, ?_⟩
              · intro k x hx
                cases x with
                | tmp t =>
                  have : t ∈ namesOf ops n o := by
                    unfold namesOf
                    refine List.mem_append_left _ (List.mem_filterMap.2 ⟨.tmp t, List.mem_of_getElem? hx, rfl⟩)
                  simp only [St.ev, slot t this]
                | _ => rfl
              · intro t ht
                have : t ∈ namesOf ops n o := by
                  unfold namesOf
                  exact List.mem_append_right _ (by simp [ht])
                simp only [St.ev, slot t this]
              · intro k q hq
                have hmem : q ∈ rd := List.mem_of_getElem? hq
                refine view (fun τ => τ.ob q) (fun b _ => app_ob2 b q) (fun b hb => ?_)
                by_cases hd : q ∈ b.s.wr.map (·.1)
                · exact .inl (conf_ob (b := ⟨j, o, ⟨.pv .any, [], []⟩, wk, nw, rd⟩) (by rw [← (hG.mem b hb).2.1]; exact hd) hmem)
                · exact .inr (app_ob hd)
              · intro k q hq
                have hmem : q ∈ nw := List.mem_of_getElem? hq
                have h1 := List.all_eq_true.1 hnw q hmem
                refine (view (fun τ => τ.av q) (fun b _ => app_av2 b q) (fun b hb => ?_)).trans h1
                by_cases hd : q ∈ b.s.nw
                · exact .inl (conf_nw (b := ⟨j, o, ⟨.pv .any, [], []⟩, wk, nw, rd⟩) (by rw [← (hG.mem b hb).2.2]; exact hd) hmem)
                · exact .inr (app_av hd)
            obtain ⟨hg, hx⟩ := hlj _ agr
            have wop : ∀ (K' : Act → World → Prop), Oper.wp C.P o a w K' Q → wpOp C.P ops Q j K' a w := by
              intro K' hK
              unfold wpOp
              rw [ho]
              cases hgd : o.guard with
              | none =>
                simp only [Region.wanted, hgd, if_true]
                exact .inl hK
              | some jw =>
                obtain ⟨q, want⟩ := jw
                unfold gOk at hg
                rw [hgd] at hg
                obtain ⟨m, R, hw⟩ := hsj
                have hy := yielded_of hw hg
                simp only [Region.wanted, hgd, hy, beq_self_eq_true, if_true]
                exact .inl hK
            refine wop _ (Oper.wp_mono ?_ (hx a w _ hsj))
            rintro a' w' ⟨σ', ⟨s, hP, h1, h2, rfl⟩, hsj'⟩
            have hL' : Lst ops (listed.setIfInBounds j true) fuel (⟨j, o, s, wk, nw, rd⟩ :: acc) (j :: Rl) := hL.next hjr (fun k hk => by simp only [List.map_cons, List.mem_cons]; exact hk.symm) (fun k hk => by
              rcases List.mem_cons.1 hk with hk | hk
              · exact .inr hk
              · exact .inl hk)
            have hGr : ∀ {l : List It}, Good C n ops cl σ0 Rl l → Good C n ops cl σ0 (j :: Rl) l := by
              intro l
              induction l with
              | nil => intro _; trivial
              | cons b l ihl =>
                intro h
                exact ⟨h.1.imp (fun h => List.mem_cons_of_mem _ h) id, h.2.1, h.2.2.1, h.2.2.2.1, h.2.2.2.2.1, h.2.2.2.2.2.1, ihl h.2.2.2.2.2.2⟩
            have hap : appR (fun _ => true) σ0 (⟨j, o, s, wk, nw, rd⟩ :: acc) = (appR (fun _ => true) σ0 acc).app o.dst s := rfl
            have hD' : DL C n ops cl is (⟨j, o, s, wk, nw, rd⟩ :: acc) K (appR (fun _ => true) σ0 (⟨j, o, s, wk, nw, rd⟩ :: acc)) := by rw [hap]; exact hD s hP h1 h2
            refine ih _ (j :: Rl) hD' ⟨.inl (by simp), hnw, hnew, ho, h1, h2, hGr hG⟩ fuel _ a' w' hL' ?_
            have hjD : Dn (listed.setIfInBounds j true) j = true := by rw [set_Dn hil]; simp
            have same : appR (Dn (listed.setIfInBounds j true)) σ0 acc = appR (Dn listed) σ0 acc := by
              refine appR_eq (σ0 := σ0) (fun τ => τ) _ _ acc (fun b hb => .inl ?_) (fun b _ τ τ' h => by rw [h])
              rw [set_Dn hil]
              simp only [newOk, Bool.and_eq_true] at hnew
              have h3 := List.all_eq_true.1 hnew.2 b hb
              have hb' : Nat.beq b.i j = false := by simpa using h3
              rw [hb', Bool.or_false]
            simp only [appR, hjD, cond_true, same]
            exact hsj'
          · -- one of the known ones, or one that waits for it
            have hc := List.all_eq_true.1 hcov j (by simpa using hj)
            rcases (Bool.or_eq_true_iff).1 hc with hc | hc
            · exfalso
              have hc := inL_iff.1 hc
              rcases List.mem_cons.1 hc with hc | hc
              · exact e hc
              · have hin := inL_iff.1 (List.all_eq_true.1 hsucc j hc)
                have hjl : j < listed.size := by rw [hL.sz]; exact hj
                have hL' : Lst ops (listed.setIfInBounds j true) fuel (⟨j, o, ⟨.pv .any, [], []⟩, wk, nw, rd⟩ :: acc) Rl := hL.next hjr (fun k hk => by simp only [List.map_cons, List.mem_cons]; exact hk.symm) (fun k hk => .inl hk)
                have h2 := hL'.clo hcl (j := j) (i := i) (by rw [set_Dn hjl]; simp) hin
                rw [set_Dn hjl] at h2
                have hb' : Nat.beq i j = false := by cases hb' : Nat.beq i j; rfl; exact absurd (Nat.eq_of_beq_eq_true hb').symm e
                rw [hb', Bool.or_false, hni hL] at h2
                cases h2
            · obtain ⟨it, hm, rfl⟩ := List.mem_map.1 (inL_iff.1 hc)
              obtain ⟨l1, l2, rfl⟩ := List.append_of_mem hm
              exact known_step hcl hG hL hjr hsj (fun a' w' h1 h2 => ihf _ a' w' h1 h2)
/-- A region that draws its order: 'is' is an order of our own choice. -/
theorem AW.draw {id : Nat} {Q : Exit → St → Prop} {σ : St} (hm : C.P.follows .mixedOrders = true) (cl : List (List Nat)) (is : List Nat) (hcl : cloL ops.toList [] = cl) (hedge : edgesOk 0 ops.toList = true) (h : DL C n ops cl is [] (Q .normal) σ) : AW C n (.region id ops true) Q σ := by
  refine ⟨fun a w hsj => wp_region_any hm ?_⟩
  refine DL.sound (C := C) (n := n) hcl hedge σ (Q .normal) _ (fun a w h => h) is [] [] h trivial ops.size _ a _ ⟨by simp, ⟨List.range ops.size, by simp, fun i hi _ => by simpa using hi⟩, ?_, ?_, by simp⟩ ?_
  · intro j o _ hj
    exfalso
    simp only [Dn, Array.getD_eq_getD_getElem?, Array.getElem?_replicate] at hj
    split at hj <;> simp at hj
  · intro j hj
    exfalso
    simp only [Dn, Array.getD_eq_getD_getElem?, Array.getElem?_replicate] at hj
    split at hj <;> simp at hj
  · obtain ⟨m, R, hw⟩ := hsj
    exact ⟨m, R, hw.drew rfl rfl rfl rfl⟩
end
end Go.Proofs.YtopjkdddicgajaaGreatDoor
namespace Go.Proofs.YtopjkdddicgajaaGreatDoor
open Go.RowKit
/-- n cells of zero values. -/
def mkZ (zs : List PV) (n : Nat) : List PV := (List.range n).map fun i => zs.getD (i % zs.length) .any
theorem mkZ_one (z : PV) (n : Nat) : mkZ [z] n = List.replicate n z := by
  unfold mkZ
  apply List.ext_getElem
  · simp
  · intro i h1 h2
    simp [Nat.mod_one]
/-- Parts put into their places. -/
def fillV (place : Nat → Option (Nat × Nat)) (ob : Nat → Option Ob) (cells : List V) : List (Nat × V) → Option (List V)
  | [] => some cells
  | (i, v) :: rest => match place i with
    | none => none
    | some (off, size) => bif (Nat.beq v.cells.length size && Nat.ble (off + size) cells.length && v.cells.all (fun c => c.leaf && c.liveB ob) && v.liveB ob) then fillV place ob (setL cells off v.cells) rest else none
def placeL (l : List (Nat × Nat)) (i : Nat) : Option (Nat × Nat) := l[i]?
/-- Where the fields of a struct lie. -/
def placesOf (P : Program) (t : TypeId) : Option (List (Nat × Nat)) :=
  match P.underlying t with
  | some (.struct fs) => fs.toList.mapM fun f => (P.info? f.type).map fun i => (f.offset, i.size)
  | _ => none
theorem foldl_setL (off : Nat) : ∀ (vs : List Value) (arr : Array Value) (k : Nat), off + k + vs.length ≤ arr.size →
    ((vs.zipIdx k).foldl (fun cs (x : Value × Nat) => cs.setIfInBounds (off + x.2) x.1) arr).toList = setL arr.toList (off + k) vs
  | [], arr, k, _ => by simp [setL]
  | v :: vs, arr, k, h => by
    simp only [List.length_cons] at h
    simp only [List.zipIdx_cons, List.foldl_cons]
    rw [foldl_setL off vs _ (k + 1) (by simp; omega)]
    simp only [setL, Array.toList_setIfInBounds, List.length_cons]
    apply List.ext_getElem?
    intro i
    simp only [List.getElem?_append, List.length_append, List.length_take, List.length_set, Array.length_toList, List.getElem?_take, List.getElem?_drop, List.length_cons]
    have e1 : min (off + k) arr.size = off + k := by omega
    have e2 : min (off + (k + 1)) arr.size = off + k + 1 := by omega
    simp only [e1, e2]
    by_cases a : i < off + k
    · rw [if_pos (by omega), if_pos (by omega), if_pos (by omega), if_pos (by omega), if_pos a, if_pos a]
      rw [List.getElem?_set_ne (by omega)]
    · by_cases b : i = off + k
      · subst b
        rw [if_pos (by omega), if_pos (by omega), if_pos (by omega), if_pos (by omega), if_neg (by omega)]
        rw [List.getElem?_set_self (by simp; omega)]
        simp
      · by_cases c : i < off + k + (vs.length + 1)
        · rw [if_pos (by omega), if_neg (by omega), if_pos (by omega), if_neg (by omega)]
          have : i - (off + k) = (i - (off + k + 1)) + 1 := by omega
          rw [this, List.getElem?_cons_succ]
        · rw [if_neg (by omega), if_neg (by omega)]
          rw [List.getElem?_set_ne (by omega)]
          congr 1
          omega
section
variable {C : Ctx} {n : Nat} {σ : St} {a : Act} {w : World} {m : Gm} {R : Nat → Prop}
theorem SW.cellsOf (hw : SW C n σ a w m R) {v : V} {u : Value} (hrel : Rel w m σ.av R v u) (hl : v.cells.all (fun c => c.leaf && c.liveB σ.ob) = true) (hlv : v.liveB σ.ob = true) :
    RelL w m σ.av R v.cells u.cells.toList ∧ ∀ c ∈ u.cells.toList, c.oneCell' = true := by
  have live : ∀ i, liveO (σ.ob i) = true → (m i).isSome = true := fun i hi => by rw [hw.hr.dom]; exact hi
  have hl' : ∀ c ∈ v.cells, c.leaf = true ∧ c.liveB σ.ob = true := by simpa using hl
  have hc := hrel.cells (fun c hc => (hl' c hc).1) (fun i o e => live _ (by rw [e] at hlv; exact hlv)) (fun i s k e => live _ (by rw [e] at hlv; exact hlv)) (fun i e => live _ (by rw [e] at hlv; exact hlv))
  exact ⟨hc, leaf_cells hc (fun c hc => (hl' c hc).1) (fun c hc i o e => live _ (by have := (hl' c hc).2; rw [e] at this; exact this)) (fun c hc i s k e => live _ (by have := (hl' c hc).2; rw [e] at this; exact this)) (fun c hc i e => live _ (by have := (hl' c hc).2; rw [e] at this; exact this))⟩
theorem SW.fill (hw : SW C n σ a w m R) (place : Nat → Option (Nat × Nat)) : ∀ (ps : List (Nat × Operand)) (cells cs' : List V) (arr : Array Value), RelL w m σ.av R cells arr.toList →
    fillV place σ.ob cells (ps.map fun p => (p.1, σ.ev n p.2)) = some cs' → ∃ arr', Instr.fill place arr (ps.map fun p => (p.1, a.eval p.2)) = some arr' ∧ RelL w m σ.av R cs' arr'.toList
  | [], cells, cs', arr, hr, h => by
    simp only [List.map_nil, fillV, Option.some.injEq] at h
    subst h
    exact ⟨arr, rfl, hr⟩
  | (i, x) :: ps, cells, cs', arr, hr, h => by
    simp only [List.map_cons, fillV] at h
    split at h
    · cases h
    · rename_i off size hp
      rw [Bool.cond_eq_ite] at h
      split at h
      · rename_i hc
        simp only [Bool.and_eq_true] at hc
        obtain ⟨⟨⟨h1, h2⟩, h3⟩, h4⟩ := hc
        have h1 := Nat.eq_of_beq_eq_true h1
        have h2 := Nat.le_of_ble_eq_true h2
        obtain ⟨hcl, _⟩ := hw.cellsOf (hw.ev x) h3 h4
        have hl := hcl.length
        have hal := hr.length
        simp only [Array.length_toList] at hl hal
        have hset := foldl_setL off (a.eval x).cells.toList arr 0 (by simp; omega)
        simp only [Nat.add_zero] at hset
        obtain ⟨arr', hf, hr'⟩ := SW.fill hw place ps _ cs' (((a.eval x).cells.toList.zipIdx 0).foldl (fun cs (x : Value × Nat) => cs.setIfInBounds (off + x.2) x.1) arr) (by rw [hset]; exact hr.setL off hcl) h
        refine ⟨arr', ?_, hr'⟩
        simp only [List.map_cons, Instr.fill, hp]
        have hcond : ((a.eval x).cells.size ≠ size || off + (a.eval x).cells.size > arr.size) = false := by
          simp only [Bool.or_eq_false_iff, decide_eq_false_iff_not]
          exact ⟨by simp; omega, by omega⟩
        rw [hcond]
        simp only [Bool.false_eq_true, if_false]
        have : (a.eval x).cells.zipIdx.foldl (fun cs (x : Value × Nat) => cs.setIfInBounds (off + x.2) x.1) arr = ((a.eval x).cells.toList.zipIdx 0).foldl (fun cs (x : Value × Nat) => cs.setIfInBounds (off + x.2) x.1) arr := by
          rw [← Array.foldl_toList]; simp
        exact this ▸ hf
      · cases h
end
section
variable {C : Ctx} {n : Nat} {σ : St} {dst : Option Tmp} {ty t t' : TypeId} {ts : Array TypeId} {pos : String} {after : Array Edge} {gd : Option (Nat × Bool)} {x y : Operand}
theorem xj_moveE {v : V} (hx : σ.ev n x = v) : XJ C n ⟨dst, .move x, ty, pos, after, gd⟩ σ ⟨v, [], []⟩ := hx ▸ xj_move
theorem xj_assignE {v : V} (hx : σ.ev n x = v) : XJ C n ⟨dst, .assign x, ty, pos, after, gd⟩ σ ⟨v, [], []⟩ := hx ▸ xj_assign
theorem xj_nilCheck {id off : Nat} {o : Ob} (hx : σ.ev n x = .ptr id off) (ho : σ.ob id = some o) (hre : o.real = true := by rfl) : XJ C n ⟨dst, .nilCheck x, ty, pos, after, gd⟩ σ ⟨.ptr id off, [], []⟩ :=
  .val fun a w m R hw => by
    obtain ⟨b, N, he, hm, _⟩ := hw.ptr hx ho hre
    have hx' := hw.ev x
    rw [hx] at hx'
    exact ⟨a.eval x, by simp [execOp, he], hx'⟩
theorem xj_nilCheckR {off : Nat} {cs : List PV} (hx : σ.ev n x = .pv (.rp cs off)) : XJ C n ⟨dst, .nilCheck x, ty, pos, after, gd⟩ σ ⟨.pv (.rp cs off), [], []⟩ :=
  .val fun a w m R hw => by
    have hx' := hw.pv hx
    have h2 := hx'
    simp only [RelP] at h2
    obtain ⟨b, o, us, he, _⟩ := h2
    exact ⟨a.eval x, by simp [execOp, he], by simpa only [Rel] using hx'⟩
/-- make. -/
theorem xj_make {e : TypeId} {T : TypeId} {z : Value} {size bytes : Nat} {kl kc : IntKind} {il ic : Int} {zs : List PV} (id k : Nat) (he : ElemIs C.P T e z size bytes) (hzs : z.cells.toList.map leafC = zs) (hx : σ.ev n x = .pv (.int kl il)) (hy : σ.ev n y = .pv (.int kc ic)) (hil : il = (k : Int)) (hic : ic = (k : Int)) (hk : k ≤ 1000000000) (hid : σ.av id = true) :
    XJ C n ⟨dst, .makeSlice T x y, ty, pos, after, gd⟩ σ ⟨.osl id size k, [(id, some (.cells e (mkZ zs (k * size))))], [id]⟩ := by
  subst hil hic
  rintro a w Q ⟨m, R, hw⟩
  obtain ⟨i, hi, hz, hsize, hbytes⟩ := info_parts he.info
  have hb1 : (i.bytes : Int) * (k : Int) ≤ 281474976710656 := by
    have h2 : bytes * k ≤ 1000 * 1000000000 := Nat.mul_le_mul he.by_ hk
    rw [hbytes]
    have h3 : ((bytes * k : Nat) : Int) ≤ ((1000 * 1000000000 : Nat) : Int) := Int.ofNat_le.2 h2
    rw [Int.natCast_mul] at h3
    omega
  have hrun := run_make (P := C.P) w T e i z he.u hi hz kl kc k k (by omega) (Int.le_refl _) hb1 (by omega)
  simp only [Int.toNat_natCast, hsize] at hrun
  have hrun' : (execOp a.eval ⟨dst, .makeSlice T x y, ty, pos, after, gd⟩).run C.P w = .ok (.value (.slice (some ⟨w.heap.size, 0, none⟩) k k)) (w.alloc (.cells (madeCells z.cells (k * size)) e)) := by
    simp only [execOp, hw.int hx, hw.int hy, Sem.run_bind, hrun, Result.andThen_ok, Sem.run_pure]
  unfold Oper.wp
  rw [hrun']
  have hsz : (madeCells z.cells (k * size)).size = k * size := size_madeCells _ _
  refine ⟨_, rfl, upd m id (some (w.heap.size, (madeCells z.cells (k * size)).size)), R, ?_⟩
  rw [St.app_new]
  refine SW.put (hw.alloc hid _ e (.cells e (mkZ zs (k * size))) ?_) dst ?_
  · intro w' m' av' hR hm ha hb
    have hl : (mkZ zs (k * size)).length = k * size := by simp [mkZ]
    refine ⟨_, hb, rfl, by rw [hl, hsz]; exact Nat.le_refl _, ?_⟩
    rw [List.take_of_length_le (by rw [hl]; simp [hsz])]
    have hzl : zs.length = z.cells.size := by rw [← hzs]; simp
    have gen : ∀ l : List Nat, (∀ j ∈ l, True) → RelPL w' R (l.map fun i => zs.getD (i % zs.length) .any) (l.map fun i => z.cells[i % z.cells.size]!) := by
      intro l
      induction l with
      | nil => intro _; simpa using RelPL.nil
      | cons j l ih =>
        intro _
        simp only [List.map_cons]
        refine RelPL.cons ?_ (ih (fun _ _ => trivial))
        have hpos : 0 < z.cells.size := by rw [he.zs]; exact he.pos
        have hlt : j % z.cells.size < z.cells.size := Nat.mod_lt _ hpos
        rw [hzl, ← hzs]
        have e1 : (z.cells.toList.map leafC).getD (j % z.cells.size) .any = leafC (z.cells[j % z.cells.size]!) := by
          simp [List.getD_eq_getElem?_getD, hlt]
        rw [e1]
        exact leafC_rel w' R _
    have := gen (List.range (k * size)) (fun _ _ => trivial)
    simpa [mkZ, madeCells] using this
  · simp only [Rel]
    refine ⟨by simp [avL], fun b N e => ?_⟩
    rw [upd_same] at e
    cases e
    exact ⟨k, rfl, Nat.le_refl _, by simp only [maxLen]; omega, hsz⟩
/-- What a struct or array value is made of. -/
structure BuiltIs (P : Program) (T : TypeId) (zs : List PV) (place : Nat → Option (Nat × Nat)) : Prop where
  go : ∃ z : Value, z.cells.toList.map leafC = zs ∧ ∀ parts, P.built T parts = Instr.fill place z.cells parts
theorem BuiltIs.struct {P : Program} {T : TypeId} {z : Value} {zs : List PV} {pl : List (Nat × Nat)} (hz : (P.info? T).map (·.zero) = some (some z)) (hzs : z.cells.toList.map leafC = zs) (hp : placesOf P T = some pl) : BuiltIs P T zs (placeL pl) := by
  refine ⟨z, hzs, fun parts => ?_⟩
  unfold placesOf at hp
  split at hp
  · rename_i fs hu
    cases hq : P.info? T with
    | none => simp [hq] at hz
    | some ti =>
      simp [hq] at hz
      have hfun : (fun i => pl.toArray[i]?) = placeL pl := by funext i; simp [placeL]
      unfold Program.built
      simp only [hq, hu, hz, hp, hfun]
  · cases hp
theorem BuiltIs.array {P : Program} {T e : TypeId} {k s : Nat} {z : Value} {zs : List PV} (hu : P.underlying T = some (.array k e)) (hz : (P.info? T).map (·.zero) = some (some z)) (hzs : z.cells.toList.map leafC = zs) (hs : szIs P e s) : BuiltIs P T zs (fun i => some (i * s, s)) := by
  refine ⟨z, hzs, fun parts => ?_⟩
  cases hq : P.info? T with
  | none => simp [hq] at hz
  | some ti =>
    simp [hq] at hz
    unfold szIs at hs
    cases he : P.info? e with
    | none => simp [he] at hs
    | some ei =>
      simp [he] at hs
      unfold Program.built
      simp only [hq, hu, hz, he, hs]
theorem zero_rel {w : World} {R : Nat → Prop} {z : Value} {zs : List PV} (hzs : z.cells.toList.map leafC = zs) : RelPL w R zs z.cells.toList := by
  rw [← hzs]
  generalize z.cells.toList = l
  induction l with
  | nil => simpa using RelPL.nil
  | cons x l ih => simpa using RelPL.cons (leafC_rel w R x) ih
theorem xj_build {T : TypeId} {parts : Array (Nat × Operand)} {zs : List PV} {place : Nat → Option (Nat × Nat)} {cs' : List V} (hb : BuiltIs C.P T zs place)
    (hf : fillV place σ.ob (zs.map .pv) (parts.toList.map fun p => (p.1, σ.ev n p.2)) = some cs') :
    XJ C n ⟨dst, .build T parts, ty, pos, after, gd⟩ σ ⟨.agg cs', [], []⟩ :=
  .val fun a w m R hw => by
    obtain ⟨z, hzs, hb⟩ := hb.go
    obtain ⟨arr', hfill, hr'⟩ := hw.fill place parts.toList _ cs' z.cells (RelL.ofP (zero_rel hzs)) hf
    have hparts : (parts.map fun x => (x.1, a.eval x.2)).toList = parts.toList.map fun p => (p.1, a.eval p.2) := by simp
    have hrun := run_build (P := C.P) w T (parts.map fun x => (x.1, a.eval x.2)) arr' (by rw [hb, hparts]; exact hfill)
    refine ⟨.agg arr', ?_, ?_⟩
    · simp only [execOp, Sem.run_bind, hrun, Result.andThen_ok, Sem.run_pure]
    · simp only [Rel]
      exact ⟨arr'.toList, by simp, hr'⟩
/-- Plain values, all of them. -/
def V.pvs : List V → Option (List PV)
  | [] => some []
  | .pv p :: vs => match V.pvs vs with | some ps => some (p :: ps) | none => none
  | _ :: _ => none
theorem V.pvs_eq : ∀ {vs : List V} {ps : List PV}, V.pvs vs = some ps → vs = ps.map .pv
  | [], ps, h => by simp only [V.pvs, Option.some.injEq] at h; subst h; rfl
  | .pv p :: vs, ps, h => by
    simp only [V.pvs] at h
    split at h
    · rename_i qs hq
      simp at h
      subst h
      simp [V.pvs_eq hq]
    · cases h
  | .ptr _ _ :: _, _, h => by simp [V.pvs] at h
  | .osl _ _ _ :: _, _, h => by simp [V.pvs] at h
  | .gsl _ _ _ :: _, _, h => by simp [V.pvs] at h
  | .map _ :: _, _, h => by simp [V.pvs] at h
  | .agg _ :: _, _, h => by simp [V.pvs] at h
  | .tup _ :: _, _, h => by simp [V.pvs] at h
  | .fn _ _ _ :: _, _, h => by simp [V.pvs] at h
/-- A slice literal. -/
theorem xj_buildSlice {T e : TypeId} {z : Value} {size bytes k : Nat} {zs : List PV} {parts : Array (Nat × Operand)} {cs : List PV} (id : Nat) (he : ElemIs C.P T e z size bytes) (hzs : z.cells.toList.map leafC = zs) (hk : 0 < k) (hk2 : k * size ≤ 16777216) (hid : σ.av id = true)
    {vs : List V} (hf : fillV (fun i => some (i * size, size)) σ.ob ((mkZ zs (k * size)).map .pv) (parts.toList.map fun p => (p.1, σ.ev n p.2)) = some vs) (hvs : V.pvs vs = some cs) :
    XJ C n ⟨dst, .buildSlice T k parts, ty, pos, after, gd⟩ σ ⟨.osl id size k, [(id, some (.cells e cs))], [id]⟩ := by
  rintro a w Q ⟨m, R, hw⟩
  obtain rfl := V.pvs_eq hvs
  obtain ⟨i, hi, hz, hsize, hbytes⟩ := info_parts he.info
  have hzl : zs.length = z.cells.size := by rw [← hzs]; simp
  have gen : ∀ l : List Nat, RelPL w R (l.map fun i => zs.getD (i % zs.length) .any) (l.map fun i => z.cells[i % z.cells.size]!) := by
    intro l
    induction l with
    | nil => simpa using RelPL.nil
    | cons j l ih =>
      simp only [List.map_cons]
      refine RelPL.cons ?_ ih
      have hpos : 0 < z.cells.size := by rw [he.zs]; exact he.pos
      have hlt : j % z.cells.size < z.cells.size := Nat.mod_lt _ hpos
      rw [hzl, ← hzs]
      have e1 : (z.cells.toList.map leafC).getD (j % z.cells.size) .any = leafC (z.cells[j % z.cells.size]!) := by
        simp [List.getD_eq_getElem?_getD, hlt]
      rw [e1]
      exact leafC_rel w R _
  have h0 : RelPL w R (mkZ zs (k * size)) ((Array.range (k * size)).map (z.cells[· % z.cells.size]!)).toList := by
    have := gen (List.range (k * size))
    simpa [mkZ] using this
  obtain ⟨arr', hfill, hr'⟩ := hw.fill (fun i => some (i * size, size)) parts.toList _ _ _ (RelL.ofP h0) hf
  have hr2 := hr'.toP
  have hparts : (parts.map fun x => (x.1, a.eval x.2)).toList = parts.toList.map fun p => (p.1, a.eval p.2) := by simp
  have hpos : 0 < k * size := Nat.mul_pos hk he.pos
  have hrun := run_buildSlice (P := C.P) w T e k (parts.map fun x => (x.1, a.eval x.2)) arr' i z he.u hi hz (by rw [hsize]; omega) (by rw [hsize]; omega) (by rw [hparts, hsize]; exact hfill)
  have hcl : cs.length = k * size := by
    have : ∀ (l : List (Nat × V)) (cells cs' : List V), fillV (fun i => some (i * size, size)) σ.ob cells l = some cs' → cs'.length = cells.length := by
      intro l
      induction l with
      | nil => intro cells cs' h; simp only [fillV, Option.some.injEq] at h; rw [h]
      | cons p l ih =>
        obtain ⟨q, v⟩ := p
        intro cells cs' h
        simp only [fillV] at h
        rw [Bool.cond_eq_ite] at h
        split at h
        · rename_i hc
          simp only [Bool.and_eq_true] at hc
          rw [ih _ _ h, setL_length]
          have h1 := Nat.eq_of_beq_eq_true hc.1.1.1
          have h2 := Nat.le_of_ble_eq_true hc.1.1.2
          omega
        · cases h
    have := this _ _ _ hf
    simpa [mkZ] using this
  have hrun' : (execOp a.eval ⟨dst, .buildSlice T k parts, ty, pos, after, gd⟩).run C.P w = .ok (.value (.slice (some ⟨w.heap.size, 0, none⟩) k k)) (w.alloc (.cells arr' e)) := by
    simp only [execOp, Sem.run_bind, hrun, Result.andThen_ok, Sem.run_pure]
  unfold Oper.wp
  rw [hrun']
  have hsz : arr'.size = k * size := by have := hr2.length; simp at this; omega
  refine ⟨_, rfl, upd m id (some (w.heap.size, arr'.size)), R, ?_⟩
  rw [St.app_new]
  refine SW.put (hw.alloc hid _ e (.cells e cs) ?_) dst ?_
  · intro w' m' av' hR hm ha hb
    refine ⟨_, hb, rfl, by omega, ?_⟩
    rw [List.take_of_length_le (by simp; omega)]
    exact hr2.mono hR
  · simp only [Rel]
    refine ⟨by simp [avL], fun b N e => ?_⟩
    rw [upd_same] at e
    cases e
    have : k ≤ k * size := Nat.le_mul_of_pos_right k he.pos
    exact ⟨k, rfl, Nat.le_refl _, by simp only [maxLen]; omega, hsz⟩
theorem xj_makeFunc {f : Fn} {fs cs : Array Operand} : XJ C n ⟨dst, .makeFunc f fs cs, ty, pos, after, gd⟩ σ ⟨.fn f (fs.toList.map (σ.ev n)) (cs.toList.map (σ.ev n)), [], []⟩ :=
  .val fun a w m R hw => by
    refine ⟨.func f (fs.map a.eval) (cs.map a.eval), by simp [execOp, Instr.makeFunc], ?_⟩
    simp only [Rel]
    exact ⟨_, _, by simp only [← Array.toList_map, Array.toArray_toList], hw.evs fs.toList, hw.evs cs.toList⟩
end
/-- Values built in a region that draws: parts of plain values. -/
def V.plain : V → Bool
  | .pv _ => true
  | _ => false
theorem liveB_plain {ob ob' : Nat → Option Ob} : ∀ {v : V}, v.plain = true → v.liveB ob = v.liveB ob'
  | .pv _, _ => rfl
theorem fillV_plain {place : Nat → Option (Nat × Nat)} {ob ob' : Nat → Option Ob} : ∀ (l : List (Nat × V)) (cells : List V), (l.all fun p => p.2.plain || p.2.cells.all V.plain && (match p.2 with | .agg _ => true | _ => false)) = true → fillV place ob cells l = fillV place ob' cells l
  | [], _, _ => rfl
  | (i, v) :: l, cells, h => by
    simp only [List.all_cons, Bool.and_eq_true] at h
    simp only [fillV]
    have hv : (v.cells.all (fun c => c.leaf && c.liveB ob) && v.liveB ob) = (v.cells.all (fun c => c.leaf && c.liveB ob') && v.liveB ob') := by
      cases v with
      | pv p =>
        have : ∀ c ∈ V.cells (.pv p), c.liveB ob = c.liveB ob' := by
          intro c hc
          cases p with
          | agg ps =>
            simp only [V.cells, List.mem_map] at hc
            obtain ⟨q, _, rfl⟩ := hc
            rfl
          | _ => simp only [V.cells, List.mem_singleton] at hc; subst hc; rfl
        have e : (V.cells (.pv p)).all (fun c => c.leaf && c.liveB ob) = (V.cells (.pv p)).all (fun c => c.leaf && c.liveB ob') := by
          rw [Bool.eq_iff_iff, List.all_eq_true, List.all_eq_true]
          exact ⟨fun h c hc => by rw [← this c hc]; exact h c hc, fun h c hc => by rw [this c hc]; exact h c hc⟩
        rw [e]; rfl
      | agg cs =>
        have hp : cs.all V.plain = true := by simpa [V.plain, V.cells] using h.1
        have e : cs.all (fun c => c.leaf && c.liveB ob) = cs.all (fun c => c.leaf && c.liveB ob') := by
          rw [Bool.eq_iff_iff, List.all_eq_true, List.all_eq_true]
          exact ⟨fun h c hc => by rw [← liveB_plain (List.all_eq_true.1 hp c hc)]; exact h c hc, fun h c hc => by rw [liveB_plain (ob' := ob') (List.all_eq_true.1 hp c hc)]; exact h c hc⟩
        simp only [V.cells, e]; rfl
      | _ => simp [V.plain] at h
    have ih := fun c => fillV_plain (place := place) (ob := ob) (ob' := ob') l c h.2
    split
    · rfl
    · rw [Bool.and_assoc, hv, ← Bool.and_assoc]
      simp only [ih]
section
variable {n : Nat} {ops : Array Oper} {σ τ : St} {s : OS} {rd : List Nat} {dst : Option Tmp} {ty : TypeId} {pos : String} {after : Array Edge} {gd : Option (Nat × Bool)} {T : TypeId} {parts : Array (Nat × Operand)} {place : Nat → Option (Nat × Nat)} {cells cs' : List V}
theorem Agr.fill (h : Agr n ops ⟨dst, .build T parts, ty, pos, after, gd⟩ σ τ s rd) (hp : ((parts.toList.map fun p => (p.1, σ.ev n p.2)).all fun p => p.2.plain || p.2.cells.all V.plain && (match p.2 with | .agg _ => true | _ => false)) = true)
    (hf : fillV place σ.ob cells (parts.toList.map fun p => (p.1, σ.ev n p.2)) = some cs') : fillV place τ.ob cells (parts.toList.map fun p => (p.1, τ.ev n p.2)) = some cs' := by
  rw [h.partsB, fillV_plain (ob' := σ.ob) _ _ hp]; exact hf
theorem Agr.fillS {k : Nat} (h : Agr n ops ⟨dst, .buildSlice T k parts, ty, pos, after, gd⟩ σ τ s rd) (hp : ((parts.toList.map fun p => (p.1, σ.ev n p.2)).all fun p => p.2.plain || p.2.cells.all V.plain && (match p.2 with | .agg _ => true | _ => false)) = true)
    (hf : fillV place σ.ob cells (parts.toList.map fun p => (p.1, σ.ev n p.2)) = some cs') : fillV place τ.ob cells (parts.toList.map fun p => (p.1, τ.ev n p.2)) = some cs' := by
  rw [h.partsBS, fillV_plain (ob' := σ.ob) _ _ hp]; exact hf
end
end Go.Proofs.YtopjkdddicgajaaGreatDoor
namespace Go.Proofs.YtopjkdddicgajaaGreatDoor
open Go.RowKit
mutual
def V.ren (ρ : Nat → Nat) : V → V
  | .pv p => .pv p
  | .ptr i o => .ptr (ρ i) o
  | .osl i s k => .osl (ρ i) s k
  | .gsl i s k => .gsl (ρ i) s k
  | .map i => .map (ρ i)
  | .agg cs => .agg (V.renL ρ cs)
  | .tup cs => .tup (V.renL ρ cs)
  | .fn f a b => .fn f (V.renL ρ a) (V.renL ρ b)
def V.renL (ρ : Nat → Nat) : List V → List V
  | [] => []
  | c :: cs => V.ren ρ c :: V.renL ρ cs
end
def Ob.ren (ρ : Nat → Nat) : Ob → Ob
  | .cells t cs => .cells t cs
  | .mix t cs => .mix t (V.renL ρ cs)
  | .gro t cs => .gro t cs
  | .mp ks vs => .mp ks vs
  | .it s p => .it s p
theorem Ob.real_ren (ρ : Nat → Nat) : ∀ o : Ob, (o.ren ρ).real = o.real
  | .cells _ _ => rfl
  | .mix _ _ => rfl
  | .gro _ [] => rfl
  | .gro _ (_ :: _) => rfl
  | .mp _ _ => rfl
  | .it _ _ => rfl
theorem liveO_ren (ρ : Nat → Nat) : ∀ o : Option Ob, liveO (o.map (Ob.ren ρ)) = liveO o
  | none => rfl
  | some o => Ob.real_ren ρ o
mutual
/-- Only places with a name that p holds of. -/
def V.all (p : Nat → Bool) : V → Bool
  | .pv _ => true
  | .ptr i _ => p i
  | .osl i _ _ => p i
  | .gsl i _ _ => p i
  | .map i => p i
  | .agg cs => V.allL p cs
  | .tup cs => V.allL p cs
  | .fn _ a b => V.allL p a && V.allL p b
def V.allL (p : Nat → Bool) : List V → Bool
  | [] => true
  | c :: cs => V.all p c && V.allL p cs
end
def Ob.all (p : Nat → Bool) : Ob → Bool
  | .cells _ _ => true
  | .mix _ cs => V.allL p cs
  | .gro _ _ => true
  | .mp _ _ => true
  | .it _ _ => true
section
variable {w : World} {R : Nat → Prop}
mutual
/-- From one numbering to another. -/
theorem Rel.ren {m m' : Gm} {av av' : Av} (ρ : Nat → Nat) (p : Nat → Bool) (hm : ∀ i x, p i = true → m' (ρ i) = some x → m i = some x) (ha : ∀ i, p i = true → av i = false → av' (ρ i) = false) :
    ∀ (v : V) (u : Value), v.all p = true → Rel w m av R v u → Rel w m' av' R (v.ren ρ) u
  | .pv q, u, _, h => by simpa only [Rel, V.ren] using h
  | .ptr i o, _, hp, h => by simp only [V.all] at hp; simp only [Rel, V.ren] at h ⊢; exact ⟨ha i hp h.1, fun b N e => h.2 b N (hm i _ hp e)⟩
  | .osl i s k, _, hp, h => by simp only [V.all] at hp; simp only [Rel, V.ren] at h ⊢; exact ⟨ha i hp h.1, fun b N e => h.2 b N (hm i _ hp e)⟩
  | .gsl i s k, _, hp, h => by
    simp only [V.all] at hp
    simp only [Rel, V.ren] at h ⊢
    obtain ⟨h0, A, c, e, h1, h2, h3, h4⟩ := h
    exact ⟨ha i hp h0, A, c, e, h1, h2, fun hn => ⟨(h3 hn).1, (h3 hn).2.1, sub_none (fun x => hm i x hp) (h3 hn).2.2⟩, fun hk b N e => h4 hk b N (hm i _ hp e)⟩
  | .map i, _, hp, h => by simp only [V.all] at hp; simp only [Rel, V.ren] at h ⊢; exact ⟨ha i hp h.1, fun b N e => h.2 b N (hm i _ hp e)⟩
  | .agg cs, _, hp, h => by
    simp only [V.all] at hp
    simp only [Rel, V.ren] at h ⊢
    obtain ⟨us, e, h⟩ := h
    exact ⟨us, e, RelL.ren ρ p hm ha cs us hp h⟩
  | .tup cs, _, hp, h => by
    simp only [V.all] at hp
    simp only [Rel, V.ren] at h ⊢
    obtain ⟨us, e, h⟩ := h
    exact ⟨us, e, RelL.ren ρ p hm ha cs us hp h⟩
  | .fn f a b, _, hp, h => by
    simp only [V.all, Bool.and_eq_true] at hp
    simp only [Rel, V.ren] at h ⊢
    obtain ⟨us, vs, e, h1, h2⟩ := h
    exact ⟨us, vs, e, RelL.ren ρ p hm ha a us hp.1 h1, RelL.ren ρ p hm ha b vs hp.2 h2⟩
theorem RelL.ren {m m' : Gm} {av av' : Av} (ρ : Nat → Nat) (p : Nat → Bool) (hm : ∀ i x, p i = true → m' (ρ i) = some x → m i = some x) (ha : ∀ i, p i = true → av i = false → av' (ρ i) = false) :
    ∀ (vs : List V) (us : List Value), V.allL p vs = true → RelL w m av R vs us → RelL w m' av' R (V.renL ρ vs) us
  | [], _, _, h => by simpa only [RelL, V.renL] using h
  | c :: cs, _, hp, h => by
    simp only [V.allL, Bool.and_eq_true] at hp
    simp only [RelL, V.renL] at h ⊢
    obtain ⟨u, us, e, h1, h2⟩ := h
    exact ⟨u, us, e, Rel.ren ρ p hm ha c u hp.1 h1, RelL.ren ρ p hm ha cs us hp.2 h2⟩
end
mutual
/-- And back. -/
theorem Rel.unren {m m' : Gm} {av av' : Av} (ρ : Nat → Nat) (p : Nat → Bool) (hm : ∀ i x, p i = true → m i = some x → m' (ρ i) = some x) (ha : ∀ i, p i = true → av i = false) :
    ∀ (v : V) (u : Value), v.all p = true → Rel w m' av' R (v.ren ρ) u → Rel w m av R v u
  | .pv q, u, _, h => by simpa only [Rel, V.ren] using h
  | .ptr i o, _, hp, h => by simp only [V.all] at hp; simp only [Rel, V.ren] at h ⊢; exact ⟨ha i hp, fun b N e => h.2 b N (hm i _ hp e)⟩
  | .osl i s k, _, hp, h => by simp only [V.all] at hp; simp only [Rel, V.ren] at h ⊢; exact ⟨ha i hp, fun b N e => h.2 b N (hm i _ hp e)⟩
  | .gsl i s k, _, hp, h => by
    simp only [V.all] at hp
    simp only [Rel, V.ren] at h ⊢
    obtain ⟨h0, A, c, e, h1, h2, h3, h4⟩ := h
    exact ⟨ha i hp, A, c, e, h1, h2, fun hn => ⟨(h3 hn).1, (h3 hn).2.1, sub_none (fun x => hm i x hp) (h3 hn).2.2⟩, fun hk b N e => h4 hk b N (hm i _ hp e)⟩
  | .map i, _, hp, h => by simp only [V.all] at hp; simp only [Rel, V.ren] at h ⊢; exact ⟨ha i hp, fun b N e => h.2 b N (hm i _ hp e)⟩
  | .agg cs, _, hp, h => by
    simp only [V.all] at hp
    simp only [Rel, V.ren] at h ⊢
    obtain ⟨us, e, h⟩ := h
    exact ⟨us, e, RelL.unren ρ p hm ha cs us hp h⟩
  | .tup cs, _, hp, h => by
    simp only [V.all] at hp
    simp only [Rel, V.ren] at h ⊢
    obtain ⟨us, e, h⟩ := h
    exact ⟨us, e, RelL.unren ρ p hm ha cs us hp h⟩
  | .fn f a b, _, hp, h => by
    simp only [V.all, Bool.and_eq_true] at hp
    simp only [Rel, V.ren] at h ⊢
    obtain ⟨us, vs, e, h1, h2⟩ := h
    exact ⟨us, vs, e, RelL.unren ρ p hm ha a us hp.1 h1, RelL.unren ρ p hm ha b vs hp.2 h2⟩
theorem RelL.unren {m m' : Gm} {av av' : Av} (ρ : Nat → Nat) (p : Nat → Bool) (hm : ∀ i x, p i = true → m i = some x → m' (ρ i) = some x) (ha : ∀ i, p i = true → av i = false) :
    ∀ (vs : List V) (us : List Value), V.allL p vs = true → RelL w m' av' R (V.renL ρ vs) us → RelL w m av R vs us
  | [], _, _, h => by simpa only [RelL, V.renL] using h
  | c :: cs, _, hp, h => by
    simp only [V.allL, Bool.and_eq_true] at hp
    simp only [RelL, V.renL] at h ⊢
    obtain ⟨u, us, e, h1, h2⟩ := h
    exact ⟨u, us, e, Rel.unren ρ p hm ha c u hp.1 h1, RelL.unren ρ p hm ha cs us hp.2 h2⟩
end
theorem ORel.ren {m m' : Gm} {av av' : Av} (ρ : Nat → Nat) (p : Nat → Bool) (hm : ∀ i x, p i = true → m' (ρ i) = some x → m i = some x) (ha : ∀ i, p i = true → av i = false → av' (ρ i) = false) {b N : Nat} {o : Ob} (ho : o.all p = true) (h : ORel w m av R b N o) : ORel w m' av' R b N (o.ren ρ) := by
  cases o with
  | cells ty cs => exact h
  | gro ty cs => exact h
  | mp ks vs => exact h
  | it s p => exact h
  | mix ty cs =>
    obtain ⟨arr, h1, h2, h3, h4⟩ := h
    have hl : (V.renL ρ cs).length = cs.length := by
      clear ho h3 h4
      induction cs with
      | nil => rfl
      | cons c cs ih => simp [V.renL, ih]
    exact ⟨arr, h1, h2, by rw [hl]; exact h3, by rw [hl]; exact h4.ren ρ p hm ha _ _ ho⟩
theorem ORel.unren {m m' : Gm} {av av' : Av} (ρ : Nat → Nat) (p : Nat → Bool) (hm : ∀ i x, p i = true → m i = some x → m' (ρ i) = some x) (ha : ∀ i, p i = true → av i = false) {b N : Nat} {o : Ob} (ho : o.all p = true) (h : ORel w m' av' R b N (o.ren ρ)) : ORel w m av R b N o := by
  cases o with
  | cells ty cs => exact h
  | gro ty cs => exact h
  | mp ks vs => exact h
  | it s p => exact h
  | mix ty cs =>
    obtain ⟨arr, h1, h2, h3, h4⟩ := h
    have hl : (V.renL ρ cs).length = cs.length := by
      clear ho h3 h4
      induction cs with
      | nil => rfl
      | cons c cs ih => simp [V.renL, ih]
    rw [hl] at h3 h4
    exact ⟨arr, h1, h2, h3, h4.unren ρ p hm ha _ _ ho⟩
end
/-- The names of k places that were handed over and of k' new ones. -/
def okR (k k' : Nat) : Nat → Bool := fun i => Nat.blt i k' || (Nat.ble big i && Nat.blt i (big + k))
def resOneV : List V → V
  | [v] => v
  | vs => .tup vs
def argsV : Nat → List V → List (Nat × V)
  | _, [] => []
  | k, p :: ps => (k, p) :: argsV (k + 1) ps
/-- The contract of a function that is handed k places of the caller's (big, big + 1, ..) and may leave k' new ones (0, 1, ..). -/
def FnO (P : Program) (f : FuncId) (k k' : Nat) (args : List V) (os : List (Nat × Ob)) (Q : V → (Nat → Option Ob) → Prop) : Prop :=
  ∀ (w : World) (m : Gm) (R : RT w (OwnB m)) (us : List Value), HR ⟨P, m, w, OwnB m, R⟩ m R.p (lookO os) (avK 0) w → RelL w m (avK 0) R.p args us →
    Calls P f us.toArray w fun e w' => ∃ u v ob' m' R', e = .returned u ∧ Q v ob' ∧ v.all (okR k k') = true ∧ (∀ i o, ob' i = some o → okR k k' i = true ∧ o.all (okR k k') = true) ∧ HR ⟨P, m, w, OwnB m, R⟩ m' R' ob' (avK k') w' ∧ Rel w' m' (avK k') R' v u
theorem FnO.mono {P : Program} {f : FuncId} {k k' : Nat} {args : List V} {os : List (Nat × Ob)} {Q Q' : V → (Nat → Option Ob) → Prop} (h : FnO P f k k' args os Q) (hq : ∀ v o, Q v o → Q' v o) : FnO P f k k' args os Q' :=
  fun w m R us h1 h2 => (h w m R us h1 h2).mono fun _ _ ⟨u, v, o, m', R', e, q, r⟩ => ⟨u, v, o, m', R', e, hq v o q, r⟩
def retO (fn : Func) (n k k' : Nat) (Q : V → (Nat → Option Ob) → Prop) : Exit → St → Prop
  | .ret, σ | .normal, σ => ∃ l os' vs, σ.le (mkS l os' k') ∧ resV n (mkS l os' k') fn.results.toList = some vs ∧ V.allL (okR k k') vs = true ∧ os'.all (fun p => okR k k' p.1 && p.2.all (okR k k')) = true ∧ Q (resOneV vs) (lookO os')
  | _, _ => False
theorem lookO_mem : ∀ {os : List (Nat × Ob)} {i : Nat} {o : Ob}, lookO os i = some o → (i, o) ∈ os
  | [], _, _, h => by simp [lookO] at h
  | (d, v) :: os, i, o, h => by
    simp only [lookO] at h
    cases hb : Nat.beq i d with
    | true => rw [hb] at h; simp at h; have := Nat.eq_of_beq_eq_true hb; subst this; subst h; simp
    | false => rw [hb] at h; exact List.mem_cons_of_mem _ (lookO_mem (by simpa using h))
theorem resOneV_rel {w : World} {m : Gm} {av : Av} {R : Nat → Prop} {vs : List V} {us : List Value} (h : RelL w m av R vs us) : Rel w m av R (resOneV vs) (if h : us.toArray.size = 1 then us.toArray[0] else .tuple us.toArray) := by
  have hl := h.length
  cases vs with
  | nil =>
    simp only [RelL] at h
    subst h
    simp only [resOneV, Rel]
    exact ⟨[], by simp, RelL.nil⟩
  | cons p ps =>
    cases ps with
    | nil =>
      simp only [RelL] at h
      obtain ⟨u, vs', rfl, h5, rfl⟩ := h
      simpa [resOneV] using h5
    | cons p2 ps =>
      simp only [resOneV, Rel]
      refine ⟨us, ?_, h⟩
      rw [dif_neg (by simp at hl ⊢; omega)]
theorem resOneV_all {p : Nat → Bool} {vs : List V} (h : V.allL p vs = true) : (resOneV vs).all p = true := by
  cases vs with
  | nil => rfl
  | cons a l =>
    cases l with
    | nil => simpa [resOneV, V.allL] using h
    | cons b l => simpa [resOneV, V.all] using h
theorem FnO.of {P : Program} {f : FuncId} {fn : Func} {c : Code} {n k k' : Nat} {args : List V} {os : List (Nat × Ob)} {Q : V → (Nat → Option Ob) → Prop} (hf : P.funcs[f]? = some fn) (hb : fn.body = some c) (hn : fn.ntmps = n) (hna : args.length ≤ n)
    (h : ∀ m0 w0 F R0, AW ⟨P, m0, w0, F, R0⟩ n c (retO fn n k k' Q) (mkS (argsV 0 args) os 0)) : FnO P f k k' args os Q := by
  intro w m R us hHR hrel
  refine calls_of_wp hf hb ?_
  have hl := hrel.length
  have init : SJ ⟨P, m, w, OwnB m, R⟩ n (mkS (argsV 0 args) os 0) { tmps := us.toArray ++ Array.replicate (fn.ntmps - us.toArray.size) undef, defers := [] } w := by
    refine ⟨m, R.p, ⟨hHR, rfl, by simp; omega, ?_⟩⟩
    intro t ht
    show Rel w m (avK 0) R.p (look (argsV 0 args) t) ((us.toArray ++ Array.replicate (fn.ntmps - us.toArray.size) undef).getD t undef)
    have key : ∀ (ps : List V) (vs : List Value) (k : Nat), RelL w m (avK 0) R.p ps vs → k ≤ t → ∀ z : Value, Rel w m (avK 0) R.p (look (argsV k ps) t) (vs[t - k]?.getD z) := by
      intro ps
      induction ps with
      | nil => intro vs k _ _ z; simp only [argsV, look, Rel, RelP]
      | cons p ps ih =>
        intro vs k hr hk z
        simp only [RelL] at hr
        obtain ⟨u, vs', rfl, h1, h2⟩ := hr
        simp only [argsV, look]
        by_cases e : t = k
        · subst e
          simp only [Nat.beq_refl, cond_true, Nat.sub_self]
          simpa using h1
        · have hb : Nat.beq t k = false := by cases hb : Nat.beq t k; rfl; exact absurd (Nat.eq_of_beq_eq_true hb) e
          rw [hb]
          have := ih vs' (k + 1) h2 (by omega) z
          have e2 : t - k = (t - (k + 1)) + 1 := by omega
          rw [e2]
          simpa using this
    have := key args us 0 hrel (Nat.zero_le _) undef
    simp only [Nat.sub_zero] at this
    rw [Array.getD_eq_getD_getElem?, Array.getElem?_append]
    by_cases e : t < us.length
    · simpa [e] using this
    · rw [List.getElem?_eq_none (by omega)] at this
      simp only [List.size_toArray, e, if_false, Array.getElem?_replicate]
      split <;> simpa using this
  have hbody := (h m w (OwnB m) R).go _ w init
  refine wp_mono hbody ?_
  rintro ex a' w' ⟨σ', hq, hsj⟩
  have fin : ∀ l os' vs, σ'.le (mkS l os' k') → resV n (mkS l os' k') fn.results.toList = some vs → V.allL (okR k k') vs = true → os'.all (fun p => okR k k' p.1 && p.2.all (okR k k')) = true → Q (resOneV vs) (lookO os') →
      a'.defers = [] ∧ ∃ v, (results fn a'.tmps).run P w' = .ok v w' ∧ ∃ u v_1 ob' m' R', Ending.returned v = .returned u ∧ Q v_1 ob' ∧ v_1.all (okR k k') = true ∧ (∀ i o, ob' i = some o → okR k k' i = true ∧ o.all (okR k k') = true) ∧ HR ⟨P, m, w, OwnB m, R⟩ m' R' ob' (avK k') w' ∧ Rel w' m' (avK k') R' v_1 u := by
    intro l os' vs h1 h2 h3 h4 h5
    obtain ⟨m2, R2, hw⟩ := h1 _ _ _ _ hsj
    have hrl := resV_rel hw h2
    have hrun := fun f hf => mapM_run (a := a') w' P f hf h2
    generalize fn.results.toList.map (resU a') = us' at hrl hrun
    refine ⟨hw.df, (if h : us'.toArray.size = 1 then us'.toArray[0] else .tuple us'.toArray), ?_, ?_⟩
    · unfold results
      rw [Array.mapM_eq_mapM_toList]
      simp only [Sem.run_bind, Sem.run_map]
      rw [hrun _ (fun t => rfl)]
      rfl
    · refine ⟨_, resOneV vs, lookO os', m2, R2, rfl, h5, resOneV_all h3, ?_, hw.hr, resOneV_rel hrl⟩
      intro i o hio
      have := List.all_eq_true.1 h4 (i, o) (lookO_mem hio)
      simpa using this
  cases ex with
  | normal => obtain ⟨l, os', vs, h1, h2, h3, h4, h5⟩ := hq; exact fin l os' vs h1 h2 h3 h4 h5
  | ret => obtain ⟨l, os', vs, h1, h2, h3, h4, h5⟩ := hq; exact fin l os' vs h1 h2 h3 h4 h5
  | _ => exact hq.elim
/-- The caller's names. -/
def renI (ids : List Nat) (base : Nat) (i : Nat) : Nat := bif Nat.ble big i then ids.getD (i - big) 0 else base + i
/-- What the caller's places are behind the call. -/
def wrO (ids : List Nat) (base k' : Nat) (ob' : Nat → Option Ob) : List (Nat × Option Ob) :=
  ids.zipIdx.map (fun p => (p.1, (ob' (big + p.2)).map (Ob.ren (renI ids base)))) ++ (List.range k').map (fun i => (base + i, (ob' i).map (Ob.ren (renI ids base))))
def nwO (base k' : Nat) : List Nat := (List.range k').map (base + ·)
def lkL {β : Type} : List (Nat × β) → (Nat → β) → Nat → β
  | [], f, id => f id
  | (i, o) :: l, f, id => bif Nat.beq id i then o else lkL l f id
theorem obL_lk : ∀ (l : List (Nat × Option Ob)) (f : Nat → Option Ob), obL l f = lkL l f
  | [], f => rfl
  | (i, o) :: l, f => by funext id; simp only [obL, lkL, obL_lk l f]
theorem lkL_get {β : Type} : ∀ (l : List (Nat × β)) (f : Nat → β) (id : Nat), id ∉ l.map (·.1) → lkL l f id = f id
  | [], _, _, _ => rfl
  | (i, o) :: l, f, id, h => by
    simp only [List.map_cons, List.mem_cons, not_or] at h
    have hb : Nat.beq id i = false := by cases hb : Nat.beq id i; rfl; exact absurd (Nat.eq_of_beq_eq_true hb) h.1
    simp only [lkL, hb, cond_false]
    exact lkL_get l f id h.2
theorem lkL_app {β : Type} : ∀ (l l' : List (Nat × β)) (f : Nat → β), lkL (l ++ l') f = lkL l (lkL l' f)
  | [], _, _ => rfl
  | (i, o) :: l, l', f => by funext id; simp only [List.cons_append, lkL, lkL_app l l' f]
theorem lkL_zip {β : Type} (g : Nat → β) (f : Nat → β) : ∀ (ids : List Nat) (k i : Nat) (id : Nat), ids.Nodup → ids[i]? = some id → lkL ((ids.zipIdx k).map fun p => (p.1, g p.2)) f id = g (k + i)
  | [], _, _, _, _, h => by simp at h
  | q :: ids, k, i, id, hn, h => by
    simp only [List.zipIdx_cons, List.map_cons, lkL]
    cases i with
    | zero => simp at h; subst h; simp
    | succ i =>
      simp at h
      have hne : id ≠ q := fun e => by subst e; exact (List.nodup_cons.1 hn).1 (List.mem_of_getElem? h)
      have hb : Nat.beq id q = false := by cases hb : Nat.beq id q; rfl; exact absurd (Nat.eq_of_beq_eq_true hb) hne
      rw [hb]
      simp only [cond_false]
      rw [lkL_zip g f ids (k + 1) i id (List.nodup_cons.1 hn).2 h]
      congr 1
      omega
theorem lkL_range {β : Type} (g : Nat → β) (f : Nat → β) (base k' i : Nat) (hi : i < k') : lkL ((List.range k').map fun i => (base + i, g i)) f (base + i) = g i := by
  have gen : ∀ (l : List Nat), i ∈ l → lkL (l.map fun i => (base + i, g i)) f (base + i) = g i := by
    intro l
    induction l with
    | nil => intro h; simp at h
    | cons q l ih =>
      intro h
      simp only [List.map_cons, lkL]
      by_cases e : i = q
      · subst e; simp
      · have hb : Nat.beq (base + i) (base + q) = false := by cases hb : Nat.beq (base + i) (base + q); rfl; have := Nat.eq_of_beq_eq_true hb; omega
        rw [hb]
        simp only [cond_false]
        exact ih (by simpa [e] using h)
  exact gen _ (by simpa using hi)
end Go.Proofs.YtopjkdddicgajaaGreatDoor
