/-
  Our own step logic: growing slices (nil at first). No statement of the program is proved here.
-/
import Derived.Test.YtkalgjnhaicabaaE13
namespace Go.Proofs.Ytkalgjnhaicabaa
open Go.RowKit

theorem gro_real {T : TypeId} {cs : List PV} (h : cs ≠ []) : (Ob.gro T cs).real = true := by
  cases cs with
  | nil => exact absurd rfl h
  | cons _ _ => rfl

section
variable {C : Ctx} {n : Nat} {σ : St} {a : Act} {w : World} {m : Gm} {R : Nat → Prop}
theorem SW.gsl (h : SW C n σ a w m R) {x : Operand} {id sz k : Nat} (hx : σ.ev n x = .gsl id sz k) :
    ∃ A c, a.eval x = .slice A k c ∧ k ≤ c ∧ c ≤ maxLen ∧ (k = 0 → A = none ∧ c = 0 ∧ m id = none) ∧ (0 < k → ∀ b N, m id = some (b, N) → A = some ⟨b, 0, none⟩ ∧ N = c * sz) := by
  have := h.ev x
  rw [hx] at this
  simp only [Rel] at this
  exact this.2
end

section
variable {C : Ctx} {n : Nat} {σ : St} {dst : Option Tmp} {ty t t' : TypeId} {pos : String} {after : Array Edge} {gd : Option (Nat × Bool)} {x y : Operand}

/-- append onto a growing slice. -/
theorem xj_appendG {e : TypeId} {z : Value} {size bytes k j id : Nat} {cs news : List PV} (id' : Nat) (he : ElemIs C.P t e z size bytes) (hs : σ.ev n x = .gsl id size k) (ho : σ.ob id = some (.gro e cs)) (hcs : cs.length = k * size)
    (hsrc : SrcIs n σ y j news) (hl : news.length = j * size) (hlf : ∀ c ∈ news, c.leaf = true) (hb : k + j ≤ 1000000000) (hj : 0 < j) (hid : σ.av id' = true) :
    XJ C n ⟨dst, .call { callee := .builtin .append, args := #[x, y], argTypes := #[t, t] }, ty, pos, after, gd⟩ σ ⟨.gsl id' size (k + j), [(id', some (.gro e (cs ++ news))), (id, none)], [id']⟩ := by
  rintro a w Q ⟨m, R, hw⟩
  obtain ⟨A0, c, hev, hkc, hcm, hz, hp⟩ := hw.gsl hs
  obtain ⟨A, c2, us, hev2, hr2, hrow⟩ := hsrc.row hw
  have hnl : 0 < news.length := by rw [hl]; exact Nat.mul_pos hj he.pos
  have hne : cs ++ news ≠ [] := fun e => by
    have := congrArg List.length e
    simp at this
    rw [this.2] at hnl
    simp at hnl
  have sub : ∀ i x, upd m id none i = some x → m i = some x ∧ i ≠ id := fun i x e => by
    by_cases hi : i = id
    · subst hi; rw [upd_same] at e; cases e
    · rw [upd_ne _ _ hi] at e; exact ⟨e, hi⟩
  rcases Nat.eq_zero_or_pos k with hk0 | hk0
  · subst hk0
    obtain ⟨rfl, rfl, hmn⟩ := hz rfl
    have hcs0 : cs = [] := List.eq_nil_of_length_eq_zero (by simpa using hcs)
    subst hcs0
    refine wp_appS x y t rfl 0 e z size bytes he.u he.info he.zs he.pos he.by_ _ 0 j c2 A _ us hev hev2 (World.ownsRow_nil w 0 e size) hrow (by rw [hr2.length, hl]) (leafP_cells hr2 hlf) (by omega) (Nat.zero_le _) ?_
    intro A' c' w' hown' hgr hat
    simp only [Nat.zero_add, List.nil_append] at hown' hat hne ⊢
    rcases hown'.2 with ⟨hv, h0⟩ | ⟨g, cap, cur, hv, _, hg, hkc', hcm', hcs', htk⟩
    · omega
    · simp only [Value.slice.injEq] at hv
      obtain ⟨rfl, -, rfl⟩ := hv
      have gge : w.heap.size ≤ g := by
        rcases hat with h | ⟨g', h, hle⟩
        · simp [Value.ownBlock] at h
        · simp only [Value.ownBlock, Option.some.injEq] at h
          subst h; exact hle
      refine ⟨_, rfl, upd (upd m id none) id' (some (g, cur.size)), R, ?_⟩
      rw [St.app_new]
      refine SW.put ((hw.drop id).fresh hid hg hgr (fun q hq => by simp [Value.ownBlock] at hq) (fun h => by have := hw.hr.rsz _ h; omega) (fun i b N hi e => by have := (hw.hr.own i b N (sub i _ hi).1).1; omega) (.inr (by have := hw.hr.frame.size; omega)) (.gro e news) ?_ (gro_real hne)) dst ?_
      · intro m' av' hR _ _
        refine ⟨cur, hg, rfl, ?_, ?_⟩
        · rw [hcs', ← hr2.length, hown'.1]; exact Nat.mul_le_mul_right _ hkc'
        · rw [← hr2.length, hown'.1, htk]
          exact hr2.mono hR
      · simp only [Rel]
        refine ⟨by simp [avL], _, c', rfl, hkc', hcm', fun h => by omega, fun _ b N e => ?_⟩
        rw [upd_same] at e
        cases e
        exact ⟨rfl, hcs'⟩
  · have hcne : cs ≠ [] := fun e => by
      rw [e] at hcs
      have := Nat.mul_pos hk0 he.pos
      simp at hcs
      omega
    obtain ⟨b, N, hm, arr, hbk, hsz, hle, hr⟩ := hw.live ho (gro_real hcne)
    obtain ⟨rfl, hN⟩ := hp hk0 b N hm
    have hown : w.ownsRow 0 e size (.slice (some ⟨b, 0, none⟩) k c) k (arr.toList.take (k * size)) := by
      refine ⟨?_, .inr ⟨b, c, arr, rfl, Nat.zero_le _, hbk, hkc, hcm, by rw [hsz, hN], rfl⟩⟩
      have := Nat.mul_le_mul_right size hkc
      simp only [List.length_take, Array.length_toList]
      omega
    refine wp_appS x y t rfl 0 e z size bytes he.u he.info he.zs he.pos he.by_ _ k j c2 A _ us hev hev2 hown hrow (by rw [hr2.length, hl]) (leafP_cells hr2 hlf) hb (Nat.zero_le _) ?_
    intro A' c' w' hown' hgr hat
    have own := hw.hr.own id b N hm
    have hrel : RelPL w R (cs ++ news) (arr.toList.take (k * size) ++ us) := by
      rw [hcs] at hr
      exact hr.append hr2
    have bprop : ¬ R b ∧ (∀ i b' N', upd m id none i = some (b', N') → b' ≠ b) ∧ (C.F b ∨ C.w0.heap.size ≤ b) :=
      ⟨own.2.1, fun i b' N' hi e => (sub i _ hi).2 (h_inj hw (sub i _ hi).1 hm e), own.2.2⟩
    rcases hown'.2 with ⟨hv, h0⟩ | ⟨g, cap, cur, hv, _, hg, hkc', hcm', hcs', htk⟩
    · exfalso
      simp only [Value.slice.injEq] at hv
      obtain ⟨rfl, _, _⟩ := hv
      rcases hat with h | ⟨g', h, _⟩ <;> simp [Value.ownBlock] at h
    · simp only [Value.slice.injEq] at hv
      obtain ⟨rfl, -, rfl⟩ := hv
      have gprop : ¬ R g ∧ (∀ i b' N', upd m id none i = some (b', N') → b' ≠ g) ∧ (C.F g ∨ C.w0.heap.size ≤ g) := by
        rcases hat with h | ⟨g', h, hle⟩
        · simp only [Value.ownBlock, Option.some.injEq] at h
          rw [h]; exact bprop
        · simp only [Value.ownBlock, Option.some.injEq] at h
          subst h
          refine ⟨fun h => ?_, fun i b' N' hi e => ?_, .inr ?_⟩
          · have := hw.hr.rsz _ h; omega
          · have := (hw.hr.own i b' N' (sub i _ hi).1).1; omega
          · have := hw.hr.frame.size; omega
      have hul : (arr.toList.take (k * size) ++ us).length = (k + j) * size := hown'.1
      refine ⟨_, rfl, upd (upd m id none) id' (some (g, cur.size)), R, ?_⟩
      rw [St.app_new]
      refine SW.put ((hw.drop id).fresh hid hg hgr (fun q hq => by simp [Value.ownBlock] at hq; subst hq; exact bprop) gprop.1 gprop.2.1 gprop.2.2 (.gro e (cs ++ news)) ?_ (gro_real hne)) dst ?_
      · intro m' av' hR _ _
        refine ⟨cur, hg, rfl, ?_, ?_⟩
        · rw [hcs', ← hrel.length, hul]; exact Nat.mul_le_mul_right _ hkc'
        · rw [← hrel.length, hul, htk]
          exact hrel.mono hR
      · simp only [Rel]
        refine ⟨by simp [avL], _, c', rfl, hkc', hcm', fun h => by omega, fun _ b N e => ?_⟩
        rw [upd_same] at e
        cases e
        exact ⟨rfl, hcs'⟩

/-- The usual case: one element, just built. -/
theorem xj_appendG1 {e T2 : TypeId} {z : Value} {size bytes k id id2 : Nat} {cs news : List PV} (id' : Nat) (he : ElemIs C.P t e z size bytes) (hs : σ.ev n x = .gsl id size k) (ho : σ.ob id = some (.gro e cs)) (hcs : cs.length = k * size)
    (hy : σ.ev n y = .osl id2 size 1) (ho2 : σ.ob id2 = some (.cells T2 news)) (hl : news.length = size) (hlf : news.all PV.leaf = true) (hb : k + 1 ≤ 1000000000) (hid : σ.av id' = true) :
    XJ C n ⟨dst, .call { callee := .builtin .append, args := #[x, y], argTypes := #[t, t] }, ty, pos, after, gd⟩ σ ⟨.gsl id' size (k + 1), [(id', some (.gro e (cs ++ news))), (id, none)], [id']⟩ :=
  xj_appendG id' he hs ho hcs (.inr ⟨id2, size, T2, news, hy, ho2, by rw [Nat.one_mul, List.take_of_length_le (by omega)]⟩) (by omega) (by simpa using hlf) hb (by omega) hid

end

/-- A nil slice is a growing one. -/
def St.gro (σ : St) (t id sz : Nat) (T : TypeId) : St := ⟨upd σ.sl t (.gsl id sz 0), obL [(id, some (.gro T []))] σ.ob, avL [id] σ.av⟩
theorem SW.gro0 {C : Ctx} {n : Nat} {σ : St} {a : Act} {w : World} {m : Gm} {R : Nat → Prop} (hw : SW C n σ a w m R) {id : Nat} (hid : σ.av id = true) (T : TypeId) : SW C n ⟨σ.sl, obL [(id, some (.gro T []))] σ.ob, avL [id] σ.av⟩ a w m R ∧ m id = none := by
  have obe : ∀ i, i ≠ id → obL [(id, some (.gro T []))] σ.ob i = σ.ob i := fun i hi => by
    have : Nat.beq i id = false := by cases hb : Nat.beq i id; rfl; exact absurd (Nat.eq_of_beq_eq_true hb) hi
    simp [obL, this]
  have obs : obL [(id, some (.gro T []))] σ.ob id = some (.gro T []) := by simp [obL]
  have hmn : m id = none := by
    have := hw.hr.dom id
    rw [hw.hr.free id hid] at this
    simpa [liveO] using this
  have ha : ∀ i, σ.av i = false → avL [id] σ.av i = false := fun i hi => by
    simp only [avL]
    cases Nat.beq i id <;> simp [hi]
  refine ⟨hw.world ⟨?_, ?_, ?_, hw.hr.inj, hw.hr.own, hw.hr.rsz, hw.hr.rfr, hw.hr.r0, hw.hr.frame, hw.hr.keep, fun i hi => ha i (hw.hr.res i hi)⟩ (fun b hb => ⟨hb, rfl⟩) (fun _ _ _ e => e) ha, hmn⟩
  · intro i
    by_cases e : i = id
    · subst e; rw [obs, hmn]; rfl
    · rw [obe i e]; exact hw.hr.dom i
  · intro i hi
    simp only [avL] at hi
    cases hb : Nat.beq i id with
    | true => rw [hb] at hi; simp at hi
    | false =>
      rw [hb] at hi
      have e : i ≠ id := fun e => by subst e; simp at hb
      rw [obe i e]
      exact hw.hr.free i (by simpa using hi)
  · intro i o b N h1 h2
    by_cases e : i = id
    · subst e; rw [hmn] at h2; cases h2
    · rw [obe i e] at h1
      exact (hw.hr.obj i o b N h1 h2).mono (fun b hb => ⟨hb, rfl⟩) (fun _ _ _ e => e) ha rfl
theorem nil_gsl {w : World} {m : Gm} {av : Av} {R : Nat → Prop} {id sz : Nat} {u : Value} (h : RelP w R (.sl (some true) 0 []) u) (hm : m id = none) (ha : av id = false) : Rel w m av R (.gsl id sz 0) u := by
  simp only [RelP] at h
  obtain ⟨A, c, he, _, h2, h3, h4, _⟩ := h
  have hA : A = none := by cases A; rfl; have := h3 true rfl; simp at this
  simp only [Rel]
  exact ⟨ha, A, c, he, Nat.zero_le _, h2, fun _ => ⟨hA, h4 trivial, hm⟩, fun h => absurd h (Nat.lt_irrefl 0)⟩
theorem St.le_gro {σ : St} (t id sz : Nat) (T : TypeId) (ht : σ.sl t = .pv (.sl (some true) 0 [])) (hid : σ.av id = true) : σ.le (σ.gro t id sz T) := by
  rintro C n a w ⟨m, R, hw⟩
  obtain ⟨h, hmn⟩ := hw.gro0 hid T
  refine ⟨m, R, h.hr, h.df, h.sz, fun q hq => ?_⟩
  show Rel w m (avL [id] σ.av) R (upd σ.sl t (.gsl id sz 0) q) _
  by_cases e : q = t
  · subst e
    rw [upd_same]
    have h0 := hw.sl q hq
    rw [ht] at h0
    simp only [Rel] at h0
    exact nil_gsl h0 hmn (by simp [avL])
  · rw [upd_ne _ _ e]; exact h.sl q hq
/-- The same of a cell of a variable. -/
def St.groC (σ : St) (pid j id sz : Nat) (T T' : TypeId) (cs : List V) : St := ⟨σ.sl, obL [(pid, some (.mix T' (cs.set j (.gsl id sz 0)))), (id, some (.gro T []))] σ.ob, avL [id] σ.av⟩
theorem St.le_groC {σ : St} {T' : TypeId} {cs : List V} (pid j id sz : Nat) (T : TypeId) (ho : σ.ob pid = some (.mix T' cs)) (hj : cs[j]? = some (.pv (.sl (some true) 0 []))) (hid : σ.av id = true) : σ.le (σ.groC pid j id sz T T' cs) := by
  rintro C n a w ⟨m, R, hw⟩
  obtain ⟨h, hmn⟩ := hw.gro0 hid T
  have hne : pid ≠ id := fun e => by rw [e, hw.hr.free id hid] at ho; cases ho
  have hob : obL [(id, some (.gro T []))] σ.ob pid = some (.mix T' cs) := by
    have : Nat.beq pid id = false := by cases hb : Nat.beq pid id; rfl; exact absurd (Nat.eq_of_beq_eq_true hb) hne
    simp [obL, this, ho]
  have obe : ∀ i, i ≠ pid → obL [(pid, some (.mix T' (cs.set j (.gsl id sz 0)))), (id, some (.gro T []))] σ.ob i = obL [(id, some (.gro T []))] σ.ob i := fun i hi => by
    have : Nat.beq i pid = false := by cases hb : Nat.beq i pid; rfl; exact absurd (Nat.eq_of_beq_eq_true hb) hi
    simp [obL, this]
  have obs : obL [(pid, some (.mix T' (cs.set j (.gsl id sz 0)))), (id, some (.gro T []))] σ.ob pid = some (.mix T' (cs.set j (.gsl id sz 0))) := by simp [obL]
  refine ⟨m, R, ⟨?_, ?_, ?_, h.hr.inj, h.hr.own, h.hr.rsz, h.hr.rfr, h.hr.r0, h.hr.frame, h.hr.keep, h.hr.res⟩, h.df, h.sz, h.sl⟩
  · intro i
    show (m i).isSome = liveO (obL _ σ.ob i)
    by_cases e : i = pid
    · subst e; rw [obs, h.hr.dom]; show liveO (obL [(id, some (.gro T []))] σ.ob i) = _; rw [hob]; rfl
    · rw [obe i e]; exact h.hr.dom i
  · intro i hi
    show obL _ σ.ob i = none
    by_cases e : i = pid
    · subst e; have := hob.symm.trans (h.hr.free i hi); cases this
    · rw [obe i e]; exact h.hr.free i hi
  · intro i o b N h1 h2
    have h1' : obL [(pid, some (.mix T' (cs.set j (.gsl id sz 0)))), (id, some (.gro T []))] σ.ob i = some o := h1
    by_cases e : i = pid
    · subst e
      rw [obs] at h1'
      cases h1'
      obtain ⟨arr, q1, q2, q3, q4⟩ := h.hr.obj i _ b N hob h2
      refine ⟨arr, q1, q2, by simpa using q3, ?_⟩
      obtain ⟨u, hu, hr⟩ := q4.get hj
      simp only [List.length_set]
      have := q4.set j (p := .gsl id sz 0) (u := u) (nil_gsl (by simpa only [Rel] using hr) hmn (by simp [avL]))
      have e2 : (arr.toList.take cs.length).set j u = arr.toList.take cs.length := by
        obtain ⟨hlt, e3⟩ := List.getElem?_eq_some_iff.1 hu
        rw [← e3]
        exact List.set_getElem_self hlt
      rw [e2] at this
      exact this
    · rw [obe i e] at h1'
      exact h.hr.obj i o b N h1' h2

mutual
/-- Slices of the place id are plain from now on. -/
def V.pubV (id : Nat) (r : Bool) (cs : List PV) : V → V
  | .osl i sz k => bif Nat.beq i id then .pv (bif r then .sl (some false) k cs else .any) else .osl i sz k
  | .gsl i sz k => bif Nat.beq i id then .pv (.sl none k cs) else .gsl i sz k
  | .agg vs => .agg (V.pubL id r cs vs)
  | .tup vs => .tup (V.pubL id r cs vs)
  | .fn f a b => .fn f (V.pubL id r cs a) (V.pubL id r cs b)
  | .pv p => .pv p
  | .ptr i o => .ptr i o
  | .map i => .map i
def V.pubL (id : Nat) (r : Bool) (cs : List PV) : List V → List V
  | [] => []
  | v :: vs => V.pubV id r cs v :: V.pubL id r cs vs
end
def Ob.pubO (id : Nat) (r : Bool) (cs : List PV) : Ob → Ob
  | .cells t c => .cells t c
  | .gro t c => .gro t c
  | .mix t vs => .mix t (V.pubL id r cs vs)
theorem Ob.pubO_real (id : Nat) (r : Bool) (cs : List PV) : ∀ o : Ob, (o.pubO id r cs).real = o.real
  | .cells _ _ => rfl
  | .mix _ _ => rfl
  | .gro _ [] => rfl
  | .gro _ (_ :: _) => rfl
theorem liveO_pub (id : Nat) (r : Bool) (cs : List PV) : ∀ o : Option Ob, liveO (o.map (Ob.pubO id r cs)) = liveO o
  | none => rfl
  | some o => Ob.pubO_real id r cs o
def St.pubA (σ : St) (id : Nat) (r : Bool) (cs : List PV) : St := ⟨fun t => V.pubV id r cs (σ.sl t), fun i => bif Nat.beq i id then none else (σ.ob i).map (Ob.pubO id r cs), σ.av⟩

section
variable {w : World} {m m' : Gm} {av : Av} {R R' : Nat → Prop}
theorem pubL_length (id : Nat) (r : Bool) (cs : List PV) : ∀ vs : List V, (V.pubL id r cs vs).length = vs.length
  | [] => rfl
  | _ :: vs => by simp [V.pubL, pubL_length id r cs vs]
mutual
theorem Rel.pubV {id : Nat} {r : Bool} {cs : List PV} (hR : ∀ b, R b → R' b ∧ w.heap[b]? = w.heap[b]?) (hm : ∀ i x, m' i = some x → m i = some x)
    (h1 : r = true → ∀ sz k u, Rel w m av R (.osl id sz k) u → RelP w R' (.sl (some false) k cs) u) (h2 : ∀ sz k u, Rel w m av R (.gsl id sz k) u → RelP w R' (.sl none k cs) u) :
    ∀ (v : V) (u : Value), Rel w m av R v u → Rel w m' av R' (V.pubV id r cs v) u
  | .osl i sz k, u, h => by
    simp only [V.pubV]
    cases hb : Nat.beq i id with
    | true =>
      have := Nat.eq_of_beq_eq_true hb; subst this; simp only [cond_true, Rel]
      cases r with
      | true => exact h1 rfl sz k u h
      | false => simp only [cond_false, RelP]
    | false => simp only [cond_false]; exact h.mono hR (fun i x _ e => hm i x e) (fun _ e => e)
  | .gsl i sz k, u, h => by
    simp only [V.pubV]
    cases hb : Nat.beq i id with
    | true => have := Nat.eq_of_beq_eq_true hb; subst this; simp only [cond_true, Rel]; exact h2 sz k u h
    | false => simp only [cond_false]; exact h.mono hR (fun i x _ e => hm i x e) (fun _ e => e)
  | .agg vs, u, h => by
    simp only [Rel, V.pubV] at h ⊢
    obtain ⟨us, e, h⟩ := h
    exact ⟨us, e, RelL.pubL hR hm h1 h2 vs us h⟩
  | .tup vs, u, h => by
    simp only [Rel, V.pubV] at h ⊢
    obtain ⟨us, e, h⟩ := h
    exact ⟨us, e, RelL.pubL hR hm h1 h2 vs us h⟩
  | .fn f a b, u, h => by
    simp only [Rel, V.pubV] at h ⊢
    obtain ⟨us, vs, e, ha, hb⟩ := h
    exact ⟨us, vs, e, RelL.pubL hR hm h1 h2 a us ha, RelL.pubL hR hm h1 h2 b vs hb⟩
  | .pv p, u, h => by simp only [V.pubV]; exact h.mono hR (fun i x _ e => hm i x e) (fun _ e => e)
  | .ptr i o, u, h => by simp only [V.pubV]; exact h.mono hR (fun i x _ e => hm i x e) (fun _ e => e)
  | .map i, u, h => by simp only [V.pubV]; exact h.mono hR (fun i x _ e => hm i x e) (fun _ e => e)
theorem RelL.pubL {id : Nat} {r : Bool} {cs : List PV} (hR : ∀ b, R b → R' b ∧ w.heap[b]? = w.heap[b]?) (hm : ∀ i x, m' i = some x → m i = some x)
    (h1 : r = true → ∀ sz k u, Rel w m av R (.osl id sz k) u → RelP w R' (.sl (some false) k cs) u) (h2 : ∀ sz k u, Rel w m av R (.gsl id sz k) u → RelP w R' (.sl none k cs) u) :
    ∀ (vs : List V) (us : List Value), RelL w m av R vs us → RelL w m' av R' (V.pubL id r cs vs) us
  | [], _, h => by simpa only [RelL, V.pubL] using h
  | c :: vs, _, h => by
    simp only [RelL, V.pubL] at h ⊢
    obtain ⟨u, us, e, ha, hb⟩ := h
    exact ⟨u, us, e, Rel.pubV hR hm h1 h2 c u ha, RelL.pubL hR hm h1 h2 vs us hb⟩
end
end

def Ob.plain : Ob → Option (Bool × List PV)
  | .cells _ cs => some (true, cs)
  | .gro _ cs => some (false, cs)
  | .mix _ _ => none
/-- A slice of the call's own (or a growing one) is finished: it is a plain value from now on, wherever it stands. -/
theorem St.le_pubA {σ : St} {o : Ob} {r : Bool} {cs : List PV} (id : Nat) (ho : σ.ob id = some o) (hc : o.plain = some (r, cs)) : σ.le (σ.pubA id r cs) := by
  rintro C n a w ⟨m, R, hw⟩
  have hd := hw.drop id
  have sub : ∀ i x, upd m id none i = some x → m i = some x ∧ i ≠ id := fun i x e => by
    by_cases hi : i = id
    · subst hi; rw [upd_same] at e; cases e
    · rw [upd_ne _ _ hi] at e; exact ⟨e, hi⟩
  let R' : Nat → Prop := fun q => R q ∨ ∃ N, m id = some (q, N)
  have hR : ∀ b, R b → R' b ∧ w.heap[b]? = w.heap[b]? := fun b hb => ⟨.inl hb, rfl⟩
  have hcell : ∀ b N, m id = some (b, N) → ∃ us, RelPL w R' cs us ∧ Shows w R' b 0 us := by
    intro b N hm
    have hO := hw.hr.obj id o b N ho hm
    have fin : ∀ T (arr : Array Value), w.heap[b]? = some (.cells arr T (0, 0)) → RelPL w R cs (arr.toList.take cs.length) → ∃ us, RelPL w R' cs us ∧ Shows w R' b 0 us := by
      intro T arr hb hr
      refine ⟨_, hr.mono hR, .inr ⟨N, hm⟩, ?_⟩
      intro j hj
      simp only [List.length_take] at hj
      rw [Nat.zero_add, cell_of_row w b j arr T (0, 0) hb, List.getElem?_take, if_pos (by omega)]
      simp
    cases o with
    | cells T c => simp only [Ob.plain, Option.some.injEq, Prod.mk.injEq] at hc; obtain ⟨_, rfl⟩ := hc; obtain ⟨arr, q1, _, _, q4⟩ := hO; exact fin T arr q1 q4
    | gro T c => simp only [Ob.plain, Option.some.injEq, Prod.mk.injEq] at hc; obtain ⟨_, rfl⟩ := hc; obtain ⟨arr, q1, _, _, q4⟩ := hO; exact fin T arr q1 q4
    | mix T c => simp [Ob.plain] at hc
  have hlv : (m id).isSome = true ∨ (r = false ∧ cs = []) := by
    rw [hw.hr.dom, ho]
    cases o with
    | cells T c => exact .inl rfl
    | gro T c =>
      simp only [Ob.plain, Option.some.injEq, Prod.mk.injEq] at hc
      obtain ⟨rfl, rfl⟩ := hc
      cases c with
      | nil => exact .inr ⟨rfl, rfl⟩
      | cons _ _ => exact .inl rfl
    | mix T c => simp [Ob.plain] at hc
  have p1 : r = true → ∀ sz k u, Rel w m σ.av R (.osl id sz k) u → RelP w R' (.sl (some false) k cs) u := by
    intro hr' sz k u h
    obtain ⟨⟨b, N⟩, hm⟩ : ∃ x, m id = some x := by
      rcases hlv with h | h
      · exact Option.isSome_iff_exists.1 h
      · rw [hr'] at h; cases h.1
    simp only [Rel] at h
    obtain ⟨c, he, h1, h2, _⟩ := h.2 b N hm
    obtain ⟨us, hr, hsh⟩ := hcell b N hm
    simp only [RelP]
    exact ⟨_, c, he, h1, h2, (fun _ e => by cases e; rfl), (fun e => by cases e), fun _ => ⟨b, 0, us, rfl, hr, hsh⟩⟩
  have p2 : ∀ sz k u, Rel w m σ.av R (.gsl id sz k) u → RelP w R' (.sl none k cs) u := by
    intro sz k u h
    simp only [Rel] at h
    obtain ⟨h0, A, c, he, h1, h2, h3, h4⟩ := h
    simp only [RelP]
    refine ⟨_, c, he, h1, h2, (fun _ e => by cases e), (fun e => by cases e), fun hne => ?_⟩
    obtain ⟨⟨b, N⟩, hm⟩ : ∃ x, m id = some x := by
      rcases hlv with h | h
      · exact Option.isSome_iff_exists.1 h
      · exact absurd h.2 hne
    have hk : 0 < k := by
      rcases Nat.eq_zero_or_pos k with e | e
      · have := (h3 e).2.2; rw [hm] at this; cases this
      · exact e
    obtain ⟨us, hr, hsh⟩ := hcell b N hm
    exact ⟨b, 0, us, (h4 hk b N hm).1, hr, hsh⟩
  have hsub : ∀ i x, upd m id none i = some x → m i = some x := fun i x e => (sub i x e).1
  have obn : ∀ i, (σ.pubA id r cs).ob i = bif Nat.beq i id then none else (σ.ob i).map (Ob.pubO id r cs) := fun _ => rfl
  have obs : (σ.pubA id r cs).ob id = none := by rw [obn]; simp
  have obe : ∀ i, i ≠ id → (σ.pubA id r cs).ob i = (σ.ob i).map (Ob.pubO id r cs) := fun i hi => by
    rw [obn]
    have : Nat.beq i id = false := by cases hb : Nat.beq i id; rfl; exact absurd (Nat.eq_of_beq_eq_true hb) hi
    rw [this]; rfl
  refine ⟨upd m id none, R', ⟨?_, ?_, ?_, hd.hr.inj, ?_, ?_, ?_, fun q hq => .inl (hw.hr.r0 q hq), hw.hr.frame, hd.hr.keep, hd.hr.res⟩, hw.df, hw.sz, ?_⟩
  · intro i
    by_cases e : i = id
    · subst e; rw [upd_same, obs]; rfl
    · rw [upd_ne _ _ e, obe i e, liveO_pub]; exact hw.hr.dom i
  · intro i hi
    by_cases e : i = id
    · subst e; exact obs
    · rw [obe i e, hw.hr.free i hi]; rfl
  · intro i o' b N h1 h2
    obtain ⟨h2', e⟩ := sub i _ h2
    rw [obe i e] at h1
    cases ho' : σ.ob i with
    | none => rw [ho'] at h1; cases h1
    | some o2 =>
      rw [ho'] at h1
      simp only [Option.map_some, Option.some.injEq] at h1
      subst h1
      have hO := hw.hr.obj i o2 b N ho' h2'
      cases o2 with
      | cells T c => obtain ⟨arr, q1, q2, q3, q4⟩ := hO; exact ⟨arr, q1, q2, q3, q4.mono hR⟩
      | gro T c => obtain ⟨arr, q1, q2, q3, q4⟩ := hO; exact ⟨arr, q1, q2, q3, q4.mono hR⟩
      | mix T c =>
        obtain ⟨arr, q1, q2, q3, q4⟩ := hO
        refine ⟨arr, q1, q2, by rw [pubL_length]; exact q3, ?_⟩
        rw [pubL_length]
        exact q4.pubL hR hsub p1 p2
  · intro i b N h1
    obtain ⟨h2, h3, h4⟩ := hw.hr.own i b N (sub i _ h1).1
    refine ⟨h2, ?_, h4⟩
    rintro (h5 | ⟨N', h5⟩)
    · exact h3 h5
    · exact (sub i _ h1).2 (hw.hr.inj i id b N N' (sub i _ h1).1 h5)
  · rintro q (hq | ⟨N, hq⟩)
    · exact hw.hr.rsz q hq
    · exact (hw.hr.own id q N hq).1
  · rintro q (hq | ⟨N, hq⟩)
    · exact hw.hr.rfr q hq
    · rcases (hw.hr.own id q N hq).2.2 with h | h
      · exact .inr (.inr h)
      · exact .inr (.inl h)
  · intro t ht
    exact (hw.sl t ht).pubV hR hsub p1 p2

theorem St.le.trans {σ τ υ : St} (h : σ.le τ) (k : τ.le υ) : σ.le υ := fun C n a w hs => k C n a w (h C n a w hs)

/-- Two ways come together again. -/
def midQ {X : Type} (st : X → St) (I : X → Prop) (Q : Exit → St → Prop) : Exit → St → Prop
  | .normal, σ => ∃ x, σ.le (st x) ∧ I x
  | e, σ => Q e σ
theorem AW.cut {X : Type} {C : Ctx} {n : Nat} {Q : Exit → St → Prop} {σ : St} {c d : Code} (st : X → St) (I : X → Prop) (h : AW C n c (midQ st I Q) σ) (k : ∀ x, I x → AW C n d Q (st x)) : AW C n (.seq c d) Q σ := by
  refine AW.seq (h.mono ?_)
  intro e s hq
  cases e with
  | normal =>
    obtain ⟨x, hle, hi⟩ := hq
    exact AW.weaken hle (k x hi)
  | _ => exact hq

end Go.Proofs.Ytkalgjnhaicabaa
