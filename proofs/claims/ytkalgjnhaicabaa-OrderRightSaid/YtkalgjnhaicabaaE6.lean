/-
  Our own step logic: make, append, building values; states that say less; calls and returns. No statement of the program is proved here.
-/
import Derived.Test.YtkalgjnhaicabaaE5
namespace Go.Proofs.Ytkalgjnhaicabaa
open Go.RowKit

section
variable {C : Ctx} {n : Nat} {σ : St} {a : Act} {w : World} {m : Gm} {R : Nat → Prop}

/-- A place is given up. -/
theorem SW.drop (h : SW C n σ a w m R) (id : Nat) : SW C n ⟨σ.sl, obL [(id, none)] σ.ob, σ.av⟩ a w (upd m id none) R := by
  have obe : ∀ i, i ≠ id → obL [(id, none)] σ.ob i = σ.ob i := fun i hi => by
    have : Nat.beq i id = false := by cases hb : Nat.beq i id; rfl; exact absurd (Nat.eq_of_beq_eq_true hb) hi
    simp [obL, this]
  have obs : obL [(id, none)] σ.ob id = none := by simp [obL]
  have sub : ∀ i x, upd m id none i = some x → m i = some x := fun i x e => by
    by_cases hi : i = id
    · subst hi; rw [upd_same] at e; cases e
    · rwa [upd_ne _ _ hi] at e
  refine h.world ⟨?_, ?_, ?_, ?_, ?_, ?_, ?_, ?_, ?_, ?_, ?_⟩ (fun b hb => ⟨hb, rfl⟩) (fun i x _ e => sub i x e) (fun _ e => e)
  · intro i
    by_cases e : i = id
    · subst e; rw [upd_same, obs]; rfl
    · rw [upd_ne _ _ e, obe i e]; exact h.hr.dom i
  · intro i hi
    by_cases e : i = id
    · subst e; exact obs
    · rw [obe i e]; exact h.hr.free i hi
  · intro i o b N h1 h2
    have e : i ≠ id := fun e => by subst e; rw [upd_same] at h2; cases h2
    rw [obe i e] at h1
    exact (h.hr.obj i o b N h1 (sub _ _ h2)).mono (fun b hb => ⟨hb, rfl⟩) (fun i x _ e => sub i x e) (fun _ e => e) rfl
  · intro i j b N N' h1 h2
    exact h.hr.inj i j b N N' (sub _ _ h1) (sub _ _ h2)
  · intro i b N h1
    exact h.hr.own i b N (sub _ _ h1)
  · exact h.hr.rsz
  · exact h.hr.rfr
  · exact h.hr.r0
  · exact h.hr.frame
  · exact fun i x hi e => h.hr.keep i x hi (sub i x e)
  · exact h.hr.res

/-- A block that nobody else has becomes a place. -/
theorem SW.fresh (h : SW C n σ a w m R) {id : Nat} (hid : σ.av id = true) {w' : World} {g : Nat} {arr : Array Value} {ty : TypeId} (hg : w'.heap[g]? = some (.cells arr ty (0, 0))) {row : Option Nat} (hgr : w.grownBy w' row) (hrow : ∀ k, row = some k → ¬ R k ∧ (∀ i b N, m i = some (b, N) → b ≠ k) ∧ (C.F k ∨ C.w0.heap.size ≤ k))
    (hgR : ¬ R g) (hgm : ∀ i b N, m i = some (b, N) → b ≠ g) (hgF : C.F g ∨ C.w0.heap.size ≤ g) (o : Ob)
    (ho : ∀ (m' : Gm) (av' : Av), (∀ b, R b → R b ∧ w'.heap[b]? = w.heap[b]?) → (∀ i x, σ.av i = false → m' i = some x → m i = some x) → (∀ i, σ.av i = false → av' i = false) → ORel w' m' av' R g arr.size o) (hre : o.real = true := by rfl) :
    SW C n ⟨σ.sl, obL [(id, some o)] σ.ob, avL [id] σ.av⟩ a w' (upd m id (some (g, arr.size))) R := by
  have hblk : ∀ k, k < w.heap.size → (∀ q, row = some q → k ≠ q) → w'.heap[k]? = w.heap[k]? := fun k hk hne => hgr.block k hk (fun e => hne k e.symm rfl)
  have hgs : g < w'.heap.size := (Array.getElem?_eq_some_iff.1 hg).1
  have hR : ∀ b, R b → R b ∧ w'.heap[b]? = w.heap[b]? := fun b hb => ⟨hb, hblk b (h.hr.rsz b hb) (fun q hq e => (hrow q hq).1 (e ▸ hb))⟩
  have hne : ∀ i, σ.av i = false → i ≠ id := fun i hi e => by rw [e, hid] at hi; cases hi
  have hm : ∀ i x, σ.av i = false → upd m id (some (g, arr.size)) i = some x → m i = some x := fun i x hi e => by rwa [upd_ne _ _ (hne i hi)] at e
  have ha : ∀ i, σ.av i = false → avL [id] σ.av i = false := fun i hi => by
    simp only [avL]
    cases Nat.beq i id <;> simp [hi]
  have obe : ∀ i, i ≠ id → obL [(id, some o)] σ.ob i = σ.ob i := fun i hi => by
    have : Nat.beq i id = false := by cases hb : Nat.beq i id; rfl; exact absurd (Nat.eq_of_beq_eq_true hb) hi
    simp [obL, this]
  have obs : obL [(id, some o)] σ.ob id = some o := by simp [obL]
  refine h.world ⟨?_, ?_, ?_, ?_, ?_, ?_, ?_, ?_, ?_, ?_, ?_⟩ hR hm ha
  · intro i
    by_cases e : i = id
    · subst e; rw [upd_same, obs]; exact hre.symm
    · rw [upd_ne _ _ e, obe i e]; exact h.hr.dom i
  · intro i hi
    simp only [avL] at hi
    cases hb : Nat.beq i id with
    | true => rw [hb] at hi; simp at hi
    | false =>
      rw [hb] at hi
      have e : i ≠ id := fun e => by subst e; simp at hb
      rw [obe i e]
      exact h.hr.free i (by simpa using hi)
  · intro i o' b N h1 h2
    by_cases e : i = id
    · subst e
      rw [obs] at h1
      rw [upd_same] at h2
      cases h1; cases h2
      exact ho _ _ hR hm ha
    · rw [obe i e] at h1
      rw [upd_ne _ _ e] at h2
      exact (h.hr.obj i o' b N h1 h2).mono hR hm ha (hblk b (h.hr.own i b N h2).1 (fun q hq => (hrow q hq).2.1 i b N h2))
  · intro i j b N N' h1 h2
    by_cases e1 : i = id <;> by_cases e2 : j = id
    · rw [e1, e2]
    · subst e1
      rw [upd_same] at h1
      rw [upd_ne _ _ e2] at h2
      cases h1
      exact absurd rfl (hgm j _ _ h2)
    · subst e2
      rw [upd_same] at h2
      rw [upd_ne _ _ e1] at h1
      cases h2
      exact absurd rfl (hgm i _ _ h1)
    · rw [upd_ne _ _ e1] at h1
      rw [upd_ne _ _ e2] at h2
      exact h.hr.inj i j b N N' h1 h2
  · intro i b N h1
    by_cases e : i = id
    · subst e
      rw [upd_same] at h1
      cases h1
      exact ⟨hgs, hgR, hgF⟩
    · rw [upd_ne _ _ e] at h1
      obtain ⟨h2, h3, h4⟩ := h.hr.own i b N h1
      exact ⟨Nat.lt_of_lt_of_le h2 hgr.size, h3, h4⟩
  · intro b hb
    exact Nat.lt_of_lt_of_le (h.hr.rsz b hb) hgr.size
  · exact h.hr.rfr
  · exact h.hr.r0
  · refine ⟨hgr.os.trans h.hr.frame.os, hgr.tape.trans h.hr.frame.tape, hgr.output.trans h.hr.frame.output, Nat.le_trans h.hr.frame.size hgr.size, ?_⟩
    intro k hk hF
    rw [hblk k (Nat.lt_of_lt_of_le hk h.hr.frame.size) (fun q hq e => by subst e; rcases (hrow k hq).2.2 with h' | h'; exact hF h'; omega)]
    exact h.hr.frame.block k hk hF
  · intro i x hi e
    have hne' : i ≠ id := fun e' => by subst e'; rw [h.hr.res i hi] at hid; cases hid
    rw [upd_ne _ _ hne'] at e
    exact h.hr.keep i x hi e
  · intro i hi
    exact ha i (h.hr.res i hi)
end

theorem leafP_cells {w : World} {R : Nat → Prop} : ∀ {vs : List PV} {us : List Value}, RelPL w R vs us → (∀ c ∈ vs, c.leaf = true) → ∀ u ∈ us, u.oneCell' = true
  | [], _, h, _ => by simp only [RelPL] at h; subst h; simp
  | c :: cs, _, h, hl => by
    simp only [RelPL] at h
    obtain ⟨u, us, rfl, hc, hr⟩ := h
    intro v hv
    rcases List.mem_cons.1 hv with rfl | hv
    · exact hc.leaf (hl c (by simp))
    · exact leafP_cells hr (fun c hc => hl c (by simp [hc])) v hv

/-- What append needs to know of an element type. -/
structure ElemIs (P : Program) (t e : TypeId) (z : Value) (size bytes : Nat) : Prop where
  u : P.underlying t = some (.slice e)
  info : (P.info? e).map (fun i => (i.zero, i.size, i.bytes)) = some (some z, size, bytes)
  zs : z.cells.size = size
  pos : 0 < size
  by_ : bytes ≤ 1000

theorem h_inj {C : Ctx} {n : Nat} {σ : St} {a : Act} {w : World} {m : Gm} {R : Nat → Prop} (hw : SW C n σ a w m R) {i j b b' N N' : Nat} (h1 : m i = some (b', N')) (h2 : m j = some (b, N)) (e : b' = b) : i = j := by
  subst e
  exact hw.hr.inj i j b' N' N h1 h2

section
variable {C : Ctx} {n : Nat} {σ : St} {dst : Option Tmp} {ty t t' : TypeId} {pos : String} {after : Array Edge} {gd : Option (Nat × Bool)} {x y : Operand}

/-- What a source of elements shows. -/
def SrcIs (n : Nat) (σ : St) (x : Operand) (k : Nat) (news : List PV) : Prop :=
  (∃ b, σ.ev n x = .pv (.sl b k news)) ∨ (∃ id sz T cs, σ.ev n x = .osl id sz k ∧ σ.ob id = some (.cells T cs) ∧ news = cs.take (k * sz))
theorem SrcIs.row {a : Act} {w : World} {m : Gm} {R : Nat → Prop} (hw : SW C n σ a w m R) {k : Nat} {news : List PV} (h : SrcIs n σ x k news) :
    ∃ A c us, a.eval x = .slice A k c ∧ RelPL w R news us ∧ Row w Any A us := by
  rcases h with ⟨b, hx⟩ | ⟨id, sz, T, cs, hx, ho, rfl⟩
  · have := hw.pv hx
    simp only [RelP] at this
    obtain ⟨A, c, he, _, _, _, _, h5⟩ := this
    by_cases hne : news = []
    · subst hne
      exact ⟨A, c, [], he, RelPL.nil, Row.nil⟩
    · obtain ⟨b, off, us, rfl, hr, hs⟩ := h5 hne
      refine ⟨_, c, us, he, hr, fun hne => ⟨b, off, rfl, trivial, hw.hr.rsz b hs.1, fun j hj => hs.2 j hj⟩⟩
  · obtain ⟨b, N, c, he, _, _, hN, hm, arr, hb, hsz, hle, hr⟩ := hw.osl hx ho
    refine ⟨_, c, _, he, hr.take (k * sz), fun hne => ⟨b, 0, rfl, trivial, (hw.hr.own id b N hm).1, fun j hj => ?_⟩⟩
    simp only [List.length_take] at hj
    rw [Nat.zero_add, cell_of_row w b j arr T (0, 0) hb, List.getElem?_take, if_pos (by omega), List.getElem?_take, if_pos (by omega)]
    simp

/-- append onto a slice of the call's own. -/
theorem xj_append {e : TypeId} {z : Value} {size bytes k j id : Nat} {cs news : List PV} (id' : Nat) (he : ElemIs C.P t e z size bytes) (hs : σ.ev n x = .osl id size k) (ho : σ.ob id = some (.cells e cs)) (hcs : cs.length = k * size)
    (hsrc : SrcIs n σ y j news) (hl : news.length = j * size) (hlf : ∀ c ∈ news, c.leaf = true) (hb : k + j ≤ 1000000000) (hid : σ.av id' = true) :
    XJ C n ⟨dst, .call { callee := .builtin .append, args := #[x, y], argTypes := #[t, t] }, ty, pos, after, gd⟩ σ ⟨.osl id' size (k + j), [(id', some (.cells e (cs ++ news))), (id, none)], [id']⟩ := by
  rintro a w Q ⟨m, R, hw⟩
  obtain ⟨b, N, c, hev, hkc, hcm, hN, hm, arr, hbk, hsz, hle, hr⟩ := hw.osl hs ho
  obtain ⟨A, c2, us, hev2, hr2, hrow⟩ := hsrc.row hw
  have hown : w.ownsRow 0 e size (.slice (some ⟨b, 0, none⟩) k c) k (arr.toList.take (k * size)) := by
    refine ⟨?_, .inr ⟨b, c, arr, rfl, Nat.zero_le _, hbk, hkc, hcm, by rw [hsz, hN], rfl⟩⟩
    have := Nat.mul_le_mul_right size hkc
    simp only [List.length_take, Array.length_toList]
    omega
  refine wp_appS x y t rfl 0 e z size bytes he.u he.info he.zs he.pos he.by_ _ k j c2 A _ us hev hev2 hown hrow (by rw [hr2.length, hl]) (leafP_cells hr2 hlf) hb (Nat.zero_le _) ?_
  intro A' c' w' hown' hgr hat
  have own := hw.hr.own id b N hm
  have hrel : RelPL w R (cs ++ news) (arr.toList.take (k * size) ++ us) := by
    rw [hcs] at hr
    exact hr.append hr2
  have sub : ∀ i x, upd m id none i = some x → m i = some x ∧ i ≠ id := fun i x e => by
    by_cases hi : i = id
    · subst hi; rw [upd_same] at e; cases e
    · rw [upd_ne _ _ hi] at e; exact ⟨e, hi⟩
  have bprop : ¬ R b ∧ (∀ i b' N', upd m id none i = some (b', N') → b' ≠ b) ∧ (C.F b ∨ C.w0.heap.size ≤ b) :=
    ⟨own.2.1, fun i b' N' hi e => (sub i _ hi).2 (h_inj hw (sub i _ hi).1 hm e), own.2.2⟩
  rcases hown'.2 with ⟨hv, h0⟩ | ⟨g, cap, cur, hv, _, hg, hkc', hcm', hcs', htk⟩
  · exfalso
    simp only [Value.slice.injEq] at hv
    obtain ⟨rfl, _, _⟩ := hv
    rcases hat with h | ⟨g', h, _⟩ <;> simp [Value.ownBlock] at h
  · simp only [Value.slice.injEq] at hv
    obtain ⟨rfl, -, rfl⟩ := hv
    have gprop : ¬ R g ∧ (∀ i b' N', upd m id none i = some (b', N') → b' ≠ g) ∧ (C.F g ∨ C.w0.heap.size ≤ g) := by
      rcases hat with h | ⟨g', h, hle⟩
      · simp only [Value.ownBlock, Option.some.injEq] at h
        rw [h]; exact bprop
      · simp only [Value.ownBlock, Option.some.injEq] at h
        subst h
        refine ⟨fun h => ?_, fun i b' N' hi e => ?_, .inr ?_⟩
        · have := hw.hr.rsz _ h; omega
        · have := (hw.hr.own i b' N' (sub i _ hi).1).1; omega
        · have := hw.hr.frame.size; omega
    have hul : (arr.toList.take (k * size) ++ us).length = (k + j) * size := hown'.1
    refine ⟨_, rfl, upd (upd m id none) id' (some (g, cur.size)), R, ?_⟩
    rw [St.app_new]
    refine SW.put ((hw.drop id).fresh hid hg hgr (fun q hq => by simp [Value.ownBlock] at hq; subst hq; exact bprop) gprop.1 gprop.2.1 gprop.2.2 (.cells e (cs ++ news)) ?_) dst ?_
    · intro m' av' hR _ _
      refine ⟨cur, hg, rfl, ?_, ?_⟩
      · rw [hcs', ← hrel.length, hul]; exact Nat.mul_le_mul_right _ hkc'
      · rw [← hrel.length, hul, htk]
        exact hrel.mono hR
    · simp only [Rel]
      refine ⟨by simp [avL], fun b N e => ?_⟩
      rw [upd_same] at e
      cases e
      exact ⟨c', rfl, hkc', hcm', hcs'⟩

/-- append onto nil, at least one element. -/
theorem xj_append0 {e : TypeId} {z : Value} {size bytes j : Nat} {news : List PV} (id' : Nat) (he : ElemIs C.P t e z size bytes) (hs : σ.ev n x = .pv (.sl (some true) 0 []))
    (hsrc : SrcIs n σ y j news) (hl : news.length = j * size) (hlf : ∀ c ∈ news, c.leaf = true) (hb : j ≤ 1000000000) (hj : 0 < j) (hid : σ.av id' = true) :
    XJ C n ⟨dst, .call { callee := .builtin .append, args := #[x, y], argTypes := #[t, t] }, ty, pos, after, gd⟩ σ ⟨.osl id' size j, [(id', some (.cells e news))], [id']⟩ := by
  rintro a w Q ⟨m, R, hw⟩
  have hx := hw.pv hs
  simp only [RelP] at hx
  obtain ⟨A0, c0, hev, _, _, hn, hc0, _⟩ := hx
  have hA0 : A0 = none := by cases A0; rfl; have := hn true rfl; simp at this
  subst hA0
  rw [hc0 trivial] at hev
  obtain ⟨A, c2, us, hev2, hr2, hrow⟩ := hsrc.row hw
  refine wp_appS x y t rfl 0 e z size bytes he.u he.info he.zs he.pos he.by_ _ 0 j c2 A _ us hev hev2 (World.ownsRow_nil w 0 e size) hrow (by rw [hr2.length, hl]) (leafP_cells hr2 hlf) (by omega) (Nat.zero_le _) ?_
  intro A' c' w' hown' hgr hat
  simp only [Nat.zero_add, List.nil_append] at hown' hat ⊢
  rcases hown'.2 with ⟨hv, h0⟩ | ⟨g, cap, cur, hv, _, hg, hkc', hcm', hcs', htk⟩
  · omega
  · simp only [Value.slice.injEq] at hv
    obtain ⟨rfl, -, rfl⟩ := hv
    have gge : w.heap.size ≤ g := by
      rcases hat with h | ⟨g', h, hle⟩
      · simp [Value.ownBlock] at h
      · simp only [Value.ownBlock, Option.some.injEq] at h
        subst h; exact hle
    refine ⟨_, rfl, upd m id' (some (g, cur.size)), R, ?_⟩
    rw [St.app_new]
    refine SW.put (hw.fresh hid hg hgr (fun q hq => by simp [Value.ownBlock] at hq) (fun h => by have := hw.hr.rsz _ h; omega) (fun i b N hi e => by have := (hw.hr.own i b N hi).1; omega) (.inr (by have := hw.hr.frame.size; omega)) (.cells e news) ?_) dst ?_
    · intro m' av' hR _ _
      refine ⟨cur, hg, rfl, ?_, ?_⟩
      · rw [hcs', ← hr2.length, hown'.1]; exact Nat.mul_le_mul_right _ hkc'
      · rw [← hr2.length, hown'.1, htk]
        exact hr2.mono hR
    · simp only [Rel]
      refine ⟨by simp [avL], fun b N e => ?_⟩
      rw [upd_same] at e
      cases e
      exact ⟨c', rfl, hkc', hcm', hcs'⟩

end
end Go.Proofs.Ytkalgjnhaicabaa
