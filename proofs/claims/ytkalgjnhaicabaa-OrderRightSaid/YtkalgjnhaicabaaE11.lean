/-
  Our own step logic: the rule for calls that are handed places; calls of function values. No statement of the program is proved here.
-/
import Derived.Test.YtkalgjnhaicabaaE10
namespace Go.Proofs.Ytkalgjnhaicabaa
open Go.RowKit

def allObR (σ : St) (ρ : Nat → Nat) : List (Nat × Ob) → Prop
  | [] => True
  | (i, o) :: l => σ.ob (ρ i) = some (o.ren ρ) ∧ allObR σ ρ l
theorem allObR_mem {σ : St} {ρ : Nat → Nat} : ∀ {os : List (Nat × Ob)}, allObR σ ρ os → ∀ i o, (i, o) ∈ os → σ.ob (ρ i) = some (o.ren ρ)
  | [], _, i, o, h => by simp at h
  | (d, v) :: os, h, i, o, hm => by
    rcases List.mem_cons.1 hm with e | hm
    · cases e; exact h.1
    · exact allObR_mem h.2 i o hm
theorem lookO_some : ∀ {os : List (Nat × Ob)} {i : Nat}, i ∈ os.map (·.1) → ∃ o, lookO os i = some o
  | [], _, h => by simp at h
  | (d, v) :: os, i, h => by
    simp only [lookO]
    cases hb : Nat.beq i d with
    | true => exact ⟨v, rfl⟩
    | false =>
      simp only [List.map_cons, List.mem_cons] at h
      rcases h with e | h
      · subst e; simp at hb
      · simpa using lookO_some h

section
variable {C : Ctx} {n : Nat} {σ : St}

/-- What a call that is handed places does for the caller. -/
theorem callO_core {f : FuncId} {args : List V} {os : List (Nat × Ob)} {k' : Nat} {Q : V → (Nat → Option Ob) → Prop} {K : St → Prop} {dst : Option Tmp} (ids : List Nat) (base : Nat)
    (ha : V.allL (okR ids.length 0) args = true) (hos : os.map (·.1) = (List.range ids.length).map (big + ·)) (hob : os.all (fun p => p.2.all (okR ids.length 0)) = true) (hobs : allObR σ (renI ids base) os)
    (hnd : ids.Nodup) (hav : (nwO base k').all σ.av = true) (hf : FnO C.P f ids.length k' args os Q)
    (hk : ∀ v ob', Q v ob' → K (σ.app dst ⟨v.ren (renI ids base), wrO ids base k' ob', nwO base k'⟩))
    {a : Act} {w : World} {m : Gm} {R : Nat → Prop} (hw : SW C n σ a w m R) {us : List Value} (hus : RelL w m σ.av R (V.renL (renI ids base) args) us) :
    Calls C.P f us.toArray w fun e w' => ∃ u, e = .returned u ∧ ∃ σ', K σ' ∧ SJ C n σ' (a.put dst u) w' := by
  have ρb : ∀ j, renI ids base (big + j) = ids.getD j 0 := fun j => by
    have : Nat.ble big (big + j) = true := Nat.ble_eq_true_of_le (Nat.le_add_right _ _)
    simp only [renI, this, cond_true, Nat.add_sub_cancel_left]
  have ρj : ∀ (j id : Nat), ids[j]? = some id → renI ids base (big + j) = id := fun j id h => by rw [ρb, List.getD_eq_getElem?_getD, h]; rfl
  have ρn : ∀ i, i < big → renI ids base i = base + i := fun i hi => by
    have : Nat.ble big i = false := by cases hb : Nat.ble big i; rfl; have := Nat.le_of_ble_eq_true hb; omega
    simp only [renI, this, cond_false]
  have keyS : ∀ i o, lookO os i = some o → ∃ j id : Nat, i = big + j ∧ ids[j]? = some id := by
    intro i o h
    have : i ∈ os.map (·.1) := List.mem_map.2 ⟨(i, o), lookO_mem h, rfl⟩
    rw [hos] at this
    obtain ⟨j, hj, rfl⟩ := List.mem_map.1 this
    have hj' : j < ids.length := by simpa using hj
    exact ⟨j, ids[j], rfl, List.getElem?_eq_getElem hj'⟩
  have keyI : ∀ (j id : Nat), ids[j]? = some id → ∃ o, lookO os (big + j) = some o := by
    intro j id h
    apply lookO_some
    rw [hos]
    exact List.mem_map.2 ⟨j, by simpa using (List.getElem?_eq_some_iff.1 h).1, rfl⟩
  have obs : ∀ i o, lookO os i = some o → σ.ob (renI ids base i) = some (o.ren (renI ids base)) := fun i o h => allObR_mem hobs i o (lookO_mem h)
  have live : ∀ (j id : Nat), ids[j]? = some id → (∀ o, lookO os (big + j) = some o → (m id).isSome = o.real) ∧ σ.av id = false := by
    intro j id h
    refine ⟨fun o ho => ?_, ?_⟩
    · have h1 := obs _ _ ho
      rw [ρj j id h] at h1
      rw [hw.hr.dom, h1]
      exact Ob.real_ren _ o
    obtain ⟨o, ho⟩ := keyI j id h
    have h1 := obs _ _ ho
    rw [ρj j id h] at h1
    cases hb : σ.av id
    · rfl
    · rw [hw.hr.free id hb] at h1; cases h1
  have nwav : ∀ i, i < k' → σ.av (base + i) = true := fun i hi => List.all_eq_true.1 hav _ (List.mem_map.2 ⟨i, by simpa using hi, rfl⟩)
  have nwids : ∀ i, i < k' → (base + i) ∉ ids := fun i hi hmem => by
    obtain ⟨j, hj⟩ := List.getElem?_of_mem hmem
    have := (live j _ hj).2
    rw [nwav i hi] at this
    cases this
  have nwbig : ∀ i, i < k' → base + i < big := fun i hi => by
    rcases Nat.lt_or_ge (base + i) big with h | h
    · exact h
    · have := hw.hr.res _ h
      rw [nwav i hi] at this
      cases this
  have okcase : ∀ i, okR ids.length k' i = true → (i < k' ∧ i < big ∧ renI ids base i = base + i) ∨ ∃ j id : Nat, i = big + j ∧ ids[j]? = some id := by
    intro i hi
    simp only [okR, Bool.or_eq_true, Bool.and_eq_true] at hi
    rcases hi with h | ⟨h1, h2⟩
    · have h : i < k' := by simpa [Nat.blt_eq] using h
      have hb : i < big := by have := nwbig i h; omega
      exact .inl ⟨h, hb, ρn i hb⟩
    · have h1 := Nat.le_of_ble_eq_true h1
      have h2 : i < big + ids.length := by simpa [Nat.blt_eq] using h2
      refine .inr ⟨i - big, ids[i - big]'(by omega), by omega, List.getElem?_eq_getElem _⟩
  have okcase0 : ∀ i, okR ids.length 0 i = true → ∃ j id : Nat, i = big + j ∧ ids[j]? = some id := by
    intro i hi
    simp only [okR, Bool.or_eq_true, Bool.and_eq_true] at hi
    rcases hi with h | ⟨h1, h2⟩
    · simp [Nat.blt] at h
    · have h1 := Nat.le_of_ble_eq_true h1
      have h2 : i < big + ids.length := by simpa [Nat.blt_eq] using h2
      exact ⟨i - big, ids[i - big]'(by omega), by omega, List.getElem?_eq_getElem _⟩
  let mc : Gm := fun i => if (lookO os i).isSome then m (renI ids base i) else none
  have mcS : ∀ i x, mc i = some x → ∃ j id : Nat, i = big + j ∧ ids[j]? = some id ∧ m id = some x := by
    intro i x h
    simp only [mc] at h
    split at h
    · rename_i hs
      obtain ⟨o, ho⟩ := Option.isSome_iff_exists.1 hs
      obtain ⟨j, id, rfl, hj⟩ := keyS i o ho
      rw [ρj j id hj] at h
      exact ⟨j, id, rfl, hj, h⟩
    · cases h
  have mcI : ∀ (j id : Nat), ids[j]? = some id → mc (big + j) = m id := by
    intro j id h
    obtain ⟨o, ho⟩ := keyI j id h
    simp only [mc, ho, Option.isSome_some, if_true, ρj j id h]
  have idsInj : ∀ (i j id : Nat), ids[i]? = some id → ids[j]? = some id → i = j := by
    intro i j id h1 h2
    have l1 := (List.getElem?_eq_some_iff.1 h1).1
    have l2 := (List.getElem?_eq_some_iff.1 h2).1
    have hp := List.pairwise_iff_getElem.1 hnd
    have e1 := (List.getElem?_eq_some_iff.1 h1).2
    have e2 := (List.getElem?_eq_some_iff.1 h2).2
    rcases Nat.lt_trichotomy i j with h | h | h
    · exact absurd (e1.trans e2.symm) (hp i j l1 l2 h)
    · exact h
    · exact absurd (e2.trans e1.symm) (hp j i l2 l1 h)
  have ownc : ∀ b, OwnB mc b → ∃ j id N : Nat, ids[j]? = some id ∧ m id = some (b, N) := by
    rintro b ⟨i, N, h⟩
    obtain ⟨j, id, _, hj, hx⟩ := mcS i _ h
    exact ⟨j, id, N, hj, hx⟩
  have hHRc : HR ⟨C.P, mc, w, OwnB mc, R⟩ mc R (lookO os) (avK 0) w := by
    refine ⟨?_, ?_, ?_, ?_, ?_, hw.hr.rsz, fun b h => .inl h, fun b h => h, Fr.refl _ _, fun i x _ h => h, fun i h => avK_big h⟩
    · intro i
      simp only [mc]
      cases ho : lookO os i with
      | none => rfl
      | some o =>
        obtain ⟨j, id, rfl, hj⟩ := keyS i o ho
        rw [ρj j id hj]
        simpa [liveO] using (live j id hj).1 o ho
    · intro i hi
      cases ho : lookO os i with
      | none => rfl
      | some o =>
        obtain ⟨j, id, rfl, hj⟩ := keyS i o ho
        have := (avK_lt hi).2
        omega
    · intro i o b N h1 h2
      obtain ⟨j, id, rfl, hj, hx⟩ := mcS i _ h2
      have h3 := obs _ _ h1
      rw [ρj j id hj] at h3
      have h4 := hw.hr.obj id _ b N h3 hx
      refine h4.unren (renI ids base) (okR ids.length 0) ?_ ?_ ?_
      · intro i' x hp hx'
        obtain ⟨j', id', rfl, hj', hx''⟩ := mcS i' _ hx'
        rw [ρj j' id' hj']
        exact hx''
      · intro i' hp
        obtain ⟨j', id', rfl, _⟩ := okcase0 i' hp
        exact avK_big (Nat.le_add_right _ _)
      · exact List.all_eq_true.1 hob (big + j, o) (lookO_mem h1)
    · intro i j b N N' h1 h2
      obtain ⟨i', id, rfl, hi', hx⟩ := mcS i _ h1
      obtain ⟨j', id2, rfl, hj', hy⟩ := mcS j _ h2
      have := hw.hr.inj id id2 b N N' hx hy
      subst this
      rw [idsInj i' j' id hi' hj']
    · intro i b N h1
      obtain ⟨j, id, rfl, hj, hx⟩ := mcS i _ h1
      have := hw.hr.own id b N hx
      exact ⟨this.1, this.2.1, .inl ⟨big + j, N, h1⟩⟩
  have hrel : RelL w mc (avK 0) R args us := by
    refine hus.unren (renI ids base) (okR ids.length 0) ?_ ?_ _ _ ha
    · intro i' x hp hx'
      obtain ⟨j', id', rfl, hj', hx''⟩ := mcS i' _ hx'
      rw [ρj j' id' hj']
      exact hx''
    · intro i' hp
      obtain ⟨j', id', rfl, _⟩ := okcase0 i' hp
      exact avK_big (Nat.le_add_right _ _)
  refine (hf w mc R us hHRc hrel).mono ?_
  rintro e w' ⟨u, v, ob', m', R', rfl, hq, hva, hoba, hH, hrv⟩
  refine ⟨u, rfl, _, hk v ob' hq, ?_⟩
  have mobs : ∀ i, (m' i).isSome = true → okR ids.length k' i = true := fun i hi => by
    rw [hH.dom] at hi
    obtain ⟨o, ho⟩ : ∃ o, ob' i = some o := by
      cases e : ob' i with
      | none => rw [e] at hi; cases hi
      | some o => exact ⟨o, rfl⟩
    exact (hoba i o ho).1
  -- the new names
  let mn : Gm := lkL (ids.zipIdx.map (fun p => (p.1, m' (big + p.2))) ++ (List.range k').map (fun i => (base + i, m' i))) m
  have zipn : ∀ {β : Type} (g h : Nat → β) (f : Nat → β), (∀ (j id : Nat), ids[j]? = some id → lkL (ids.zipIdx.map (fun p => (p.1, g p.2)) ++ (List.range k').map (fun i => (base + i, h i))) f id = g j) ∧
      (∀ i, i < k' → lkL (ids.zipIdx.map (fun p => (p.1, g p.2)) ++ (List.range k').map (fun i => (base + i, h i))) f (base + i) = h i) ∧
      (∀ id, id ∉ ids → (∀ i, i < k' → id ≠ base + i) → lkL (ids.zipIdx.map (fun p => (p.1, g p.2)) ++ (List.range k').map (fun i => (base + i, h i))) f id = f id) := by
    intro β g h f
    have hz : ∀ id, id ∉ ids → id ∉ (ids.zipIdx.map (fun p => (p.1, g p.2))).map (·.1) := by
      intro id hid hmem
      obtain ⟨p, hp, rfl⟩ := List.mem_map.1 hmem
      obtain ⟨q, hq, rfl⟩ := List.mem_map.1 hp
      obtain ⟨q1, q2⟩ := q
      have := List.mem_zipIdx hq
      simp only at hid
      exact hid (by rw [this.2.2]; exact List.getElem_mem _)
    refine ⟨fun j id hj => ?_, fun i hi => ?_, fun id h1 h2 => ?_⟩
    · rw [lkL_app]
      have := lkL_zip g (lkL ((List.range k').map (fun i => (base + i, h i))) f) ids 0 j id hnd hj
      simpa using this
    · rw [lkL_app, lkL_get _ _ _ (hz _ (nwids i hi))]
      exact lkL_range h f base k' i hi
    · rw [lkL_app, lkL_get _ _ _ (hz _ h1), lkL_get]
      intro hmem
      obtain ⟨p, hp, hpe⟩ := List.mem_map.1 hmem
      obtain ⟨i, hi, rfl⟩ := List.mem_map.1 hp
      exact h2 i (by simpa using hi) hpe.symm
  obtain ⟨mnA, mnB, mnC⟩ := zipn (fun j => m' (big + j)) m' m
  obtain ⟨obA, obB, obC⟩ := zipn (fun j => (ob' (big + j)).map (Ob.ren (renI ids base))) (fun i => (ob' i).map (Ob.ren (renI ids base))) σ.ob
  have obE : (obL (wrO ids base k' ob') σ.ob) = lkL (ids.zipIdx.map (fun p => (p.1, (ob' (big + p.2)).map (Ob.ren (renI ids base)))) ++ (List.range k').map (fun i => (base + i, (ob' i).map (Ob.ren (renI ids base))))) σ.ob := obL_lk _ _
  have tri : ∀ id : Nat, (∃ j : Nat, ids[j]? = some id) ∨ (∃ i, i < k' ∧ id = base + i) ∨ (id ∉ ids ∧ ∀ i, i < k' → id ≠ base + i) := by
    intro id
    by_cases h1 : id ∈ ids
    · exact .inl (List.getElem?_of_mem h1)
    · by_cases h2 : ∃ i, i < k' ∧ id = base + i
      · exact .inr (.inl h2)
      · exact .inr (.inr ⟨h1, fun i hi e => h2 ⟨i, hi, e⟩⟩)
  have kept : ∀ (j id : Nat) (x : Nat × Nat), ids[j]? = some id → m' (big + j) = some x → m id = some x := fun j id x hj h => by
    have := hH.keep (big + j) x (Nat.le_add_right _ _) h
    rw [← mcI j id hj]
    exact this
  have hblk : ∀ b, b < w.heap.size → ¬ OwnB mc b → w'.heap[b]? = w.heap[b]? := fun b h1 h2 => hH.frame.block b h1 h2
  have hR : ∀ b, R b → R' b ∧ w'.heap[b]? = w.heap[b]? := fun b hb => ⟨hH.r0 b hb, hblk b (hw.hr.rsz b hb) (fun ho => by
    obtain ⟨j, id, N, hj, hx⟩ := ownc b ho
    exact (hw.hr.own id b N hx).2.1 hb)⟩
  have avn : ∀ id, σ.av id = false → avL (nwO base k') σ.av id = false := fun id h => by rw [avL_get, h]; rfl
  have avnew : ∀ i, i < k' → avL (nwO base k') σ.av (base + i) = false := fun i hi => by
    have : inL (base + i) (nwO base k') = true := inL_iff.2 (List.mem_map.2 ⟨i, by simpa using hi, rfl⟩)
    rw [avL_get, this]
    simp
  have hm : ∀ id x, σ.av id = false → mn id = some x → m id = some x := by
    intro id x hav' hx
    rcases tri id with ⟨j, hj⟩ | ⟨i, hi, rfl⟩ | ⟨h1, h2⟩
    · rw [show mn id = m' (big + j) from mnA j id hj] at hx
      exact kept j id x hj hx
    · rw [nwav i hi] at hav'; cases hav'
    · rwa [show mn id = m id from mnC id h1 h2] at hx
  have rm : ∀ i x, okR ids.length k' i = true → mn (renI ids base i) = some x → m' i = some x := by
    intro i x hp hx
    rcases okcase i hp with ⟨h1, h2, h3⟩ | ⟨j, id, rfl, hj⟩
    · rw [h3, show mn (base + i) = m' i from mnB i h1] at hx; exact hx
    · rw [ρj j id hj, show mn id = m' (big + j) from mnA j id hj] at hx; exact hx
  have ra : ∀ i, okR ids.length k' i = true → avK k' i = false → avL (nwO base k') σ.av (renI ids base i) = false := by
    intro i hp _
    rcases okcase i hp with ⟨h1, h2, h3⟩ | ⟨j, id, rfl, hj⟩
    · rw [h3]; exact avnew i h1
    · rw [ρj j id hj]; exact avn id (live j id hj).2
  have notOwn : ∀ id b N, m id = some (b, N) → id ∉ ids → ¬ OwnB mc b := by
    intro id b N hx hid ho
    obtain ⟨j, id2, N2, hj, hy⟩ := ownc b ho
    have := hw.hr.inj id id2 b N N2 hx hy
    subst this
    exact hid (List.mem_of_getElem? hj)
  -- a place of the callee's: where it lies
  have calleeOwn : ∀ i b N, m' i = some (b, N) → b < w'.heap.size ∧ ¬ R' b ∧ (C.F b ∨ C.w0.heap.size ≤ b) ∧ (OwnB mc b ∨ w.heap.size ≤ b) := by
    intro i b N hx
    obtain ⟨h1, h2, h3⟩ := hH.own i b N hx
    refine ⟨h1, h2, ?_, h3⟩
    rcases h3 with h3 | h3
    · obtain ⟨j, id, N2, hj, hy⟩ := ownc b h3
      exact (hw.hr.own id b N2 hy).2.2
    · exact .inr (Nat.le_trans hw.hr.frame.size h3)
  have mix : ∀ i b N id N', m' i = some (b, N) → m id = some (b, N') → id ∉ ids → False := by
    intro i b N id N' h1 h2 hid
    rcases (calleeOwn i b N h1).2.2.2 with h | h
    · exact notOwn id b N' h2 hid h
    · have := (hw.hr.own id b N' h2).1; omega
  have hHn : HR C mn R' (obL (wrO ids base k' ob') σ.ob) (avL (nwO base k') σ.av) w' := by
    rw [obE]
    refine ⟨?_, ?_, ?_, ?_, ?_, hH.rsz, ?_, fun b h => hH.r0 b (hw.hr.r0 b h), ?_, ?_, fun id h => avn id (hw.hr.res id h)⟩
    · intro id
      rcases tri id with ⟨j, hj⟩ | ⟨i, hi, rfl⟩ | ⟨h1, h2⟩
      · rw [obA j id hj, show mn id = m' (big + j) from mnA j id hj, liveO_ren]
        exact hH.dom _
      · rw [obB i hi, show mn (base + i) = m' i from mnB i hi, liveO_ren]
        exact hH.dom _
      · rw [obC id h1 h2, show mn id = m id from mnC id h1 h2]
        exact hw.hr.dom id
    · intro id hid
      rcases tri id with ⟨j, hj⟩ | ⟨i, hi, rfl⟩ | ⟨h1, h2⟩
      · rw [avn id (live j id hj).2] at hid; cases hid
      · rw [avnew i hi] at hid; cases hid
      · rw [obC id h1 h2]
        refine hw.hr.free id ?_
        rw [avL_get] at hid
        simp only [Bool.and_eq_true] at hid
        exact hid.1
    · intro id o b N h1 h2
      rcases tri id with ⟨j, hj⟩ | ⟨i, hi, rfl⟩ | ⟨h3, h4⟩
      · rw [obA j id hj] at h1
        rw [show mn id = m' (big + j) from mnA j id hj] at h2
        obtain ⟨o', ho', rfl⟩ := Option.map_eq_some_iff.1 h1
        exact (hH.obj _ o' b N ho' h2).ren (renI ids base) (okR ids.length k') rm ra (hoba _ o' ho').2
      · rw [obB i hi] at h1
        rw [show mn (base + i) = m' i from mnB i hi] at h2
        obtain ⟨o', ho', rfl⟩ := Option.map_eq_some_iff.1 h1
        exact (hH.obj _ o' b N ho' h2).ren (renI ids base) (okR ids.length k') rm ra (hoba _ o' ho').2
      · rw [obC id h3 h4] at h1
        rw [show mn id = m id from mnC id h3 h4] at h2
        exact (hw.hr.obj id o b N h1 h2).mono hR hm avn (hblk b (hw.hr.own id b N h2).1 (notOwn id b N h2 h3))
    · intro i j b N N' h1 h2
      rcases tri i with ⟨i', hi'⟩ | ⟨i', hi', rfl⟩ | ⟨h3, h4⟩ <;> rcases tri j with ⟨j', hj'⟩ | ⟨j', hj', rfl⟩ | ⟨h5, h6⟩
      · rw [show mn i = m' (big + i') from mnA i' i hi'] at h1
        rw [show mn j = m' (big + j') from mnA j' j hj'] at h2
        have := hH.inj _ _ b N N' h1 h2
        have : i' = j' := by omega
        subst this
        rw [hi'] at hj'
        exact Option.some.inj hj'
      · rw [show mn i = m' (big + i') from mnA i' i hi'] at h1
        rw [show mn (base + j') = m' j' from mnB j' hj'] at h2
        have := hH.inj _ _ b N N' h1 h2
        have := nwbig j' hj'
        omega
      · rw [show mn i = m' (big + i') from mnA i' i hi'] at h1
        rw [show mn j = m j from mnC j h5 h6] at h2
        exact (mix _ b N j N' h1 h2 h5).elim
      · rw [show mn (base + i') = m' i' from mnB i' hi'] at h1
        rw [show mn j = m' (big + j') from mnA j' j hj'] at h2
        have := hH.inj _ _ b N N' h1 h2
        have := nwbig i' hi'
        omega
      · rw [show mn (base + i') = m' i' from mnB i' hi'] at h1
        rw [show mn (base + j') = m' j' from mnB j' hj'] at h2
        rw [hH.inj _ _ b N N' h1 h2]
      · rw [show mn (base + i') = m' i' from mnB i' hi'] at h1
        rw [show mn j = m j from mnC j h5 h6] at h2
        exact (mix _ b N j N' h1 h2 h5).elim
      · rw [show mn i = m i from mnC i h3 h4] at h1
        rw [show mn j = m' (big + j') from mnA j' j hj'] at h2
        exact (mix _ b N' i N h2 h1 h3).elim
      · rw [show mn i = m i from mnC i h3 h4] at h1
        rw [show mn (base + j') = m' j' from mnB j' hj'] at h2
        exact (mix _ b N' i N h2 h1 h3).elim
      · rw [show mn i = m i from mnC i h3 h4] at h1
        rw [show mn j = m j from mnC j h5 h6] at h2
        exact hw.hr.inj i j b N N' h1 h2
    · intro id b N h1
      rcases tri id with ⟨j, hj⟩ | ⟨i, hi, rfl⟩ | ⟨h3, h4⟩
      · rw [show mn id = m' (big + j) from mnA j id hj] at h1
        have := calleeOwn _ b N h1
        exact ⟨this.1, this.2.1, this.2.2.1⟩
      · rw [show mn (base + i) = m' i from mnB i hi] at h1
        have := calleeOwn _ b N h1
        exact ⟨this.1, this.2.1, this.2.2.1⟩
      · rw [show mn id = m id from mnC id h3 h4] at h1
        obtain ⟨h5, h6, h7⟩ := hw.hr.own id b N h1
        refine ⟨Nat.lt_of_lt_of_le h5 hH.frame.size, fun hb => ?_, h7⟩
        rcases hH.rfr b hb with h | h | h
        · exact h6 h
        · have h : w.heap.size ≤ b := h
          omega
        · exact notOwn id b N h1 h3 h
    · intro b hb
      rcases hH.rfr b hb with h | h | h
      · exact hw.hr.rfr b h
      · exact .inr (.inl (Nat.le_trans hw.hr.frame.size h))
      · obtain ⟨j, id, N, hj, hx⟩ := ownc b h
        rcases (hw.hr.own id b N hx).2.2 with h | h
        · exact .inr (.inr h)
        · exact .inr (.inl h)
    · refine ⟨hH.frame.os.trans hw.hr.frame.os, hH.frame.tape.trans hw.hr.frame.tape, hH.frame.output.trans hw.hr.frame.output, Nat.le_trans hw.hr.frame.size hH.frame.size, fun k hk hF => ?_⟩
      rw [hblk k (Nat.lt_of_lt_of_le hk hw.hr.frame.size) (fun ho => by
        obtain ⟨j, id, N, hj, hx⟩ := ownc k ho
        rcases (hw.hr.own id k N hx).2.2 with h | h
        · exact hF h
        · omega)]
      exact hw.hr.frame.block k hk hF
    · intro id x hid hx
      rcases tri id with ⟨j, hj⟩ | ⟨i, hi, rfl⟩ | ⟨h3, h4⟩
      · rw [show mn id = m' (big + j) from mnA j id hj] at hx
        exact hw.hr.keep id x hid (kept j id x hj hx)
      · have := nwbig i hi; omega
      · rw [show mn id = m id from mnC id h3 h4] at hx
        exact hw.hr.keep id x hid hx
  rw [St.app_new]
  exact ⟨mn, R', SW.put (hw.world hHn hR hm avn) dst (hrv.ren (renI ids base) (okR ids.length k') rm ra _ _ hva)⟩
end

section
variable {C : Ctx} {n : Nat} {σ : St} {dst : Option Tmp} {ty : TypeId} {ts : Array TypeId} {pos : String} {after : Array Edge} {gd : Option (Nat × Bool)}
theorem oj_callO {f : FuncId} {xs : Array Operand} {args : List V} {os : List (Nat × Ob)} {k' : Nat} {Q : V → (Nat → Option Ob) → Prop} {K : St → Prop} (ids : List Nat) (base : Nat) (hc : CallOk C.P f) (hargs : xs.toList.map (σ.ev n) = V.renL (renI ids base) args)
    (ha : V.allL (okR ids.length 0) args = true) (hos : os.map (·.1) = (List.range ids.length).map (big + ·)) (hob : os.all (fun p => p.2.all (okR ids.length 0)) = true) (hobs : allObR σ (renI ids base) os)
    (hnd : ids.Nodup) (hav : (nwO base k').all σ.av = true) (hf : FnO C.P f ids.length k' args os Q)
    (hk : ∀ v ob', Q v ob' → K (σ.app dst ⟨v.ren (renI ids base), wrO ids base k' ob', nwO base k'⟩)) :
    OJ C n ⟨dst, .call { callee := .value (.func f), args := xs, argTypes := ts }, ty, pos, after, gd⟩ K σ := by
  rintro a w Q' ⟨m, R, hw⟩
  unfold Oper.wp
  rw [run_callOp hc]
  have hus := hw.evs xs.toList
  rw [hargs] at hus
  have := callO_core (dst := dst) ids base ha hos hob hobs hnd hav hf hk hw hus
  have e : (xs.toList.map a.eval).toArray = xs.map a.eval := by rw [← Array.toList_map, Array.toArray_toList]
  rw [e] at this
  refine Calls.mono this ?_
  rintro e w' ⟨u, rfl, h⟩
  exact h

theorem run_callV {P : Program} {f : FuncId} (hc : CallOk P f) (xs : Array Operand) {y : Operand} {a : Act} {fs cs : List Value} (hy : a.eval y = .func (.func f) fs.toArray cs.toArray) (w : World) :
    (execOp a.eval ⟨dst, .call { callee := .value y, args := xs, argTypes := ts }, ty, pos, after, gd⟩).run P w = .ok (.enter f (fs ++ xs.toList.map a.eval ++ cs).toArray) w := by
  have e : (fs.toArray ++ xs.map a.eval ++ cs.toArray) = (fs ++ xs.toList.map a.eval ++ cs).toArray := by simp
  simp [execOp, resolve, Deferred.ofValue, hy, invoke]
  rw [show (fs ++ (List.map a.eval xs.toList ++ cs)).toArray = fs.toArray ++ (xs.map a.eval ++ cs.toArray) by simp]
  exact hc _ _
/-- A call of a function value that is handed places. -/
theorem oj_callVO {f : FuncId} {xs : Array Operand} {y : Operand} {fs cs : List V} {args : List V} {os : List (Nat × Ob)} {k' : Nat} {Q : V → (Nat → Option Ob) → Prop} {K : St → Prop} (ids : List Nat) (base : Nat) (hc : CallOk C.P f) (hy : σ.ev n y = .fn (.func f) fs cs) (hargs : fs ++ xs.toList.map (σ.ev n) ++ cs = V.renL (renI ids base) args)
    (ha : V.allL (okR ids.length 0) args = true) (hos : os.map (·.1) = (List.range ids.length).map (big + ·)) (hob : os.all (fun p => p.2.all (okR ids.length 0)) = true) (hobs : allObR σ (renI ids base) os)
    (hnd : ids.Nodup) (hav : (nwO base k').all σ.av = true) (hf : FnO C.P f ids.length k' args os Q)
    (hk : ∀ v ob', Q v ob' → K (σ.app dst ⟨v.ren (renI ids base), wrO ids base k' ob', nwO base k'⟩)) :
    OJ C n ⟨dst, .call { callee := .value y, args := xs, argTypes := ts }, ty, pos, after, gd⟩ K σ := by
  rintro a w Q' ⟨m, R, hw⟩
  have hv := hw.ev y
  rw [hy] at hv
  simp only [Rel] at hv
  obtain ⟨us, vs, he, h1, h2⟩ := hv
  unfold Oper.wp
  rw [run_callV hc xs he]
  have hus := (h1.append (hw.evs xs.toList)).append h2
  rw [hargs] at hus
  refine Calls.mono (callO_core (dst := dst) ids base ha hos hob hobs hnd hav hf hk hw hus) ?_
  rintro e w' ⟨u, rfl, h⟩
  exact h
/-- A call of a plain function value. -/
theorem oj_callV {f : FuncId} {xs : Array Operand} {y : Operand} {fs cs ps : List PV} {Q : PV → Prop} {K : St → Prop} (hc : CallOk C.P f) (hy : σ.ev n y = .pv (.fn (.func f) fs cs)) (hf : FnP C.P f (fs ++ ps ++ cs) Q) (hargs : (V.args (fun _ => none) (xs.toList.map (σ.ev n))).map PV.fgA = some ps) (hk : ∀ v, Q v → K (σ.put dst (.pv v))) :
    OJ C n ⟨dst, .call { callee := .value y, args := xs, argTypes := ts }, ty, pos, after, gd⟩ K σ := by
  rintro a w Q' ⟨m, R, hw⟩
  have hv := hw.pv hy
  simp only [RelP] at hv
  obtain ⟨us, vs, he, h1, h2⟩ := hv
  unfold Oper.wp
  rw [run_callV hc xs he]
  have hrel : RelPL w R ps (xs.toList.map a.eval) := by
    have h0 : SW C n ⟨σ.sl, fun _ => none, σ.av⟩ a w (fun _ => none) R := by
      refine ⟨⟨fun _ => rfl, fun _ _ => rfl, fun _ _ _ _ h => (by cases h), fun _ _ _ _ _ h => (by cases h), fun _ _ _ h => (by cases h), hw.hr.rsz, hw.hr.rfr, hw.hr.r0, hw.hr.frame, fun _ _ _ h => (by cases h), hw.hr.res⟩, hw.df, hw.sz, fun t ht => (hw.sl t ht).mono (fun b h => ⟨h, rfl⟩) (fun _ _ _ e => by cases e) (fun _ e => e)⟩
    obtain ⟨ps0, hargs0, rfl⟩ := Option.map_eq_some_iff.1 hargs
    have h1 := (h0.args (h0.evs xs.toList) hargs0).fgA
    exact h1.mono fun b hb => ⟨hb.elim id (fun ⟨_, _, h⟩ => by cases h), rfl⟩
  refine Calls.mono (hf w R _ hw.hr.rsz ((h1.append hrel).append h2)) ?_
  rintro e w' ⟨u, v, rfl, hq, hb, hr⟩
  exact ⟨_, hk v hq, m, _, (hw.called hb).put dst (by simpa only [Rel] using hr)⟩
theorem xj_callV {f : FuncId} {xs : Array Operand} {y : Operand} {fs cs ps : List PV} {r : PV} (hc : CallOk C.P f) (hy : σ.ev n y = .pv (.fn (.func f) fs cs)) (hf : FnP C.P f (fs ++ ps ++ cs) (· = r)) (hargs : (V.args (fun _ => none) (xs.toList.map (σ.ev n))).map PV.fgA = some ps) :
    XJ C n ⟨dst, .call { callee := .value y, args := xs, argTypes := ts }, ty, pos, after, gd⟩ σ ⟨.pv r, [], []⟩ :=
  oj_callV hc hy hf hargs (by rintro v rfl; exact (St.app_pure σ dst _).symm)
end
end Go.Proofs.Ytkalgjnhaicabaa
