/-
  Texts of ours, joined: E11, E12, E13, E14, E15, E16, E17, E18, E19, E20, E21, Ty, Tb, L1, M1, M2, Spec, MP, M3, M4, O1, S1, N1. No statement of the program is proved here.
-/
import Derived.Lib.ConvBytes
import Derived.Laws.IdiomStrings
import Derived.Laws.BytesArg
import Init
import Derived.Test.YtopjkdddicgajaaGreatDoorSm1
namespace Go.Proofs.YtopjkdddicgajaaGreatDoor
open Go.RowKit
def allObR (σ : St) (ρ : Nat → Nat) : List (Nat × Ob) → Prop
  | [] => True
  | (i, o) :: l => σ.ob (ρ i) = some (o.ren ρ) ∧ allObR σ ρ l
theorem allObR_mem {σ : St} {ρ : Nat → Nat} : ∀ {os : List (Nat × Ob)}, allObR σ ρ os → ∀ i o, (i, o) ∈ os → σ.ob (ρ i) = some (o.ren ρ)
  | [], _, i, o, h => by simp at h
  | (d, v) :: os, h, i, o, hm => by
    rcases List.mem_cons.1 hm with e | hm
    · cases e; exact h.1
    · exact allObR_mem h.2 i o hm
theorem lookO_some : ∀ {os : List (Nat × Ob)} {i : Nat}, i ∈ os.map (·.1) → ∃ o, lookO os i = some o
  | [], _, h => by simp at h
  | (d, v) :: os, i, h => by
    simp only [lookO]
    cases hb : Nat.beq i d with
    | true => exact ⟨v, rfl⟩
    | false =>
      simp only [List.map_cons, List.mem_cons] at h
      rcases h with e | h
      · subst e; simp at hb
      · simpa using lookO_some h
section
variable {C : Ctx} {n : Nat} {σ : St}
/-- What a call that is handed places does for the caller. -/
theorem callO_core {f : FuncId} {args : List V} {os : List (Nat × Ob)} {k' : Nat} {Q : V → (Nat → Option Ob) → Prop} {K : St → Prop} {dst : Option Tmp} (ids : List Nat) (base : Nat)
    (ha : V.allL (okR ids.length 0) args = true) (hos : os.map (·.1) = (List.range ids.length).map (big + ·)) (hob : os.all (fun p => p.2.all (okR ids.length 0)) = true) (hobs : allObR σ (renI ids base) os)
    (hnd : ids.Nodup) (hav : (nwO base k').all σ.av = true) (hf : FnO C.P f ids.length k' args os Q)
    (hk : ∀ v ob', Q v ob' → K (σ.app dst ⟨v.ren (renI ids base), wrO ids base k' ob', nwO base k'⟩))
    {a : Act} {w : World} {m : Gm} {R : Nat → Prop} (hw : SW C n σ a w m R) {us : List Value} (hus : RelL w m σ.av R (V.renL (renI ids base) args) us) :
    Calls C.P f us.toArray w fun e w' => ∃ u, e = .returned u ∧ ∃ σ', K σ' ∧ SJ C n σ' (a.put dst u) w' := by
  have ρb : ∀ j, renI ids base (big + j) = ids.getD j 0 := fun j => by
    have : Nat.ble big (big + j) = true := Nat.ble_eq_true_of_le (Nat.le_add_right _ _)
    simp only [renI, this, cond_true, Nat.add_sub_cancel_left]
  have ρj : ∀ (j id : Nat), ids[j]? = some id → renI ids base (big + j) = id := fun j id h => by rw [ρb, List.getD_eq_getElem?_getD, h]; rfl
  have ρn : ∀ i, i < big → renI ids base i = base + i := fun i hi => by
    have : Nat.ble big i = false := by cases hb : Nat.ble big i; rfl; have := Nat.le_of_ble_eq_true hb; omega
    simp only [renI, this, cond_false]
  have keyS : ∀ i o, lookO os i = some o → ∃ j id : Nat, i = big + j ∧ ids[j]? = some id := by
    intro i o h
    have : i ∈ os.map (·.1) := List.mem_map.2 ⟨(i, o), lookO_mem h, rfl⟩
    rw [hos] at this
    obtain ⟨j, hj, rfl⟩ := List.mem_map.1 this
    have hj' : j < ids.length := by simpa using hj
    exact ⟨j, ids[j], rfl, List.getElem?_eq_getElem hj'⟩
  have keyI : ∀ (j id : Nat), ids[j]? = some id → ∃ o, lookO os (big + j) = some o := by
    intro j id h
    apply lookO_some
    rw [hos]
    exact List.mem_map.2 ⟨j, by simpa using (List.getElem?_eq_some_iff.1 h).1, rfl⟩
  have obs : ∀ i o, lookO os i = some o → σ.ob (renI ids base i) = some (o.ren (renI ids base)) := fun i o h => allObR_mem hobs i o (lookO_mem h)
  have live : ∀ (j id : Nat), ids[j]? = some id → (∀ o, lookO os (big + j) = some o → (m id).isSome = o.real) ∧ σ.av id = false := by
    intro j id h
    refine ⟨fun o ho => ?_, ?_⟩
    · have h1 := obs _ _ ho
      rw [ρj j id h] at h1
      rw [hw.hr.dom, h1]
      exact Ob.real_ren _ o
    obtain ⟨o, ho⟩ := keyI j id h
    have h1 := obs _ _ ho
    rw [ρj j id h] at h1
    cases hb : σ.av id
    · rfl
    · rw [hw.hr.free id hb] at h1; cases h1
  have nwav : ∀ i, i < k' → σ.av (base + i) = true := fun i hi => List.all_eq_true.1 hav _ (List.mem_map.2 ⟨i, by simpa using hi, rfl⟩)
  have nwids : ∀ i, i < k' → (base + i) ∉ ids := fun i hi hmem => by
    obtain ⟨j, hj⟩ := List.getElem?_of_mem hmem
    have := (live j _ hj).2
    rw [nwav i hi] at this
    cases this
  have nwbig : ∀ i, i < k' → base + i < big := fun i hi => by
    rcases Nat.lt_or_ge (base + i) big with h | h
    · exact h
    · have := hw.hr.res _ h
      rw [nwav i hi] at this
      cases this
  have okcase : ∀ i, okR ids.length k' i = true → (i < k' ∧ i < big ∧ renI ids base i = base + i) ∨ ∃ j id : Nat, i = big + j ∧ ids[j]? = some id := by
    intro i hi
    simp only [okR, Bool.or_eq_true, Bool.and_eq_true] at hi
    rcases hi with h | ⟨h1, h2⟩
    · have h : i < k' := by simpa [Nat.blt_eq] using h
      have hb : i < big := by have := nwbig i h; omega
      exact .inl ⟨h, hb, ρn i hb⟩
    · have h1 := Nat.le_of_ble_eq_true h1
      have h2 : i < big + ids.length := by simpa [Nat.blt_eq] using h2
      refine .inr ⟨i - big, ids[i - big]'(by omega), by omega, List.getElem?_eq_getElem _⟩
  have okcase0 : ∀ i, okR ids.length 0 i = true → ∃ j id : Nat, i = big + j ∧ ids[j]? = some id := by
    intro i hi
    simp only [okR, Bool.or_eq_true, Bool.and_eq_true] at hi
    rcases hi with h | ⟨h1, h2⟩
    · simp [Nat.blt] at h
    · have h1 := Nat.le_of_ble_eq_true h1
      have h2 : i < big + ids.length := by simpa [Nat.blt_eq] using h2
      exact ⟨i - big, ids[i - big]'(by omega), by omega, List.getElem?_eq_getElem _⟩
  let mc : Gm := fun i => if (lookO os i).isSome then m (renI ids base i) else none
  have mcS : ∀ i x, mc i = some x → ∃ j id : Nat, i = big + j ∧ ids[j]? = some id ∧ m id = some x := by
    intro i x h
    simp only [mc] at h
    split at h
    · rename_i hs
      obtain ⟨o, ho⟩ := Option.isSome_iff_exists.1 hs
      obtain ⟨j, id, rfl, hj⟩ := keyS i o ho
      rw [ρj j id hj] at h
      exact ⟨j, id, rfl, hj, h⟩
    · cases h
  have mcI : ∀ (j id : Nat), ids[j]? = some id → mc (big + j) = m id := by
    intro j id h
    obtain ⟨o, ho⟩ := keyI j id h
    simp only [mc, ho, Option.isSome_some, if_true, ρj j id h]
  have idsInj : ∀ (i j id : Nat), ids[i]? = some id → ids[j]? = some id → i = j := by
    intro i j id h1 h2
    have l1 := (List.getElem?_eq_some_iff.1 h1).1
    have l2 := (List.getElem?_eq_some_iff.1 h2).1
    have hp := List.pairwise_iff_getElem.1 hnd
    have e1 := (List.getElem?_eq_some_iff.1 h1).2
    have e2 := (List.getElem?_eq_some_iff.1 h2).2
    rcases Nat.lt_trichotomy i j with h | h | h
    · exact absurd (e1.trans e2.symm) (hp i j l1 l2 h)
    · exact h
    · exact absurd (e2.trans e1.symm) (hp j i l2 l1 h)
  have ownc : ∀ b, OwnB mc b → ∃ j id N : Nat, ids[j]? = some id ∧ m id = some (b, N) := by
    rintro b ⟨i, N, h⟩
    obtain ⟨j, id, _, hj, hx⟩ := mcS i _ h
    exact ⟨j, id, N, hj, hx⟩
  let RT0 : RT w (OwnB mc) := ⟨R, hw.hr.gi, fun b hb => ⟨hw.hr.rsz b hb, fun ho => by obtain ⟨j, id, N, _, hx⟩ := ownc b ho; exact (hw.hr.own id b N hx).2.1 hb⟩⟩
  have hHRc : HR ⟨C.P, mc, w, OwnB mc, RT0⟩ mc R (lookO os) (avK 0) w := by
    refine ⟨?_, ?_, ?_, ?_, ?_, hw.hr.rsz, fun b h => .inl h, fun b h => h, Fr.refl _ _, fun i x _ h => h, fun i h => avK_big h⟩
    · intro i
      simp only [mc]
      cases ho : lookO os i with
      | none => rfl
      | some o =>
        obtain ⟨j, id, rfl, hj⟩ := keyS i o ho
        rw [ρj j id hj]
        simpa [liveO] using (live j id hj).1 o ho
    · intro i hi
      cases ho : lookO os i with
      | none => rfl
      | some o =>
        obtain ⟨j, id, rfl, hj⟩ := keyS i o ho
        have := (avK_lt hi).2
        omega
    · intro i o b N h1 h2
      obtain ⟨j, id, rfl, hj, hx⟩ := mcS i _ h2
      have h3 := obs _ _ h1
      rw [ρj j id hj] at h3
      have h4 := hw.hr.obj id _ b N h3 hx
      refine h4.unren (renI ids base) (okR ids.length 0) ?_ ?_ ?_
      · intro i' x hp hx'
        obtain ⟨j', id', rfl, hj', hx''⟩ := mcS i' _ hx'
        rw [ρj j' id' hj']
        exact hx''
      · intro i' hp
        obtain ⟨j', id', rfl, _⟩ := okcase0 i' hp
        exact avK_big (Nat.le_add_right _ _)
      · exact List.all_eq_true.1 hob (big + j, o) (lookO_mem h1)
    · intro i j b N N' h1 h2
      obtain ⟨i', id, rfl, hi', hx⟩ := mcS i _ h1
      obtain ⟨j', id2, rfl, hj', hy⟩ := mcS j _ h2
      have := hw.hr.inj id id2 b N N' hx hy
      subst this
      rw [idsInj i' j' id hi' hj']
    · intro i b N h1
      obtain ⟨j, id, rfl, hj, hx⟩ := mcS i _ h1
      have := hw.hr.own id b N hx
      exact ⟨this.1, this.2.1, .inl ⟨big + j, N, h1⟩⟩
  have hrel : RelL w mc (avK 0) R args us := by
    refine hus.unren (renI ids base) (okR ids.length 0) ?_ ?_ _ _ ha
    · intro i' x hp hx'
      obtain ⟨j', id', rfl, hj', hx''⟩ := mcS i' _ hx'
      rw [ρj j' id' hj']
      exact hx''
    · intro i' hp
      obtain ⟨j', id', rfl, _⟩ := okcase0 i' hp
      exact avK_big (Nat.le_add_right _ _)
  refine (hf w mc RT0 us hHRc hrel).mono ?_
  rintro e w' ⟨u, v, ob', m', R', rfl, hq, hva, hoba, hH, hrv⟩
  refine ⟨u, rfl, _, hk v ob' hq, ?_⟩
  have mobs : ∀ i, (m' i).isSome = true → okR ids.length k' i = true := fun i hi => by
    rw [hH.dom] at hi
    obtain ⟨o, ho⟩ : ∃ o, ob' i = some o := by
      cases e : ob' i with
      | none => rw [e] at hi; cases hi
      | some o => exact ⟨o, rfl⟩
    exact (hoba i o ho).1
  -- the new names
  let mn : Gm := lkL (ids.zipIdx.map (fun p => (p.1, m' (big + p.2))) ++ (List.range k').map (fun i => (base + i, m' i))) m
  have zipn : ∀ {β : Type} (g h : Nat → β) (f : Nat → β), (∀ (j id : Nat), ids[j]? = some id → lkL (ids.zipIdx.map (fun p => (p.1, g p.2)) ++ (List.range k').map (fun i => (base + i, h i))) f id = g j) ∧
      (∀ i, i < k' → lkL (ids.zipIdx.map (fun p => (p.1, g p.2)) ++ (List.range k').map (fun i => (base + i, h i))) f (base + i) = h i) ∧
      (∀ id, id ∉ ids → (∀ i, i < k' → id ≠ base + i) → lkL (ids.zipIdx.map (fun p => (p.1, g p.2)) ++ (List.range k').map (fun i => (base + i, h i))) f id = f id) := by
    intro β g h f
    have hz : ∀ id, id ∉ ids → id ∉ (ids.zipIdx.map (fun p => (p.1, g p.2))).map (·.1) := by
      intro id hid hmem
      obtain ⟨p, hp, rfl⟩ := List.mem_map.1 hmem
      obtain ⟨q, hq, rfl⟩ := List.mem_map.1 hp
      obtain ⟨q1, q2⟩ := q
      have := List.mem_zipIdx hq
      simp only at hid
      exact hid (by rw [this.2.2]; exact List.getElem_mem _)
    refine ⟨fun j id hj => ?_, fun i hi => ?_, fun id h1 h2 => ?_⟩
    · rw [lkL_app]
      have := lkL_zip g (lkL ((List.range k').map (fun i => (base + i, h i))) f) ids 0 j id hnd hj
      simpa using this
    · rw [lkL_app, lkL_get _ _ _ (hz _ (nwids i hi))]
      exact lkL_range h f base k' i hi
    · rw [lkL_app, lkL_get _ _ _ (hz _ h1), lkL_get]
      intro hmem
      obtain ⟨p, hp, hpe⟩ := List.mem_map.1 hmem
      obtain ⟨i, hi, rfl⟩ := List.mem_map.1 hp
      exact h2 i (by simpa using hi) hpe.symm
  obtain ⟨mnA, mnB, mnC⟩ := zipn (fun j => m' (big + j)) m' m
  obtain ⟨obA, obB, obC⟩ := zipn (fun j => (ob' (big + j)).map (Ob.ren (renI ids base))) (fun i => (ob' i).map (Ob.ren (renI ids base))) σ.ob
  have obE : (obL (wrO ids base k' ob') σ.ob) = lkL (ids.zipIdx.map (fun p => (p.1, (ob' (big + p.2)).map (Ob.ren (renI ids base)))) ++ (List.range k').map (fun i => (base + i, (ob' i).map (Ob.ren (renI ids base))))) σ.ob := obL_lk _ _
  have tri : ∀ id : Nat, (∃ j : Nat, ids[j]? = some id) ∨ (∃ i, i < k' ∧ id = base + i) ∨ (id ∉ ids ∧ ∀ i, i < k' → id ≠ base + i) := by
    intro id
    by_cases h1 : id ∈ ids
    · exact .inl (List.getElem?_of_mem h1)
    · by_cases h2 : ∃ i, i < k' ∧ id = base + i
      · exact .inr (.inl h2)
      · exact .inr (.inr ⟨h1, fun i hi e => h2 ⟨i, hi, e⟩⟩)
  have kept : ∀ (j id : Nat) (x : Nat × Nat), ids[j]? = some id → m' (big + j) = some x → m id = some x := fun j id x hj h => by
    have := hH.keep (big + j) x (Nat.le_add_right _ _) h
    rw [← mcI j id hj]
    exact this
  have hblk : ∀ b, b < w.heap.size → ¬ OwnB mc b → w'.heap[b]? = w.heap[b]? := fun b h1 h2 => hH.frame.block b h1 h2
  have hR : ∀ b, R b → R' b ∧ w'.heap[b]? = w.heap[b]? := fun b hb => ⟨hH.r0 b hb, hblk b (hw.hr.rsz b hb) (fun ho => by
    obtain ⟨j, id, N, hj, hx⟩ := ownc b ho
    exact (hw.hr.own id b N hx).2.1 hb)⟩
  have avn : ∀ id, σ.av id = false → avL (nwO base k') σ.av id = false := fun id h => by rw [avL_get, h]; rfl
  have avnew : ∀ i, i < k' → avL (nwO base k') σ.av (base + i) = false := fun i hi => by
    have : inL (base + i) (nwO base k') = true := inL_iff.2 (List.mem_map.2 ⟨i, by simpa using hi, rfl⟩)
    rw [avL_get, this]
    simp
  have hm : ∀ id x, σ.av id = false → mn id = some x → m id = some x := by
    intro id x hav' hx
    rcases tri id with ⟨j, hj⟩ | ⟨i, hi, rfl⟩ | ⟨h1, h2⟩
    · rw [show mn id = m' (big + j) from mnA j id hj] at hx
      exact kept j id x hj hx
    · rw [nwav i hi] at hav'; cases hav'
    · rwa [show mn id = m id from mnC id h1 h2] at hx
  have rm : ∀ i x, okR ids.length k' i = true → mn (renI ids base i) = some x → m' i = some x := by
    intro i x hp hx
    rcases okcase i hp with ⟨h1, h2, h3⟩ | ⟨j, id, rfl, hj⟩
    · rw [h3, show mn (base + i) = m' i from mnB i h1] at hx; exact hx
    · rw [ρj j id hj, show mn id = m' (big + j) from mnA j id hj] at hx; exact hx
  have ra : ∀ i, okR ids.length k' i = true → avK k' i = false → avL (nwO base k') σ.av (renI ids base i) = false := by
    intro i hp _
    rcases okcase i hp with ⟨h1, h2, h3⟩ | ⟨j, id, rfl, hj⟩
    · rw [h3]; exact avnew i h1
    · rw [ρj j id hj]; exact avn id (live j id hj).2
  have notOwn : ∀ id b N, m id = some (b, N) → id ∉ ids → ¬ OwnB mc b := by
    intro id b N hx hid ho
    obtain ⟨j, id2, N2, hj, hy⟩ := ownc b ho
    have := hw.hr.inj id id2 b N N2 hx hy
    subst this
    exact hid (List.mem_of_getElem? hj)
  -- a place of the callee's: where it lies
  have calleeOwn : ∀ i b N, m' i = some (b, N) → b < w'.heap.size ∧ ¬ R' b ∧ (C.F b ∨ C.w0.heap.size ≤ b) ∧ (OwnB mc b ∨ w.heap.size ≤ b) := by
    intro i b N hx
    obtain ⟨h1, h2, h3⟩ := hH.own i b N hx
    refine ⟨h1, h2, ?_, h3⟩
    rcases h3 with h3 | h3
    · obtain ⟨j, id, N2, hj, hy⟩ := ownc b h3
      exact (hw.hr.own id b N2 hy).2.2
    · exact .inr (Nat.le_trans hw.hr.frame.size h3)
  have mix : ∀ i b N id N', m' i = some (b, N) → m id = some (b, N') → id ∉ ids → False := by
    intro i b N id N' h1 h2 hid
    rcases (calleeOwn i b N h1).2.2.2 with h | h
    · exact notOwn id b N' h2 hid h
    · have := (hw.hr.own id b N' h2).1; omega
  have hHn : HR C mn R' (obL (wrO ids base k' ob') σ.ob) (avL (nwO base k') σ.av) w' := by
    rw [obE]
    refine ⟨?_, ?_, ?_, ?_, ?_, hH.rsz, ?_, fun b h => hH.r0 b (hw.hr.r0 b h), ?_, ?_, fun id h => avn id (hw.hr.res id h)⟩
    · intro id
      rcases tri id with ⟨j, hj⟩ | ⟨i, hi, rfl⟩ | ⟨h1, h2⟩
      · rw [obA j id hj, show mn id = m' (big + j) from mnA j id hj, liveO_ren]
        exact hH.dom _
      · rw [obB i hi, show mn (base + i) = m' i from mnB i hi, liveO_ren]
        exact hH.dom _
      · rw [obC id h1 h2, show mn id = m id from mnC id h1 h2]
        exact hw.hr.dom id
    · intro id hid
      rcases tri id with ⟨j, hj⟩ | ⟨i, hi, rfl⟩ | ⟨h1, h2⟩
      · rw [avn id (live j id hj).2] at hid; cases hid
      · rw [avnew i hi] at hid; cases hid
      · rw [obC id h1 h2]
        refine hw.hr.free id ?_
        rw [avL_get] at hid
        simp only [Bool.and_eq_true] at hid
        exact hid.1
    · intro id o b N h1 h2
      rcases tri id with ⟨j, hj⟩ | ⟨i, hi, rfl⟩ | ⟨h3, h4⟩
      · rw [obA j id hj] at h1
        rw [show mn id = m' (big + j) from mnA j id hj] at h2
        obtain ⟨o', ho', rfl⟩ := Option.map_eq_some_iff.1 h1
        exact (hH.obj _ o' b N ho' h2).ren (renI ids base) (okR ids.length k') rm ra (hoba _ o' ho').2
      · rw [obB i hi] at h1
        rw [show mn (base + i) = m' i from mnB i hi] at h2
        obtain ⟨o', ho', rfl⟩ := Option.map_eq_some_iff.1 h1
        exact (hH.obj _ o' b N ho' h2).ren (renI ids base) (okR ids.length k') rm ra (hoba _ o' ho').2
      · rw [obC id h3 h4] at h1
        rw [show mn id = m id from mnC id h3 h4] at h2
        exact (hw.hr.obj id o b N h1 h2).mono hR hm avn (hblk b (hw.hr.own id b N h2).1 (notOwn id b N h2 h3))
    · intro i j b N N' h1 h2
      rcases tri i with ⟨i', hi'⟩ | ⟨i', hi', rfl⟩ | ⟨h3, h4⟩ <;> rcases tri j with ⟨j', hj'⟩ | ⟨j', hj', rfl⟩ | ⟨h5, h6⟩
      · rw [show mn i = m' (big + i') from mnA i' i hi'] at h1
        rw [show mn j = m' (big + j') from mnA j' j hj'] at h2
        have := hH.inj _ _ b N N' h1 h2
        have : i' = j' := by omega
        subst this
        rw [hi'] at hj'
        exact Option.some.inj hj'
      · rw [show mn i = m' (big + i') from mnA i' i hi'] at h1
        rw [show mn (base + j') = m' j' from mnB j' hj'] at h2
        have := hH.inj _ _ b N N' h1 h2
        have := nwbig j' hj'
        omega
      · rw [show mn i = m' (big + i') from mnA i' i hi'] at h1
        rw [show mn j = m j from mnC j h5 h6] at h2
        exact (mix _ b N j N' h1 h2 h5).elim
      · rw [show mn (base + i') = m' i' from mnB i' hi'] at h1
        rw [show mn j = m' (big + j') from mnA j' j hj'] at h2
        have := hH.inj _ _ b N N' h1 h2
        have := nwbig i' hi'
        omega
      · rw [show mn (base + i') = m' i' from mnB i' hi'] at h1
        rw [show mn (base + j') = m' j' from mnB j' hj'] at h2
        rw [hH.inj _ _ b N N' h1 h2]
      · rw [show mn (base + i') = m' i' from mnB i' hi'] at h1
        rw [show mn j = m j from mnC j h5 h6] at h2
        exact (mix _ b N j N' h1 h2 h5).elim
      · rw [show mn i = m i from mnC i h3 h4] at h1
        rw [show mn j = m' (big + j') from mnA j' j hj'] at h2
        exact (mix _ b N' i N h2 h1 h3).elim
      · rw [show mn i = m i from mnC i h3 h4] at h1
        rw [show mn (base + j') = m' j' from mnB j' hj'] at h2
        exact (mix _ b N' i N h2 h1 h3).elim
      · rw [show mn i = m i from mnC i h3 h4] at h1
        rw [show mn j = m j from mnC j h5 h6] at h2
        exact hw.hr.inj i j b N N' h1 h2
    · intro id b N h1
      rcases tri id with ⟨j, hj⟩ | ⟨i, hi, rfl⟩ | ⟨h3, h4⟩
      · rw [show mn id = m' (big + j) from mnA j id hj] at h1
        have := calleeOwn _ b N h1
        exact ⟨this.1, this.2.1, this.2.2.1⟩
      · rw [show mn (base + i) = m' i from mnB i hi] at h1
        have := calleeOwn _ b N h1
        exact ⟨this.1, this.2.1, this.2.2.1⟩
      · rw [show mn id = m id from mnC id h3 h4] at h1
        obtain ⟨h5, h6, h7⟩ := hw.hr.own id b N h1
        refine ⟨Nat.lt_of_lt_of_le h5 hH.frame.size, fun hb => ?_, h7⟩
        rcases hH.rfr b hb with h | h | h
        · exact h6 h
        · have h : w.heap.size ≤ b := h
          omega
        · exact notOwn id b N h1 h3 h
    · intro b hb
      rcases hH.rfr b hb with h | h | h
      · exact hw.hr.rfr b h
      · exact .inr (.inl (Nat.le_trans hw.hr.frame.size h))
      · obtain ⟨j, id, N, hj, hx⟩ := ownc b h
        rcases (hw.hr.own id b N hx).2.2 with h | h
        · exact .inr (.inr h)
        · exact .inr (.inl h)
    · refine ⟨hH.frame.os.trans hw.hr.frame.os, hH.frame.tape.trans hw.hr.frame.tape, hH.frame.output.trans hw.hr.frame.output, Nat.le_trans hw.hr.frame.size hH.frame.size, fun k hk hF => ?_⟩
      rw [hblk k (Nat.lt_of_lt_of_le hk hw.hr.frame.size) (fun ho => by
        obtain ⟨j, id, N, hj, hx⟩ := ownc k ho
        rcases (hw.hr.own id k N hx).2.2 with h | h
        · exact hF h
        · omega)]
      exact hw.hr.frame.block k hk hF
    · intro id x hid hx
      rcases tri id with ⟨j, hj⟩ | ⟨i, hi, rfl⟩ | ⟨h3, h4⟩
      · rw [show mn id = m' (big + j) from mnA j id hj] at hx
        exact hw.hr.keep id x hid (kept j id x hj hx)
      · have := nwbig i hi; omega
      · rw [show mn id = m id from mnC id h3 h4] at hx
        exact hw.hr.keep id x hid hx
  rw [St.app_new]
  exact ⟨mn, R', SW.put (hw.world hHn hR hm avn) dst (hrv.ren (renI ids base) (okR ids.length k') rm ra _ _ hva)⟩
end
section
variable {C : Ctx} {n : Nat} {σ : St} {dst : Option Tmp} {ty : TypeId} {ts : Array TypeId} {pos : String} {after : Array Edge} {gd : Option (Nat × Bool)}
theorem oj_callO {f : FuncId} {xs : Array Operand} {args : List V} {os : List (Nat × Ob)} {k' : Nat} {Q : V → (Nat → Option Ob) → Prop} {K : St → Prop} (ids : List Nat) (base : Nat) (hc : CallOk C.P f) (hargs : xs.toList.map (σ.ev n) = V.renL (renI ids base) args)
    (ha : V.allL (okR ids.length 0) args = true) (hos : os.map (·.1) = (List.range ids.length).map (big + ·)) (hob : os.all (fun p => p.2.all (okR ids.length 0)) = true) (hobs : allObR σ (renI ids base) os)
    (hnd : ids.Nodup) (hav : (nwO base k').all σ.av = true) (hf : FnO C.P f ids.length k' args os Q)
    (hk : ∀ v ob', Q v ob' → K (σ.app dst ⟨v.ren (renI ids base), wrO ids base k' ob', nwO base k'⟩)) :
    OJ C n ⟨dst, .call { callee := .value (.func f), args := xs, argTypes := ts }, ty, pos, after, gd⟩ K σ := by
  rintro a w Q' ⟨m, R, hw⟩
  unfold Oper.wp
  rw [run_callOp hc]
  have hus := hw.evs xs.toList
  rw [hargs] at hus
  have := callO_core (dst := dst) ids base ha hos hob hobs hnd hav hf hk hw hus
  have e : (xs.toList.map a.eval).toArray = xs.map a.eval := by rw [← Array.toList_map, Array.toArray_toList]
  rw [e] at this
  refine Calls.mono this ?_
  rintro e w' ⟨u, rfl, h⟩
  exact h
theorem run_callV {P : Program} {f : FuncId} (hc : CallOk P f) (xs : Array Operand) {y : Operand} {a : Act} {fs cs : List Value} (hy : a.eval y = .func (.func f) fs.toArray cs.toArray) (w : World) :
    (execOp a.eval ⟨dst, .call { callee := .value y, args := xs, argTypes := ts }, ty, pos, after, gd⟩).run P w = .ok (.enter f (fs ++ xs.toList.map a.eval ++ cs).toArray) w := by
  have e : (fs.toArray ++ xs.map a.eval ++ cs.toArray) = (fs ++ xs.toList.map a.eval ++ cs).toArray := by simp
  simp [execOp, resolve, Deferred.ofValue, hy, invoke]
  rw [show (fs ++ (List.map a.eval xs.toList ++ cs)).toArray = fs.toArray ++ (xs.map a.eval ++ cs.toArray) by simp]
  exact hc _ _
/-- A call of a plain function value. -/
theorem oj_callV {f : FuncId} {xs : Array Operand} {y : Operand} {fs cs ps : List PV} {Q : PV → Prop} {K : St → Prop} (hc : CallOk C.P f) (hy : σ.ev n y = .pv (.fn (.func f) fs cs)) (hf : FnP C.P f (fs ++ ps ++ cs) Q) (hargs : (V.args (fun _ => none) (xs.toList.map (σ.ev n))).map PV.fgA = some ps) (hk : ∀ v, Q v → K (σ.put dst (.pv v))) :
    OJ C n ⟨dst, .call { callee := .value y, args := xs, argTypes := ts }, ty, pos, after, gd⟩ K σ := by
  rintro a w Q' ⟨m, R, hw⟩
  have hv := hw.pv hy
  simp only [RelP] at hv
  obtain ⟨us, vs, he, h1, h2⟩ := hv
  unfold Oper.wp
  rw [run_callV hc xs he]
  have hrel : RelPL w R ps (xs.toList.map a.eval) := by
    have h0 : SW C n ⟨σ.sl, fun _ => none, σ.av⟩ a w (fun _ => none) R := by
      refine ⟨⟨fun _ => rfl, fun _ _ => rfl, fun _ _ _ _ h => (by cases h), fun _ _ _ _ _ h => (by cases h), fun _ _ _ h => (by cases h), hw.hr.rsz, hw.hr.rfr, hw.hr.r0, hw.hr.frame, fun _ _ _ h => (by cases h), hw.hr.res⟩, hw.df, hw.sz, fun t ht => (hw.sl t ht).mono (fun b h => ⟨h, rfl⟩) (fun _ _ _ e => by cases e) (fun _ e => e)⟩
    obtain ⟨ps0, hargs0, rfl⟩ := Option.map_eq_some_iff.1 hargs
    have h1 := (h0.args (h0.evs xs.toList) hargs0).fgA
    exact h1.mono fun b hb => ⟨hb.elim id (fun ⟨_, _, h⟩ => by cases h), rfl⟩
  refine Calls.mono (hf w R _ hw.hr.gi hw.hr.rsz ((h1.append hrel).append h2)) ?_
  rintro e w' ⟨u, v, rfl, hq, hb, hr⟩
  exact ⟨_, hk v hq, m, _, (hw.called hb).put dst (by simpa only [Rel] using hr)⟩
theorem xj_callV {f : FuncId} {xs : Array Operand} {y : Operand} {fs cs ps : List PV} {r : PV} (hc : CallOk C.P f) (hy : σ.ev n y = .pv (.fn (.func f) fs cs)) (hf : FnP C.P f (fs ++ ps ++ cs) (· = r)) (hargs : (V.args (fun _ => none) (xs.toList.map (σ.ev n))).map PV.fgA = some ps) :
    XJ C n ⟨dst, .call { callee := .value y, args := xs, argTypes := ts }, ty, pos, after, gd⟩ σ ⟨.pv r, [], []⟩ :=
  oj_callV hc hy hf hargs (by rintro v rfl; exact (St.app_pure σ dst _).symm)
end
end Go.Proofs.YtopjkdddicgajaaGreatDoor
namespace Go.Proofs.YtopjkdddicgajaaGreatDoor
open Go.RowKit
/-- The contract of a method of a variable of type T with plain cells. -/
def FnM (P : Program) (f : FuncId) (T : TypeId) (cs : List PV) (args : List PV) (Q : PV → List PV → Prop) : Prop :=
  FnO P f 1 0 (.ptr big 0 :: args.map .pv) [(big, .mix T (cs.map .pv))] fun v ob' => ∃ r cs', v = .pv r ∧ ob' = lookO [(big, .mix T (cs'.map .pv))] ∧ Q r cs'
theorem FnM.mono {P : Program} {f : FuncId} {T : TypeId} {cs args : List PV} {Q Q' : PV → List PV → Prop} (h : FnM P f T cs args Q) (hq : ∀ v c, Q v c → Q' v c) : FnM P f T cs args Q' :=
  FnO.mono h fun _ _ ⟨r, c, e1, e2, q⟩ => ⟨r, c, e1, e2, hq r c q⟩
theorem renL_pv (ρ : Nat → Nat) : ∀ ps : List PV, V.renL ρ (ps.map V.pv) = ps.map V.pv
  | [] => rfl
  | p :: ps => by simp [V.renL, V.ren, renL_pv ρ ps]
theorem allL_pv (q : Nat → Bool) : ∀ ps : List PV, V.allL q (ps.map V.pv) = true
  | [] => rfl
  | p :: ps => by simp [V.allL, V.all, allL_pv q ps]
theorem okL_pv (k : Nat) : ∀ ps : List PV, V.okL k (ps.map V.pv) = true
  | [] => rfl
  | p :: ps => by simp [V.okL, V.okA, okL_pv k ps]
/-- How the body of such a method must end. -/
def retM (n t : Nat) (T : TypeId) (Q : PV → List PV → Prop) : Exit → St → Prop
  | .ret, σ | .normal, σ => ∃ r cs', σ.ev n (.tmp t) = .pv r ∧ σ.ob big = some (.mix T (cs'.map .pv)) ∧ Q r cs'
  | _, _ => False
theorem FnM.of {P : Program} {f : FuncId} {fn : Func} {c : Code} {n t : Nat} {T : TypeId} {cs args : List PV} {Q : PV → List PV → Prop} (hf : P.funcs[f]? = some fn) (hb : fn.body = some c) (hn : fn.ntmps = n) (hna : args.length + 1 ≤ n) (hres : fn.results.toList = [.tmp t]) (ht : t < n)
    (h : ∀ m0 w0 F R0, AW ⟨P, m0, w0, F, R0⟩ n c (retM n t T Q) (mkS ((0, .ptr big 0) :: argsV 1 (args.map .pv)) [(big, .mix T (cs.map .pv))] 0)) : FnM P f T cs args Q := by
  refine FnO.of hf hb hn (by simpa using hna) fun m0 w0 F R0 => ?_
  refine (h m0 w0 F R0).mono ?_
  have hlt : Nat.blt t n = true := by simpa [Nat.blt_eq] using ht
  have key : ∀ s : St, (∃ r cs', s.ev n (.tmp t) = .pv r ∧ s.ob big = some (.mix T (cs'.map .pv)) ∧ Q r cs') → ∃ l os' vs, s.le (mkS l os' 0) ∧ resV n (mkS l os' 0) fn.results.toList = some vs ∧ V.allL (okR 1 0) vs = true ∧ os'.all (fun p => okR 1 0 p.1 && p.2.all (okR 1 0)) = true ∧ ∃ r cs', resOneV vs = .pv r ∧ lookO os' = lookO [(big, .mix T (cs'.map .pv))] ∧ Q r cs' := by
    rintro s ⟨r, cs', h1, h2, h3⟩
    simp only [St.ev, hlt, cond_true] at h1
    refine ⟨[(t, .pv r)], [(big, .mix T (cs'.map .pv))], [.pv r], St.le_mk ⟨h1, trivial⟩ ⟨h2, trivial⟩ rfl ?_, ?_, rfl, ?_, r, cs', rfl, rfl, h3⟩
    · simp only [List.all_cons, List.all_nil, Bool.and_true, Ob.okA, okL_pv]
      rfl
    · rw [hres]
      simp only [resV, St.ev, hlt, cond_true, mkS, look, Nat.beq_refl]
    · simp only [List.all_cons, List.all_nil, Bool.and_true, Ob.all, allL_pv]
      rfl
  intro ex s hq
  cases ex with
  | normal => exact key s hq
  | ret => exact key s hq
  | _ => exact hq.elim
section
variable {C : Ctx} {n : Nat} {σ : St} {dst : Option Tmp} {ty : TypeId} {ts : Array TypeId} {pos : String} {after : Array Edge} {gd : Option (Nat × Bool)}
theorem oj_callM {f : FuncId} {xs : Array Operand} {ps : List PV} {T : TypeId} {id : Nat} {cs : List PV} {Q : PV → List PV → Prop} {K : St → Prop} (hc : CallOk C.P f) (hf : FnM C.P f T cs ps Q) (hargs : xs.toList.map (σ.ev n) = .ptr id 0 :: ps.map .pv) (ho : σ.ob id = some (.mix T (cs.map .pv))) (hk : ∀ r cs', Q r cs' → K (σ.app dst ⟨.pv r, [(id, some (.mix T (cs'.map .pv)))], []⟩)) :
    OJ C n ⟨dst, .call { callee := .value (.func f), args := xs, argTypes := ts }, ty, pos, after, gd⟩ K σ := by
  refine oj_callO (k' := 0) [id] 0 hc (args := .ptr big 0 :: ps.map .pv) (os := [(big, .mix T (cs.map .pv))]) ?_ ?_ rfl ?_ ?_ (by simp) rfl hf ?_
  · rw [hargs]
    simp only [V.renL, V.ren, renL_pv]
    rfl
  · simp only [V.allL, V.all, allL_pv]
    rfl
  · simp only [List.all_cons, List.all_nil, Bool.and_true, Ob.all, allL_pv]
  · refine ⟨?_, trivial⟩
    have : renI [id] 0 big = id := rfl
    rw [this, ho]
    simp only [Ob.ren, renL_pv]
  · rintro v ob' ⟨r, cs', rfl, rfl, hq⟩
    have := hk r cs' hq
    have e : wrO [id] 0 0 (lookO [(big, .mix T (cs'.map .pv))]) = [(id, some (.mix T (cs'.map .pv)))] := by
      have e1 : lookO [(big, Ob.mix T (cs'.map .pv))] (big + 0) = some (.mix T (cs'.map .pv)) := by simp [lookO]
      simp only [wrO, List.zipIdx_cons, List.zipIdx_nil, List.map_cons, List.map_nil, List.range_zero, List.append_nil, e1, Option.map_some, Ob.ren, renL_pv]
    rw [e]
    exact this
theorem xj_callM {f : FuncId} {xs : Array Operand} {ps : List PV} {T : TypeId} {id : Nat} {cs cs' : List PV} {r : PV} (hc : CallOk C.P f) (hf : FnM C.P f T cs ps (fun v c => v = r ∧ c = cs')) (hargs : xs.toList.map (σ.ev n) = .ptr id 0 :: ps.map .pv) (ho : σ.ob id = some (.mix T (cs.map .pv))) : XJ C n ⟨dst, .call { callee := .value (.func f), args := xs, argTypes := ts }, ty, pos, after, gd⟩ σ ⟨.pv r, [(id, some (.mix T (cs'.map .pv)))], []⟩ :=
  oj_callM hc hf hargs ho (by rintro _ _ ⟨rfl, rfl⟩; rfl)
end
section
variable {C : Ctx} {n : Nat} {σ : St} {dst : Option Tmp} {ty t : TypeId} {pos : String} {after : Array Edge} {gd : Option (Nat × Bool)} {x y : Operand}
theorem XJ.cast {o : Oper} {v v' : V} {wr : List (Nat × Option Ob)} {nw : List Nat} (h : XJ C n o σ ⟨v, wr, nw⟩) (e : v = v') : XJ C n o σ ⟨v', wr, nw⟩ := e ▸ h
/-- x[:h], x[l:], x[l:h] of a slice that stands. -/
theorem xj_sliceTo {T e : TypeId} {s k : Nat} {kh : IntKind} {ih : Int} {bn : Option Bool} {cs : List PV} (h : Nat) (hT : C.P.underlying T = some (.slice e)) (hs : szIs C.P e s) (hx : σ.ev n x = .pv (.sl bn k cs)) (hy : σ.ev n y = .pv (.int kh ih)) (hi : ih = (h : Int)) (h2 : h ≤ k) (hcs : cs.length = k * s) :
    XJ C n ⟨dst, .slice T x none (some y) none, ty, pos, after, gd⟩ σ ⟨.pv (.sl bn h (cs.take (h * s))), [], []⟩ := by
  have := xj_slice (C := C) (n := n) (σ := σ) (dst := dst) (ty := ty) (pos := pos) (after := after) (gd := gd) (x := x) (kl := .i64) (il := 0) (kh := kh) (ih := ih) none (some y) 0 h hT hs hx (by simp) (fun _ => rfl) (by rintro _ ⟨⟩; exact ⟨hy, hi⟩) (by simp) (Nat.zero_le _) h2 hcs
  simpa using this
theorem xj_sliceFrom {T e : TypeId} {s k : Nat} {kl : IntKind} {il : Int} {bn : Option Bool} {cs : List PV} (l : Nat) (hT : C.P.underlying T = some (.slice e)) (hs : szIs C.P e s) (hx : σ.ev n x = .pv (.sl bn k cs)) (hy : σ.ev n y = .pv (.int kl il)) (hi : il = (l : Int)) (h2 : l ≤ k) (hcs : cs.length = k * s) :
    XJ C n ⟨dst, .slice T x (some y) none none, ty, pos, after, gd⟩ σ ⟨.pv (.sl bn (k - l) (cs.drop (l * s))), [], []⟩ := by
  have := xj_slice (C := C) (n := n) (σ := σ) (dst := dst) (ty := ty) (pos := pos) (after := after) (gd := gd) (x := x) (kl := kl) (il := il) (kh := .i64) (ih := 0) (some y) none l k hT hs hx (by rintro _ ⟨⟩; exact ⟨hy, hi⟩) (by simp) (by simp) (fun _ => rfl) h2 (Nat.le_refl _) hcs
  have e : (cs.drop (l * s)).take ((k - l) * s) = cs.drop (l * s) := List.take_of_length_le (by simp [hcs, Nat.sub_mul])
  rw [e] at this
  exact this
/-- append of one element that was just built. -/
theorem xj_append1 {e T2 : TypeId} {z : Value} {size bytes k id id2 : Nat} {cs news : List PV} (id' : Nat) (he : ElemIs C.P t e z size bytes) (hs : σ.ev n x = .osl id size k) (ho : σ.ob id = some (.cells e cs)) (hcs : cs.length = k * size)
    (hy : σ.ev n y = .osl id2 size 1) (ho2 : σ.ob id2 = some (.cells T2 news)) (hl : news.length = size) (hlf : news.all PV.leaf = true) (hb : k + 1 ≤ 1000000000) (hid : σ.av id' = true) :
    XJ C n ⟨dst, .call { callee := .builtin .append, args := #[x, y], argTypes := #[t, t] }, ty, pos, after, gd⟩ σ ⟨.osl id' size (k + 1), [(id', some (.cells e (cs ++ news))), (id, none)], [id']⟩ :=
  xj_append id' he hs ho hcs (.inr ⟨id2, size, T2, news, hy, ho2, (List.take_of_length_le (by omega)).symm⟩) (by omega) (by simpa using hlf) hb hid
theorem xj_append01 {e T2 : TypeId} {z : Value} {size bytes id2 : Nat} {news : List PV} (id' : Nat) (he : ElemIs C.P t e z size bytes) (hs : σ.ev n x = .pv (.sl (some true) 0 []))
    (hy : σ.ev n y = .osl id2 size 1) (ho2 : σ.ob id2 = some (.cells T2 news)) (hl : news.length = size) (hlf : news.all PV.leaf = true) (hid : σ.av id' = true) :
    XJ C n ⟨dst, .call { callee := .builtin .append, args := #[x, y], argTypes := #[t, t] }, ty, pos, after, gd⟩ σ ⟨.osl id' size 1, [(id', some (.cells e news))], [id']⟩ :=
  xj_append0 id' he hs (.inr ⟨id2, size, T2, news, hy, ho2, (List.take_of_length_le (by omega)).symm⟩) (by omega) (by simpa using hlf) (by omega) (by omega) hid
end
/-- New names for the places of the call's own. -/
def renS (ids : List Nat) (i : Nat) : Nat := bif Nat.ble big i then i else ids.getD i 0
def allSlR (σ : St) (ρ : Nat → Nat) : List (Nat × V) → Prop
  | [] => True
  | (t, v) :: l => σ.sl t = v.ren ρ ∧ allSlR σ ρ l
theorem look_specR {σ : St} {ρ : Nat → Nat} : ∀ {l : List (Nat × V)}, allSlR σ ρ l → ∀ t, look l t = .pv .any ∨ σ.sl t = (look l t).ren ρ
  | [], _, _ => .inl rfl
  | (d, v) :: l, h, t => by
    simp only [look]
    cases hb : Nat.beq t d with
    | true => have := Nat.eq_of_beq_eq_true hb; subst this; exact .inr h.1
    | false => simpa using look_specR h.2 t
mutual
theorem V.okA_all (k : Nat) : ∀ v : V, v.okA k = true → v.all (fun i => Nat.blt i k || Nat.ble big i) = true
  | .pv _, _ => rfl
  | .ptr _ _, h => by simpa only [V.okA, V.all] using h
  | .osl _ _ _, h => by simpa only [V.okA, V.all] using h
  | .gsl _ _ _, h => by simpa only [V.okA, V.all] using h
  | .map _, h => by simpa only [V.okA, V.all] using h
  | .agg cs, h => by simp only [V.okA] at h; simp only [V.all]; exact V.okL_all k cs h
  | .tup cs, h => by simp only [V.okA] at h; simp only [V.all]; exact V.okL_all k cs h
  | .fn _ a b, h => by simp only [V.okA, Bool.and_eq_true] at h; simp only [V.all, Bool.and_eq_true]; exact ⟨V.okL_all k a h.1, V.okL_all k b h.2⟩
theorem V.okL_all (k : Nat) : ∀ vs : List V, V.okL k vs = true → V.allL (fun i => Nat.blt i k || Nat.ble big i) vs = true
  | [], _ => rfl
  | c :: cs, h => by simp only [V.okL, Bool.and_eq_true] at h; simp only [V.allL, Bool.and_eq_true]; exact ⟨V.okA_all k c h.1, V.okL_all k cs h.2⟩
end
theorem Ob.okA_all (k : Nat) {o : Ob} (h : o.okA k = true) : o.all (fun i => Nat.blt i k || Nat.ble big i) = true := by
  cases o with
  | cells _ _ => rfl
  | gro _ _ => rfl
  | mp _ _ => rfl
  | it _ _ => rfl
  | mix _ cs => exact V.okL_all k cs h
theorem St.le_mkR {σ : St} {l : List (Nat × V)} {os : List (Nat × Ob)} (ids : List Nat) (hl : allSlR σ (renS ids) l) (ho : allObR σ (renS ids) os) (h1 : l.all (fun p => p.2.okA ids.length) = true) (h2 : os.all (fun p => (Nat.blt p.1 ids.length || Nat.ble big p.1) && p.2.okA ids.length) = true)
    (hnd : ids.Nodup) (hbg : ids.all (fun i => Nat.blt i big) = true) : σ.le (mkS l os ids.length) := by
  rintro C n a w ⟨m, R, hw⟩
  have key : ∀ i o, lookO os i = some o → σ.ob (renS ids i) = some (o.ren (renS ids)) ∧ (Nat.blt i ids.length || Nat.ble big i) = true ∧ o.okA ids.length = true := by
    intro i o h
    have hm := lookO_mem h
    have := List.all_eq_true.1 h2 _ hm
    simp only [Bool.and_eq_true] at this
    exact ⟨allObR_mem ho i o hm, this.1, this.2⟩
  let m2 : Gm := fun i => if (lookO os i).isSome then m (renS ids i) else none
  have sub : ∀ i x, m2 i = some x → m (renS ids i) = some x ∧ (Nat.blt i ids.length || Nat.ble big i) = true := fun i x h => by
    simp only [m2] at h
    split at h
    · rename_i hs
      obtain ⟨o, hoo⟩ := Option.isSome_iff_exists.1 hs
      exact ⟨h, (key i o hoo).2.1⟩
    · cases h
  have ρinj : ∀ i j, (Nat.blt i ids.length || Nat.ble big i) = true → (Nat.blt j ids.length || Nat.ble big j) = true → renS ids i = renS ids j → i = j := by
    intro i j hi hj e
    have small : ∀ q, Nat.blt q ids.length = true → Nat.ble big q = false → ∃ h : q < ids.length, renS ids q = ids[q] ∧ ids[q] < big := by
      intro q hq hb
      have h : q < ids.length := by simpa [Nat.blt_eq] using hq
      refine ⟨h, by simp [renS, hb, List.getD_eq_getElem?_getD, h], ?_⟩
      have := List.all_eq_true.1 hbg ids[q] (List.getElem_mem h)
      simpa [Nat.blt_eq] using this
    have large : ∀ q, Nat.ble big q = true → renS ids q = q := fun q hq => by simp [renS, hq]
    cases hbi : Nat.ble big i with
    | true =>
      cases hbj : Nat.ble big j with
      | true => rw [large i hbi, large j hbj] at e; exact e
      | false =>
        rw [hbj, Bool.or_false] at hj
        obtain ⟨h, e2, h3⟩ := small j hj hbj
        rw [large i hbi, e2] at e
        have := Nat.le_of_ble_eq_true hbi
        omega
    | false =>
      rw [hbi, Bool.or_false] at hi
      obtain ⟨h, e1, h3⟩ := small i hi hbi
      cases hbj : Nat.ble big j with
      | true =>
        rw [large j hbj, e1] at e
        have := Nat.le_of_ble_eq_true hbj
        omega
      | false =>
        rw [hbj, Bool.or_false] at hj
        obtain ⟨h', e2, h4⟩ := small j hj hbj
        rw [e1, e2] at e
        exact (List.getElem_inj hnd).1 e
  have um : ∀ i x, (Nat.blt i ids.length || Nat.ble big i) = true → m2 i = some x → m (renS ids i) = some x := fun i x _ h => (sub i x h).1
  have ua : ∀ i, (Nat.blt i ids.length || Nat.ble big i) = true → avK ids.length i = false := fun i h => ble_of h
  refine ⟨m2, R, ⟨?_, ?_, ?_, ?_, ?_, hw.hr.rsz, hw.hr.rfr, hw.hr.r0, hw.hr.frame, ?_, fun i hi => avK_big hi⟩, hw.df, hw.sz, ?_⟩
  · intro i
    show (m2 i).isSome = liveO (lookO os i)
    simp only [m2]
    cases e : lookO os i with
    | none => rfl
    | some o =>
      have := hw.hr.dom (renS ids i)
      rw [(key i o e).1] at this
      simpa [liveO, Ob.real_ren] using this
  · intro i hi
    show lookO os i = none
    cases e : lookO os i with
    | none => rfl
    | some o =>
      have h3 := ble_of (key i o e).2.1
      have hi' : avK ids.length i = true := hi
      rw [hi'] at h3
      cases h3
  · intro i o b N h3 h4
    have h5 := key i o h3
    exact (hw.hr.obj _ _ b N h5.1 (sub _ _ h4).1).unren (renS ids) _ um ua (Ob.okA_all _ h5.2.2)
  · intro i j b N N' e1 e2
    exact ρinj i j (sub _ _ e1).2 (sub _ _ e2).2 (hw.hr.inj _ _ b N N' (sub _ _ e1).1 (sub _ _ e2).1)
  · exact fun i b N e => hw.hr.own _ b N (sub _ _ e).1
  · intro i x hi e
    have hb : Nat.ble big i = true := Nat.ble_eq_true_of_le hi
    have e2 := (sub i x e).1
    have : renS ids i = i := by simp [renS, hb]
    rw [this] at e2
    exact hw.hr.keep i x hi e2
  · intro t ht
    show Rel w m2 (avK ids.length) R (look l t) _
    rcases look_specR hl t with e | e
    · rw [e]; simp only [Rel, RelP]
    · have h3 := hw.sl t ht
      rw [e] at h3
      exact h3.unren (renS ids) _ um ua _ _ (V.okA_all _ _ (look_ok h1 t))
end Go.Proofs.YtopjkdddicgajaaGreatDoor
namespace Go.Proofs.YtopjkdddicgajaaGreatDoor
open Go.RowKit
mutual
theorem V.ren_id : ∀ v : V, v.ren (fun i => i) = v
  | .pv _ => rfl
  | .ptr _ _ => rfl
  | .osl _ _ _ => rfl
  | .gsl _ _ _ => rfl
  | .map _ => rfl
  | .agg cs => by simp only [V.ren, V.renL_id cs]
  | .tup cs => by simp only [V.ren, V.renL_id cs]
  | .fn _ a b => by simp only [V.ren, V.renL_id a, V.renL_id b]
theorem V.renL_id : ∀ vs : List V, V.renL (fun i => i) vs = vs
  | [] => rfl
  | c :: cs => by simp only [V.renL, V.ren_id c, V.renL_id cs]
end
theorem Ob.ren_id (o : Ob) : o.ren (fun i => i) = o := by
  cases o with
  | cells _ _ => rfl
  | gro _ _ => rfl
  | mp _ _ => rfl
  | it _ _ => rfl
  | mix _ cs => simp only [Ob.ren, V.renL_id cs]
/-- What the results are, read off slots and variables. -/
def resC (n : Nat) (σ : St) : List ResultVar → Option (List V)
  | [] => some []
  | .tmp t :: l => match resC n σ l with | some vs => some (σ.ev n (.tmp t) :: vs) | none => none
  | .cell a _ :: l => match σ.ev n (.tmp a), resC n σ l with
    | .ptr id 0, some vs => match σ.ob id with
      | some (.mix _ cs) => some (.agg cs :: vs)
      | _ => none
    | _, _ => none
/-- The sizes of the results that lie in variables. -/
def cellOk (P : Program) (n : Nat) (σ : St) : List ResultVar → Prop
  | [] => True
  | .tmp _ :: l => cellOk P n σ l
  | .cell a t :: l => (isRow P t ∧ ∃ k, szIs P t k ∧ ∀ id T cs, σ.ev n (.tmp a) = .ptr id 0 → σ.ob id = some (.mix T cs) → cs.length = k) ∧ cellOk P n σ l
/-- One result in a variable. -/
theorem cellOk1 {P : Program} {n : Nat} {σ : St} {a : Nat} {t : TypeId} {id k : Nat} {T : TypeId} {cs : List V} (h1 : isRow P t) (h2 : szIs P t k) (he : σ.ev n (.tmp a) = .ptr id 0) (ho : σ.ob id = some (.mix T cs)) (hk : cs.length = k) :
    isRow P t ∧ ∃ k, szIs P t k ∧ ∀ id T cs, σ.ev n (.tmp a) = .ptr id 0 → σ.ob id = some (.mix T cs) → cs.length = k :=
  ⟨h1, k, h2, fun id' T' cs' e1 e2 => by rw [he] at e1; cases e1; rw [ho] at e2; cases e2; exact hk⟩
theorem resC_run {C : Ctx} {n : Nat} {σ : St} {a : Act} {w : World} {m : Gm} {R : Nat → Prop} (hw : SW C n σ a w m R) (f : ResultVar → Sem Value) (hf : ∀ t, f (.tmp t) = pure (a.tmps.getD t undef)) (hf2 : ∀ ad t, f (.cell ad t) = do loadVar t (← asAddr (a.tmps.getD ad undef))) :
    ∀ {l : List ResultVar} {vs : List V}, resC n σ l = some vs → cellOk C.P n σ l → ∃ us, Sem.run C.P (l.mapM f) w = .ok us w ∧ RelL w m σ.av R vs us
  | [], vs, h, _ => by simp only [resC, Option.some.injEq] at h; subst h; exact ⟨[], by simp, RelL.nil⟩
  | .tmp t :: l, vs, h, hc => by
    simp only [resC] at h
    split at h
    · rename_i vs' h'
      simp at h
      subst h
      obtain ⟨us, hr, hl⟩ := resC_run hw f hf hf2 h' hc
      refine ⟨a.eval (.tmp t) :: us, ?_, RelL.cons (hw.ev (.tmp t)) hl⟩
      rw [List.mapM_cons, hf]
      simp [hr, Act.eval]
    · cases h
  | .cell ad t :: l, vs, h, hc => by
    simp only [resC] at h
    split at h
    · rename_i id vs' he h'
      split at h
      · rename_i T cs ho
        simp at h
        subst h
        obtain ⟨us, hr, hl⟩ := resC_run hw f hf hf2 h' hc.2
        obtain ⟨hrow, k, hk, hlen⟩ := hc.1
        have hlen := hlen id T cs he ho
        obtain ⟨b, N, hev, hm, arr, hb, hN, hle, hrl⟩ := hw.ptr he ho
        obtain ⟨d, hu, hd⟩ := hrow
        have hload := run_loadVar_mid (P := C.P) w b 0 t (arr.toList.take cs.length) d (fun j u hu => by
          rw [Nat.zero_add, cell_of_row w b j arr T (0, 0) hb]
          rw [List.getElem?_take] at hu
          split at hu
          · simpa using hu
          · cases hu) hu hd (by unfold szIs at hk; rw [hk, hrl.length, hlen])
        refine ⟨.agg (arr.toList.take cs.length).toArray :: us, ?_, RelL.cons (by simp only [Rel]; exact ⟨_, rfl, hrl⟩) hl⟩
        have hev' : a.tmps.getD ad undef = .pointer (some ⟨b, 0, none⟩) := hev
        rw [List.mapM_cons, hf2, hev']
        simp only [Sem.run_bind, asAddr, Sem.run_pure, Result.andThen_ok, hload, hr]
      · cases h
    · cases h
theorem results_run {C : Ctx} {n : Nat} {σ : St} {a : Act} {w : World} {m : Gm} {R : Nat → Prop} (hw : SW C n σ a w m R) {fn : Func} {vs : List V} (h : resC n σ fn.results.toList = some vs) (hc : cellOk C.P n σ fn.results.toList) :
    ∃ us : List Value, (results fn a.tmps).run C.P w = .ok (if h : us.toArray.size = 1 then us.toArray[0] else .tuple us.toArray) w ∧ RelL w m σ.av R vs us := by
  have key := fun f hf hf2 => resC_run hw f hf hf2 h hc
  have hx : ∃ us, Sem.run C.P (fn.results.toList.mapM fun
      | .tmp t => pure (a.tmps.getD t undef)
      | .cell ad t => do loadVar t (← asAddr (a.tmps.getD ad undef))) w = .ok us w ∧ RelL w m σ.av R vs us := key _ (fun _ => rfl) (fun _ _ => rfl)
  obtain ⟨us, hr, hl⟩ := hx
  refine ⟨us, ?_, hl⟩
  unfold results
  rw [Array.mapM_eq_mapM_toList]
  simp only [Sem.run_bind, Sem.run_map]
  erw [hr]
  rfl
def retQC (P : Program) (fn : Func) (n : Nat) (Q : PV → Prop) : Exit → St → Prop
  | .ret, σ | .normal, σ => ∃ vs ps, resC n σ fn.results.toList = some vs ∧ V.args σ.ob vs = some ps ∧ cellOk P n σ fn.results.toList ∧ Q (resOne ps)
  | _, _ => False
theorem FnP.ofC {P : Program} {f : FuncId} {fn : Func} {c : Code} {n : Nat} {args : List PV} {Q : PV → Prop} (hf : P.funcs[f]? = some fn) (hb : fn.body = some c) (hn : fn.ntmps = n) (hna : args.length ≤ n)
    (h : ∀ m0 w0 F R0, AW ⟨P, m0, w0, F, R0⟩ n c (retQC P fn n Q) (mkS (argsL 0 args) [] 0)) : FnP P f args Q := by
  intro w R us hG hR hrel
  refine calls_of_wp hf hb ?_
  let C : Ctx := ⟨P, fun _ => none, w, fun _ => False, ⟨R, hG, fun b h => ⟨hR b h, id⟩⟩⟩
  have hl := hrel.length
  have init : SJ C n (mkS (argsL 0 args) [] 0) { tmps := us.toArray ++ Array.replicate (fn.ntmps - us.toArray.size) undef, defers := [] } w := by
    refine ⟨fun _ => none, R, ⟨⟨fun _ => rfl, fun _ _ => rfl, fun _ _ _ _ h => (by cases h), fun _ _ _ _ _ h => (by cases h), fun _ _ _ h => (by cases h), hR, fun b h => .inl h, fun b h => h, Fr.refl _ _, fun _ _ _ h => (by cases h), fun id hi => avK_big (k := 0) hi⟩, rfl, by simp; omega, ?_⟩⟩
    intro t ht
    show Rel w _ (avK 0) R (look (argsL 0 args) t) ((us.toArray ++ Array.replicate (fn.ntmps - us.toArray.size) undef).getD t undef)
    have key : ∀ (ps : List PV) (vs : List Value) (k : Nat), RelPL w R ps vs → k ≤ t → ∀ z : Value, Rel w (fun _ => none) (avK 0) R (look (argsL k ps) t) (vs[t - k]?.getD z) := by
      intro ps
      induction ps with
      | nil => intro vs k _ _ z; simp only [argsL, look, Rel, RelP]
      | cons p ps ih =>
        intro vs k hr hk z
        simp only [RelPL] at hr
        obtain ⟨u, vs', rfl, h1, h2⟩ := hr
        simp only [argsL, look]
        by_cases e : t = k
        · subst e
          simp only [Nat.beq_refl, cond_true, Nat.sub_self]
          simpa [Rel] using h1
        · have hb : Nat.beq t k = false := by cases hb : Nat.beq t k; rfl; exact absurd (Nat.eq_of_beq_eq_true hb) e
          rw [hb]
          have := ih vs' (k + 1) h2 (by omega) z
          have e2 : t - k = (t - (k + 1)) + 1 := by omega
          rw [e2]
          simpa using this
    have := key args us 0 hrel (Nat.zero_le _) undef
    simp only [Nat.sub_zero] at this
    rw [Array.getD_eq_getD_getElem?, Array.getElem?_append]
    by_cases e : t < us.length
    · simpa [e] using this
    · rw [List.getElem?_eq_none (by omega)] at this
      simp only [List.size_toArray, e, if_false, Array.getElem?_replicate]
      split <;> simpa using this
  refine wp_mono ((h (fun _ => none) w (fun _ => False) ⟨R, hG, fun b h => ⟨hR b h, id⟩⟩).go _ w init) ?_
  rintro ex a' w' ⟨σ', hq, m, R', hw⟩
  have fin : ∀ vs ps, resC n σ' fn.results.toList = some vs → V.args σ'.ob vs = some ps → cellOk P n σ' fn.results.toList → Q (resOne ps) → a'.defers = [] ∧ ∃ v, (results fn a'.tmps).run P w' = .ok v w' ∧
      ∃ u v_1, Ending.returned v = .returned u ∧ Q v_1 ∧ Below w.heap.size w w' ∧ RelP w' (fun b => R b ∨ (w.heap.size ≤ b ∧ b < w'.heap.size)) v_1 u := by
    intro vs ps h1 h2 hc h3
    obtain ⟨us', hrun, hrl⟩ := results_run hw h1 hc
    have hp := hw.args hrl h2
    have hp2 : RelPL w' (fun b => R b ∨ (w.heap.size ≤ b ∧ b < w'.heap.size)) ps us' := hp.mono fun b hb => ⟨by
      rcases hb with hb | ⟨id, N, hb⟩
      · rcases hw.hr.rfr b hb with h | h | h
        · exact .inl h
        · exact .inr ⟨h, hw.hr.rsz b hb⟩
        · exact h.elim
      · rcases (hw.hr.own id b N hb).2.2 with h | h
        · exact h.elim
        · exact .inr ⟨h, (hw.hr.own id b N hb).1⟩, rfl⟩
    have hbel : Below w.heap.size w w' := ⟨hw.hr.frame.os, hw.hr.frame.tape, hw.hr.frame.output, hw.hr.frame.size, fun k hk => hw.hr.frame.block k hk id⟩
    have hlen := hp2.length
    refine ⟨hw.df, _, hrun, _, _, rfl, h3, hbel, ?_⟩
    cases ps with
    | nil =>
      simp only [RelPL] at hp2
      subst hp2
      simp only [resOne, RelP]
      exact ⟨[], by simp, RelPL.nil⟩
    | cons p ps =>
      cases ps with
      | nil =>
        simp only [RelPL] at hp2
        obtain ⟨u, vs', rfl, h5, rfl⟩ := hp2
        simpa [resOne] using h5
      | cons p2 ps =>
        simp only [resOne, RelP]
        refine ⟨us', ?_, hp2⟩
        rw [dif_neg (by simp at hlen ⊢; omega)]
  cases ex with
  | normal => obtain ⟨vs, ps, h1, h2, h3, h4⟩ := hq; exact fin vs ps h1 h2 h3 h4
  | ret => obtain ⟨vs, ps, h1, h2, h3, h4⟩ := hq; exact fin vs ps h1 h2 h3 h4
  | _ => exact hq.elim
def retOC (P : Program) (fn : Func) (n k k' : Nat) (Q : V → (Nat → Option Ob) → Prop) : Exit → St → Prop
  | .ret, σ | .normal, σ => ∃ l os' vs os2 k2, σ.le (mkS l os' k2) ∧ resC n (mkS l os' k2) fn.results.toList = some vs ∧ cellOk P n (mkS l os' k2) fn.results.toList ∧ V.allL (okR k k') vs = true ∧ os2.all (fun p => okR k k' p.1 && p.2.all (okR k k')) = true ∧
      (∀ i o, lookO os2 i = some o → lookO os' i = some o) ∧ k' ≤ k2 ∧ Q (resOneV vs) (lookO os2)
  | _, _ => False
theorem FnO.ofC {P : Program} {f : FuncId} {fn : Func} {c : Code} {n k k' : Nat} {args : List V} {os : List (Nat × Ob)} {Q : V → (Nat → Option Ob) → Prop} (hf : P.funcs[f]? = some fn) (hb : fn.body = some c) (hn : fn.ntmps = n) (hna : args.length ≤ n)
    (h : ∀ m0 w0 F R0, AW ⟨P, m0, w0, F, R0⟩ n c (retOC P fn n k k' Q) (mkS (argsV 0 args) os 0)) : FnO P f k k' args os Q := by
  intro w m R us hHR hrel
  refine calls_of_wp hf hb ?_
  have hl := hrel.length
  have init : SJ ⟨P, m, w, OwnB m, R⟩ n (mkS (argsV 0 args) os 0) { tmps := us.toArray ++ Array.replicate (fn.ntmps - us.toArray.size) undef, defers := [] } w := by
    refine ⟨m, R.p, ⟨hHR, rfl, by simp; omega, ?_⟩⟩
    intro t ht
    show Rel w m (avK 0) R.p (look (argsV 0 args) t) ((us.toArray ++ Array.replicate (fn.ntmps - us.toArray.size) undef).getD t undef)
    have key : ∀ (ps : List V) (vs : List Value) (k : Nat), RelL w m (avK 0) R.p ps vs → k ≤ t → ∀ z : Value, Rel w m (avK 0) R.p (look (argsV k ps) t) (vs[t - k]?.getD z) := by
      intro ps
      induction ps with
      | nil => intro vs k _ _ z; simp only [argsV, look, Rel, RelP]
      | cons p ps ih =>
        intro vs k hr hk z
        simp only [RelL] at hr
        obtain ⟨u, vs', rfl, h1, h2⟩ := hr
        simp only [argsV, look]
        by_cases e : t = k
        · subst e
          simp only [Nat.beq_refl, cond_true, Nat.sub_self]
          simpa using h1
        · have hb : Nat.beq t k = false := by cases hb : Nat.beq t k; rfl; exact absurd (Nat.eq_of_beq_eq_true hb) e
          rw [hb]
          have := ih vs' (k + 1) h2 (by omega) z
          have e2 : t - k = (t - (k + 1)) + 1 := by omega
          rw [e2]
          simpa using this
    have := key args us 0 hrel (Nat.zero_le _) undef
    simp only [Nat.sub_zero] at this
    rw [Array.getD_eq_getD_getElem?, Array.getElem?_append]
    by_cases e : t < us.length
    · simpa [e] using this
    · rw [List.getElem?_eq_none (by omega)] at this
      simp only [List.size_toArray, e, if_false, Array.getElem?_replicate]
      split <;> simpa using this
  refine wp_mono ((h m w (OwnB m) R).go _ w init) ?_
  rintro ex a' w' ⟨σ', hq, hsj⟩
  have fin : ∀ l os' vs os2 k2, σ'.le (mkS l os' k2) → resC n (mkS l os' k2) fn.results.toList = some vs → cellOk P n (mkS l os' k2) fn.results.toList → V.allL (okR k k') vs = true → os2.all (fun p => okR k k' p.1 && p.2.all (okR k k')) = true → (∀ i o, lookO os2 i = some o → lookO os' i = some o) → k' ≤ k2 → Q (resOneV vs) (lookO os2) →
      a'.defers = [] ∧ ∃ v, (results fn a'.tmps).run P w' = .ok v w' ∧ ∃ u v_1 ob' m' R', Ending.returned v = .returned u ∧ Q v_1 ob' ∧ v_1.all (okR k k') = true ∧ (∀ i o, ob' i = some o → okR k k' i = true ∧ o.all (okR k k') = true) ∧ HR ⟨P, m, w, OwnB m, R⟩ m' R' ob' (avK k') w' ∧ Rel w' m' (avK k') R' v_1 u := by
    intro l os' vs os2 k2 h1 h2 hc h3 h4 h5 h6 h7
    obtain ⟨m2, R2, hw⟩ := h1 _ _ _ _ hsj
    obtain ⟨us', hrun, hrl⟩ := results_run hw h2 hc
    have hob : ∀ i o, lookO os2 i = some o → okR k k' i = true ∧ o.all (okR k k') = true := by
      intro i o hio
      have := List.all_eq_true.1 h4 (i, o) (lookO_mem hio)
      simpa using this
    let m3 : Gm := fun i => if (lookO os2 i).isSome then m2 i else none
    have sub : ∀ i x, m3 i = some x → m2 i = some x := fun i x h => by
      simp only [m3] at h
      split at h
      · exact h
      · cases h
    have okav : ∀ i, okR k k' i = true → avK k' i = false := by
      intro i hi
      simp only [okR, Bool.or_eq_true, Bool.and_eq_true] at hi
      apply ble_of
      rcases hi with h | h
      · rw [h]; rfl
      · rw [h.1]; simp
    have um : ∀ (i : Nat) (x : Nat × Nat), okR k k' i = true → m3 i = some x → m2 i = some x := fun i x _ h => sub i x h
    refine ⟨hw.df, _, hrun, _, resOneV vs, lookO os2, m3, R2, rfl, h7, resOneV_all h3, hob, ?_, ?_⟩
    · refine ⟨?_, ?_, ?_, ?_, ?_, hw.hr.rsz, hw.hr.rfr, hw.hr.r0, hw.hr.frame, fun i x hi h => hw.hr.keep i x hi (sub i x h), fun i hi => avK_big hi⟩
      · intro i
        simp only [m3]
        cases e : lookO os2 i with
        | none => rfl
        | some o =>
          have := hw.hr.dom i
          have e2 : (mkS l os' k2).ob i = some o := h5 i o e
          rw [e2] at this
          simpa using this
      · intro i hi
        cases e : lookO os2 i with
        | none => rfl
        | some o =>
          have := okav i (hob i o e).1
          rw [hi] at this
          cases this
      · intro i o b N e1 e2
        have h8 := hw.hr.obj i o b N (h5 i o e1) (sub _ _ e2)
        have h9 : ORel w' m2 (mkS l os' k2).av R2 b N (o.ren (fun i => i)) := by rw [Ob.ren_id]; exact h8
        exact h9.unren (fun i => i) (okR k k') um okav (hob i o e1).2
      · exact fun i j b N N' e1 e2 => hw.hr.inj i j b N N' (sub _ _ e1) (sub _ _ e2)
      · exact fun i b N e => hw.hr.own i b N (sub _ _ e)
    · have h9 : Rel w' m2 (mkS l os' k2).av R2 ((resOneV vs).ren (fun i => i)) (if h : us'.toArray.size = 1 then us'.toArray[0] else .tuple us'.toArray) := by rw [V.ren_id]; exact resOneV_rel hrl
      exact h9.unren (fun i => i) (okR k k') um okav _ _ (resOneV_all h3)
  cases ex with
  | normal => obtain ⟨l, os', vs, os2, k2, h1, h2, h3, h4, h5, h6, h7, h8⟩ := hq; exact fin l os' vs os2 k2 h1 h2 h3 h4 h5 h6 h7 h8
  | ret => obtain ⟨l, os', vs, os2, k2, h1, h2, h3, h4, h5, h6, h7, h8⟩ := hq; exact fin l os' vs os2 k2 h1 h2 h3 h4 h5 h6 h7 h8
  | _ => exact hq.elim
end Go.Proofs.YtopjkdddicgajaaGreatDoor
namespace Go.Proofs.YtopjkdddicgajaaGreatDoor
open Go.RowKit
theorem gro_real {T : TypeId} {cs : List PV} (h : cs ≠ []) : (Ob.gro T cs).real = true := by
  cases cs with
  | nil => exact absurd rfl h
  | cons _ _ => rfl
section
variable {C : Ctx} {n : Nat} {σ : St} {a : Act} {w : World} {m : Gm} {R : Nat → Prop}
theorem SW.gsl (h : SW C n σ a w m R) {x : Operand} {id sz k : Nat} (hx : σ.ev n x = .gsl id sz k) :
    ∃ A c, a.eval x = .slice A k c ∧ k ≤ c ∧ c ≤ maxLen ∧ (k = 0 → A = none ∧ c = 0 ∧ m id = none) ∧ (0 < k → ∀ b N, m id = some (b, N) → A = some ⟨b, 0, none⟩ ∧ N = c * sz) := by
  have := h.ev x
  rw [hx] at this
  simp only [Rel] at this
  exact this.2
end
section
variable {C : Ctx} {n : Nat} {σ : St} {dst : Option Tmp} {ty t t' : TypeId} {pos : String} {after : Array Edge} {gd : Option (Nat × Bool)} {x y : Operand}
/-- append onto a growing slice. -/
theorem xj_appendG {e : TypeId} {z : Value} {size bytes k j id : Nat} {cs news : List PV} (id' : Nat) (he : ElemIs C.P t e z size bytes) (hs : σ.ev n x = .gsl id size k) (ho : σ.ob id = some (.gro e cs)) (hcs : cs.length = k * size)
    (hsrc : SrcIs n σ y j news) (hl : news.length = j * size) (hlf : ∀ c ∈ news, c.leaf = true) (hb : k + j ≤ 1000000000) (hj : 0 < j) (hid : σ.av id' = true) :
    XJ C n ⟨dst, .call { callee := .builtin .append, args := #[x, y], argTypes := #[t, t] }, ty, pos, after, gd⟩ σ ⟨.gsl id' size (k + j), [(id', some (.gro e (cs ++ news))), (id, none)], [id']⟩ := by
  rintro a w Q ⟨m, R, hw⟩
  obtain ⟨A0, c, hev, hkc, hcm, hz, hp⟩ := hw.gsl hs
  obtain ⟨A, c2, us, hev2, hr2, hrow⟩ := hsrc.row hw
  have hnl : 0 < news.length := by rw [hl]; exact Nat.mul_pos hj he.pos
  have hne : cs ++ news ≠ [] := fun e => by
    have := congrArg List.length e
    simp at this
    rw [this.2] at hnl
    simp at hnl
  have sub : ∀ i x, upd m id none i = some x → m i = some x ∧ i ≠ id := fun i x e => by
    by_cases hi : i = id
    · subst hi; rw [upd_same] at e; cases e
    · rw [upd_ne _ _ hi] at e; exact ⟨e, hi⟩
  rcases Nat.eq_zero_or_pos k with hk0 | hk0
  · subst hk0
    obtain ⟨rfl, rfl, hmn⟩ := hz rfl
    have hcs0 : cs = [] := List.eq_nil_of_length_eq_zero (by simpa using hcs)
    subst hcs0
    refine wp_appS x y t rfl 0 e z size bytes he.u he.info he.zs he.pos he.by_ _ 0 j c2 A _ us hev hev2 (World.ownsRow_nil w 0 e size) hrow (by rw [hr2.length, hl]) (leafP_cells hr2 hlf) (by omega) (Nat.zero_le _) ?_
    intro A' c' w' hown' hgr hat
    simp only [Nat.zero_add, List.nil_append] at hown' hat hne ⊢
    rcases hown'.2 with ⟨hv, h0⟩ | ⟨g, cap, cur, hv, _, hg, hkc', hcm', hcs', htk⟩
    · omega
    · simp only [Value.slice.injEq] at hv
      obtain ⟨rfl, -, rfl⟩ := hv
      have gge : w.heap.size ≤ g := by
        rcases hat with h | ⟨g', h, hle⟩
        · simp [Value.ownBlock] at h
        · simp only [Value.ownBlock, Option.some.injEq] at h
          subst h; exact hle
      refine ⟨_, rfl, upd (upd m id none) id' (some (g, cur.size)), R, ?_⟩
      rw [St.app_new]
      refine SW.put ((hw.drop id).fresh hid hg hgr (fun q hq => by simp [Value.ownBlock] at hq) (fun h => by have := hw.hr.rsz _ h; omega) (fun i b N hi e => by have := (hw.hr.own i b N (sub i _ hi).1).1; omega) (.inr (by have := hw.hr.frame.size; omega)) (.gro e news) ?_ (gro_real hne)) dst ?_
      · intro m' av' hR _ _
        refine ⟨cur, hg, rfl, ?_, ?_⟩
        · rw [hcs', ← hr2.length, hown'.1]; exact Nat.mul_le_mul_right _ hkc'
        · rw [← hr2.length, hown'.1, htk]
          exact hr2.mono hR
      · simp only [Rel]
        refine ⟨by simp [avL], _, c', rfl, hkc', hcm', fun h => by omega, fun _ b N e => ?_⟩
        rw [upd_same] at e
        cases e
        exact ⟨rfl, hcs'⟩
  · have hcne : cs ≠ [] := fun e => by
      rw [e] at hcs
      have := Nat.mul_pos hk0 he.pos
      simp at hcs
      omega
    obtain ⟨b, N, hm, arr, hbk, hsz, hle, hr⟩ := hw.live ho (gro_real hcne)
    obtain ⟨rfl, hN⟩ := hp hk0 b N hm
    have hown : w.ownsRow 0 e size (.slice (some ⟨b, 0, none⟩) k c) k (arr.toList.take (k * size)) := by
      refine ⟨?_, .inr ⟨b, c, arr, rfl, Nat.zero_le _, hbk, hkc, hcm, by rw [hsz, hN], rfl⟩⟩
      have := Nat.mul_le_mul_right size hkc
      simp only [List.length_take, Array.length_toList]
      omega
    refine wp_appS x y t rfl 0 e z size bytes he.u he.info he.zs he.pos he.by_ _ k j c2 A _ us hev hev2 hown hrow (by rw [hr2.length, hl]) (leafP_cells hr2 hlf) hb (Nat.zero_le _) ?_
    intro A' c' w' hown' hgr hat
    have own := hw.hr.own id b N hm
    have hrel : RelPL w R (cs ++ news) (arr.toList.take (k * size) ++ us) := by
      rw [hcs] at hr
      exact hr.append hr2
    have bprop : ¬ R b ∧ (∀ i b' N', upd m id none i = some (b', N') → b' ≠ b) ∧ (C.F b ∨ C.w0.heap.size ≤ b) :=
      ⟨own.2.1, fun i b' N' hi e => (sub i _ hi).2 (h_inj hw (sub i _ hi).1 hm e), own.2.2⟩
    rcases hown'.2 with ⟨hv, h0⟩ | ⟨g, cap, cur, hv, _, hg, hkc', hcm', hcs', htk⟩
    · exfalso
      simp only [Value.slice.injEq] at hv
      obtain ⟨rfl, _, _⟩ := hv
      rcases hat with h | ⟨g', h, _⟩ <;> simp [Value.ownBlock] at h
    · simp only [Value.slice.injEq] at hv
      obtain ⟨rfl, -, rfl⟩ := hv
      have gprop : ¬ R g ∧ (∀ i b' N', upd m id none i = some (b', N') → b' ≠ g) ∧ (C.F g ∨ C.w0.heap.size ≤ g) := by
        rcases hat with h | ⟨g', h, hle⟩
        · simp only [Value.ownBlock, Option.some.injEq] at h
          rw [h]; exact bprop
        · simp only [Value.ownBlock, Option.some.injEq] at h
          subst h
          refine ⟨fun h => ?_, fun i b' N' hi e => ?_, .inr ?_⟩
          · have := hw.hr.rsz _ h; omega
          · have := (hw.hr.own i b' N' (sub i _ hi).1).1; omega
          · have := hw.hr.frame.size; omega
      have hul : (arr.toList.take (k * size) ++ us).length = (k + j) * size := hown'.1
      refine ⟨_, rfl, upd (upd m id none) id' (some (g, cur.size)), R, ?_⟩
      rw [St.app_new]
      refine SW.put ((hw.drop id).fresh hid hg hgr (fun q hq => by simp [Value.ownBlock] at hq; subst hq; exact bprop) gprop.1 gprop.2.1 gprop.2.2 (.gro e (cs ++ news)) ?_ (gro_real hne)) dst ?_
      · intro m' av' hR _ _
        refine ⟨cur, hg, rfl, ?_, ?_⟩
        · rw [hcs', ← hrel.length, hul]; exact Nat.mul_le_mul_right _ hkc'
        · rw [← hrel.length, hul, htk]
          exact hrel.mono hR
      · simp only [Rel]
        refine ⟨by simp [avL], _, c', rfl, hkc', hcm', fun h => by omega, fun _ b N e => ?_⟩
        rw [upd_same] at e
        cases e
        exact ⟨rfl, hcs'⟩
/-- The usual case: one element, just built. -/
theorem xj_appendG1 {e T2 : TypeId} {z : Value} {size bytes k id id2 : Nat} {cs news : List PV} (id' : Nat) (he : ElemIs C.P t e z size bytes) (hs : σ.ev n x = .gsl id size k) (ho : σ.ob id = some (.gro e cs)) (hcs : cs.length = k * size)
    (hy : σ.ev n y = .osl id2 size 1) (ho2 : σ.ob id2 = some (.cells T2 news)) (hl : news.length = size) (hlf : news.all PV.leaf = true) (hb : k + 1 ≤ 1000000000) (hid : σ.av id' = true) :
    XJ C n ⟨dst, .call { callee := .builtin .append, args := #[x, y], argTypes := #[t, t] }, ty, pos, after, gd⟩ σ ⟨.gsl id' size (k + 1), [(id', some (.gro e (cs ++ news))), (id, none)], [id']⟩ :=
  xj_appendG id' he hs ho hcs (.inr ⟨id2, size, T2, news, hy, ho2, by rw [Nat.one_mul, List.take_of_length_le (by omega)]⟩) (by omega) (by simpa using hlf) hb (by omega) hid
end
/-- A nil slice is a growing one. -/
def St.gro (σ : St) (t id sz : Nat) (T : TypeId) : St := ⟨upd σ.sl t (.gsl id sz 0), obL [(id, some (.gro T []))] σ.ob, avL [id] σ.av⟩
theorem SW.gro0 {C : Ctx} {n : Nat} {σ : St} {a : Act} {w : World} {m : Gm} {R : Nat → Prop} (hw : SW C n σ a w m R) {id : Nat} (hid : σ.av id = true) (T : TypeId) : SW C n ⟨σ.sl, obL [(id, some (.gro T []))] σ.ob, avL [id] σ.av⟩ a w m R ∧ m id = none := by
  have obe : ∀ i, i ≠ id → obL [(id, some (.gro T []))] σ.ob i = σ.ob i := fun i hi => by
    have : Nat.beq i id = false := by cases hb : Nat.beq i id; rfl; exact absurd (Nat.eq_of_beq_eq_true hb) hi
    simp [obL, this]
  have obs : obL [(id, some (.gro T []))] σ.ob id = some (.gro T []) := by simp [obL]
  have hmn : m id = none := by
    have := hw.hr.dom id
    rw [hw.hr.free id hid] at this
    simpa [liveO] using this
  have ha : ∀ i, σ.av i = false → avL [id] σ.av i = false := fun i hi => by
    simp only [avL]
    cases Nat.beq i id <;> simp [hi]
  refine ⟨hw.world ⟨?_, ?_, ?_, hw.hr.inj, hw.hr.own, hw.hr.rsz, hw.hr.rfr, hw.hr.r0, hw.hr.frame, hw.hr.keep, fun i hi => ha i (hw.hr.res i hi)⟩ (fun b hb => ⟨hb, rfl⟩) (fun _ _ _ e => e) ha, hmn⟩
  · intro i
    by_cases e : i = id
    · subst e; rw [obs, hmn]; rfl
    · rw [obe i e]; exact hw.hr.dom i
  · intro i hi
    simp only [avL] at hi
    cases hb : Nat.beq i id with
    | true => rw [hb] at hi; simp at hi
    | false =>
      rw [hb] at hi
      have e : i ≠ id := fun e => by subst e; simp at hb
      rw [obe i e]
      exact hw.hr.free i (by simpa using hi)
  · intro i o b N h1 h2
    by_cases e : i = id
    · subst e; rw [hmn] at h2; cases h2
    · rw [obe i e] at h1
      exact (hw.hr.obj i o b N h1 h2).mono (fun b hb => ⟨hb, rfl⟩) (fun _ _ _ e => e) ha rfl
theorem nil_gsl {w : World} {m : Gm} {av : Av} {R : Nat → Prop} {id sz : Nat} {u : Value} (h : RelP w R (.sl (some true) 0 []) u) (hm : m id = none) (ha : av id = false) : Rel w m av R (.gsl id sz 0) u := by
  simp only [RelP] at h
  obtain ⟨A, c, he, _, h2, h3, h4, _⟩ := h
  have hA : A = none := by cases A; rfl; have := h3 true rfl; simp at this
  simp only [Rel]
  exact ⟨ha, A, c, he, Nat.zero_le _, h2, fun _ => ⟨hA, h4 trivial, hm⟩, fun h => absurd h (Nat.lt_irrefl 0)⟩
theorem St.le_gro {σ : St} (t id sz : Nat) (T : TypeId) (ht : σ.sl t = .pv (.sl (some true) 0 [])) (hid : σ.av id = true) : σ.le (σ.gro t id sz T) := by
  rintro C n a w ⟨m, R, hw⟩
  obtain ⟨h, hmn⟩ := hw.gro0 hid T
  refine ⟨m, R, h.hr, h.df, h.sz, fun q hq => ?_⟩
  show Rel w m (avL [id] σ.av) R (upd σ.sl t (.gsl id sz 0) q) _
  by_cases e : q = t
  · subst e
    rw [upd_same]
    have h0 := hw.sl q hq
    rw [ht] at h0
    simp only [Rel] at h0
    exact nil_gsl h0 hmn (by simp [avL])
  · rw [upd_ne _ _ e]; exact h.sl q hq
/-- The same of a cell of a variable. -/
def St.groC (σ : St) (pid j id sz : Nat) (T T' : TypeId) (cs : List V) : St := ⟨σ.sl, obL [(pid, some (.mix T' (cs.set j (.gsl id sz 0)))), (id, some (.gro T []))] σ.ob, avL [id] σ.av⟩
theorem St.le_groC {σ : St} {T' : TypeId} {cs : List V} (pid j id sz : Nat) (T : TypeId) (ho : σ.ob pid = some (.mix T' cs)) (hj : cs[j]? = some (.pv (.sl (some true) 0 []))) (hid : σ.av id = true) : σ.le (σ.groC pid j id sz T T' cs) := by
  rintro C n a w ⟨m, R, hw⟩
  obtain ⟨h, hmn⟩ := hw.gro0 hid T
  have hne : pid ≠ id := fun e => by rw [e, hw.hr.free id hid] at ho; cases ho
  have hob : obL [(id, some (.gro T []))] σ.ob pid = some (.mix T' cs) := by
    have : Nat.beq pid id = false := by cases hb : Nat.beq pid id; rfl; exact absurd (Nat.eq_of_beq_eq_true hb) hne
    simp [obL, this, ho]
  have obe : ∀ i, i ≠ pid → obL [(pid, some (.mix T' (cs.set j (.gsl id sz 0)))), (id, some (.gro T []))] σ.ob i = obL [(id, some (.gro T []))] σ.ob i := fun i hi => by
    have : Nat.beq i pid = false := by cases hb : Nat.beq i pid; rfl; exact absurd (Nat.eq_of_beq_eq_true hb) hi
    simp [obL, this]
  have obs : obL [(pid, some (.mix T' (cs.set j (.gsl id sz 0)))), (id, some (.gro T []))] σ.ob pid = some (.mix T' (cs.set j (.gsl id sz 0))) := by simp [obL]
  refine ⟨m, R, ⟨?_, ?_, ?_, h.hr.inj, h.hr.own, h.hr.rsz, h.hr.rfr, h.hr.r0, h.hr.frame, h.hr.keep, h.hr.res⟩, h.df, h.sz, h.sl⟩
  · intro i
    show (m i).isSome = liveO (obL _ σ.ob i)
    by_cases e : i = pid
    · subst e; rw [obs, h.hr.dom]; show liveO (obL [(id, some (.gro T []))] σ.ob i) = _; rw [hob]; rfl
    · rw [obe i e]; exact h.hr.dom i
  · intro i hi
    show obL _ σ.ob i = none
    by_cases e : i = pid
    · subst e; have := hob.symm.trans (h.hr.free i hi); cases this
    · rw [obe i e]; exact h.hr.free i hi
  · intro i o b N h1 h2
    have h1' : obL [(pid, some (.mix T' (cs.set j (.gsl id sz 0)))), (id, some (.gro T []))] σ.ob i = some o := h1
    by_cases e : i = pid
    · subst e
      rw [obs] at h1'
      cases h1'
      obtain ⟨arr, q1, q2, q3, q4⟩ := h.hr.obj i _ b N hob h2
      refine ⟨arr, q1, q2, by simpa using q3, ?_⟩
      obtain ⟨u, hu, hr⟩ := q4.get hj
      simp only [List.length_set]
      have := q4.set j (p := .gsl id sz 0) (u := u) (nil_gsl (by simpa only [Rel] using hr) hmn (by simp [avL]))
      have e2 : (arr.toList.take cs.length).set j u = arr.toList.take cs.length := by
        obtain ⟨hlt, e3⟩ := List.getElem?_eq_some_iff.1 hu
        rw [← e3]
        exact List.set_getElem_self hlt
      rw [e2] at this
      exact this
    · rw [obe i e] at h1'
      exact h.hr.obj i o b N h1' h2
mutual
/-- Slices of the place id are plain from now on. -/
def V.pubV (id : Nat) (r : Bool) (cs : List PV) : V → V
  | .osl i sz k => bif Nat.beq i id then .pv (bif r then .sl (some false) k cs else .any) else .osl i sz k
  | .gsl i sz k => bif Nat.beq i id then .pv (.sl none k cs) else .gsl i sz k
  | .agg vs => .agg (V.pubL id r cs vs)
  | .tup vs => .tup (V.pubL id r cs vs)
  | .fn f a b => .fn f (V.pubL id r cs a) (V.pubL id r cs b)
  | .pv p => .pv p
  | .ptr i o => .ptr i o
  | .map i => .map i
def V.pubL (id : Nat) (r : Bool) (cs : List PV) : List V → List V
  | [] => []
  | v :: vs => V.pubV id r cs v :: V.pubL id r cs vs
end
def Ob.pubO (id : Nat) (r : Bool) (cs : List PV) : Ob → Ob
  | .cells t c => .cells t c
  | .gro t c => .gro t c
  | .mp ks vs => .mp ks vs
  | .it s p => .it s p
  | .mix t vs => .mix t (V.pubL id r cs vs)
theorem Ob.pubO_real (id : Nat) (r : Bool) (cs : List PV) : ∀ o : Ob, (o.pubO id r cs).real = o.real
  | .cells _ _ => rfl
  | .mix _ _ => rfl
  | .gro _ [] => rfl
  | .gro _ (_ :: _) => rfl
  | .mp _ _ => rfl
  | .it _ _ => rfl
theorem liveO_pub (id : Nat) (r : Bool) (cs : List PV) : ∀ o : Option Ob, liveO (o.map (Ob.pubO id r cs)) = liveO o
  | none => rfl
  | some o => Ob.pubO_real id r cs o
def St.pubA (σ : St) (id : Nat) (r : Bool) (cs : List PV) : St := ⟨fun t => V.pubV id r cs (σ.sl t), fun i => bif Nat.beq i id then none else (σ.ob i).map (Ob.pubO id r cs), σ.av⟩
section
variable {w : World} {m m' : Gm} {av : Av} {R R' : Nat → Prop}
theorem pubL_length (id : Nat) (r : Bool) (cs : List PV) : ∀ vs : List V, (V.pubL id r cs vs).length = vs.length
  | [] => rfl
  | _ :: vs => by simp [V.pubL, pubL_length id r cs vs]
mutual
theorem Rel.pubV {id : Nat} {r : Bool} {cs : List PV} (hR : ∀ b, R b → R' b ∧ w.heap[b]? = w.heap[b]?) (hm : ∀ i x, m' i = some x → m i = some x)
    (h1 : r = true → ∀ sz k u, Rel w m av R (.osl id sz k) u → RelP w R' (.sl (some false) k cs) u) (h2 : ∀ sz k u, Rel w m av R (.gsl id sz k) u → RelP w R' (.sl none k cs) u) :
    ∀ (v : V) (u : Value), Rel w m av R v u → Rel w m' av R' (V.pubV id r cs v) u
  | .osl i sz k, u, h => by
    simp only [V.pubV]
    cases hb : Nat.beq i id with
    | true =>
      have := Nat.eq_of_beq_eq_true hb; subst this; simp only [cond_true, Rel]
      cases r with
      | true => exact h1 rfl sz k u h
      | false => simp only [cond_false, RelP]
    | false => simp only [cond_false]; exact h.mono hR (fun i x _ e => hm i x e) (fun _ e => e)
  | .gsl i sz k, u, h => by
    simp only [V.pubV]
    cases hb : Nat.beq i id with
    | true => have := Nat.eq_of_beq_eq_true hb; subst this; simp only [cond_true, Rel]; exact h2 sz k u h
    | false => simp only [cond_false]; exact h.mono hR (fun i x _ e => hm i x e) (fun _ e => e)
  | .agg vs, u, h => by
    simp only [Rel, V.pubV] at h ⊢
    obtain ⟨us, e, h⟩ := h
    exact ⟨us, e, RelL.pubL hR hm h1 h2 vs us h⟩
  | .tup vs, u, h => by
    simp only [Rel, V.pubV] at h ⊢
    obtain ⟨us, e, h⟩ := h
    exact ⟨us, e, RelL.pubL hR hm h1 h2 vs us h⟩
  | .fn f a b, u, h => by
    simp only [Rel, V.pubV] at h ⊢
    obtain ⟨us, vs, e, ha, hb⟩ := h
    exact ⟨us, vs, e, RelL.pubL hR hm h1 h2 a us ha, RelL.pubL hR hm h1 h2 b vs hb⟩
  | .pv p, u, h => by simp only [V.pubV]; exact h.mono hR (fun i x _ e => hm i x e) (fun _ e => e)
  | .ptr i o, u, h => by simp only [V.pubV]; exact h.mono hR (fun i x _ e => hm i x e) (fun _ e => e)
  | .map i, u, h => by simp only [V.pubV]; exact h.mono hR (fun i x _ e => hm i x e) (fun _ e => e)
theorem RelL.pubL {id : Nat} {r : Bool} {cs : List PV} (hR : ∀ b, R b → R' b ∧ w.heap[b]? = w.heap[b]?) (hm : ∀ i x, m' i = some x → m i = some x)
    (h1 : r = true → ∀ sz k u, Rel w m av R (.osl id sz k) u → RelP w R' (.sl (some false) k cs) u) (h2 : ∀ sz k u, Rel w m av R (.gsl id sz k) u → RelP w R' (.sl none k cs) u) :
    ∀ (vs : List V) (us : List Value), RelL w m av R vs us → RelL w m' av R' (V.pubL id r cs vs) us
  | [], _, h => by simpa only [RelL, V.pubL] using h
  | c :: vs, _, h => by
    simp only [RelL, V.pubL] at h ⊢
    obtain ⟨u, us, e, ha, hb⟩ := h
    exact ⟨u, us, e, Rel.pubV hR hm h1 h2 c u ha, RelL.pubL hR hm h1 h2 vs us hb⟩
end
end
def Ob.plain : Ob → Option (Bool × List PV)
  | .cells _ cs => some (true, cs)
  | .gro _ cs => some (false, cs)
  | .mp _ _ => none
  | .it _ _ => none
  | .mix _ _ => none
/-- A slice of the call's own (or a growing one) is finished: it is a plain value from now on, wherever it stands. -/
theorem St.le_pubA {σ : St} {o : Ob} {r : Bool} {cs : List PV} (id : Nat) (ho : σ.ob id = some o) (hc : o.plain = some (r, cs)) : σ.le (σ.pubA id r cs) := by
  rintro C n a w ⟨m, R, hw⟩
  have hd := hw.drop id
  have sub : ∀ i x, upd m id none i = some x → m i = some x ∧ i ≠ id := fun i x e => by
    by_cases hi : i = id
    · subst hi; rw [upd_same] at e; cases e
    · rw [upd_ne _ _ hi] at e; exact ⟨e, hi⟩
  let R' : Nat → Prop := fun q => R q ∨ ∃ N, m id = some (q, N)
  have hR : ∀ b, R b → R' b ∧ w.heap[b]? = w.heap[b]? := fun b hb => ⟨.inl hb, rfl⟩
  have hcell : ∀ b N, m id = some (b, N) → ∃ us, RelPL w R' cs us ∧ Shows w R' b 0 us := by
    intro b N hm
    have hO := hw.hr.obj id o b N ho hm
    have fin : ∀ T (arr : Array Value), w.heap[b]? = some (.cells arr T (0, 0)) → RelPL w R cs (arr.toList.take cs.length) → ∃ us, RelPL w R' cs us ∧ Shows w R' b 0 us := by
      intro T arr hb hr
      refine ⟨_, hr.mono hR, .inr ⟨N, hm⟩, ?_⟩
      intro j hj
      simp only [List.length_take] at hj
      rw [Nat.zero_add, cell_of_row w b j arr T (0, 0) hb, List.getElem?_take, if_pos (by omega)]
      simp
    cases o with
    | cells T c => simp only [Ob.plain, Option.some.injEq, Prod.mk.injEq] at hc; obtain ⟨_, rfl⟩ := hc; obtain ⟨arr, q1, _, _, q4⟩ := hO; exact fin T arr q1 q4
    | gro T c => simp only [Ob.plain, Option.some.injEq, Prod.mk.injEq] at hc; obtain ⟨_, rfl⟩ := hc; obtain ⟨arr, q1, _, _, q4⟩ := hO; exact fin T arr q1 q4
    | mix T c => simp [Ob.plain] at hc
    | mp ks vs => simp [Ob.plain] at hc
    | it s p => simp [Ob.plain] at hc
  have hlv : (m id).isSome = true ∨ (r = false ∧ cs = []) := by
    rw [hw.hr.dom, ho]
    cases o with
    | cells T c => exact .inl rfl
    | gro T c =>
      simp only [Ob.plain, Option.some.injEq, Prod.mk.injEq] at hc
      obtain ⟨rfl, rfl⟩ := hc
      cases c with
      | nil => exact .inr ⟨rfl, rfl⟩
      | cons _ _ => exact .inl rfl
    | mix T c => simp [Ob.plain] at hc
    | mp ks vs => simp [Ob.plain] at hc
    | it s p => simp [Ob.plain] at hc
  have p1 : r = true → ∀ sz k u, Rel w m σ.av R (.osl id sz k) u → RelP w R' (.sl (some false) k cs) u := by
    intro hr' sz k u h
    obtain ⟨⟨b, N⟩, hm⟩ : ∃ x, m id = some x := by
      rcases hlv with h | h
      · exact Option.isSome_iff_exists.1 h
      · rw [hr'] at h; cases h.1
    simp only [Rel] at h
    obtain ⟨c, he, h1, h2, _⟩ := h.2 b N hm
    obtain ⟨us, hr, hsh⟩ := hcell b N hm
    simp only [RelP]
    exact ⟨_, c, he, h1, h2, (fun _ e => by cases e; rfl), (fun e => by cases e), fun _ => ⟨b, 0, us, rfl, hr, hsh⟩⟩
  have p2 : ∀ sz k u, Rel w m σ.av R (.gsl id sz k) u → RelP w R' (.sl none k cs) u := by
    intro sz k u h
    simp only [Rel] at h
    obtain ⟨h0, A, c, he, h1, h2, h3, h4⟩ := h
    simp only [RelP]
    refine ⟨_, c, he, h1, h2, (fun _ e => by cases e), (fun e => by cases e), fun hne => ?_⟩
    obtain ⟨⟨b, N⟩, hm⟩ : ∃ x, m id = some x := by
      rcases hlv with h | h
      · exact Option.isSome_iff_exists.1 h
      · exact absurd h.2 hne
    have hk : 0 < k := by
      rcases Nat.eq_zero_or_pos k with e | e
      · have := (h3 e).2.2; rw [hm] at this; cases this
      · exact e
    obtain ⟨us, hr, hsh⟩ := hcell b N hm
    exact ⟨b, 0, us, (h4 hk b N hm).1, hr, hsh⟩
  have hsub : ∀ i x, upd m id none i = some x → m i = some x := fun i x e => (sub i x e).1
  have obn : ∀ i, (σ.pubA id r cs).ob i = bif Nat.beq i id then none else (σ.ob i).map (Ob.pubO id r cs) := fun _ => rfl
  have obs : (σ.pubA id r cs).ob id = none := by rw [obn]; simp
  have obe : ∀ i, i ≠ id → (σ.pubA id r cs).ob i = (σ.ob i).map (Ob.pubO id r cs) := fun i hi => by
    rw [obn]
    have : Nat.beq i id = false := by cases hb : Nat.beq i id; rfl; exact absurd (Nat.eq_of_beq_eq_true hb) hi
    rw [this]; rfl
  refine ⟨upd m id none, R', ⟨?_, ?_, ?_, hd.hr.inj, ?_, ?_, ?_, fun q hq => .inl (hw.hr.r0 q hq), hw.hr.frame, hd.hr.keep, hd.hr.res⟩, hw.df, hw.sz, ?_⟩
  · intro i
    by_cases e : i = id
    · subst e; rw [upd_same, obs]; rfl
    · rw [upd_ne _ _ e, obe i e, liveO_pub]; exact hw.hr.dom i
  · intro i hi
    by_cases e : i = id
    · subst e; exact obs
    · rw [obe i e, hw.hr.free i hi]; rfl
  · intro i o' b N h1 h2
    obtain ⟨h2', e⟩ := sub i _ h2
    rw [obe i e] at h1
    cases ho' : σ.ob i with
    | none => rw [ho'] at h1; cases h1
    | some o2 =>
      rw [ho'] at h1
      simp only [Option.map_some, Option.some.injEq] at h1
      subst h1
      have hO := hw.hr.obj i o2 b N ho' h2'
      cases o2 with
      | cells T c => obtain ⟨arr, q1, q2, q3, q4⟩ := hO; exact ⟨arr, q1, q2, q3, q4.mono hR⟩
      | gro T c => obtain ⟨arr, q1, q2, q3, q4⟩ := hO; exact ⟨arr, q1, q2, q3, q4.mono hR⟩
      | mp ks vs => obtain ⟨es, clock, q1, q2, q3, q4⟩ := hO; exact ⟨es, clock, q1, q2.mono hR, q3.mono hR, q4⟩
      | it s p => exact hO
      | mix T c =>
        obtain ⟨arr, q1, q2, q3, q4⟩ := hO
        refine ⟨arr, q1, q2, by rw [pubL_length]; exact q3, ?_⟩
        rw [pubL_length]
        exact q4.pubL hR hsub p1 p2
  · intro i b N h1
    obtain ⟨h2, h3, h4⟩ := hw.hr.own i b N (sub i _ h1).1
    refine ⟨h2, ?_, h4⟩
    rintro (h5 | ⟨N', h5⟩)
    · exact h3 h5
    · exact (sub i _ h1).2 (hw.hr.inj i id b N N' (sub i _ h1).1 h5)
  · rintro q (hq | ⟨N, hq⟩)
    · exact hw.hr.rsz q hq
    · exact (hw.hr.own id q N hq).1
  · rintro q (hq | ⟨N, hq⟩)
    · exact hw.hr.rfr q hq
    · rcases (hw.hr.own id q N hq).2.2 with h | h
      · exact .inr (.inr h)
      · exact .inr (.inl h)
  · intro t ht
    exact (hw.sl t ht).pubV hR hsub p1 p2
theorem St.le.trans {σ τ υ : St} (h : σ.le τ) (k : τ.le υ) : σ.le υ := fun C n a w hs => k C n a w (h C n a w hs)
/-- Two ways come together again. -/
def midQ {X : Type} (st : X → St) (I : X → Prop) (Q : Exit → St → Prop) : Exit → St → Prop
  | .normal, σ => ∃ x, σ.le (st x) ∧ I x
  | e, σ => Q e σ
theorem AW.cut {X : Type} {C : Ctx} {n : Nat} {Q : Exit → St → Prop} {σ : St} {c d : Code} (st : X → St) (I : X → Prop) (h : AW C n c (midQ st I Q) σ) (k : ∀ x, I x → AW C n d Q (st x)) : AW C n (.seq c d) Q σ := by
  refine AW.seq (h.mono ?_)
  intro e s hq
  cases e with
  | normal =>
    obtain ⟨x, hle, hi⟩ := hq
    exact AW.weaken hle (k x hi)
  | _ => exact hq
end Go.Proofs.YtopjkdddicgajaaGreatDoor
namespace Go.Proofs.YtopjkdddicgajaaGreatDoor
open Go.RowKit
/-- How the body of such a method must end: the result's cells are plain. -/
def retMC (n t k : Nat) (T : TypeId) (Q : PV → List PV → Prop) : Exit → St → Prop
  | .ret, σ | .normal, σ => ∃ id T2 ps cs', σ.ev n (.tmp t) = .ptr id 0 ∧ Nat.blt id big = true ∧ σ.ob id = some (.mix T2 (ps.map .pv)) ∧ ps.length = k ∧ σ.ob big = some (.mix T (cs'.map .pv)) ∧ Q (.agg ps) cs'
  | _, _ => False
theorem FnM.ofC {P : Program} {f : FuncId} {fn : Func} {c : Code} {n t k : Nat} {rt T : TypeId} {cs args : List PV} {Q : PV → List PV → Prop} (hf : P.funcs[f]? = some fn) (hb : fn.body = some c) (hn : fn.ntmps = n) (hna : args.length + 1 ≤ n) (hres : fn.results.toList = [.cell t rt]) (ht : t < n) (hrow : isRow P rt) (hsz : szIs P rt k)
    (h : ∀ m0 w0 F R0, AW ⟨P, m0, w0, F, R0⟩ n c (retMC n t k T Q) (mkS ((0, .ptr big 0) :: argsV 1 (args.map .pv)) [(big, .mix T (cs.map .pv))] 0)) : FnM P f T cs args Q := by
  have hO : FnO P f 1 0 (.ptr big 0 :: args.map .pv) [(big, .mix T (cs.map .pv))] fun v ob' => ∃ ps cs', v = .agg (ps.map .pv) ∧ ob' = lookO [(big, .mix T (cs'.map .pv))] ∧ Q (.agg ps) cs' := by
    refine FnO.ofC hf hb hn (by simpa using hna) fun m0 w0 F R0 => ?_
    refine (h m0 w0 F R0).mono ?_
    have hlt : Nat.blt t n = true := by simpa [Nat.blt_eq] using ht
    have key : ∀ s : St, (∃ id T2 ps cs', s.ev n (.tmp t) = .ptr id 0 ∧ Nat.blt id big = true ∧ s.ob id = some (.mix T2 (ps.map .pv)) ∧ ps.length = k ∧ s.ob big = some (.mix T (cs'.map .pv)) ∧ Q (.agg ps) cs') →
        ∃ l os' vs os2 k2, s.le (mkS l os' k2) ∧ resC n (mkS l os' k2) fn.results.toList = some vs ∧ cellOk P n (mkS l os' k2) fn.results.toList ∧ V.allL (okR 1 0) vs = true ∧ os2.all (fun p => okR 1 0 p.1 && p.2.all (okR 1 0)) = true ∧
          (∀ i o, lookO os2 i = some o → lookO os' i = some o) ∧ 0 ≤ k2 ∧ ∃ ps cs', resOneV vs = .agg (ps.map .pv) ∧ lookO os2 = lookO [(big, .mix T (cs'.map .pv))] ∧ Q (.agg ps) cs' := by
      rintro s ⟨id, T2, ps, cs', h1, h2, h3, h4, h5, h6⟩
      simp only [St.ev, hlt, cond_true] at h1
      have hid : id < big := by simpa [Nat.blt_eq] using h2
      have e1 : Nat.beq id big = false := by cases hb : Nat.beq id big; rfl; have := Nat.eq_of_beq_eq_true hb; omega
      have ev : (mkS [(t, .ptr id 0)] [(big, .mix T (cs'.map .pv)), (id, .mix T2 (ps.map .pv))] (id + 1)).ev n (.tmp t) = .ptr id 0 := by
        simp only [St.ev, hlt, cond_true, mkS, look, Nat.beq_refl]
      have ob : (mkS [(t, .ptr id 0)] [(big, .mix T (cs'.map .pv)), (id, .mix T2 (ps.map .pv))] (id + 1)).ob id = some (.mix T2 (ps.map .pv)) := by
        simp only [mkS, lookO, e1, cond_false, Nat.beq_refl, cond_true]
      have hb1 : Nat.blt id (id + 1) = true := by simp [Nat.blt_eq]
      refine ⟨[(t, .ptr id 0)], [(big, .mix T (cs'.map .pv)), (id, .mix T2 (ps.map .pv))], [.agg (ps.map .pv)], [(big, .mix T (cs'.map .pv))], id + 1, St.le_mk ⟨h1, trivial⟩ ⟨h5, h3, trivial⟩ ?_ ?_, ?_, ?_, ?_, ?_, ?_, Nat.zero_le _, ps, cs', rfl, rfl, h6⟩
      · simp only [List.all_cons, List.all_nil, V.okA, hb1]; rfl
      · simp only [List.all_cons, List.all_nil, Bool.and_true, Ob.okA, okL_pv, hb1]
        simp
      · rw [hres]
        simp only [resC, ev, ob]
      · rw [hres]
        exact ⟨cellOk1 hrow hsz ev ob (by simpa using h4), trivial⟩
      · simp only [V.allL, V.all, allL_pv]; rfl
      · simp only [List.all_cons, List.all_nil, Bool.and_true, Ob.all, allL_pv]
        rfl
      · intro i o hi
        simp only [lookO] at hi ⊢
        cases hb : Nat.beq i big with
        | true => rw [hb] at hi; simpa using hi
        | false => rw [hb] at hi; simp at hi
    intro ex s hq
    cases ex with
    | normal => exact key s hq
    | ret => exact key s hq
    | _ => exact hq.elim
  intro w m R us h1 h2
  refine (hO w m R us h1 h2).mono ?_
  rintro e w' ⟨u, v, ob', m', R', rfl, ⟨ps, cs', rfl, rfl, hq⟩, h3, h4, h5, h6⟩
  refine ⟨u, .pv (.agg ps), _, m', R', rfl, ⟨_, cs', rfl, rfl, hq⟩, rfl, h4, h5, ?_⟩
  simp only [Rel, RelP] at h6 ⊢
  obtain ⟨us, e, hr⟩ := h6
  exact ⟨us, e, hr.toP⟩
end Go.Proofs.YtopjkdddicgajaaGreatDoor
namespace Go.Proofs.YtopjkdddicgajaaGreatDoor
open Go.RowKit
/-- The bytes of a text, as cells. -/
def bytesP (l : List UInt8) : List PV := l.map fun b => .int .u8 (b.toNat : Int)
theorem bytesP_vals {w : World} {R : Nat → Prop} : ∀ {l : List UInt8} {us : List Value}, RelPL w R (bytesP l) us → us = l.map fun b => Value.int .u8 (b.toNat : Int)
  | [], us, h => by simpa [bytesP, RelPL] using h
  | b :: l, us, h => by
    simp only [bytesP, List.map_cons, RelPL] at h
    obtain ⟨u, vs, rfl, h1, h2⟩ := h
    simp only [RelP] at h1
    rw [h1, bytesP_vals (l := l) h2]
    rfl
section
variable {C : Ctx} {n : Nat} {σ : St} {dst : Option Tmp} {ty t t' : TypeId} {pos : String} {after : Array Edge} {gd : Option (Nat × Bool)} {x y : Operand}
/-- string(b) -/
theorem xj_toS {src d e : TypeId} (l : List UInt8) (hs : C.P.underlying src = some (.slice e)) (he : C.P.underlying e = some (.int .u8)) (hd : C.P.underlying d = some .string) (hx : SrcIs n σ x l.length (bytesP l)) :
    XJ C n ⟨dst, .convert src d x, ty, pos, after, gd⟩ σ ⟨.pv (.str ⟨l.toArray⟩), [], []⟩ :=
  .val fun a w m R hw => ⟨.string ⟨l.toArray⟩, by
    obtain ⟨A, c, us, hev, hr, hrow⟩ := hx.row hw
    have hus := bytesP_vals hr
    have hrun : (convert src d (.slice A l.length c)).run C.P w = .ok (.string ⟨l.toArray⟩) w := by
      by_cases hne : l = []
      · subst hne
        cases A with
        | none => exact run_convert_bytes_nil (P := C.P) w src e hs he 0 c d hd
        | some a => exact run_convert_bytes_back (P := C.P) w src d e a c [] hs he hd (fun j hj => by simp at hj)
      · obtain ⟨b, off, rfl, _, _, hc⟩ := hrow (by rw [hus]; simpa using hne)
        refine run_convert_bytes_back (P := C.P) w src d e _ c l hs he hd (fun j hj => ?_)
        have := hc j (by rw [hus]; simpa using hj)
        rw [hus] at this
        have e : (⟨b, off, none⟩ : Addr).add j = ⟨b, off + j, none⟩ := by
          unfold Addr.add
          split
          · subst_vars; simp
          · rfl
        rw [e, this]
        simp [hj]
    simp only [execOp, hev, Sem.run_bind, hrun, Result.andThen_ok]
    rfl, by simp only [Rel, RelP]⟩
/-- []byte(s) -/
theorem xj_toB {src d e : TypeId} {s : ByteArray} {u : TypeDesc} (hs : C.P.underlying src = some u) (hd : C.P.underlying d = some (.slice e)) (he : C.P.underlying e = some (.int .u8)) (hx : σ.ev n x = .pv (.str s)) (hl : s.size ≤ 9223372036854775807) :
    XJ C n ⟨dst, .convert src d x, ty, pos, after, gd⟩ σ ⟨.pv (.sl (some false) s.size (bytesP s.data.toList)), [], []⟩ := by
  rintro a w Q ⟨m, R, hw⟩
  have hrun : (execOp a.eval ⟨dst, .convert src d x, ty, pos, after, gd⟩).run C.P w = .ok (.value (.slice (some ⟨w.heap.size, 0, none⟩) s.size (grownCap w s.size 0 e))) (Lib.bytesWorld w e s) := by
    simp only [execOp, hw.str hx, Sem.run_bind, Lib.run_convert_string_bytes (P := C.P) w src d e s hs hd he, Result.andThen_ok]
    rfl
  unfold Oper.wp
  rw [hrun]
  have hold := Lib.bytesWorld_at_old w e s
  have hsz := Lib.bytesWorld_size w e s
  have hR : ∀ b, R b → (R b ∨ b = w.heap.size) ∧ (Lib.bytesWorld w e s).heap[b]? = w.heap[b]? := fun b hb => ⟨.inl hb, hold b (hw.hr.rsz b hb)⟩
  refine ⟨_, rfl, m, fun b => R b ∨ b = w.heap.size, ?_⟩
  rw [St.app_new]
  refine SW.put (hw.world (ob' := obL [] σ.ob) (av' := avL [] σ.av) ⟨hw.hr.dom, hw.hr.free, ?_, hw.hr.inj, ?_, ?_, ?_, fun b hb => .inl (hw.hr.r0 b hb), ?_, hw.hr.keep, hw.hr.res⟩ hR (fun _ _ _ e => e) (fun _ e => e)) dst ?_
  · intro i o b N h1 h2
    exact (hw.hr.obj i o b N h1 h2).mono hR (fun _ _ _ e => e) (fun _ e => e) (hold b (hw.hr.own i b N h2).1)
  · intro i b N h1
    obtain ⟨h2, h3, h4⟩ := hw.hr.own i b N h1
    refine ⟨by omega, ?_, h4⟩
    rintro (h5 | h5)
    · exact h3 h5
    · omega
  · rintro b (hb | hb)
    · have := hw.hr.rsz b hb; omega
    · omega
  · rintro b (hb | hb)
    · exact hw.hr.rfr b hb
    · refine .inr (.inl ?_); have := hw.hr.frame.size; omega
  · refine ⟨hw.hr.frame.os, hw.hr.frame.tape, hw.hr.frame.output, ?_, ?_⟩
    · have := hw.hr.frame.size; omega
    · intro k hk hF
      rw [hold k (by have := hw.hr.frame.size; omega)]
      exact hw.hr.frame.block k hk hF
  · simp only [Rel, RelP]
    have hcap := grownCap_ge w s.size 0 e
    refine ⟨_, _, rfl, ?_, ?_, (fun _ e => by cases e; rfl), (fun e => by cases e), fun _ => ⟨w.heap.size, 0, s.data.toList.map (fun b => Value.int .u8 (b.toNat : Int)), rfl, ?_, .inr rfl, ?_⟩⟩
    · exact hcap
    · exact grownCap_le_maxLen w s.size 0 e (by simp only [maxLen]; omega)
    · generalize s.data.toList = l
      induction l with
      | nil => exact RelPL.nil
      | cons b l ih => exact RelPL.cons (by simp only [RelP]) ih
    · intro j hj
      have hj' : j < s.size := by simpa using hj
      rw [Nat.zero_add, Lib.bytesWorld_cell w e s j hj']
      simp [List.getD, hj']
/-- A slice literal that is never written: a plain value. -/
theorem xj_buildSliceP {T e : TypeId} {z : Value} {size bytes k : Nat} {zs : List PV} {parts : Array (Nat × Operand)} {cs : List PV} (nf : Option Bool) (hnf : nf ≠ some true) (he : ElemIs C.P T e z size bytes) (hzs : z.cells.toList.map leafC = zs) (hk : 0 < k) (hk2 : k * size ≤ 16777216) 
    {vs : List V} (hf : fillV (fun i => some (i * size, size)) σ.ob ((mkZ zs (k * size)).map .pv) (parts.toList.map fun p => (p.1, σ.ev n p.2)) = some vs) (hvs : V.pvs vs = some cs) :
    XJ C n ⟨dst, .buildSlice T k parts, ty, pos, after, gd⟩ σ ⟨.pv (.sl nf k cs), [], []⟩ := by
  rintro a w Q ⟨m, R, hw⟩
  obtain rfl := V.pvs_eq hvs
  obtain ⟨i, hi, hz, hsize, hbytes⟩ := info_parts he.info
  have hzl : zs.length = z.cells.size := by rw [← hzs]; simp
  have gen : ∀ l : List Nat, RelPL w R (l.map fun i => zs.getD (i % zs.length) .any) (l.map fun i => z.cells[i % z.cells.size]!) := by
    intro l
    induction l with
    | nil => simpa using RelPL.nil
    | cons j l ih =>
      simp only [List.map_cons]
      refine RelPL.cons ?_ ih
      have hpos : 0 < z.cells.size := by rw [he.zs]; exact he.pos
      have hlt : j % z.cells.size < z.cells.size := Nat.mod_lt _ hpos
      rw [hzl, ← hzs]
      have e1 : (z.cells.toList.map leafC).getD (j % z.cells.size) .any = leafC (z.cells[j % z.cells.size]!) := by
        simp [List.getD_eq_getElem?_getD, hlt]
      rw [e1]
      exact leafC_rel w R _
  have h0 : RelPL w R (mkZ zs (k * size)) ((Array.range (k * size)).map (z.cells[· % z.cells.size]!)).toList := by
    have := gen (List.range (k * size))
    simpa [mkZ] using this
  obtain ⟨arr', hfill, hr'⟩ := hw.fill (fun i => some (i * size, size)) parts.toList _ _ _ (RelL.ofP h0) hf
  have hr2 := hr'.toP
  have hparts : (parts.map fun x => (x.1, a.eval x.2)).toList = parts.toList.map fun p => (p.1, a.eval p.2) := by simp
  have hpos : 0 < k * size := Nat.mul_pos hk he.pos
  have hrun := run_buildSlice (P := C.P) w T e k (parts.map fun x => (x.1, a.eval x.2)) arr' i z he.u hi hz (by rw [hsize]; omega) (by rw [hsize]; omega) (by rw [hparts, hsize]; exact hfill)
  have hcl : cs.length = k * size := by
    have : ∀ (l : List (Nat × V)) (cells cs' : List V), fillV (fun i => some (i * size, size)) σ.ob cells l = some cs' → cs'.length = cells.length := by
      intro l
      induction l with
      | nil => intro cells cs' h; simp only [fillV, Option.some.injEq] at h; rw [h]
      | cons p l ih =>
        obtain ⟨q, v⟩ := p
        intro cells cs' h
        simp only [fillV] at h
        rw [Bool.cond_eq_ite] at h
        split at h
        · rename_i hc
          simp only [Bool.and_eq_true] at hc
          rw [ih _ _ h, setL_length]
          have h1 := Nat.eq_of_beq_eq_true hc.1.1.1
          have h2 := Nat.le_of_ble_eq_true hc.1.1.2
          omega
        · cases h
    have := this _ _ _ hf
    simpa [mkZ] using this
  have hrun' : (execOp a.eval ⟨dst, .buildSlice T k parts, ty, pos, after, gd⟩).run C.P w = .ok (.value (.slice (some ⟨w.heap.size, 0, none⟩) k k)) (w.alloc (.cells arr' e)) := by
    simp only [execOp, Sem.run_bind, hrun, Result.andThen_ok, Sem.run_pure]
  unfold Oper.wp
  rw [hrun']
  have hsz : arr'.size = k * size := by have := hr2.length; simp at this; omega
  have hold : ∀ q, q < w.heap.size → (w.alloc (.cells arr' e)).heap[q]? = w.heap[q]? := fun q hq => Below.heap_alloc w _ q hq
  have hsize' : (w.alloc (.cells arr' e)).heap.size = w.heap.size + 1 := by simp
  have hR : ∀ b, R b → (R b ∨ b = w.heap.size) ∧ (w.alloc (.cells arr' e)).heap[b]? = w.heap[b]? := fun b hb => ⟨.inl hb, hold b (hw.hr.rsz b hb)⟩
  refine ⟨_, rfl, m, fun b => R b ∨ b = w.heap.size, ?_⟩
  rw [St.app_new]
  refine SW.put (hw.world (ob' := obL [] σ.ob) (av' := avL [] σ.av) ⟨hw.hr.dom, hw.hr.free, ?_, hw.hr.inj, ?_, ?_, ?_, fun b hb => .inl (hw.hr.r0 b hb), ?_, hw.hr.keep, hw.hr.res⟩ hR (fun _ _ _ e => e) (fun _ e => e)) dst ?_
  · intro i o b N h1 h2
    exact (hw.hr.obj i o b N h1 h2).mono hR (fun _ _ _ e => e) (fun _ e => e) (hold b (hw.hr.own i b N h2).1)
  · intro i b N h1
    obtain ⟨h2, h3, h4⟩ := hw.hr.own i b N h1
    refine ⟨by omega, ?_, h4⟩
    rintro (h5 | h5)
    · exact h3 h5
    · omega
  · rintro b (hb | hb)
    · have := hw.hr.rsz b hb; omega
    · omega
  · rintro b (hb | hb)
    · exact hw.hr.rfr b hb
    · refine .inr (.inl ?_); have := hw.hr.frame.size; omega
  · refine ⟨hw.hr.frame.os, hw.hr.frame.tape, hw.hr.frame.output, ?_, ?_⟩
    · have := hw.hr.frame.size; omega
    · intro k hk hF
      rw [hold k (by have := hw.hr.frame.size; omega)]
      exact hw.hr.frame.block k hk hF
  · simp only [Rel, RelP]
    have hkk : k ≤ k * size := Nat.le_mul_of_pos_right k he.pos
    refine ⟨_, _, rfl, Nat.le_refl _, by simp only [maxLen]; omega, ?_, fun e => absurd e hnf, fun _ => ⟨w.heap.size, 0, arr'.toList, rfl, hr2.mono hR, .inr rfl, ?_⟩⟩
    · intro b hb
      cases b with
      | true => exact absurd hb hnf
      | false => rfl
    · intro j hj
      rw [Nat.zero_add, cell_of_row _ w.heap.size j arr' e (0, 0) (heap_alloc_new w _)]
      simp
end
end Go.Proofs.YtopjkdddicgajaaGreatDoor
namespace Go.Proofs.YtopjkdddicgajaaGreatDoor
open Go.RowKit
mutual
/-- Pointers to the place id are plain from now on. -/
def V.ppV (id : Nat) (cs : List PV) : V → V
  | .ptr i o => bif Nat.beq i id then .pv (.rp cs o) else .ptr i o
  | .agg vs => .agg (V.ppL id cs vs)
  | .tup vs => .tup (V.ppL id cs vs)
  | .fn f a b => .fn f (V.ppL id cs a) (V.ppL id cs b)
  | .pv p => .pv p
  | .osl i sz k => bif Nat.beq i id then .pv .any else .osl i sz k
  | .gsl i sz k => bif Nat.beq i id then .pv .any else .gsl i sz k
  | .map i => .map i
def V.ppL (id : Nat) (cs : List PV) : List V → List V
  | [] => []
  | v :: vs => V.ppV id cs v :: V.ppL id cs vs
end
section
variable {w : World} {m m' : Gm} {av : Av} {R R' : Nat → Prop}
mutual
theorem Rel.ppV {id : Nat} {cs : List PV} (hR : ∀ b, R b → R' b ∧ w.heap[b]? = w.heap[b]?) (hm : ∀ i x, m' i = some x → m i = some x)
    (h1 : ∀ o u, Rel w m av R (.ptr id o) u → RelP w R' (.rp cs o) u) :
    ∀ (v : V) (u : Value), Rel w m av R v u → Rel w m' av R' (V.ppV id cs v) u
  | .ptr i o, u, h => by
    simp only [V.ppV]
    cases hb : Nat.beq i id with
    | true => have := Nat.eq_of_beq_eq_true hb; subst this; simp only [cond_true, Rel]; exact h1 o u h
    | false => simp only [cond_false]; exact h.mono hR (fun i x _ e => hm i x e) (fun _ e => e)
  | .agg vs, u, h => by
    simp only [Rel, V.ppV] at h ⊢
    obtain ⟨us, e, h⟩ := h
    exact ⟨us, e, RelL.ppL hR hm h1 vs us h⟩
  | .tup vs, u, h => by
    simp only [Rel, V.ppV] at h ⊢
    obtain ⟨us, e, h⟩ := h
    exact ⟨us, e, RelL.ppL hR hm h1 vs us h⟩
  | .fn f a b, u, h => by
    simp only [Rel, V.ppV] at h ⊢
    obtain ⟨us, vs, e, ha, hb⟩ := h
    exact ⟨us, vs, e, RelL.ppL hR hm h1 a us ha, RelL.ppL hR hm h1 b vs hb⟩
  | .pv p, u, h => by simp only [V.ppV]; exact h.mono hR (fun i x _ e => hm i x e) (fun _ e => e)
  | .osl i sz k, u, h => by
    simp only [V.ppV]
    cases hb : Nat.beq i id with
    | true => simp only [cond_true, Rel, RelP]
    | false => simp only [cond_false]; exact h.mono hR (fun i x _ e => hm i x e) (fun _ e => e)
  | .gsl i sz k, u, h => by
    simp only [V.ppV]
    cases hb : Nat.beq i id with
    | true => simp only [cond_true, Rel, RelP]
    | false => simp only [cond_false]; exact h.mono hR (fun i x _ e => hm i x e) (fun _ e => e)
  | .map i, u, h => by simp only [V.ppV]; exact h.mono hR (fun i x _ e => hm i x e) (fun _ e => e)
theorem RelL.ppL {id : Nat} {cs : List PV} (hR : ∀ b, R b → R' b ∧ w.heap[b]? = w.heap[b]?) (hm : ∀ i x, m' i = some x → m i = some x)
    (h1 : ∀ o u, Rel w m av R (.ptr id o) u → RelP w R' (.rp cs o) u) :
    ∀ (vs : List V) (us : List Value), RelL w m av R vs us → RelL w m' av R' (V.ppL id cs vs) us
  | [], _, h => by simpa only [RelL, V.ppL] using h
  | c :: vs, _, h => by
    simp only [RelL, V.ppL] at h ⊢
    obtain ⟨u, us, e, ha, hb⟩ := h
    exact ⟨u, us, e, Rel.ppV hR hm h1 c u ha, RelL.ppL hR hm h1 vs us hb⟩
end
end
/-- A growing slice that is not empty is a slice of the call's own. -/
def St.own (σ : St) (t id sz n : Nat) (T : TypeId) (cs : List PV) : St := ⟨upd σ.sl t (.osl id sz n), obL [(id, some (.cells T cs))] σ.ob, σ.av⟩
theorem St.le_own {σ : St} {id sz n : Nat} {T : TypeId} {cs : List PV} (t : Nat) (ht : σ.sl t = .gsl id sz n) (ho : σ.ob id = some (.gro T cs)) (hn : 0 < n) (hc : cs ≠ []) : σ.le (σ.own t id sz n T cs) := by
  rintro C nn a w ⟨m, R, hw⟩
  have hs : ∀ i, i ≠ id → obL [(id, some (Ob.cells T cs))] σ.ob i = σ.ob i := fun i hi => obL_get _ _ _ (by simpa using hi)
  have hi : obL [(id, some (Ob.cells T cs))] σ.ob id = some (.cells T cs) := by simp [obL]
  refine ⟨m, R, ⟨?_, ?_, ?_, hw.hr.inj, hw.hr.own, hw.hr.rsz, hw.hr.rfr, hw.hr.r0, hw.hr.frame, hw.hr.keep, hw.hr.res⟩, hw.df, hw.sz, ?_⟩
  · intro i
    by_cases e : i = id
    · subst e; rw [hw.hr.dom, ho]; show _ = liveO (obL _ _ _); rw [hi]; exact gro_real hc
    · show _ = liveO (obL _ _ _); rw [hs i e]; exact hw.hr.dom i
  · intro i h
    by_cases e : i = id
    · subst e; have := hw.hr.free i h; rw [ho] at this; cases this
    · show obL _ _ _ = none; rw [hs i e]; exact hw.hr.free i h
  · intro i o b N h1 h2
    by_cases e : i = id
    · subst e
      have h1' : obL [(i, some (Ob.cells T cs))] σ.ob i = some o := h1
      rw [hi] at h1'
      cases h1'
      have q := hw.hr.obj i _ b N ho h2
      exact q
    · have h1' : obL [(id, some (Ob.cells T cs))] σ.ob i = some o := h1
      rw [hs i e] at h1'
      exact hw.hr.obj i o b N h1' h2
  · intro q hq
    show Rel w m σ.av R (upd σ.sl t (.osl id sz n) q) _
    by_cases e : q = t
    · subst e
      rw [upd_same]
      have := hw.sl q hq
      rw [ht] at this
      simp only [Rel] at this ⊢
      obtain ⟨h0, A, c, he, h1, h2, h3, h4⟩ := this
      refine ⟨h0, fun b N hm => ⟨c, ?_, h1, h2, (h4 hn b N hm).2⟩⟩
      rw [he, (h4 hn b N hm).1]
    · rw [upd_ne _ _ e]; exact hw.sl q hq
/-- Places that were handed over may get small names, if their own names are given up. -/
theorem St.le_mkB {σ : St} {l : List (Nat × V)} {os : List (Nat × Ob)} (ids : List Nat) (hl : allSlR σ (renS ids) l) (ho : allObR σ (renS ids) os) (h1 : l.all (fun p => p.2.okA ids.length) = true) (h2 : os.all (fun p => (Nat.blt p.1 ids.length || Nat.ble big p.1) && p.2.okA ids.length) = true)
    (hnd : ids.Nodup) (hbg : ids.all (fun i => Nat.blt i big || !(lookO os i).isSome) = true) : σ.le (mkS l os ids.length) := by
  rintro C n a w ⟨m, R, hw⟩
  have key : ∀ i o, lookO os i = some o → σ.ob (renS ids i) = some (o.ren (renS ids)) ∧ (Nat.blt i ids.length || Nat.ble big i) = true ∧ o.okA ids.length = true := by
    intro i o h
    have hm := lookO_mem h
    have := List.all_eq_true.1 h2 _ hm
    simp only [Bool.and_eq_true] at this
    exact ⟨allObR_mem ho i o hm, this.1, this.2⟩
  let m2 : Gm := fun i => if (lookO os i).isSome then m (renS ids i) else none
  have sub : ∀ i x, m2 i = some x → m (renS ids i) = some x ∧ (Nat.blt i ids.length || Nat.ble big i) = true := fun i x h => by
    simp only [m2] at h
    split at h
    · rename_i hs
      obtain ⟨o, hoo⟩ := Option.isSome_iff_exists.1 hs
      exact ⟨h, (key i o hoo).2.1⟩
    · cases h
  have subI : ∀ i x, m2 i = some x → (lookO os i).isSome = true := fun i x h => by
    simp only [m2] at h
    split at h
    · rename_i hs; exact hs
    · cases h
  have ρinj : ∀ i j, (Nat.blt i ids.length || Nat.ble big i) = true → (Nat.blt j ids.length || Nat.ble big j) = true → (lookO os i).isSome = true → (lookO os j).isSome = true → renS ids i = renS ids j → i = j := by
    intro i j hi hj hli hlj e
    have small : ∀ q, Nat.blt q ids.length = true → Nat.ble big q = false → ∃ h : q < ids.length, renS ids q = ids[q] ∧ (ids[q] < big ∨ (lookO os ids[q]).isSome = false) := by
      intro q hq hb
      have h : q < ids.length := by simpa [Nat.blt_eq] using hq
      refine ⟨h, by simp [renS, hb, List.getD_eq_getElem?_getD, h], ?_⟩
      have := List.all_eq_true.1 hbg ids[q] (List.getElem_mem h)
      simpa [Nat.blt_eq] using this
    have large : ∀ q, Nat.ble big q = true → renS ids q = q := fun q hq => by simp [renS, hq]
    cases hbi : Nat.ble big i with
    | true =>
      cases hbj : Nat.ble big j with
      | true => rw [large i hbi, large j hbj] at e; exact e
      | false =>
        rw [hbj, Bool.or_false] at hj
        obtain ⟨h, e2, h3⟩ := small j hj hbj
        rw [large i hbi, e2] at e
        have := Nat.le_of_ble_eq_true hbi
        rcases h3 with h3 | h3
        · omega
        · rw [← e, hli] at h3; cases h3
    | false =>
      rw [hbi, Bool.or_false] at hi
      obtain ⟨h, e1, h3⟩ := small i hi hbi
      cases hbj : Nat.ble big j with
      | true =>
        rw [large j hbj, e1] at e
        have := Nat.le_of_ble_eq_true hbj
        rcases h3 with h3 | h3
        · omega
        · rw [e, hlj] at h3; cases h3
      | false =>
        rw [hbj, Bool.or_false] at hj
        obtain ⟨h', e2, h4⟩ := small j hj hbj
        rw [e1, e2] at e
        exact (List.getElem_inj hnd).1 e
  have um : ∀ i x, (Nat.blt i ids.length || Nat.ble big i) = true → m2 i = some x → m (renS ids i) = some x := fun i x _ h => (sub i x h).1
  have ua : ∀ i, (Nat.blt i ids.length || Nat.ble big i) = true → avK ids.length i = false := fun i h => ble_of h
  refine ⟨m2, R, ⟨?_, ?_, ?_, ?_, ?_, hw.hr.rsz, hw.hr.rfr, hw.hr.r0, hw.hr.frame, ?_, fun i hi => avK_big hi⟩, hw.df, hw.sz, ?_⟩
  · intro i
    show (m2 i).isSome = liveO (lookO os i)
    simp only [m2]
    cases e : lookO os i with
    | none => rfl
    | some o =>
      have := hw.hr.dom (renS ids i)
      rw [(key i o e).1] at this
      simpa [liveO, Ob.real_ren] using this
  · intro i hi
    show lookO os i = none
    cases e : lookO os i with
    | none => rfl
    | some o =>
      have h3 := ble_of (key i o e).2.1
      have hi' : avK ids.length i = true := hi
      rw [hi'] at h3
      cases h3
  · intro i o b N h3 h4
    have h5 := key i o h3
    exact (hw.hr.obj _ _ b N h5.1 (sub _ _ h4).1).unren (renS ids) _ um ua (Ob.okA_all _ h5.2.2)
  · intro i j b N N' e1 e2
    exact ρinj i j (sub _ _ e1).2 (sub _ _ e2).2 (subI _ _ e1) (subI _ _ e2) (hw.hr.inj _ _ b N N' (sub _ _ e1).1 (sub _ _ e2).1)
  · exact fun i b N e => hw.hr.own _ b N (sub _ _ e).1
  · intro i x hi e
    have hb : Nat.ble big i = true := Nat.ble_eq_true_of_le hi
    have e2 := (sub i x e).1
    have : renS ids i = i := by simp [renS, hb]
    rw [this] at e2
    exact hw.hr.keep i x hi e2
  · intro t ht
    show Rel w m2 (avK ids.length) R (look l t) _
    rcases look_specR hl t with e | e
    · rw [e]; simp only [Rel, RelP]
    · have h3 := hw.sl t ht
      rw [e] at h3
      exact h3.unren (renS ids) _ um ua _ _ (V.okA_all _ _ (look_ok h1 t))
/-- Some slots are not told any more. -/
def fgs (f : Nat → V) : List Nat → Nat → V
  | [] => f
  | d :: ds => fgs (upd f d (.pv .any)) ds
def St.fgP (σ : St) (ds : List Nat) (p : Nat) (v : V) : St := ⟨upd (fgs σ.sl ds) p v, σ.ob, σ.av⟩
/-- Equal but for the slots of S. -/
def fEq (S : List Nat) (f g : Nat → V) : Prop := ∀ q, S.contains q = false → f q = g q
theorem fEq.refl {S : List Nat} {f : Nat → V} : fEq S f f := fun _ _ => rfl
theorem fEq.upd {S : List Nat} {f g : Nat → V} {d : Nat} {v : V} (h : fEq S f g) (hd : S.contains d = true) : fEq S (upd f d v) g := fun q hq => by
  rw [upd_ne _ _ (fun e => by rw [e, hd] at hq; cases hq)]
  exact h q hq
theorem fgs_out : ∀ (ds : List Nat) (f : Nat → V) (q : Nat), ds.contains q = false → fgs f ds q = f q
  | [], _, _, _ => rfl
  | d :: ds, f, q, h => by
    simp only [List.contains_cons, Bool.or_eq_false_iff, beq_eq_false_iff_ne] at h
    simp only [fgs]
    rw [fgs_out ds _ q h.2, upd_ne _ _ h.1]
theorem fgs_in : ∀ (ds : List Nat) (f : Nat → V) (q : Nat), (ds.contains q = true ∨ f q = .pv .any) → fgs f ds q = .pv .any
  | [], _, _, h => by simp only [fgs]; simpa using h
  | d :: ds, f, q, h => by
    simp only [fgs]
    apply fgs_in ds
    by_cases e : q = d
    · subst e; exact .inr (upd_same _ _ _)
    · rw [upd_ne _ _ e]
      rcases h with h | h
      · simp only [List.contains_cons, Bool.or_eq_true, beq_iff_eq] at h
        exact .inl (h.resolve_left e)
      · exact .inr h
theorem St.le_fg {σ s : St} {ds : List Nat} {p : Nat} {v : V} (h : fEq (p :: ds) s.sl σ.sl) (hp : s.sl p = v) (ho : s.ob = σ.ob) (ha : s.av = σ.av) : s.le (σ.fgP ds p v) := by
  rintro C n a w ⟨m, R, hw⟩
  refine ⟨m, R, ⟨?_, hw.df, hw.sz, ?_⟩⟩
  · show HR C m R σ.ob σ.av w
    rw [← ho, ← ha]; exact hw.hr
  · intro t ht
    show Rel w m σ.av R (upd (fgs σ.sl ds) p v t) _
    rw [← ha]
    by_cases e : t = p
    · subst e; rw [upd_same, ← hp]; exact hw.sl t ht
    · rw [upd_ne _ _ e]
      cases hd : ds.contains t with
      | true => rw [fgs_in ds _ t (.inl hd)]; simp only [Rel, RelP]
      | false =>
        rw [fgs_out ds _ t hd, ← h t (by simp only [List.contains_cons, hd, Bool.or_false, beq_eq_false_iff_ne]; exact e)]
        exact hw.sl t ht
section
variable {C : Ctx} {n : Nat} {σ τ : St} {ops : Array Oper}
theorem RL.mono {K K' : St → Prop} : ∀ {os : List Oper} {σ : St}, RL C n ops os K σ → (∀ s, K s → K' s) → RL C n ops os K' σ
  | [], _, h, hk => hk _ h
  | o :: os, σ, h, hk => by
    simp only [RL] at h ⊢
    cases hg : o.guard with
    | none => rw [hg] at h; exact OJ.mono h fun s hs => RL.mono hs hk
    | some jw =>
      obtain ⟨j, want⟩ := jw
      rw [hg] at h
      obtain ⟨b, h1, h2, h3⟩ := h
      exact ⟨b, h1, fun e => OJ.mono (h2 e) fun s hs => RL.mono hs hk, fun e a w hs => (h3 e a w hs).imp fun s ⟨q, r⟩ => ⟨RL.mono q hk, r⟩⟩
theorem RL.append {K : St → Prop} : ∀ {os os' : List Oper} {σ : St}, RL C n ops os (RL C n ops os' K) σ → RL C n ops (os ++ os') K σ
  | [], _, _, h => h
  | o :: os, os', σ, h => by
    simp only [RL, List.cons_append] at h ⊢
    cases hg : o.guard with
    | none => rw [hg] at h; exact OJ.mono h fun s hs => RL.append hs
    | some jw =>
      obtain ⟨j, want⟩ := jw
      rw [hg] at h
      obtain ⟨b, h1, h2, h3⟩ := h
      exact ⟨b, h1, fun e => OJ.mono (h2 e) fun s hs => RL.append hs, fun e a w hs => (h3 e a w hs).imp fun s ⟨q, r⟩ => ⟨RL.append q, r⟩⟩
theorem OJ.weaken {o : Oper} {K : St → Prop} (hl : σ.le τ) (h : OJ C n o K τ) : OJ C n o K σ := fun a w Q hs => h a w Q (hl C n a w hs)
/-- What may begin in a state may begin in one that says more. -/
def MonoK (K : St → Prop) : Prop := ∀ s t, s.le t → K t → K s
theorem RL.weaken {K : St → Prop} (hK : MonoK K) : ∀ {os : List Oper}, σ.le τ → RL C n ops os K τ → RL C n ops os K σ
  | [], hl, h => hK _ _ hl h
  | o :: os, hl, h => by
    simp only [RL] at h ⊢
    cases hg : o.guard with
    | none => rw [hg] at h; exact OJ.weaken hl h
    | some jw =>
      obtain ⟨j, want⟩ := jw
      rw [hg] at h
      obtain ⟨b, h1, h2, h3⟩ := h
      exact ⟨b, fun a w hs => h1 a w (hl C n a w hs), fun e => OJ.weaken hl (h2 e), fun e a w hs => h3 e a w (hl C n a w hs)⟩
theorem MonoK.le {τ : St} : MonoK (fun s => s.le τ) := fun _ _ h k => h.trans k
theorem MonoK.aw {c : Code} {Q : Exit → St → Prop} : MonoK (fun s => AW C n c Q s) := fun _ _ h k => AW.weaken h k
theorem MonoK.back {X : Type} {st : X → St} {p : X → Prop} : MonoK (fun s => ∃ x', s.le (st x') ∧ p x') := fun _ _ h ⟨x, a, b⟩ => ⟨x, h.trans a, b⟩
theorem upd_eta {f : Nat → V} {t : Nat} {v : V} (h : f t = v) : upd f t v = f := by
  funext q
  by_cases hq : q = t
  · subst hq; rw [upd_same, h]
  · rw [upd_ne _ _ hq]
/-- A group of guarded operations and the choice behind it: both ways come together. -/
theorem RL.ifB {os : List Oper} {K : St → Prop} {b : Bool} (v : Bool → V) (k t p : Nat) (ds : List Nat) (ht : σ.ev n (.tmp t) = .pv (.bool b)) (hK : MonoK K)
    (h1 : b = true → RL C n ops (os.take k) (fun s => s.le (σ.fgP (t :: ds) p (v true))) ⟨upd σ.sl t (.pv (.bool true)), σ.ob, σ.av⟩)
    (h2 : b = false → RL C n ops (os.take k) (fun s => s.le (σ.fgP (t :: ds) p (v false))) ⟨upd σ.sl t (.pv (.bool false)), σ.ob, σ.av⟩)
    (h : RL C n ops (os.drop k) K (σ.fgP (t :: ds) p (v b))) : RL C n ops os K σ := by
  have e : σ.sl t = .pv (.bool b) := by
    simp only [St.ev] at ht
    cases hb : Nat.blt t n with
    | true => rw [hb] at ht; simpa using ht
    | false => rw [hb] at ht; simp at ht
  have key : (⟨upd σ.sl t (.pv (.bool b)), σ.ob, σ.av⟩ : St) = σ := by rw [upd_eta e]
  have e2 : os = os.take k ++ os.drop k := (List.take_append_drop k os).symm
  rw [e2]
  apply RL.append
  cases b with
  | true =>
    have := h1 rfl
    rw [key] at this
    exact RL.mono this fun s hs => RL.weaken hK hs h
  | false =>
    have := h2 rfl
    rw [key] at this
    exact RL.mono this fun s hs => RL.weaken hK hs h
theorem RL.andB {os : List Oper} {K : St → Prop} {b e : Bool} (k t p : Nat) (ds : List Nat) (ht : σ.ev n (.tmp t) = .pv (.bool b)) (hK : MonoK K)
    (h1 : b = true → RL C n ops (os.take k) (fun s => s.le (σ.fgP (t :: ds) p (.pv (.bool e)))) ⟨upd σ.sl t (.pv (.bool true)), σ.ob, σ.av⟩)
    (h2 : b = false → RL C n ops (os.take k) (fun s => s.le (σ.fgP (t :: ds) p (.pv (.bool false)))) ⟨upd σ.sl t (.pv (.bool false)), σ.ob, σ.av⟩)
    (h : RL C n ops (os.drop k) K (σ.fgP (t :: ds) p (.pv (.bool (b && e))))) : RL C n ops os K σ :=
  RL.ifB (fun b => .pv (.bool (b && e))) k t p ds ht hK h1 h2 h
theorem RL.orB {os : List Oper} {K : St → Prop} {b e : Bool} (k t p : Nat) (ds : List Nat) (ht : σ.ev n (.tmp t) = .pv (.bool b)) (hK : MonoK K)
    (h1 : b = true → RL C n ops (os.take k) (fun s => s.le (σ.fgP (t :: ds) p (.pv (.bool true)))) ⟨upd σ.sl t (.pv (.bool true)), σ.ob, σ.av⟩)
    (h2 : b = false → RL C n ops (os.take k) (fun s => s.le (σ.fgP (t :: ds) p (.pv (.bool e)))) ⟨upd σ.sl t (.pv (.bool false)), σ.ob, σ.av⟩)
    (h : RL C n ops (os.drop k) K (σ.fgP (t :: ds) p (.pv (.bool (b || e))))) : RL C n ops os K σ :=
  RL.ifB (fun b => .pv (.bool (b || e))) k t p ds ht hK h1 h2 h
end
end Go.Proofs.YtopjkdddicgajaaGreatDoor
namespace Go.Proofs.YtopjkdddicgajaaGreatDoor
open Go.RowKit
/-- A value, or several, of which is not told whether they are nil. -/
def PV.fg2 : PV → PV
  | .tup cs => .tup (PV.fgA cs)
  | p => p.fg
theorem RelP.fg2 {w : World} {R : Nat → Prop} {p : PV} {u : Value} (h : RelP w R p u) : RelP w R p.fg2 u := by
  cases p with
  | tup cs =>
    simp only [RelP, PV.fg2] at h ⊢
    obtain ⟨us, e, h⟩ := h
    exact ⟨us, e, h.fgA⟩
  | _ => exact h.fg
theorem FnP.fg2 {P : Program} {f : FuncId} {args : List PV} {Q : PV → Prop} (h : FnP P f args (fun v => Q v.fg2)) : FnP P f args Q :=
  fun w R us h0 h1 h2 => (h w R us h0 h1 h2).mono fun _ _ ⟨u, v, e, q, b, r⟩ => ⟨u, v.fg2, e, q, b, r.fg2⟩
end Go.Proofs.YtopjkdddicgajaaGreatDoor
namespace Go.Proofs.YtopjkdddicgajaaGreatDoor
open Go.RowKit
section
variable {C : Ctx} {n : Nat} {σ : St} {dst : Option Tmp} {ty : TypeId} {pos : String} {after : Array Edge} {gd : Option (Nat × Bool)} {x : Operand}
/-- What an operation leaves may be told by less. -/
theorem XJ.weakV {o : Oper} {v v' : V} {wr : List (Nat × Option Ob)} {nw : List Nat} (h : XJ C n o σ ⟨v, wr, nw⟩) (hv : ∀ w m av R u, Rel w m av R v u → Rel w m av R v' u) : XJ C n o σ ⟨v', wr, nw⟩ := by
  intro a w Q hs
  refine Oper.wp_mono ?_ (h a w Q hs)
  rintro a' w' ⟨σ', rfl, m, R, hsw⟩
  refine ⟨_, rfl, m, R, ?_⟩
  refine ⟨hsw.hr, hsw.df, hsw.sz, fun t ht => ?_⟩
  have hr := hsw.sl t ht
  cases hd : o.dst with
  | none => simpa only [St.app, hd] using hr
  | some d =>
    simp only [St.app, hd] at hr ⊢
    by_cases e : t = d
    · subst e; rw [upd_same] at hr ⊢; exact hv _ _ _ _ _ hr
    · rw [upd_ne _ _ e] at hr ⊢; exact hr
/-- A struct or an array that has no place of the call's own is plain. -/
theorem Rel.plain {w : World} {m : Gm} {av : Av} {R : Nat → Prop} {ps : List PV} {u : Value} (h : Rel w m av R (.agg (ps.map .pv)) u) : Rel w m av R (.pv (.agg ps)) u := by
  simp only [Rel, RelP] at h ⊢
  obtain ⟨us, e, h⟩ := h
  exact ⟨us, e, h.toP⟩
variable {y : Operand}
end
end Go.Proofs.YtopjkdddicgajaaGreatDoor
namespace Go.Proofs.YtopjkdddicgajaaGreatDoor
open Go.RowKit
/-- What the text knows of a type. -/
inductive TK where
  | int (k : IntKind)
  | bool
  | str
  | sl (e : TypeId)
  | st (pl : List (Nat × Nat))
  | arr (len : Nat) (e : TypeId)
  | other
structure TI where
  k : TK
  size : Nat
  bytes : Nat
  zero : Option (List PV)
inductive TT where
  | nil
  | node (t : Nat) (i : TI) (l r : TT)
def TT.get : TT → Nat → Option TI
  | .nil, _ => none
  | .node t i l r, x => bif Nat.beq x t then some i else bif Nat.blt x t then l.get x else r.get x
def TT.all (f : Nat → TI → Bool) : TT → Bool
  | .nil => true
  | .node t i l r => f t i && (l.all f && r.all f)
theorem TT.all_get {f : Nat → TI → Bool} : ∀ {tt : TT}, tt.all f = true → ∀ {x : Nat} {i : TI}, tt.get x = some i → f x i = true
  | .nil, _, x, i, h => by simp [TT.get] at h
  | .node t j l r, ha, x, i, h => by
    simp only [TT.all, Bool.and_eq_true] at ha
    simp only [TT.get] at h
    cases hb : Nat.beq x t with
    | true =>
      rw [hb] at h
      simp at h
      have := Nat.eq_of_beq_eq_true hb
      subst this h
      exact ha.1
    | false =>
      rw [hb] at h
      cases hc : Nat.blt x t with
      | true => rw [hc] at h; exact all_get ha.2.1 (by simpa using h)
      | false => rw [hc] at h; exact all_get ha.2.2 (by simpa using h)
def kEq : IntKind → IntKind → Bool
  | .i8, .i8 | .i16, .i16 | .i32, .i32 | .i64, .i64 | .u8, .u8 | .u16, .u16 | .u32, .u32 | .u64, .u64 => true
  | _, _ => false
theorem kEq_eq {a b : IntKind} (h : kEq a b = true) : a = b := by cases a <;> cases b <;> first | rfl | (simp [kEq] at h)
def TK.row : TK → Bool
  | .st _ | .arr _ _ => true
  | _ => false
def zpB : PV → PV → Bool
  | .int k i, .int k' j => kEq k k' && decide (i = j)
  | .bool a, .bool b => a == b
  | .str a, .str b => Nat.beq a.size 0 && Nat.beq b.size 0
  | .sl (some true) 0 [], .sl (some true) 0 [] => true
  | .nilptr, .nilptr => true
  | .nilmap, .nilmap => true
  | .nilfn, .nilfn => true
  | .niliface, .niliface => true
  | _, _ => false
theorem size0 {a b : ByteArray} (h1 : a.size = 0) (h2 : b.size = 0) : a = b := by
  have e1 := ByteArray.size_eq_zero_iff.1 h1
  have e2 := ByteArray.size_eq_zero_iff.1 h2
  rw [e1, e2]
theorem zpB_eq {a b : PV} (h : zpB a b = true) : a = b := by
  unfold zpB at h
  split at h <;> first | rfl | (cases h; done) | skip
  · simp only [Bool.and_eq_true, decide_eq_true_eq] at h; rw [kEq_eq h.1, h.2]
  · rw [beq_iff_eq.1 h]
  · simp only [Bool.and_eq_true] at h
    rw [size0 (Nat.eq_of_beq_eq_true h.1) (Nat.eq_of_beq_eq_true h.2)]
def zlB : List PV → List PV → Bool
  | [], [] => true
  | a :: l, b :: m => zpB a b && zlB l m
  | _, _ => false
theorem zlB_eq : ∀ {l m : List PV}, zlB l m = true → l = m
  | [], [], _ => rfl
  | a :: l, b :: m, h => by
    simp only [zlB, Bool.and_eq_true] at h
    rw [zpB_eq h.1, zlB_eq h.2]
  | [], _ :: _, h => by simp [zlB] at h
  | _ :: _, [], h => by simp [zlB] at h
def plB : List (Nat × Nat) → List (Nat × Nat) → Bool
  | [], [] => true
  | (a, b) :: l, (c, d) :: m => Nat.beq a c && Nat.beq b d && plB l m
  | _, _ => false
theorem plB_eq : ∀ {l m : List (Nat × Nat)}, plB l m = true → l = m
  | [], [], _ => rfl
  | (a, b) :: l, (c, d) :: m, h => by
    simp only [plB, Bool.and_eq_true] at h
    rw [Nat.eq_of_beq_eq_true h.1.1, Nat.eq_of_beq_eq_true h.1.2, plB_eq h.2]
  | [], _ :: _, h => by simp [plB] at h
  | _ :: _, [], h => by simp [plB] at h
def kindB (P : Program) (t : TypeId) : TK → TypeDesc → Bool
  | .int k, .int k' => kEq k k'
  | .bool, .bool => true
  | .str, .string => true
  | .sl e, .slice e' => Nat.beq e e'
  | .st pl, .struct _ => (match placesOf P t with | some pl' => plB pl pl' | none => false)
  | .arr m e, .array m' e' => Nat.beq m m' && Nat.beq e e'
  | .other, d => !d.isRow
  | _, _ => false
def zeroB : Option (List PV) → Option Value → Bool
  | none, _ => true
  | some zs, some z => zlB (z.cells.toList.map leafC) zs
  | some _, none => false
def goodB (P : Program) (t : TypeId) (i : TI) : Bool :=
  match P.info? t, P.underlying t with
  | some inf, some d => Nat.beq inf.size i.size && (Nat.beq inf.bytes i.bytes && (zeroB i.zero inf.zero && kindB P t i.k d))
  | _, _ => false
structure TGood (P : Program) (t : TypeId) (i : TI) : Prop where
  size : szIs P t i.size
  kind : ∃ d, P.underlying t = some d ∧ kindB P t i.k d = true
  zero : ∀ zs, i.zero = some zs → ∃ z, (P.info? t).map (fun i => (i.zero, i.size, i.bytes)) = some (some z, i.size, i.bytes) ∧ z.cells.toList.map leafC = zs
theorem goodB_ok {P : Program} {t : TypeId} {i : TI} (h : goodB P t i = true) : TGood P t i := by
  unfold goodB at h
  split at h
  · rename_i inf d h1 h2
    simp only [Bool.and_eq_true] at h
    have e1 := Nat.eq_of_beq_eq_true h.1
    have e2 := Nat.eq_of_beq_eq_true h.2.1
    refine ⟨by unfold szIs; rw [h1, ← e1]; rfl, ⟨d, h2, h.2.2.2⟩, fun zs hz => ?_⟩
    have h3 := h.2.2.1
    rw [hz] at h3
    cases hq : inf.zero with
    | none => rw [hq] at h3; cases h3
    | some z => rw [hq] at h3; exact ⟨z, by rw [h1, ← e1, ← e2, ← hq]; rfl, zlB_eq h3⟩
  · cases h
structure TT.Ok (P : Program) (tt : TT) : Prop where
  go : ∀ {t i}, tt.get t = some i → TGood P t i
theorem TT.ok_of {P : Program} {tt : TT} (h : tt.all (goodB P) = true) : tt.Ok P := ⟨fun e => goodB_ok (TT.all_get h e)⟩
section
variable {P : Program} {t : TypeId} {i : TI}
theorem TGood.int (h : TGood P t i) {k : IntKind} (e : i.k = .int k) : P.underlying t = some (.int k) := by
  obtain ⟨d, h1, h2⟩ := h.kind
  rw [e] at h2
  cases d <;> simp [kindB] at h2
  rw [h1, kEq_eq h2]
theorem TGood.bool (h : TGood P t i) (e : i.k = .bool) : P.underlying t = some .bool := by
  obtain ⟨d, h1, h2⟩ := h.kind
  rw [e] at h2
  cases d <;> simp [kindB] at h2
  exact h1
theorem TGood.str (h : TGood P t i) (e : i.k = .str) : P.underlying t = some .string := by
  obtain ⟨d, h1, h2⟩ := h.kind
  rw [e] at h2
  cases d <;> simp [kindB] at h2
  exact h1
theorem TGood.sl (h : TGood P t i) {el : TypeId} (e : i.k = .sl el) : P.underlying t = some (.slice el) := by
  obtain ⟨d, h1, h2⟩ := h.kind
  rw [e] at h2
  cases d <;> simp [kindB] at h2
  rw [h1, h2]
theorem TGood.arr (h : TGood P t i) {m : Nat} {el : TypeId} (e : i.k = .arr m el) : P.underlying t = some (.array m el) := by
  obtain ⟨d, h1, h2⟩ := h.kind
  rw [e] at h2
  cases d <;> simp [kindB] at h2
  rw [h1, h2.1, h2.2]
theorem TGood.st (h : TGood P t i) {pl : List (Nat × Nat)} (e : i.k = .st pl) : placesOf P t = some pl := by
  obtain ⟨d, h1, h2⟩ := h.kind
  rw [e] at h2
  cases d <;> simp [kindB] at h2
  cases hp : placesOf P t with
  | none => rw [hp] at h2; cases h2
  | some pl' => rw [hp] at h2; rw [plB_eq h2]
theorem TGood.isRow (h : TGood P t i) (e : i.k.row = true) : isRow P t := by
  obtain ⟨d, h1, h2⟩ := h.kind
  refine ⟨d, h1, ?_⟩
  cases hk : i.k <;> rw [hk] at e h2 <;> simp [TK.row] at e <;> cases d <;> simp [kindB] at h2 <;> rfl
theorem TGood.notRow (h : TGood P t i) (e : i.k.row = false) : notRow P t := by
  obtain ⟨d, h1, h2⟩ := h.kind
  refine ⟨d, h1, ?_⟩
  cases hk : i.k <;> rw [hk] at e h2 <;> simp [TK.row] at e <;> cases d <;> simp [kindB] at h2 <;> first | rfl | exact h2
theorem TGood.fieldOff (h : TGood P t i) {pl : List (Nat × Nat)} (e : i.k = .st pl) {j o s : Nat} (hj : pl[j]? = some (o, s)) (hs : Nat.beq s 0 = false) : fieldOff P t j = some o := by
  have hp := h.st e
  unfold placesOf at hp
  unfold Go.Proofs.YtopjkdddicgajaaGreatDoor.fieldOff
  split at hp
  · rename_i fs hu
    try rw [hu]
    have key : ∀ (l : List Field) (pl : List (Nat × Nat)) (j : Nat), (l.mapM fun f => (P.info? f.type).map fun i => (f.offset, i.size)) = some pl → pl[j]? = some (o, s) → ∃ f, l[j]? = some f ∧ f.offset = o ∧ ∃ inf, P.info? f.type = some inf ∧ inf.size = s := by
      intro l
      induction l with
      | nil => intro pl j h1 h2; simp at h1; subst h1; simp at h2
      | cons f l ih =>
        intro pl j h1 h2
        simp only [List.mapM_cons, Option.bind_eq_bind, Option.bind_eq_some_iff, Option.pure_def, Option.some.injEq] at h1
        obtain ⟨a, ha, pl', hpl, rfl⟩ := h1
        cases j with
        | zero =>
          simp only [List.getElem?_cons_zero, Option.some.injEq] at h2
          subst h2
          cases hi : P.info? f.type with
          | none => rw [hi] at ha; cases ha
          | some inf => rw [hi] at ha; simp at ha; exact ⟨f, rfl, ha.1, inf, hi, ha.2⟩
        | succ j => exact (ih pl' j hpl (by simpa using h2)).imp fun f hf => by simpa using hf
    obtain ⟨f, hf, ho, inf, hi, hsz⟩ := key fs.toList pl j hp hj
    have hf' : fs[j]? = some f := by simpa using hf
    simp only [hf', hi, ho, hsz, hs, cond_false]
  · cases hp
end
/-- What the step answers: what the operation leaves, the places that it looks at, the conditions. -/
structure AO where
  s : OS
  rd : List Nat
  φ : Prop
abbrev AO.val (v : V) : Option AO := some ⟨⟨v, [], []⟩, [], True⟩
/-- The head of a value is computed first. -/
def hdV {α : Type} (v : V) (f : V → α) : α :=
  match v with
  | .pv p => f (.pv p)
  | .ptr a b => f (.ptr a b)
  | .osl a b c => f (.osl a b c)
  | .gsl a b c => f (.gsl a b c)
  | .map a => f (.map a)
  | .agg l => f (.agg l)
  | .tup l => f (.tup l)
  | .fn a b c => f (.fn a b c)
theorem hdV_eq {α : Type} (v : V) (f : V → α) : hdV v f = f v := by cases v <;> rfl
def hdL {α : Type} : List V → (List V → α) → α
  | [], f => f []
  | v :: l, f => hdV v fun v => hdL l fun l => f (v :: l)
theorem hdL_eq {α : Type} : ∀ (l : List V) (f : List V → α), hdL l f = f l
  | [], _ => rfl
  | v :: l, f => by simp only [hdL, hdV_eq, hdL_eq l]
/-- A struct of plain cells is plain. -/
def aggV (vs : List V) : V := match V.pvs vs with
  | some ps => .pv (.agg ps)
  | none => .agg vs
variable (tt : TT) (ev : Operand → V) (ob : Nat → Option Ob) (id : Nat)
omit tt ev ob id in
def aoInt (op : BinOp) (k : IntKind) (i j : Int) : Option AO :=
  match op with
  | .add => bif kEq k .i64 then some ⟨⟨.pv (.int .i64 (i + j)), [], []⟩, [], -9223372036854775808 ≤ i + j ∧ i + j ≤ 9223372036854775807⟩ else AO.val (.pv (.int k (k.wrap (i + j))))
  | .sub => bif kEq k .i64 then some ⟨⟨.pv (.int .i64 (i - j)), [], []⟩, [], -9223372036854775808 ≤ i - j ∧ i - j ≤ 9223372036854775807⟩ else AO.val (.pv (.int k (k.wrap (i - j))))
  | .mul => bif kEq k .i64 then some ⟨⟨.pv (.int .i64 (i * j)), [], []⟩, [], -9223372036854775808 ≤ i * j ∧ i * j ≤ 9223372036854775807⟩ else AO.val (.pv (.int k (k.wrap (i * j))))
  | .quo => some ⟨⟨.pv (.int k (k.wrap (i.tdiv j))), [], []⟩, [], j ≠ 0⟩
  | .rem => some ⟨⟨.pv (.int k (i.tmod j)), [], []⟩, [], j ≠ 0⟩
  | .shl => none
  | .shr => none
  | op => match binI op k i j with | some p => AO.val (.pv p) | none => none
omit tt ev ob id in
/-- Numbers of 64 bits without a sign: natural numbers, as long as they do not go round. -/
def aoIntN (op : BinOp) (k : IntKind) (i j : Int) : Option AO :=
  match op, k with
  | .add, .u64 => match i, j with
    | .ofNat a, .ofNat b => some ⟨⟨.pv (.int .u64 ((a + b : Nat) : Int)), [], []⟩, [], a + b < 18446744073709551616⟩
    | _, _ => none
  | .sub, .u64 => match i, j with
    | .ofNat a, .ofNat b => some ⟨⟨.pv (.int .u64 ((a - b : Nat) : Int)), [], []⟩, [], b ≤ a ∧ a < 18446744073709551616⟩
    | _, _ => none
  | .mul, .u64 => match i, j with
    | .ofNat a, .ofNat b => some ⟨⟨.pv (.int .u64 ((a * b : Nat) : Int)), [], []⟩, [], a * b < 18446744073709551616⟩
    | _, _ => none
  | .quo, .u64 => match i, j with
    | .ofNat a, .ofNat b => some ⟨⟨.pv (.int .u64 ((a / b : Nat) : Int)), [], []⟩, [], 0 < b ∧ a < 18446744073709551616⟩
    | _, _ => none
  | .rem, .u64 => match i, j with
    | .ofNat a, .ofNat b => some ⟨⟨.pv (.int .u64 ((a % b : Nat) : Int)), [], []⟩, [], 0 < b⟩
    | _, _ => none
  | op, k => aoInt op k i j
def aoBin (op : BinOp) (t : TypeId) (x y : Operand) : Option AO :=
  match ev x, ev y with
  | .pv (.int k i), .pv (.int k' j) => bif kEq k k' then aoIntN op k i j else none
  | .pv (.str a), .pv (.str b) => match op with
      | .add => some ⟨⟨.pv (.str (a ++ b)), [], []⟩, [], a.size + b.size ≤ 9223372036854775807⟩
      | op => match binS op a b with | some p => AO.val (.pv p) | none => none
  | .pv (.bool a), .pv (.bool b) => match tt.get t with
      | some ti => match ti.k, op with
        | .bool, .eql => AO.val (.pv (.bool (a == b)))
        | .bool, .neq => AO.val (.pv (.bool (a != b)))
        | _, _ => none
      | none => none
  | .pv (.sl (some b) _ _), .pv (.sl (some true) 0 []) => match y with
      | .const (.slice none 0 0) => match tt.get t with
        | some ti => match ti.k, op with
          | .sl _, .eql => AO.val (.pv (.bool b))
          | .sl _, .neq => AO.val (.pv (.bool (!b)))
          | _, _ => none
        | none => none
      | _ => none
  | _, _ => none
def aoUn (op : UnOp) (x : Operand) : Option AO :=
  match op, ev x with
  | .not, .pv (.bool b) => AO.val (.pv (.bool (!b)))
  | .neg, .pv (.int .i64 i) => some ⟨⟨.pv (.int .i64 (-i)), [], []⟩, [], -9223372036854775807 ≤ i ∧ i ≤ 9223372036854775807⟩
  | _, _ => none
def aoConv (src d : TypeId) (x : Operand) : Option AO :=
  match ev x, tt.get src, tt.get d with
  | .pv (.int _ i), some _, some td => match td.k with
    | .int k' => AO.val (.pv (.int k' (k'.wrap i)))
    | _ => none
  | .pv (.str s), some _, some td => match td.k with
    | .sl e => match tt.get e with
      | some te => match te.k with
        | .int .u8 => some ⟨⟨.pv (.sl (some false) s.size (bytesP s.data.toList)), [], []⟩, [], s.size ≤ 9223372036854775807⟩
        | _ => none
      | none => none
    | _ => none
  | _, _, _ => none
def aoExt (x : Operand) (i : Nat) : Option AO :=
  match ev x with
  | .pv (.tup ps) => match ps[i]? with | some p => AO.val (.pv p) | none => none
  | .tup vs => match vs[i]? with | some v => hdV v AO.val | none => none
  | _ => none
def aoBox (T : TypeId) (x : Operand) : Option AO :=
  hdV (ev x) fun v => match v with
    | .pv _ | .agg _ => hdL v.cells fun cs => bif cs.all V.leaf then some ⟨⟨.ptr id 0, [(id, some (.mix T cs))], [id]⟩, [], True⟩ else none
    | .ptr i o => bif liveO (ob i) then some ⟨⟨.ptr id 0, [(id, some (.mix T [.ptr i o]))], [id]⟩, [i], True⟩ else none
    | .osl i s k => bif liveO (ob i) then some ⟨⟨.ptr id 0, [(id, some (.mix T [.osl i s k]))], [id]⟩, [i], True⟩ else none
    | .map i => bif liveO (ob i) then some ⟨⟨.ptr id 0, [(id, some (.mix T [.map i]))], [id]⟩, [i], True⟩ else none
    | .gsl i s k => some ⟨⟨.ptr id 0, [(id, some (.mix T [.gsl i s k]))], [id]⟩, [], True⟩
    | .fn f a b => some ⟨⟨.ptr id 0, [(id, some (.mix T [.fn f a b]))], [id]⟩, [], True⟩
    | .tup _ => none
def aoAlloc (T : TypeId) : Option AO :=
  match tt.get T with
  | some ti => match ti.zero with
    | some zs => hdL (zs.map .pv) fun cs => some ⟨⟨.ptr id 0, [(id, some (.mix T cs))], [id]⟩, [], True⟩
    | none => none
  | none => none
def aoNil (x : Operand) : Option AO :=
  match ev x with
  | .ptr i off => bif liveO (ob i) then some ⟨⟨.ptr i off, [], []⟩, [i], True⟩ else none
  | .pv (.rp cs off) => AO.val (.pv (.rp cs off))
  | _ => none
def aoLoad (T : TypeId) (x : Operand) : Option AO :=
  match tt.get T with
  | none => none
  | some ti => match ev x with
    | .ptr i off => match ob i with
      | some (.mix _ cs) => bif ti.k.row then hdL ((cs.drop off).take ti.size) fun vs => bif Nat.beq vs.length ti.size then hdV (aggV vs) fun v => some ⟨⟨v, [], []⟩, [i], True⟩ else none
          else match cs[off]? with | some v => hdV v fun v => some ⟨⟨v, [], []⟩, [i], True⟩ | none => none
      | some (.cells _ cs) => bif ti.k.row then none else match cs[off]? with | some p => some ⟨⟨.pv p, [], []⟩, [i], True⟩ | none => none
      | _ => none
    | .pv (.rp cs off) => bif ti.k.row then bif Nat.beq ((cs.drop off).take ti.size).length ti.size then AO.val (.pv (.agg ((cs.drop off).take ti.size))) else none
        else match cs[off]? with | some p => AO.val (.pv p) | none => none
    | _ => none
/-- The places that a value names at its head, and in its cells. -/
def V.id1 : V → List Nat
  | .ptr i _ => [i]
  | .osl i _ _ => [i]
  | .map i => [i]
  | _ => []
def V.ids : V → List Nat
  | .pv _ => []
  | .agg cs => cs.flatMap V.id1
  | v => v.id1
def aoStore (dst : Option Tmp) (T : TypeId) (x y : Operand) : Option AO :=
  match dst, tt.get T, ev x with
  | none, some ti, .ptr i off => match ob i with
    | some (.mix T' cs) => hdV (ev y) fun v => hdL v.cells fun vc =>
        bif Nat.beq vc.length ti.size && (Nat.ble (off + ti.size) cs.length && (vc.all (fun c => c.leaf && c.liveB ob) && v.liveB ob)) then
          hdL (setL cs off vc) fun l => some ⟨⟨.pv .any, [(i, some (.mix T' l))], []⟩, i :: v.ids, True⟩
        else none
    | some (.cells T' cs) => match ev y with
      | .pv v => bif Nat.beq ti.size 1 && v.leaf then some ⟨⟨.pv .any, [(i, some (.cells T' (cs.set off v)))], []⟩, [i], off < cs.length⟩ else none
      | _ => none
    | _ => none
  | _, _, _ => none
def aoField (s : TypeId) (x : Operand) (j : Nat) : Option AO :=
  match tt.get s with
  | none => none
  | some ti => match ti.k with
    | .st pl => match pl[j]? with
      | some (o, q) => bif Nat.beq q 0 then none else match ev x with
        | .ptr i off => bif liveO (ob i) then some ⟨⟨.ptr i (off + o), [], []⟩, [i], True⟩ else none
        | .pv (.rp cs off) => AO.val (.pv (.rp cs (off + o)))
        | _ => none
      | none => none
    | _ => none
def aoIndex (T : TypeId) (x y : Operand) : Option AO :=
  match tt.get T with
  | none => none
  | some ti => match ti.k with
    | .sl e => match tt.get e with
      | none => none
      | some ⟨_, sz, by_, zr⟩ => match ev y with
        | .pv (.int _ (.ofNat j)) => match ev x with
          | .pv (.sl _ k cs) => some ⟨⟨.pv (.rp cs (j * sz)), [], []⟩, [], j < k ∧ cs ≠ []⟩
          | .osl i _ k => bif liveO (ob i) then some ⟨⟨.ptr i (j * sz), [], []⟩, [i], j < k⟩ else none
          | _ => none
        | _ => none
    | _ => none
def sameOp : Operand → Operand → Bool
  | .tmp a, .tmp b => Nat.beq a b
  | .const (.int k a), .const (.int k' b) => kEq k k' && decide (a = b)
  | _, _ => false
omit tt ev ob id in
theorem sameOp_eq {x y : Operand} (h : sameOp x y = true) : x = y := by
  unfold sameOp at h
  split at h
  · rw [Nat.eq_of_beq_eq_true h]
  · simp only [Bool.and_eq_true, decide_eq_true_eq] at h; rw [kEq_eq h.1, h.2]
  · cases h
def aoMake (T : TypeId) (x y : Operand) : Option AO :=
  match tt.get T with
  | none => none
  | some ti => match ti.k with
    | .sl e => match tt.get e with
      | none => none
      | some ⟨_, sz, by_, zr⟩ => match zr, ev x with
        | some zs, .pv (.int _ (.ofNat k)) => bif sameOp x y && (Nat.beq zs.length sz && (Nat.blt 0 sz && Nat.ble by_ 1000)) then some ⟨⟨.osl id sz k, [(id, some (.cells e (mkZ zs (k * sz))))], [id]⟩, [], k ≤ 1000000000⟩ else none
        | _, _ => none
    | _ => none
def aoBuildS (T : TypeId) (k : Nat) (parts : List (Nat × Operand)) : Option AO :=
  match tt.get T with
  | none => none
  | some ti => match ti.k with
    | .sl e => match tt.get e with
      | none => none
      | some ⟨_, sz, by_, zr⟩ => match zr with
        | some zs => bif Nat.beq zs.length sz && (Nat.blt 0 sz && (Nat.ble by_ 1000 && (Nat.blt 0 k && Nat.ble (k * sz) 16777216))) then
            match fillV (fun i => some (i * sz, sz)) ob ((mkZ zs (k * sz)).map .pv) (parts.map fun p => (p.1, ev p.2)) with
            | some vs => match V.pvs vs with
              | some cs => some ⟨⟨.osl id sz k, [(id, some (.cells e cs))], [id]⟩, parts.flatMap fun p => (ev p.2).ids, True⟩
              | none => none
            | none => none
          else none
        | none => none
    | _ => none
def aoBuild (T : TypeId) (parts : List (Nat × Operand)) : Option AO :=
  match tt.get T with
  | none => none
  | some ti => match ti.zero, ti.k with
    | some zs, .st pl => match fillV (placeL pl) ob (zs.map .pv) (parts.map fun p => (p.1, ev p.2)) with
      | some vs => hdL vs fun vs => hdV (aggV vs) fun v => some ⟨⟨v, [], []⟩, parts.flatMap fun p => (ev p.2).ids, True⟩
      | none => none
    | some zs, .arr _ e => match tt.get e with
      | some te => match fillV (fun i => some (i * te.size, te.size)) ob (zs.map .pv) (parts.map fun p => (p.1, ev p.2)) with
        | some vs => hdL vs fun vs => hdV (aggV vs) fun v => some ⟨⟨v, [], []⟩, parts.flatMap fun p => (ev p.2).ids, True⟩
        | none => none
      | none => none
    | _, _ => none
def aoLen (t : TypeId) (x : Operand) : Option AO :=
  match tt.get t with
  | none => none
  | some ti => match ti.k, ev x with
    | .str, .pv (.str s) => AO.val (.pv (.int .i64 s.size))
    | .sl _, .pv (.sl _ k _) => AO.val (.pv (.int .i64 k))
    | .sl _, .osl i _ k => bif liveO (ob i) then some ⟨⟨.pv (.int .i64 k), [], []⟩, [i], True⟩ else none
    | .sl _, .gsl _ _ k => AO.val (.pv (.int .i64 k))
    | _, _ => none
def aoApp (t t' : TypeId) (x y : Operand) : Option AO :=
  match tt.get t with
  | none => none
  | some ti => match ti.k with
    | .sl e => match tt.get e with
      | none => none
      | some ⟨_, sz, by_, zr⟩ => match zr with
        | some zs => bif Nat.beq t t' && (Nat.beq zs.length sz && (Nat.blt 0 sz && Nat.ble by_ 1000)) then
            match ev y with
            | .osl i2 s2 1 => match ob i2 with
              | some (.cells _ news) => bif Nat.beq s2 sz && (Nat.beq news.length sz && news.all PV.leaf) then
                  match ev x with
                  | .osl i s k => match ob i with
                    | some (.cells e' cs) => bif Nat.beq e' e && Nat.beq s sz then some ⟨⟨.osl id sz (k + 1), [(id, some (.cells e (cs ++ news))), (i, none)], [id]⟩, [i, i2], cs.length = k * sz ∧ k + 1 ≤ 1000000000⟩ else none
                    | _ => none
                  | .gsl i s k => match ob i with
                    | some (.gro e' cs) => bif Nat.beq e' e && Nat.beq s sz then some ⟨⟨.gsl id sz (k + 1), [(id, some (.gro e (cs ++ news))), (i, none)], [id]⟩, [i, i2], cs.length = k * sz ∧ k + 1 ≤ 1000000000⟩ else none
                    | _ => none
                  | .pv (.sl (some true) 0 []) => some ⟨⟨.osl id sz 1, [(id, some (.cells e news))], [id]⟩, [i2], True⟩
                  | _ => none
                else none
              | _ => none
            | _ => none
          else none
        | none => none
    | _ => none
def aoSlice (T : TypeId) (x : Operand) (lo hi : Option Operand) : Option AO :=
  match tt.get T with
  | none => none
  | some ti => match ti.k, ev x with
    | .str, .pv (.str z) => match lo, hi with
      | none, some y => match ev y with
        | .pv (.int _ (.ofNat h)) => some ⟨⟨.pv (.str (z.extract 0 h)), [], []⟩, [], h ≤ z.size⟩
        | _ => none
      | some y, none => match ev y with
        | .pv (.int _ (.ofNat l)) => some ⟨⟨.pv (.str (z.extract l z.size)), [], []⟩, [], l ≤ z.size⟩
        | _ => none
      | some y, some y' => match ev y, ev y' with
        | .pv (.int _ (.ofNat l)), .pv (.int _ (.ofNat h)) => some ⟨⟨.pv (.str (z.extract l h)), [], []⟩, [], l ≤ h ∧ h ≤ z.size⟩
        | _, _ => none
      | none, none => none
    | .sl e, .pv (.sl b k cs) => match tt.get e with
      | none => none
      | some ⟨_, sz, by_, zr⟩ => match lo, hi with
        | none, some y => match ev y with
          | .pv (.int _ (.ofNat h)) => some ⟨⟨.pv (.sl b h (cs.take (h * sz))), [], []⟩, [], h ≤ k ∧ cs.length = k * sz⟩
          | _ => none
        | some y, none => match ev y with
          | .pv (.int _ (.ofNat l)) => some ⟨⟨.pv (.sl b (k - l) (cs.drop (l * sz))), [], []⟩, [], l ≤ k ∧ cs.length = k * sz⟩
          | _ => none
        | _, _ => none
    | _, _ => none
def aoCall (c : Call) : Option AO :=
  match c.callee, c.args.toList, c.argTypes.toList with
  | .builtin .len, [x], [t] => aoLen tt ev ob t x
  | .builtin .append, [x, y], [t, t'] => aoApp tt ev ob id t t' x y
  | .builtin .max, [x, y], [_, _] => match ev x, ev y with
    | .pv (.int k i), .pv (.int k' j) => bif kEq k k' then AO.val (.pv (.int k (if j > i then j else i))) else none
    | _, _ => none
  | .builtin .min, [x, y], [_, _] => match ev x, ev y with
    | .pv (.int k i), .pv (.int k' j) => bif kEq k k' then AO.val (.pv (.int k (if j < i then j else i))) else none
    | _, _ => none
  | _, _, _ => none
/-- What an operation leaves. -/
def auto (dst : Option Tmp) : Op → Option AO
  | .move x => hdV (ev x) AO.val
  | .assign x => hdV (ev x) AO.val
  | .pick c x y => match ev c with | .pv (.bool b) => AO.val (bif b then ev x else ev y) | _ => none
  | .binOp op t x y _ => aoBin tt ev op t x y
  | .unOp op _ x => aoUn ev op x
  | .convert src d x => aoConv tt ev src d x
  | .extract x i => aoExt ev x i
  | .box T x => aoBox ev ob id T x
  | .alloc T => aoAlloc tt id T
  | .nilCheck x => aoNil ev ob x
  | .load T x => aoLoad tt ev ob T x
  | .store T x y => aoStore tt ev ob dst T x y
  | .fieldAddr s x j => aoField tt ev ob s x j
  | .indexAddr T x y => aoIndex tt ev ob T x y
  | .makeSlice T x y => aoMake tt ev id T x y
  | .buildSlice T k ps => aoBuildS tt ev ob id T k ps.toList
  | .build T ps => aoBuild tt ev ob T ps.toList
  | .slice T x lo hi none => aoSlice tt ev T x lo hi
  | .makeFunc f fs cs => hdL (fs.toList.map ev) fun a => hdL (cs.toList.map ev) fun b => AO.val (.fn f a b)
  | .call c => aoCall tt ev ob id c
  | _ => none
end Go.Proofs.YtopjkdddicgajaaGreatDoor
namespace Go.Proofs.YtopjkdddicgajaaGreatDoor
open Go.RowKit
theorem aggV_rel {w : World} {m : Gm} {av : Av} {R : Nat → Prop} {vs : List V} {u : Value} (h : Rel w m av R (.agg vs) u) : Rel w m av R (aggV vs) u := by
  unfold aggV
  split
  · rename_i ps hps
    have e := V.pvs_eq hps
    subst e
    exact h.plain
  · exact h
theorem bif_some {α : Type} {b : Bool} {a : Option α} {x : α} (h : (bif b then a else none) = some x) : b = true ∧ a = some x := by
  cases b
  · cases h
  · exact ⟨rfl, h⟩
theorem liveO_real {o : Option Ob} (h : liveO o = true) : ∃ q, o = some q ∧ q.real = true := by
  cases o with
  | none => cases h
  | some q => exact ⟨q, rfl, h⟩
theorem liveB_congr {ob ob' : Nat → Option Ob} : ∀ {v : V}, (∀ i ∈ v.id1, ob i = ob' i) → v.liveB ob = v.liveB ob'
  | .pv _, _ => rfl
  | .ptr i o, h => by simp only [V.liveB, h i (by simp [V.id1])]
  | .osl i _ _, h => by simp only [V.liveB, h i (by simp [V.id1])]
  | .gsl _ _ _, _ => rfl
  | .map i, h => by simp only [V.liveB, h i (by simp [V.id1])]
  | .agg _, _ => rfl
  | .tup _, _ => rfl
  | .fn _ _ _, _ => rfl
theorem cells_live {ob ob' : Nat → Option Ob} {v : V} (h : ∀ i ∈ v.ids, ob i = ob' i) : (∀ c ∈ v.cells, c.liveB ob = c.liveB ob') ∧ v.liveB ob = v.liveB ob' := by
  cases v with
  | pv p =>
    refine ⟨fun c hc => ?_, rfl⟩
    cases p <;> simp [V.cells] at hc <;> first | (subst hc; rfl) | (obtain ⟨_, _, rfl⟩ := hc; rfl)
  | agg cs => exact ⟨fun c hc => liveB_congr fun i hi => h i (by simp only [V.ids, List.mem_flatMap]; exact ⟨c, by simpa [V.cells] using hc, hi⟩), rfl⟩
  | ptr i o => exact ⟨fun c hc => by simp only [V.cells, List.mem_singleton] at hc; subst hc; exact liveB_congr h, liveB_congr h⟩
  | osl i s k => exact ⟨fun c hc => by simp only [V.cells, List.mem_singleton] at hc; subst hc; exact liveB_congr h, liveB_congr h⟩
  | map i => exact ⟨fun c hc => by simp only [V.cells, List.mem_singleton] at hc; subst hc; exact liveB_congr h, liveB_congr h⟩
  | _ => exact ⟨fun c hc => by simp only [V.cells, List.mem_singleton] at hc; subst hc; rfl, rfl⟩
theorem all_live {ob ob' : Nat → Option Ob} {v : V} (h : ∀ i ∈ v.ids, ob i = ob' i) : (v.cells.all (fun c => c.leaf && c.liveB ob) && v.liveB ob) = (v.cells.all (fun c => c.leaf && c.liveB ob') && v.liveB ob') := by
  have hc := cells_live h
  rw [hc.2]
  congr 1
  rw [Bool.eq_iff_iff, List.all_eq_true, List.all_eq_true]
  exact ⟨fun k c hm => by rw [← hc.1 c hm]; exact k c hm, fun k c hm => by rw [hc.1 c hm]; exact k c hm⟩
theorem fillV_congr {place : Nat → Option (Nat × Nat)} {ob ob' : Nat → Option Ob} : ∀ (l : List (Nat × V)) (cells : List V), (∀ p ∈ l, ∀ i ∈ p.2.ids, ob i = ob' i) → fillV place ob cells l = fillV place ob' cells l
  | [], _, _ => rfl
  | (i, v) :: l, cells, h => by
    have hv := all_live (v := v) (h (i, v) (by simp))
    have ih := fun c => fillV_congr (place := place) l c (fun p hp => h p (by simp [hp]))
    simp only [fillV]
    split
    · rfl
    · rw [Bool.and_assoc, hv, ← Bool.and_assoc]
      simp only [ih]
section
variable {C : Ctx} {n : Nat} {τ : St} {dst : Option Tmp} {ty t t' : TypeId} {pos : String} {after : Array Edge} {gd : Option (Nat × Bool)} {x y : Operand} {tt : TT} {ev : Operand → V} {ob : Nat → Option Ob} {id : Nat} {ao : AO}
theorem aoInt_ok {op : BinOp} {k : IntKind} {i j : Int} (h : aoInt op k i j = some ao) (hφ : ao.φ) (hx : τ.ev n x = .pv (.int k i)) (hy : τ.ev n y = .pv (.int k j)) : XJ C n ⟨dst, .binOp op t x y t', ty, pos, after, gd⟩ τ ao.s := by
  have three : ∀ {a b : AO}, (bif kEq k .i64 then some a else some b) = some ao → (k = .i64 ∧ a = ao) ∨ b = ao := fun {a b} h => by
    cases hk : kEq k .i64 with
    | true => rw [hk] at h; exact .inl ⟨kEq_eq hk, by simpa using h⟩
    | false => rw [hk] at h; exact .inr (by simpa using h)
  cases op <;> simp only [aoInt] at h
  case add => rcases three h with ⟨rfl, rfl⟩ | rfl; exact xj_add hx hy hφ; exact xj_bin hx hy rfl
  case sub => rcases three h with ⟨rfl, rfl⟩ | rfl; exact xj_sub hx hy hφ; exact xj_bin hx hy rfl
  case mul => rcases three h with ⟨rfl, rfl⟩ | rfl; exact xj_mul hx hy hφ; exact xj_bin hx hy rfl
  case quo => cases h; exact xj_quo hx hy hφ
  case rem => cases h; exact xj_rem hx hy hφ
  case shl => cases h
  case shr => cases h
  all_goals (simp only [binI] at h; cases h; exact xj_bin hx hy rfl)
theorem wrap_n {a : Nat} (h : a < 18446744073709551616) : IntKind.u64.wrap (a : Int) = a := IntWalk.u64_in _ (by omega)
theorem xj_addN {a b : Nat} (hx : τ.ev n x = .pv (.int .u64 (a : Int))) (hy : τ.ev n y = .pv (.int .u64 (b : Int))) (h : a + b < 18446744073709551616) : XJ C n ⟨dst, .binOp .add t x y t', ty, pos, after, gd⟩ τ ⟨.pv (.int .u64 ((a + b : Nat) : Int)), [], []⟩ :=
  xj_bin hx hy (by simp only [binI]; rw [← Int.natCast_add, wrap_n h])
theorem xj_subN {a b : Nat} (hx : τ.ev n x = .pv (.int .u64 (a : Int))) (hy : τ.ev n y = .pv (.int .u64 (b : Int))) (h : b ≤ a ∧ a < 18446744073709551616) : XJ C n ⟨dst, .binOp .sub t x y t', ty, pos, after, gd⟩ τ ⟨.pv (.int .u64 ((a - b : Nat) : Int)), [], []⟩ :=
  xj_bin hx hy (by simp only [binI]; rw [show (a : Int) - b = ((a - b : Nat) : Int) by omega, wrap_n (by omega)])
theorem xj_mulN {a b : Nat} (hx : τ.ev n x = .pv (.int .u64 (a : Int))) (hy : τ.ev n y = .pv (.int .u64 (b : Int))) (h : a * b < 18446744073709551616) : XJ C n ⟨dst, .binOp .mul t x y t', ty, pos, after, gd⟩ τ ⟨.pv (.int .u64 ((a * b : Nat) : Int)), [], []⟩ :=
  xj_bin hx hy (by simp only [binI]; rw [← Int.natCast_mul, wrap_n h])
theorem xj_quoN {a b : Nat} (hx : τ.ev n x = .pv (.int .u64 (a : Int))) (hy : τ.ev n y = .pv (.int .u64 (b : Int))) (h : 0 < b ∧ a < 18446744073709551616) : XJ C n ⟨dst, .binOp .quo t x y t', ty, pos, after, gd⟩ τ ⟨.pv (.int .u64 ((a / b : Nat) : Int)), [], []⟩ := by
  have h2 := xj_quo (C := C) (n := n) (dst := dst) (ty := ty) (pos := pos) (after := after) (gd := gd) (t := t) (t' := t') hx hy (by omega)
  rw [show (a : Int).tdiv b = ((a / b : Nat) : Int) from rfl, wrap_n (Nat.lt_of_le_of_lt (Nat.div_le_self _ _) h.2)] at h2
  exact h2
theorem xj_remN {a b : Nat} (hx : τ.ev n x = .pv (.int .u64 (a : Int))) (hy : τ.ev n y = .pv (.int .u64 (b : Int))) (h : 0 < b) : XJ C n ⟨dst, .binOp .rem t x y t', ty, pos, after, gd⟩ τ ⟨.pv (.int .u64 ((a % b : Nat) : Int)), [], []⟩ :=
  xj_rem (C := C) (n := n) (dst := dst) (ty := ty) (pos := pos) (after := after) (gd := gd) (t := t) (t' := t') hx hy (by omega)
theorem aoIntN_ok {op : BinOp} {k : IntKind} {i j : Int} (h : aoIntN op k i j = some ao) (hφ : ao.φ) (hx : τ.ev n x = .pv (.int k i)) (hy : τ.ev n y = .pv (.int k j)) : XJ C n ⟨dst, .binOp op t x y t', ty, pos, after, gd⟩ τ ao.s := by
  unfold aoIntN at h
  split at h
  · split at h
    · cases h; exact xj_addN hx hy hφ
    · cases h
  · split at h
    · cases h; exact xj_subN hx hy hφ
    · cases h
  · split at h
    · cases h; exact xj_mulN hx hy hφ
    · cases h
  · split at h
    · cases h; exact xj_quoN hx hy hφ
    · cases h
  · split at h
    · cases h; exact xj_remN hx hy hφ
    · cases h
  · exact aoInt_ok h hφ hx hy
theorem aoBin_ok (ht : tt.Ok C.P) {op : BinOp} (h : aoBin tt ev op t x y = some ao) (hφ : ao.φ) (hx : τ.ev n x = ev x) (hy : τ.ev n y = ev y) : XJ C n ⟨dst, .binOp op t x y t', ty, pos, after, gd⟩ τ ao.s := by
  unfold aoBin at h
  split at h
  · rename_i k i k' j e1 e2
    have hx := hx.trans e1
    have hy := hy.trans e2
    have h := bif_some h
    have := kEq_eq h.1
    subst this
    replace h := h.2
    exact aoIntN_ok h hφ hx hy
  · rename_i a b e1 e2
    have hx := hx.trans e1
    have hy := hy.trans e2
    split at h
    · cases h; exact xj_cat hx hy hφ
    · split at h
      · cases h; rename_i p hp; exact xj_binS hx hy hp
      · cases h
  · rename_i a b e1 e2
    have hx := hx.trans e1
    have hy := hy.trans e2
    split at h
    · rename_i ti hti
      have hg := ht.go hti
      split at h
      · rename_i hk; cases h; exact xj_eqlB (hg.bool hk) hx hy
      · rename_i hk; cases h; exact xj_neqB (hg.bool hk) hx hy
      · cases h
    · cases h
  · rename_i b k cs e1 e2
    have hx := hx.trans e1
    split at h
    · split at h
      · rename_i ti hti
        have hg := ht.go hti
        split at h
        · rename_i hk; cases h; exact xj_eqlNil (hg.sl hk) hx
        · rename_i hk; cases h; exact xj_neqNil (hg.sl hk) hx
        · cases h
      · cases h
    · cases h
  · cases h
theorem aoUn_ok {op : UnOp} (h : aoUn ev op x = some ao) (hφ : ao.φ) (hx : τ.ev n x = ev x) : XJ C n ⟨dst, .unOp op t x, ty, pos, after, gd⟩ τ ao.s := by
  unfold aoUn at h
  split at h
  · rename_i e; cases h; exact xj_not (hx.trans e)
  · rename_i e; cases h; exact xj_neg (hx.trans e) hφ.1 hφ.2
  · cases h
theorem aoConv_ok (ht : tt.Ok C.P) {src d : TypeId} (h : aoConv tt ev src d x = some ao) (hφ : ao.φ) (hx : τ.ev n x = ev x) : XJ C n ⟨dst, .convert src d x, ty, pos, after, gd⟩ τ ao.s := by
  unfold aoConv at h
  split at h
  · rename_i e1 e2 e3
    have hx := hx.trans e1
    obtain ⟨d, hs, _⟩ := (ht.go e2).kind
    split at h
    · rename_i hk; cases h; exact xj_conv hs ((ht.go e3).int hk) hx
    · cases h
  · rename_i e1 e2 e3
    have hx := hx.trans e1
    obtain ⟨d, hs, _⟩ := (ht.go e2).kind
    split at h
    · rename_i e hk
      split at h
      · rename_i te hte
        split at h
        · rename_i hke; cases h; exact xj_toB hs ((ht.go e3).sl hk) ((ht.go hte).int hke) hx hφ
        · cases h
      · cases h
    · cases h
  · cases h
theorem aoExt_ok {i : Nat} (h : aoExt ev x i = some ao) (hx : τ.ev n x = ev x) : XJ C n ⟨dst, .extract x i, ty, pos, after, gd⟩ τ ao.s := by
  unfold aoExt at h
  split at h
  · rename_i e
    split at h
    · rename_i hp; cases h; exact xj_extractP (hx.trans e) hp
    · cases h
  · rename_i e
    split at h
    · rename_i hp; rw [hdV_eq] at h; cases h; exact xj_extract (hx.trans e) hp
    · cases h
  · cases h
theorem aoBox_ok {T : TypeId} (h : aoBox ev ob id T x = some ao) (hx : τ.ev n x = ev x) (ho : ∀ i ∈ ao.rd, τ.ob i = ob i) (hn : ∀ i ∈ ao.s.nw, τ.av i = true) : XJ C n ⟨dst, .box T x, ty, pos, after, gd⟩ τ ao.s := by
  unfold aoBox at h
  rw [hdV_eq] at h
  split at h
  · rename_i e
    rw [hdL_eq] at h
    obtain ⟨hl, h⟩ := bif_some h
    cases h
    rw [e] at hl ⊢
    exact xj_box id (hn id (by simp)) (hx.trans e) hl (by rintro _ _ ⟨⟩) (by rintro _ _ _ ⟨⟩) (by rintro _ ⟨⟩)
  · rename_i e
    rw [hdL_eq] at h
    obtain ⟨hl, h⟩ := bif_some h
    cases h
    rw [e] at hl ⊢
    exact xj_box id (hn id (by simp)) (hx.trans e) hl (by rintro _ _ ⟨⟩) (by rintro _ _ _ ⟨⟩) (by rintro _ ⟨⟩)
  · rename_i i o e
    obtain ⟨hl, h⟩ := bif_some h
    cases h
    exact xj_box id (hn id (by simp)) (hx.trans e) rfl (by rintro _ _ ⟨⟩; rw [ho i (by simp)]; exact hl) (by rintro _ _ _ ⟨⟩) (by rintro _ ⟨⟩)
  · rename_i i s k e
    obtain ⟨hl, h⟩ := bif_some h
    cases h
    exact xj_box id (hn id (by simp)) (hx.trans e) rfl (by rintro _ _ ⟨⟩) (by rintro _ _ _ ⟨⟩; rw [ho i (by simp)]; exact hl) (by rintro _ ⟨⟩)
  · rename_i i e
    obtain ⟨hl, h⟩ := bif_some h
    cases h
    exact xj_box id (hn id (by simp)) (hx.trans e) rfl (by rintro _ _ ⟨⟩) (by rintro _ _ _ ⟨⟩) (by rintro _ ⟨⟩; rw [ho i (by simp)]; exact hl)
  · rename_i e
    cases h
    exact xj_box id (hn id (by simp)) (hx.trans e) rfl (by rintro _ _ ⟨⟩) (by rintro _ _ _ ⟨⟩) (by rintro _ ⟨⟩)
  · rename_i e
    cases h
    exact xj_box id (hn id (by simp)) (hx.trans e) rfl (by rintro _ _ ⟨⟩) (by rintro _ _ _ ⟨⟩) (by rintro _ ⟨⟩)
  · cases h
theorem TGood.zeroV {P : Program} {i : TI} (h : TGood P t i) {zs : List PV} (e : i.zero = some zs) : ∃ z, (P.info? t).map (·.zero) = some (some z) ∧ z.cells.toList.map leafC = zs := by
  obtain ⟨z, h1, h2⟩ := h.zero zs e
  refine ⟨z, ?_, h2⟩
  cases hq : P.info? t with
  | none => rw [hq] at h1; cases h1
  | some inf => rw [hq] at h1; simp at h1; simp [h1.1]
theorem aoAlloc_ok (ht : tt.Ok C.P) {T : TypeId} (h : aoAlloc tt id T = some ao) (hn : ∀ i ∈ ao.s.nw, τ.av i = true) : XJ C n ⟨dst, .alloc T, ty, pos, after, gd⟩ τ ao.s := by
  unfold aoAlloc at h
  split at h
  · rename_i ti hti
    split at h
    · rename_i zs hz
      rw [hdL_eq] at h
      cases h
      obtain ⟨z, h1, h2⟩ := (ht.go hti).zeroV hz
      exact xj_alloc id h1 h2 (hn id (by simp))
    · cases h
  · cases h
theorem aoNil_ok (h : aoNil ev ob x = some ao) (hx : τ.ev n x = ev x) (ho : ∀ i ∈ ao.rd, τ.ob i = ob i) : XJ C n ⟨dst, .nilCheck x, ty, pos, after, gd⟩ τ ao.s := by
  unfold aoNil at h
  split at h
  · rename_i i off e
    obtain ⟨hl, h⟩ := bif_some h
    cases h
    obtain ⟨q, hq, hr⟩ := liveO_real hl
    exact xj_nilCheck (hx.trans e) ((ho i (by simp)).trans hq) hr
  · rename_i e; cases h; exact xj_nilCheckR (hx.trans e)
  · cases h
theorem aoLoad_ok (ht : tt.Ok C.P) {T : TypeId} (h : aoLoad tt ev ob T x = some ao) (hx : τ.ev n x = ev x) (ho : ∀ i ∈ ao.rd, τ.ob i = ob i) : XJ C n ⟨dst, .load T x, ty, pos, after, gd⟩ τ ao.s := by
  unfold aoLoad at h
  split at h
  · cases h
  · rename_i ti hti
    have hg := ht.go hti
    split at h
    · rename_i i off e
      split at h
      · rename_i T' cs hob
        cases hr : ti.k.row with
        | true =>
          rw [hr] at h
          simp only [cond_true, hdL_eq, hdV_eq] at h
          obtain ⟨hl, h⟩ := bif_some h
          cases h
          exact (xj_loadA (hg.isRow hr) hg.size (hx.trans e) ((ho i (by simp)).trans hob) rfl (Nat.eq_of_beq_eq_true hl)).weakV fun _ _ _ _ _ => aggV_rel
        | false =>
          rw [hr] at h
          simp only [cond_false] at h
          split at h
          · rename_i v hv
            rw [hdV_eq] at h
            cases h
            exact xj_load1 (hg.notRow hr) (hx.trans e) ((ho i (by simp)).trans hob) hv
          · cases h
      · rename_i T' cs hob
        cases hr : ti.k.row with
        | true => rw [hr] at h; cases h
        | false =>
          rw [hr] at h
          simp only [cond_false] at h
          split at h
          · rename_i v hv
            cases h
            exact xj_load1P (hg.notRow hr) (hx.trans e) ((ho i (by simp)).trans hob) hv
          · cases h
      · cases h
    · rename_i cs off e
      cases hr : ti.k.row with
      | true =>
        rw [hr] at h
        simp only [cond_true] at h
        obtain ⟨hl, h⟩ := bif_some h
        cases h
        exact xj_loadAR (hg.isRow hr) hg.size (hx.trans e) rfl (Nat.eq_of_beq_eq_true hl)
      | false =>
        rw [hr] at h
        simp only [cond_false] at h
        split at h
        · rename_i v hv
          cases h
          exact xj_loadR (hg.notRow hr) (hx.trans e) hv
        · cases h
    · cases h
theorem aoStore_ok (ht : tt.Ok C.P) {T : TypeId} (h : aoStore tt ev ob dst T x y = some ao) (hφ : ao.φ) (hx : τ.ev n x = ev x) (hy : τ.ev n y = ev y) (ho : ∀ i ∈ ao.rd, τ.ob i = ob i) : XJ C n ⟨dst, .store T x y, ty, pos, after, gd⟩ τ ao.s := by
  unfold aoStore at h
  split at h
  · rename_i ti i off hti e
    have hg := ht.go hti
    split at h
    · rename_i T' cs hob
      rw [hdV_eq, hdL_eq] at h
      obtain ⟨hl, h⟩ := bif_some h
      rw [hdL_eq] at h
      cases h
      simp only [Bool.and_eq_true] at hl
      have hids : ∀ j ∈ (ev y).ids, τ.ob j = ob j := fun j hj => ho j (by simp [hj])
      have hlv := all_live hids
      have h2 : ((ev y).cells.all (fun c => c.leaf && c.liveB ob) && (ev y).liveB ob) = true := by simp only [Bool.and_eq_true]; exact hl.2.2
      rw [← hlv] at h2
      have h3 := Bool.and_eq_true_iff.1 h2
      exact xj_store hg.size (hx.trans e) ((ho i (by simp)).trans hob) hy (Nat.eq_of_beq_eq_true hl.1) (Nat.le_of_ble_eq_true hl.2.1) h3.1 h3.2
    · rename_i T' cs hob
      split at h
      · rename_i v hv
        obtain ⟨hl, h⟩ := bif_some h
        cases h
        simp only [Bool.and_eq_true] at hl
        exact xj_storeP (by rw [← Nat.eq_of_beq_eq_true hl.1]; exact hg.size) (hx.trans e) ((ho i (by simp)).trans hob) (hy.trans hv) hl.2 hφ
      · cases h
    · cases h
  · cases h
theorem aoField_ok (ht : tt.Ok C.P) {s : TypeId} {j : Nat} (h : aoField tt ev ob s x j = some ao) (hx : τ.ev n x = ev x) (ho : ∀ i ∈ ao.rd, τ.ob i = ob i) : XJ C n ⟨dst, .fieldAddr s x j, ty, pos, after, gd⟩ τ ao.s := by
  unfold aoField at h
  split at h
  · cases h
  · rename_i ti hti
    have hg := ht.go hti
    split at h
    · rename_i pl hk
      split at h
      · rename_i o q hp
        cases hq0 : Nat.beq q 0 with
        | true => rw [hq0] at h; cases h
        | false =>
        rw [hq0] at h
        simp only [cond_false] at h
        have hf := hg.fieldOff hk hp hq0
        split at h
        · rename_i i off e
          obtain ⟨hl, h⟩ := bif_some h
          cases h
          obtain ⟨q, hq, hr⟩ := liveO_real hl
          exact xj_fieldAddr hf (hx.trans e) ((ho i (by simp)).trans hq) hr
        · rename_i e; cases h; exact xj_fieldAddrR hf (hx.trans e)
        · cases h
      · cases h
    · cases h
theorem aoIndex_ok (ht : tt.Ok C.P) {T : TypeId} (h : aoIndex tt ev ob T x y = some ao) (hφ : ao.φ) (hx : τ.ev n x = ev x) (hy : τ.ev n y = ev y) (ho : ∀ i ∈ ao.rd, τ.ob i = ob i) : XJ C n ⟨dst, .indexAddr T x y, ty, pos, after, gd⟩ τ ao.s := by
  unfold aoIndex at h
  split at h
  · cases h
  · rename_i ti hti
    have hg := ht.go hti
    split at h
    · rename_i e hk
      split at h
      · cases h
      · rename_i tk sz by_ zr hte
        split at h
        · rename_i kk j e2
          split at h
          · rename_i bn k cs e1
            cases h
            exact xj_indexAddr j (hg.sl hk) (ht.go hte).size (hx.trans e1) (hy.trans e2) rfl hφ.1 hφ.2
          · rename_i i s k e1
            obtain ⟨hl, h⟩ := bif_some h
            cases h
            obtain ⟨q, hq, hr⟩ := liveO_real hl
            exact xj_indexAddrO j (hg.sl hk) (ht.go hte).size (hx.trans e1) ((ho i (by simp)).trans hq) (hy.trans e2) rfl hφ hr
          · cases h
        · cases h
    · cases h
theorem TGood.elem {P : Program} {te : TI} {e : TypeId} (h : TGood P e te) {zs : List PV} (hz : te.zero = some zs) (hu : P.underlying t = some (.slice e)) (hl : zs.length = te.size) (hs : 0 < te.size) (hb : te.bytes ≤ 1000) : ∃ z, ElemIs P t e z te.size te.bytes ∧ z.cells.toList.map leafC = zs := by
  obtain ⟨z, h1, h2⟩ := h.zero zs hz
  exact ⟨z, ⟨hu, h1, by rw [← hl, ← h2]; simp, hs, hb⟩, h2⟩
theorem aoMake_ok (ht : tt.Ok C.P) {T : TypeId} (h : aoMake tt ev id T x y = some ao) (hφ : ao.φ) (hx : τ.ev n x = ev x) (hn : ∀ i ∈ ao.s.nw, τ.av i = true) : XJ C n ⟨dst, .makeSlice T x y, ty, pos, after, gd⟩ τ ao.s := by
  unfold aoMake at h
  split at h
  · cases h
  · rename_i ti hti
    split at h
    · rename_i e hk
      split at h
      · cases h
      · rename_i tk sz by_ zr hte
        split at h
        · rename_i zs kk k e1
          obtain ⟨hl, h⟩ := bif_some h
          cases h
          simp only [Bool.and_eq_true] at hl
          obtain ⟨z, h1, h2⟩ := (ht.go hte).elem rfl ((ht.go hti).sl hk) (Nat.eq_of_beq_eq_true hl.2.1) (by simpa [Nat.blt_eq] using hl.2.2.1) (Nat.le_of_ble_eq_true hl.2.2.2)
          obtain rfl := sameOp_eq hl.1
          exact xj_make id k h1 h2 (hx.trans e1) (hx.trans e1) rfl rfl hφ (hn id (by simp))
        · cases h
    · cases h
theorem aoBuildS_ok (ht : tt.Ok C.P) {T : TypeId} {k : Nat} {ps : Array (Nat × Operand)} (h : aoBuildS tt ev ob id T k ps.toList = some ao) (hx : ∀ p ∈ ps.toList, τ.ev n p.2 = ev p.2) (ho : ∀ i ∈ ao.rd, τ.ob i = ob i) (hn : ∀ i ∈ ao.s.nw, τ.av i = true) : XJ C n ⟨dst, .buildSlice T k ps, ty, pos, after, gd⟩ τ ao.s := by
  unfold aoBuildS at h
  split at h
  · cases h
  · rename_i ti hti
    split at h
    · rename_i e hk
      split at h
      · cases h
      · rename_i tk sz by_ zr hte
        split at h
        · rename_i zs hte
          obtain ⟨hl, h⟩ := bif_some h
          simp only [Bool.and_eq_true] at hl
          obtain ⟨z, h1, h2⟩ := (ht.go hte).elem rfl ((ht.go hti).sl hk) (Nat.eq_of_beq_eq_true hl.1) (by simpa [Nat.blt_eq] using hl.2.1) (Nat.le_of_ble_eq_true hl.2.2.1)
          split at h
          · rename_i vs hf
            split at h
            · rename_i cs hcs
              cases h
              have e1 : (ps.toList.map fun p => (p.1, τ.ev n p.2)) = ps.toList.map fun p => (p.1, ev p.2) := List.map_congr_left fun p hp => by rw [hx p hp]
              refine xj_buildSlice id h1 h2 (by simpa [Nat.blt_eq] using hl.2.2.2.1) (Nat.le_of_ble_eq_true hl.2.2.2.2) (hn id (by simp)) (vs := vs) ?_ hcs
              rw [e1, fillV_congr (ob' := ob) _ _ (fun p hp i hi => ?_)]
              · exact hf
              · obtain ⟨q, hq, rfl⟩ := List.mem_map.1 hp
                exact ho i (List.mem_flatMap.2 ⟨q, hq, hi⟩)
            · cases h
          · cases h
        · cases h
    · cases h
theorem aoBuild_ok (ht : tt.Ok C.P) {T : TypeId} {ps : Array (Nat × Operand)} (h : aoBuild tt ev ob T ps.toList = some ao) (hx : ∀ p ∈ ps.toList, τ.ev n p.2 = ev p.2) (ho : ∀ i ∈ ao.rd, τ.ob i = ob i) : XJ C n ⟨dst, .build T ps, ty, pos, after, gd⟩ τ ao.s := by
  have e1 : (ps.toList.map fun p => (p.1, τ.ev n p.2)) = ps.toList.map fun p => (p.1, ev p.2) := List.map_congr_left fun p hp => by rw [hx p hp]
  unfold aoBuild at h
  split at h
  · cases h
  · rename_i ti hti
    split at h
    · rename_i zs pl hz hk
      split at h
      · rename_i vs hf
        rw [hdL_eq, hdV_eq] at h
        cases h
        obtain ⟨z, h1, h2⟩ := (ht.go hti).zeroV hz
        refine XJ.weakV (xj_build (.struct h1 h2 ((ht.go hti).st hk)) ?_) fun _ _ _ _ _ => aggV_rel
        rw [e1, fillV_congr (ob' := ob) _ _ (fun p hp i hi => ?_)]
        · exact hf
        · obtain ⟨q, hq, rfl⟩ := List.mem_map.1 hp
          exact ho i (List.mem_flatMap.2 ⟨q, hq, hi⟩)
      · cases h
    · rename_i zs len e hz hk
      split at h
      · rename_i te hte
        split at h
        · rename_i vs hf
          rw [hdL_eq, hdV_eq] at h
          cases h
          obtain ⟨z, h1, h2⟩ := (ht.go hti).zeroV hz
          refine XJ.weakV (xj_build (.array ((ht.go hti).arr hk) h1 h2 (ht.go hte).size) ?_) fun _ _ _ _ _ => aggV_rel
          rw [e1, fillV_congr (ob' := ob) _ _ (fun p hp i hi => ?_)]
          · exact hf
          · obtain ⟨q, hq, rfl⟩ := List.mem_map.1 hp
            exact ho i (List.mem_flatMap.2 ⟨q, hq, hi⟩)
        · cases h
      · cases h
    · cases h
theorem aoLen_ok (ht : tt.Ok C.P) (h : aoLen tt ev ob t x = some ao) (hx : τ.ev n x = ev x) (ho : ∀ i ∈ ao.rd, τ.ob i = ob i) : XJ C n ⟨dst, .call { callee := .builtin .len, args := #[x], argTypes := #[t] }, ty, pos, after, gd⟩ τ ao.s := by
  unfold aoLen at h
  split at h
  · cases h
  · rename_i ti hti
    have hg := ht.go hti
    split at h
    · rename_i hk e; cases h; exact xj_lenS (hg.str hk) (hx.trans e)
    · rename_i hk e; cases h; exact xj_len (hg.sl hk) (hx.trans e)
    · rename_i i s k hk e
      obtain ⟨hl, h⟩ := bif_some h
      cases h
      obtain ⟨q, hq, hr⟩ := liveO_real hl
      exact xj_lenO (hg.sl hk) (hx.trans e) ((ho i (by simp)).trans hq) hr
    · rename_i hk e; cases h; exact xj_lenG (hg.sl hk) (hx.trans e)
    · cases h
theorem aoApp_ok (ht : tt.Ok C.P) (h : aoApp tt ev ob id t t' x y = some ao) (hφ : ao.φ) (hx : τ.ev n x = ev x) (hy : τ.ev n y = ev y) (ho : ∀ i ∈ ao.rd, τ.ob i = ob i) (hn : ∀ i ∈ ao.s.nw, τ.av i = true) : XJ C n ⟨dst, .call { callee := .builtin .append, args := #[x, y], argTypes := #[t, t'] }, ty, pos, after, gd⟩ τ ao.s := by
  unfold aoApp at h
  split at h
  · cases h
  · rename_i ti hti
    split at h
    · rename_i e hk
      split at h
      · cases h
      · rename_i tk sz by_ zr hte
        split at h
        · rename_i zs hte
          have hl := (bif_some h).1
          replace h := (bif_some h).2
          simp only [Bool.and_eq_true] at hl
          have ett : t = t' := Nat.eq_of_beq_eq_true hl.1
          subst ett
          obtain ⟨z, h1, h2⟩ := (ht.go hte).elem rfl ((ht.go hti).sl hk) (Nat.eq_of_beq_eq_true hl.2.1) (by simpa [Nat.blt_eq] using hl.2.2.1) (Nat.le_of_ble_eq_true hl.2.2.2)
          split at h
          · rename_i i2 s2 e2
            split at h
            · rename_i T2 news hob2
              have hq := (bif_some h).1
              replace h := (bif_some h).2
              simp only [Bool.and_eq_true] at hq
              have ess := Nat.eq_of_beq_eq_true hq.1
              subst ess
              have hl3 := Nat.eq_of_beq_eq_true hq.2.1
              split at h
              · rename_i i s k e3
                split at h
                · rename_i e' cs hob
                  have hr := (bif_some h).1
                  replace h := (bif_some h).2
                  simp only [Bool.and_eq_true] at hr
                  have ee : e' = e := Nat.eq_of_beq_eq_true hr.1
                  have es := Nat.eq_of_beq_eq_true hr.2
                  subst ee es
                  cases h
                  exact xj_append1 id h1 (hx.trans e3) ((ho i (by simp)).trans hob) hφ.1 (hy.trans e2) ((ho i2 (by simp)).trans hob2) hl3 hq.2.2 hφ.2 (hn id (by simp))
                · cases h
              · rename_i i s k e3
                split at h
                · rename_i e' cs hob
                  have hr := (bif_some h).1
                  replace h := (bif_some h).2
                  simp only [Bool.and_eq_true] at hr
                  have ee : e' = e := Nat.eq_of_beq_eq_true hr.1
                  have es := Nat.eq_of_beq_eq_true hr.2
                  subst ee es
                  cases h
                  exact xj_appendG1 id h1 (hx.trans e3) ((ho i (by simp)).trans hob) hφ.1 (hy.trans e2) ((ho i2 (by simp)).trans hob2) hl3 hq.2.2 hφ.2 (hn id (by simp))
                · cases h
              · rename_i e3
                cases h
                exact xj_append01 id h1 (hx.trans e3) (hy.trans e2) ((ho i2 (by simp)).trans hob2) hl3 hq.2.2 (hn id (by simp))
              · cases h
            · cases h
          · cases h
        · cases h
    · cases h
theorem aoSlice_ok (ht : tt.Ok C.P) {T : TypeId} {lo hi : Option Operand} (h : aoSlice tt ev T x lo hi = some ao) (hφ : ao.φ) (hx : τ.ev n x = ev x) (hlo : ∀ y, lo = some y → τ.ev n y = ev y) (hhi : ∀ y, hi = some y → τ.ev n y = ev y) : XJ C n ⟨dst, .slice T x lo hi none, ty, pos, after, gd⟩ τ ao.s := by
  unfold aoSlice at h
  split at h
  · cases h
  · rename_i ti hti
    have hg := ht.go hti
    split at h
    · rename_i z hk e
      have hx := hx.trans e
      split at h
      · rename_i y
        split at h
        · rename_i k2 hh e2
          cases h
          exact xj_sliceS (kl := .i64) (il := 0) none (some y) 0 hh (hg.str hk) hx (by simp) (fun _ => rfl) (by rintro _ ⟨⟩; exact ⟨(hhi y rfl).trans e2, rfl⟩) (by simp) (Nat.zero_le _) hφ
        · cases h
      · rename_i y
        split at h
        · rename_i k2 l e2
          cases h
          exact xj_sliceS (kh := .i64) (ih := 0) (some y) none l z.size (hg.str hk) hx (by rintro _ ⟨⟩; exact ⟨(hlo y rfl).trans e2, rfl⟩) (by simp) (by simp) (fun _ => rfl) hφ (Nat.le_refl _)
        · cases h
      · rename_i y y'
        split at h
        · rename_i k2 l k3 hh e2 e3
          cases h
          exact xj_sliceS (some y) (some y') l hh (hg.str hk) hx (by rintro _ ⟨⟩; exact ⟨(hlo y rfl).trans e2, rfl⟩) (by simp) (by rintro _ ⟨⟩; exact ⟨(hhi y' rfl).trans e3, rfl⟩) (by simp) hφ.1 hφ.2
        · cases h
      · cases h
    · rename_i el b k cs hk e
      have hx := hx.trans e
      split at h
      · cases h
      · rename_i tk sz by_ zr hte
        split at h
        · rename_i y
          split at h
          · rename_i k2 hh e2
            cases h
            exact xj_sliceTo hh (hg.sl hk) (ht.go hte).size hx ((hhi y rfl).trans e2) rfl hφ.1 hφ.2
          · cases h
        · rename_i y
          split at h
          · rename_i k2 l e2
            cases h
            exact xj_sliceFrom l (hg.sl hk) (ht.go hte).size hx ((hlo y rfl).trans e2) rfl hφ.1 hφ.2
          · cases h
        · cases h
    · cases h
theorem aoCall_ok (ht : tt.Ok C.P) {c : Call} (h : aoCall tt ev ob id c = some ao) (hφ : ao.φ) (hx : ∀ x ∈ c.args.toList, τ.ev n x = ev x) (ho : ∀ i ∈ ao.rd, τ.ob i = ob i) (hn : ∀ i ∈ ao.s.nw, τ.av i = true) : XJ C n ⟨dst, .call c, ty, pos, after, gd⟩ τ ao.s := by
  obtain ⟨callee, args, ats⟩ := c
  obtain ⟨args⟩ := args
  obtain ⟨ats⟩ := ats
  unfold aoCall at h
  split at h
  · rename_i x t e1 e2 e3
    simp only at e1 e2 e3
    subst e1 e2 e3
    exact aoLen_ok ht h (hx x (by simp)) ho
  · rename_i x y t t' e1 e2 e3
    simp only at e1 e2 e3
    subst e1 e2 e3
    exact aoApp_ok ht h hφ (hx x (by simp)) (hx y (by simp)) ho hn
  · rename_i x y t t' e1 e2 e3
    simp only at e1 e2 e3
    subst e1 e2 e3
    split at h
    · rename_i k i k' j e1 e2
      obtain ⟨hk, h⟩ := bif_some h
      cases h
      have := kEq_eq hk
      subst this
      exact xj_max ((hx x (by simp)).trans e1) ((hx y (by simp)).trans e2)
    · cases h
  · rename_i x y t t' e1 e2 e3
    simp only at e1 e2 e3
    subst e1 e2 e3
    split at h
    · rename_i k i k' j e1 e2
      obtain ⟨hk, h⟩ := bif_some h
      cases h
      have := kEq_eq hk
      subst this
      exact xj_min ((hx x (by simp)).trans e1) ((hx y (by simp)).trans e2)
    · cases h
  · cases h
theorem auto_ok (ht : tt.Ok C.P) {op : Op} (h : auto tt ev ob id dst op = some ao) (hφ : ao.φ) (hx : ∀ x ∈ op.operands.toList, τ.ev n x = ev x) (ho : ∀ i ∈ ao.rd, τ.ob i = ob i) (hn : ∀ i ∈ ao.s.nw, τ.av i = true) : XJ C n ⟨dst, op, ty, pos, after, gd⟩ τ ao.s := by
  cases op <;> simp only [auto, reduceCtorEq] at h
  case move x => rw [hdV_eq] at h; cases h; exact xj_moveE (hx x (by simp [Op.operands]))
  case assign x => rw [hdV_eq] at h; cases h; exact xj_assignE (hx x (by simp [Op.operands]))
  case pick c x y =>
    split at h
    · rename_i b e
      cases h
      have := xj_pick (C := C) (n := n) (σ := τ) (dst := dst) (ty := ty) (pos := pos) (after := after) (gd := gd) (x := x) (y := y) ((hx c (by simp [Op.operands])).trans e)
      rw [hx x (by simp [Op.operands]), hx y (by simp [Op.operands])] at this
      exact this
    · cases h
  case binOp op t x y t' => exact aoBin_ok ht h hφ (hx x (by simp [Op.operands])) (hx y (by simp [Op.operands]))
  case unOp op t x => exact aoUn_ok h hφ (hx x (by simp [Op.operands]))
  case convert src d x => exact aoConv_ok ht h hφ (hx x (by simp [Op.operands]))
  case extract x i => exact aoExt_ok h (hx x (by simp [Op.operands]))
  case box T x => exact aoBox_ok h (hx x (by simp [Op.operands])) ho hn
  case alloc T => exact aoAlloc_ok ht h hn
  case nilCheck x => exact aoNil_ok h (hx x (by simp [Op.operands])) ho
  case load T x => exact aoLoad_ok ht h (hx x (by simp [Op.operands])) ho
  case store T x y => exact aoStore_ok ht h hφ (hx x (by simp [Op.operands])) (hx y (by simp [Op.operands])) ho
  case fieldAddr s x j => exact aoField_ok ht h (hx x (by simp [Op.operands])) ho
  case indexAddr T x y => exact aoIndex_ok ht h hφ (hx x (by simp [Op.operands])) (hx y (by simp [Op.operands])) ho
  case makeSlice T x y => exact aoMake_ok ht h hφ (hx x (by simp [Op.operands])) hn
  case buildSlice T k ps => exact aoBuildS_ok ht h (fun p hp => hx p.2 (by simp only [Op.operands]; exact List.mem_map.2 ⟨p, hp, rfl⟩)) ho hn
  case build T ps => exact aoBuild_ok ht h (fun p hp => hx p.2 (by simp only [Op.operands]; exact List.mem_map.2 ⟨p, hp, rfl⟩)) ho
  case slice T x lo hi mx =>
    cases mx with
    | some _ => simp at h
    | none =>
      simp only at h
      refine aoSlice_ok ht h hφ (hx x (by simp [Op.operands])) (fun y hy => hx y ?_) (fun y hy => hx y ?_) <;> subst hy <;> simp [Op.operands]
  case makeFunc f fs cs =>
    rw [hdL_eq, hdL_eq] at h
    cases h
    have e1 : fs.toList.map (τ.ev n) = fs.toList.map ev := List.map_congr_left fun x hm => hx x (by simp [Op.operands] at hm ⊢; exact .inl hm)
    have e2 : cs.toList.map (τ.ev n) = cs.toList.map ev := List.map_congr_left fun x hm => hx x (by simp [Op.operands] at hm ⊢; exact .inr hm)
    show XJ _ _ _ _ ⟨.fn f (fs.toList.map ev) (cs.toList.map ev), [], []⟩
    rw [← e1, ← e2]
    exact xj_makeFunc
  case call c => exact aoCall_ok ht h hφ (fun x hm => hx x (by simp [Op.operands, Call.operands]; exact .inr (by simpa using hm))) ho hn
end
/-! The step in a region. -/
/-- The first free number, written out. -/
def freeK {α : Type} (av : Av) (z : α) (f : Nat → α) : List Nat → α
  | [] => z
  | i :: l => bif av i then f i else freeK av z f l
theorem freeK_some {α : Type} {av : Av} {f : Nat → Option α} {x : α} : ∀ {l : List Nat}, freeK av none f l = some x → ∃ i, f i = some x
  | [], h => by cases h
  | i :: l, h => by
    simp only [freeK] at h
    cases hb : av i with
    | true => rw [hb] at h; exact ⟨i, h⟩
    | false => rw [hb] at h; exact freeK_some h
def newsB : Op → Bool
  | .box _ _ | .alloc _ | .makeSlice _ _ _ | .buildSlice _ _ _ => true
  | .call c => match c.callee with | .builtin .append => true | _ => false
  | _ => false
def guardA (ops : Array Oper) (n : Nat) (σ : St) (o : Oper) : Option Bool :=
  match o.guard with
  | none => some true
  | some (j, want) => match σ.ev n (.tmp (((ops[j]?).bind (·.dst)).getD n)) with
    | .pv (.bool true) => some want
    | .pv (.bool false) => some (!want)
    | .pv (.tup []) => some false
    | _ => none
/-- What an operand holds; constants are written out. -/
def evK (n : Nat) (σ : St) : Operand → V
  | .const (.int k i) => .pv (.int k i)
  | .const (.bool b) => .pv (.bool b)
  | .const (.string s) => .pv (.str s)
  | .const (.slice none 0 0) => .pv (.sl (some true) 0 [])
  | .const (.pointer none) => .pv .nilptr
  | .const (.map none) => .pv .nilmap
  | .const .nilFunc => .pv .nilfn
  | .const .nilIface => .pv .niliface
  | x => σ.ev n x
theorem evK_eq (n : Nat) (σ : St) : evK n σ = σ.ev n := by
  funext x
  unfold evK
  split <;> rfl
/-- The step: the slot, what is left, what is looked at, the conditions. -/
def stepA (tt : TT) (ops : Array Oper) (n : Nat) (σ : St) (o : Oper) : Option (Option Tmp × AO) :=
  match guardA ops n σ o with
  | some true => match (bif newsB o.op then freeK σ.av none (fun id => auto tt (evK n σ) σ.ob id o.dst o.op) [0, 1, 2, 3, 4, 5, 6, 7, 8, 9, 10, 11, 12, 13, 14, 15, 16, 17, 18, 19, 20, 21, 22, 23, 24, 25, 26, 27, 28, 29, 30, 31, 32, 33, 34, 35, 36, 37, 38, 39, 40, 41, 42, 43, 44, 45, 46, 47, 48, 49] else auto tt (evK n σ) σ.ob 0 o.dst o.op) with
    | some ⟨s, rd, φ⟩ => bif s.nw.all σ.av then some (o.dst, ⟨s, rd, φ⟩) else none
    | none => none
  | some false => some (o.dst, ⟨⟨und, [], []⟩, [], True⟩)
  | none => none
section
variable {C : Ctx} {n : Nat} {σ : St} {ops : Array Oper} {o : Oper} {os : List Oper} {K : St → Prop} {tt : TT} {d : Option Tmp} {s : OS} {rd : List Nat} {φ : Prop}
theorem pick_some {ev : Operand → V} {ob : Nat → Option Ob} {dst : Option Tmp} {op : Op} {av : Av} {l : List Nat} {ao : AO} (h : (bif newsB op then freeK av none (fun id => auto tt ev ob id dst op) l else auto tt ev ob 0 dst op) = some ao) : ∃ id, auto tt ev ob id dst op = some ao := by
  cases hb : newsB op with
  | true => rw [hb] at h; exact freeK_some h
  | false => rw [hb] at h; exact ⟨0, h⟩
theorem guardA_some {b : Bool} (h : guardA ops n σ o = some b) : (o.guard = none ∧ b = true) ∨ ∃ j want v, o.guard = some (j, want) ∧ (σ.ev n (.tmp (((ops[j]?).bind (·.dst)).getD n))).gd = some v ∧ (v = some want ↔ b = true) := by
  unfold guardA at h
  split at h
  · rename_i e; cases h; exact .inl ⟨e, rfl⟩
  · rename_i j want e
    refine .inr ⟨j, want, ?_⟩
    split at h
    · rename_i e2; cases h; exact ⟨some true, e, V.gd_bool e2, by cases b <;> simp⟩
    · rename_i e2; cases h; exact ⟨some false, e, V.gd_bool e2, by cases want <;> simp⟩
    · rename_i e2; cases h; exact ⟨none, e, by rw [e2]; rfl, by simp⟩
    · cases h
theorem RL.auto (ht : tt.Ok C.P) (h : stepA tt ops n σ o = some (d, ⟨s, rd, φ⟩)) (k : RL C n ops os K (σ.app d s)) (hφ : φ) : RL C n ops (o :: os) K σ := by
  obtain ⟨dst, op, ty, pos, after, gd⟩ := o
  unfold stepA at h
  split at h
  · rename_i hg
    split at h
    · rename_i s' rd' φ' hao
      obtain ⟨id, hao⟩ := pick_some hao
      rw [evK_eq] at hao
      obtain ⟨hn, h⟩ := bif_some h
      cases h
      have hx : XJ C n ⟨dst, op, ty, pos, after, gd⟩ σ s := auto_ok ht hao hφ (fun _ _ => rfl) (fun _ _ => rfl) (fun i hi => List.all_eq_true.1 hn i hi)
      rcases guardA_some hg with ⟨e, _⟩ | ⟨j, want, v, e, hv, hb⟩
      · exact RL.step e rfl hx k
      · simp only at e
        subst e
        simp only [RL]
        exact ⟨v, fun a w ⟨m, R, hw⟩ => yielded_of hw hv, fun _ => hx.mono fun _ e => e ▸ k, fun e => absurd (hb.2 rfl) e⟩
    · cases h
  · rename_i hg
    cases h
    rcases guardA_some hg with ⟨_, e⟩ | ⟨j, want, v, e, hv, hb⟩
    · cases e
    · simp only at e
      subst e
      simp only [RL]
      refine ⟨v, fun a w ⟨m, R, hw⟩ => yielded_of hw hv, (fun e => by have := hb.1 e; cases this), fun _ a w ⟨m, R, hw⟩ => ⟨_, k, m, R, ?_⟩⟩
      rw [St.app_pure]
      exact hw.put _ (und_rel _ _ _ _)
  · cases h
theorem DL.auto {cl : List (List Nat)} {i : Nat} {is : List Nat} {acc : List It} (ht : tt.Ok C.P) (ho : ops[i]? = some o) (h : stepA tt ops n σ o = some (d, ⟨s, rd, φ⟩)) (k : DL C n ops cl is (⟨i, o, s, s.wr.map (·.1), s.nw, rd⟩ :: acc) K (σ.app d s)) (hφ : φ) (hc : newOk ops n cl ⟨i, o, s, s.wr.map (·.1), s.nw, rd⟩ acc = true) : DL C n ops cl (i :: is) acc K σ := by
  obtain ⟨dst, op, ty, pos, after, gd⟩ := o
  unfold stepA at h
  split at h
  · rename_i hg
    split at h
    · rename_i s' rd' φ' hao
      obtain ⟨id, hao⟩ := pick_some hao
      rw [evK_eq] at hao
      obtain ⟨hn, h⟩ := bif_some h
      cases h
      have hx : ∀ τ, Agr n ops ⟨dst, op, ty, pos, after, gd⟩ σ τ s rd → XJ C n ⟨dst, op, ty, pos, after, gd⟩ τ s := fun τ ha => auto_ok ht hao hφ (fun x hm => by
        obtain ⟨q, hq⟩ := List.getElem?_of_mem hm
        exact ha.e q x hq) (fun i hi => by
        obtain ⟨q, hq⟩ := List.getElem?_of_mem hi
        exact ha.o q i hq) (fun i hi => by
        obtain ⟨q, hq⟩ := List.getElem?_of_mem hi
        exact ha.n q i hq)
      rcases guardA_some hg with ⟨e, _⟩ | ⟨j, want, v, e, hv, hb⟩
      · exact DL.step rd ho e rfl hx hn hc k
      · simp only at e
        subst e
        refine ⟨_, ho, .inl ⟨s, rd, fun τ ha => ?_, hn, hc, k⟩⟩
        simp only
        exact ⟨v, by rw [ha.g _ (by simp only [gslot])]; exact hv, fun _ => hx τ ha, fun e => absurd (hb.2 rfl) e⟩
    · cases h
  · rename_i hg
    cases h
    rcases guardA_some hg with ⟨_, e⟩ | ⟨j, want, v, e, hv, hb⟩
    · cases e
    · simp only at e
      subst e
      refine ⟨_, ho, .inl ⟨⟨und, [], []⟩, [], fun τ ha => ?_, rfl, hc, k⟩⟩
      simp only
      exact ⟨v, by rw [ha.g _ (by simp only [gslot])]; exact hv, (fun e => by have := hb.1 e; cases this), fun _ => trivial⟩
  · cases h
/-- A cell, or the cells of a struct, of a list that isn't written out. -/
def loadS (tt : TT) (ops : Array Oper) (n : Nat) (σ : St) (o : Oper) : Option (Option Tmp × List PV × Nat × List Nat) :=
  match guardA ops n σ o, o.op with
  | some true, .load T x => match tt.get T with
    | some ti => bif ti.k.row then none else match σ.ev n x with
      | .pv (.rp cs off) => some (o.dst, cs, off, [])
      | .ptr i off => match σ.ob i with
        | some (.cells _ cs) => some (o.dst, cs, off, [i])
        | _ => none
      | _ => none
    | none => none
  | _, _ => none
def loadR (tt : TT) (ops : Array Oper) (n : Nat) (σ : St) (o : Oper) : Option (Option Tmp × List PV × Nat × Nat × List Nat) :=
  match guardA ops n σ o, o.op with
  | some true, .load T x => match tt.get T with
    | some ⟨k, sz, _, _⟩ => bif k.row then match σ.ev n x with
      | .pv (.rp cs off) => some (o.dst, cs, off, sz, [])
      | .ptr i off => match σ.ob i with
        | some (.cells _ cs) => some (o.dst, cs, off, sz, [i])
        | _ => none
      | _ => none
      else none
    | none => none
  | _, _ => none
theorem RL.with {v : V} (hg : guardA ops n σ o = some true) (hd : o.dst = d) (hx : XJ C n o σ ⟨v, [], []⟩) (k : RL C n ops os K (σ.app d ⟨v, [], []⟩)) : RL C n ops (o :: os) K σ := by
  subst hd
  rcases guardA_some hg with ⟨e, _⟩ | ⟨j, want, w, e, hv, hb⟩
  · exact RL.step e rfl hx k
  · simp only [RL, e]
    exact ⟨w, fun a w ⟨m, R, hw⟩ => yielded_of hw hv, fun _ => hx.mono fun _ e => e ▸ k, fun e => absurd (hb.2 rfl) e⟩
theorem DL.with {v : V} {cl : List (List Nat)} {i : Nat} {is : List Nat} {acc : List It} (rd : List Nat) (ho : ops[i]? = some o) (hg : guardA ops n σ o = some true) (hd : o.dst = d) (hx : ∀ τ, Agr n ops o σ τ ⟨v, [], []⟩ rd → XJ C n o τ ⟨v, [], []⟩)
    (k : DL C n ops cl is (⟨i, o, ⟨v, [], []⟩, [], [], rd⟩ :: acc) K (σ.app d ⟨v, [], []⟩)) (hc : newOk ops n cl ⟨i, o, ⟨v, [], []⟩, [], [], rd⟩ acc = true) : DL C n ops cl (i :: is) acc K σ := by
  subst hd
  rcases guardA_some hg with ⟨e, _⟩ | ⟨j, want, w, e, hv, hb⟩
  · exact DL.step rd ho e rfl hx rfl hc k
  · refine ⟨_, ho, .inl ⟨⟨v, [], []⟩, rd, fun τ ha => ?_, rfl, hc, k⟩⟩
    simp only [e]
    exact ⟨w, by rw [ha.g _ (by simp only [gslot, e])]; exact hv, fun _ => hx τ ha, fun e => absurd (hb.2 rfl) e⟩
variable {cs : List PV} {off sz : Nat} {p : PV} {vs : List PV}
theorem loadS_some (ht : tt.Ok C.P) (h : loadS tt ops n σ o = some (d, cs, off, rd)) (hv : cs[off]? = some p) : guardA ops n σ o = some true ∧ o.dst = d ∧ ∀ τ, (∀ x ∈ o.op.operands.toList, τ.ev n x = σ.ev n x) → (∀ i ∈ rd, τ.ob i = σ.ob i) → XJ C n o τ ⟨.pv p, [], []⟩ := by
  obtain ⟨dst, op, ty, pos, after, gd⟩ := o
  unfold loadS at h
  split at h
  · rename_i T x hg hop
    simp only at hop
    subst hop
    split at h
    · rename_i ti hti
      cases hr : ti.k.row with
      | true => rw [hr] at h; cases h
      | false =>
        rw [hr] at h
        simp only [cond_false] at h
        split at h
        · rename_i e
          cases h
          exact ⟨hg, rfl, fun τ he _ => xj_loadR ((ht.go hti).notRow hr) ((he x (by simp [Op.operands])).trans e) hv⟩
        · rename_i e
          split at h
          · rename_i e2
            cases h
            exact ⟨hg, rfl, fun τ he ho => xj_load1P ((ht.go hti).notRow hr) ((he x (by simp [Op.operands])).trans e) ((ho _ (by simp)).trans e2) hv⟩
          · cases h
        · cases h
    · cases h
  · cases h
theorem loadR_some (ht : tt.Ok C.P) (h : loadR tt ops n σ o = some (d, cs, off, sz, rd)) (hv : (cs.drop off).take sz = vs) (hl : vs.length = sz) : guardA ops n σ o = some true ∧ o.dst = d ∧ ∀ τ, (∀ x ∈ o.op.operands.toList, τ.ev n x = σ.ev n x) → (∀ i ∈ rd, τ.ob i = σ.ob i) → XJ C n o τ ⟨.pv (.agg vs), [], []⟩ := by
  obtain ⟨dst, op, ty, pos, after, gd⟩ := o
  unfold loadR at h
  split at h
  · rename_i T x hg hop
    simp only at hop
    subst hop
    split at h
    · rename_i k sz' by_ zr hti
      cases hr : k.row with
      | false => rw [hr] at h; cases h
      | true =>
        rw [hr] at h
        simp only [cond_true] at h
        split at h
        · rename_i e
          cases h
          exact ⟨hg, rfl, fun τ he _ => xj_loadAR ((ht.go hti).isRow hr) (ht.go hti).size ((he x (by simp [Op.operands])).trans e) hv hl⟩
        · rename_i e
          split at h
          · rename_i e2
            cases h
            exact ⟨hg, rfl, fun τ he ho => xj_loadAP ((ht.go hti).isRow hr) (ht.go hti).size ((he x (by simp [Op.operands])).trans e) ((ho _ (by simp)).trans e2) hv hl⟩
          · cases h
        · cases h
    · cases h
  · cases h
theorem agr_e {o : Oper} {τ : St} {s : OS} {rd : List Nat} (h : Agr n ops o σ τ s rd) : ∀ x ∈ o.op.operands.toList, τ.ev n x = σ.ev n x := fun x hm => by
  obtain ⟨q, hq⟩ := List.getElem?_of_mem hm
  exact h.e q x hq
theorem agr_o {o : Oper} {τ : St} {s : OS} {rd : List Nat} (h : Agr n ops o σ τ s rd) : ∀ i ∈ rd, τ.ob i = σ.ob i := fun i hm => by
  obtain ⟨q, hq⟩ := List.getElem?_of_mem hm
  exact h.o q i hq
end
end Go.Proofs.YtopjkdddicgajaaGreatDoor
namespace Go.Proofs.YtopjkdddicgajaaGreatDoor
open Go.RowKit
theorem follows : Tryz.prog.follows .mixedOrders = true := by kernel_rfl
theorem sz3 : szIs Tryz.prog 3 1 := by unfold szIs; kernel_rfl
theorem sz5 : szIs Tryz.prog 5 1 := by unfold szIs; kernel_rfl
theorem sz9 : szIs Tryz.prog 9 1 := by unfold szIs; kernel_rfl
theorem el22 : ElemIs Tryz.prog 22 3 (.int .i64 0) 1 8 := ⟨by kernel_rfl, by kernel_rfl, rfl, by decide, by decide⟩
theorem el28 : ElemIs Tryz.prog 28 70 (.agg #[(.int .i64 0), (.string ⟨#[]⟩), (.string ⟨#[]⟩)]) 3 40 := ⟨by kernel_rfl, by kernel_rfl, rfl, by decide, by decide⟩
theorem el29 : ElemIs Tryz.prog 29 72 (.agg #[(.int .i64 0), (.string ⟨#[]⟩), (.int .i64 0), (.string ⟨#[]⟩), (.string ⟨#[]⟩)]) 5 64 := ⟨by kernel_rfl, by kernel_rfl, rfl, by decide, by decide⟩
theorem sz31 : szIs Tryz.prog 31 3 := by unfold szIs; kernel_rfl
theorem sz33 : szIs Tryz.prog 33 5 := by unfold szIs; kernel_rfl
theorem el39 : ElemIs Tryz.prog 39 33 (.agg #[(.int .i64 0), (.int .i64 0), (.string ⟨#[]⟩), (.slice none 0 0), (.slice none 0 0)]) 5 80 := ⟨by kernel_rfl, by kernel_rfl, rfl, by decide, by decide⟩
theorem sz54 : szIs Tryz.prog 54 1 := by unfold szIs; kernel_rfl
theorem el56 : ElemIs Tryz.prog 56 5 (.int .u8 0) 1 1 := ⟨by kernel_rfl, by kernel_rfl, rfl, by decide, by decide⟩
theorem sz66 : szIs Tryz.prog 66 2 := by unfold szIs; kernel_rfl
theorem el67 : ElemIs Tryz.prog 67 66 (.agg #[(.int .i64 0), (.string ⟨#[]⟩)]) 2 24 := ⟨by kernel_rfl, by kernel_rfl, rfl, by decide, by decide⟩
theorem sz70 : szIs Tryz.prog 70 3 := by unfold szIs; kernel_rfl
theorem sz72 : szIs Tryz.prog 72 5 := by unfold szIs; kernel_rfl
theorem el74 : ElemIs Tryz.prog 74 9 (.string ⟨#[]⟩) 1 16 := ⟨by kernel_rfl, by kernel_rfl, rfl, by decide, by decide⟩
theorem sz105 : szIs Tryz.prog 105 2 := by unfold szIs; kernel_rfl
theorem sz107 : szIs Tryz.prog 107 4 := by unfold szIs; kernel_rfl
theorem el117 : ElemIs Tryz.prog 117 54 (.int .u64 0) 1 8 := ⟨by kernel_rfl, by kernel_rfl, rfl, by decide, by decide⟩
theorem sz119 : szIs Tryz.prog 119 2 := by unfold szIs; kernel_rfl
end Go.Proofs.YtopjkdddicgajaaGreatDoor
namespace Go.Proofs.YtopjkdddicgajaaGreatDoor
open Go.RowKit
set_option maxRecDepth 100000
def tb : TT :=
  .node 110 ⟨.other, 1, 8, some [.nilfn]⟩ (.node 55 ⟨.other, 1, 8, some [.nilfn]⟩ (.node 27 ⟨.str, 1, 16, some [(.str ⟨#[]⟩)]⟩ (.node 14 ⟨(.st [(0, 1), (1, 1)]), 2, 24, some [(.str ⟨#[]⟩), (.int .u64 0)]⟩ (.node 7 ⟨(.st [(0, 1), (1, 1), (2, 1), (3, 1)]), 4, 24, some [(.int .i64 0), (.int .i64 0), (.bool false), (.int .u8 0)]⟩ (.node 4 ⟨.bool, 1, 1, some [(.bool false)]⟩ (.node 2 ⟨(.int .i64), 1, 8, some [(.int .i64 0)]⟩ (.node 1 ⟨.other, 1, 8, some [.nilfn]⟩ .nil .nil)
  (.node 3 ⟨(.int .i64), 1, 8, some [(.int .i64 0)]⟩ .nil .nil))
  (.node 6 ⟨(.int .u8), 1, 1, some [(.int .u8 0)]⟩ (.node 5 ⟨(.int .u8), 1, 1, some [(.int .u8 0)]⟩ .nil .nil) .nil))
  (.node 11 ⟨.str, 1, 16, some [(.str ⟨#[]⟩)]⟩ (.node 9 ⟨.str, 1, 16, some [(.str ⟨#[]⟩)]⟩ (.node 8 ⟨(.st [(0, 1), (1, 1), (2, 1), (3, 1)]), 4, 24, some [(.int .i64 0), (.int .i64 0), (.bool false), (.int .u8 0)]⟩ .nil .nil)
  (.node 10 ⟨.str, 1, 16, some [(.str ⟨#[]⟩)]⟩ .nil .nil))
  (.node 13 ⟨(.st [(0, 1), (1, 1)]), 2, 24, some [(.str ⟨#[]⟩), (.int .u64 0)]⟩ (.node 12 ⟨(.int .u64), 1, 8, some [(.int .u64 0)]⟩ .nil .nil) .nil)))
  (.node 21 ⟨(.int .i32), 1, 4, some [(.int .i32 0)]⟩ (.node 18 ⟨(.st [(0, 1)]), 1, 8, some [.nilptr]⟩ (.node 16 ⟨.other, 1, 8, some [.nilptr]⟩ (.node 15 ⟨.other, 1, 8, some [.nilptr]⟩ .nil .nil)
  (.node 17 ⟨.other, 1, 8, some [.nilptr]⟩ .nil .nil))
  (.node 20 ⟨.other, 1, 16, some [.niliface]⟩ (.node 19 ⟨(.st [(0, 1)]), 1, 8, some [.nilptr]⟩ .nil .nil) .nil))
  (.node 24 ⟨.other, 1, 8, some [.nilfn]⟩ (.node 23 ⟨.other, 1, 8, some [.nilfn]⟩ (.node 22 ⟨(.sl 3), 1, 24, some [(.sl (some true) 0 [])]⟩ .nil .nil) .nil)
  (.node 26 ⟨.other, 1, 8, some [.nilfn]⟩ (.node 25 ⟨.other, 1, 8, some [.nilptr]⟩ .nil .nil) .nil))))
  (.node 42 ⟨.other, 1, 8, some [.nilfn]⟩ (.node 34 ⟨.other, 1, 8, some [.nilfn]⟩ (.node 31 ⟨(.st [(0, 1), (1, 1), (2, 1)]), 3, 64, some [(.str ⟨#[]⟩), (.sl (some true) 0 []), (.sl (some true) 0 [])]⟩ (.node 29 ⟨(.sl 72), 1, 24, some [(.sl (some true) 0 [])]⟩ (.node 28 ⟨(.sl 70), 1, 24, some [(.sl (some true) 0 [])]⟩ .nil .nil)
  (.node 30 ⟨(.st [(0, 1), (1, 1), (2, 1)]), 3, 64, some [(.str ⟨#[]⟩), (.sl (some true) 0 []), (.sl (some true) 0 [])]⟩ .nil .nil))
  (.node 33 ⟨(.st [(0, 1), (1, 1), (2, 3)]), 5, 80, some [(.int .i64 0), (.int .i64 0), (.str ⟨#[]⟩), (.sl (some true) 0 []), (.sl (some true) 0 [])]⟩ (.node 32 ⟨(.st [(0, 1), (1, 1), (2, 3)]), 5, 80, some [(.int .i64 0), (.int .i64 0), (.str ⟨#[]⟩), (.sl (some true) 0 []), (.sl (some true) 0 [])]⟩ .nil .nil) .nil))
  (.node 38 ⟨.other, 1, 8, some [.nilfn]⟩ (.node 37 ⟨.other, 1, 8, some [.nilfn]⟩ (.node 35 ⟨(.int .i64), 1, 8, some [(.int .i64 0)]⟩ .nil .nil) .nil)
  (.node 40 ⟨.other, 1, 8, some [.nilfn]⟩ (.node 39 ⟨(.sl 33), 1, 24, some [(.sl (some true) 0 [])]⟩ .nil .nil) .nil)))
  (.node 49 ⟨.other, 1, 8, some [.nilfn]⟩ (.node 46 ⟨(.st [(0, 1), (1, 1)]), 2, 32, some [(.sl (some true) 0 []), (.int .i64 0)]⟩ (.node 44 ⟨.other, 1, 8, some [.nilfn]⟩ (.node 43 ⟨.other, 1, 8, some [.nilfn]⟩ .nil .nil)
  (.node 45 ⟨.other, 1, 8, some [.nilfn]⟩ .nil .nil))
  (.node 48 ⟨.other, 1, 8, some [.nilfn]⟩ (.node 47 ⟨(.st [(0, 1), (1, 1)]), 2, 32, some [(.sl (some true) 0 []), (.int .i64 0)]⟩ .nil .nil) .nil))
  (.node 52 ⟨.other, 1, 8, some [.nilfn]⟩ (.node 51 ⟨.other, 1, 8, some [.nilfn]⟩ (.node 50 ⟨.other, 1, 8, some [.nilfn]⟩ .nil .nil) .nil)
  (.node 54 ⟨(.int .u64), 1, 8, some [(.int .u64 0)]⟩ (.node 53 ⟨.other, 1, 8, some [.nilfn]⟩ .nil .nil) .nil)))))
  (.node 83 ⟨.other, 1, 8, some [.nilfn]⟩ (.node 70 ⟨(.st [(0, 2), (2, 1)]), 3, 40, some [(.int .i64 0), (.str ⟨#[]⟩), (.str ⟨#[]⟩)]⟩ (.node 63 ⟨.other, 1, 8, some [.nilfn]⟩ (.node 59 ⟨.other, 1, 8, some [.nilfn]⟩ (.node 57 ⟨.other, 1, 8, some [.nilfn]⟩ (.node 56 ⟨(.sl 5), 1, 24, some [(.sl (some true) 0 [])]⟩ .nil .nil)
  (.node 58 ⟨.other, 1, 8, some [.nilfn]⟩ .nil .nil))
  (.node 62 ⟨.other, 1, 8, some [.nilfn]⟩ (.node 60 ⟨.other, 1, 8, some [.nilfn]⟩ .nil .nil) .nil))
  (.node 67 ⟨(.sl 66), 1, 24, some [(.sl (some true) 0 [])]⟩ (.node 65 ⟨(.st [(0, 1), (1, 1)]), 2, 24, some [(.int .i64 0), (.str ⟨#[]⟩)]⟩ (.node 64 ⟨.other, 1, 8, some [.nilfn]⟩ .nil .nil)
  (.node 66 ⟨(.st [(0, 1), (1, 1)]), 2, 24, some [(.int .i64 0), (.str ⟨#[]⟩)]⟩ .nil .nil))
  (.node 69 ⟨(.st [(0, 2), (2, 1)]), 3, 40, some [(.int .i64 0), (.str ⟨#[]⟩), (.str ⟨#[]⟩)]⟩ (.node 68 ⟨.other, 1, 8, some [.nilfn]⟩ .nil .nil) .nil)))
  (.node 77 ⟨.other, 1, 8, some [.nilfn]⟩ (.node 74 ⟨(.sl 9), 1, 24, some [(.sl (some true) 0 [])]⟩ (.node 72 ⟨(.st [(0, 2), (2, 2), (4, 1)]), 5, 64, some [(.int .i64 0), (.str ⟨#[]⟩), (.int .i64 0), (.str ⟨#[]⟩), (.str ⟨#[]⟩)]⟩ (.node 71 ⟨(.st [(0, 2), (2, 2), (4, 1)]), 5, 64, some [(.int .i64 0), (.str ⟨#[]⟩), (.int .i64 0), (.str ⟨#[]⟩), (.str ⟨#[]⟩)]⟩ .nil .nil)
  (.node 73 ⟨.other, 1, 8, some [.nilfn]⟩ .nil .nil))
  (.node 76 ⟨.other, 1, 8, some [.nilfn]⟩ (.node 75 ⟨.other, 1, 8, some [.nilfn]⟩ .nil .nil) .nil))
  (.node 80 ⟨.other, 1, 8, some [.nilfn]⟩ (.node 79 ⟨.other, 1, 8, some [.nilfn]⟩ (.node 78 ⟨.other, 1, 8, some [.nilfn]⟩ .nil .nil) .nil)
  (.node 82 ⟨.other, 1, 8, some [.nilfn]⟩ (.node 81 ⟨.other, 1, 8, some [.nilfn]⟩ .nil .nil) .nil))))
  (.node 96 ⟨(.st [(0, 1), (1, 1)]), 2, 32, some [(.sl (some true) 0 []), (.bool false)]⟩ (.node 90 ⟨.other, 1, 8, some [.nilfn]⟩ (.node 87 ⟨(.st [(0, 1)]), 1, 24, some [(.sl (some true) 0 [])]⟩ (.node 85 ⟨.other, 1, 8, some [.nilfn]⟩ (.node 84 ⟨.other, 1, 8, some [.nilfn]⟩ .nil .nil)
  (.node 86 ⟨(.st [(0, 1)]), 1, 24, some [(.sl (some true) 0 [])]⟩ .nil .nil))
  (.node 89 ⟨.other, 1, 8, some [.nilfn]⟩ (.node 88 ⟨.other, 1, 8, some [.nilfn]⟩ .nil .nil) .nil))
  (.node 93 ⟨.other, 1, 8, some [.nilfn]⟩ (.node 92 ⟨.other, 1, 8, some [.nilfn]⟩ (.node 91 ⟨.other, 1, 8, some [.nilfn]⟩ .nil .nil) .nil)
  (.node 95 ⟨.other, 1, 8, some [.nilfn]⟩ (.node 94 ⟨.other, 1, 8, some [.nilfn]⟩ .nil .nil) .nil)))
  (.node 104 ⟨(.st [(0, 1), (1, 1)]), 2, 32, some [(.bool false), (.sl (some true) 0 [])]⟩ (.node 100 ⟨.other, 1, 8, some [.nilfn]⟩ (.node 98 ⟨.other, 1, 8, some [.nilfn]⟩ (.node 97 ⟨(.st [(0, 1), (1, 1)]), 2, 32, some [(.sl (some true) 0 []), (.bool false)]⟩ .nil .nil)
  (.node 99 ⟨.other, 1, 8, some [.nilfn]⟩ .nil .nil))
  (.node 102 ⟨.other, 1, 8, some [.nilfn]⟩ (.node 101 ⟨.other, 1, 8, some [.nilfn]⟩ .nil .nil) .nil))
  (.node 107 ⟨(.st [(0, 2), (2, 2)]), 4, 64, some [(.bool false), (.sl (some true) 0 []), (.bool false), (.sl (some true) 0 [])]⟩ (.node 106 ⟨(.st [(0, 2), (2, 2)]), 4, 64, some [(.bool false), (.sl (some true) 0 []), (.bool false), (.sl (some true) 0 [])]⟩ (.node 105 ⟨(.st [(0, 1), (1, 1)]), 2, 32, some [(.bool false), (.sl (some true) 0 [])]⟩ .nil .nil) .nil)
  (.node 109 ⟨.other, 1, 8, some [.nilfn]⟩ (.node 108 ⟨.other, 1, 8, some [.nilfn]⟩ .nil .nil) .nil))))))
  (.node 170 ⟨.other, 1, 8, some [.nilfn]⟩ (.node 140 ⟨.other, 1, 8, some [.nilfn]⟩ (.node 125 ⟨.other, 1, 8, some [.nilfn]⟩ (.node 118 ⟨(.st [(0, 1), (1, 1)]), 2, 32, some [(.bool false), (.sl (some true) 0 [])]⟩ (.node 115 ⟨.other, 1, 8, some [.nilfn]⟩ (.node 113 ⟨.other, 1, 8, some [.nilfn]⟩ (.node 112 ⟨.other, 1, 8, some [.nilfn]⟩ .nil .nil)
  (.node 114 ⟨.str, 1, 16, some [(.str ⟨#[]⟩)]⟩ .nil .nil))
  (.node 117 ⟨(.sl 54), 1, 24, some [(.sl (some true) 0 [])]⟩ (.node 116 ⟨(.sl 54), 1, 24, some [(.sl (some true) 0 [])]⟩ .nil .nil) .nil))
  (.node 122 ⟨.other, 1, 8, some [.nilfn]⟩ (.node 120 ⟨.other, 1, 8, some [.nilfn]⟩ (.node 119 ⟨(.st [(0, 1), (1, 1)]), 2, 32, some [(.bool false), (.sl (some true) 0 [])]⟩ .nil .nil)
  (.node 121 ⟨.other, 1, 8, some [.nilfn]⟩ .nil .nil))
  (.node 124 ⟨.other, 1, 8, some [.nilfn]⟩ (.node 123 ⟨.other, 1, 8, some [.nilfn]⟩ .nil .nil) .nil)))
  (.node 132 ⟨.other, 1, 16, some [.niliface]⟩ (.node 129 ⟨(.st [(0, 1), (1, 1)]), 2, 32, some [.nilptr, (.sl (some true) 0 [])]⟩ (.node 127 ⟨.other, 1, 8, some [.nilptr]⟩ (.node 126 ⟨.other, 1, 8, some [.nilfn]⟩ .nil .nil)
  (.node 128 ⟨.other, 1, 8, some [.nilptr]⟩ .nil .nil))
  (.node 131 ⟨.other, 1, 16, some [.niliface]⟩ (.node 130 ⟨(.st [(0, 1), (1, 1)]), 2, 32, some [.nilptr, (.sl (some true) 0 [])]⟩ .nil .nil) .nil))
  (.node 136 ⟨.other, 1, 8, some [.nilfn]⟩ (.node 135 ⟨(.arr 24 5), 24, 24, some [(.int .u8 0), (.int .u8 0), (.int .u8 0), (.int .u8 0), (.int .u8 0), (.int .u8 0), (.int .u8 0), (.int .u8 0), (.int .u8 0), (.int .u8 0), (.int .u8 0), (.int .u8 0), (.int .u8 0), (.int .u8 0), (.int .u8 0), (.int .u8 0), (.int .u8 0), (.int .u8 0), (.int .u8 0), (.int .u8 0), (.int .u8 0), (.int .u8 0), (.int .u8 0), (.int .u8 0)]⟩ (.node 134 ⟨.other, 1, 8, some [.nilfn]⟩ .nil .nil) .nil)
  (.node 139 ⟨.other, 1, 8, some [.nilfn]⟩ (.node 137 ⟨.other, 1, 8, some [.nilfn]⟩ .nil .nil) .nil))))
  (.node 157 ⟨.other, 1, 8, some [.nilfn]⟩ (.node 149 ⟨.other, 1, 8, some [.nilfn]⟩ (.node 144 ⟨.other, 1, 8, some [.nilfn]⟩ (.node 142 ⟨.other, 1, 8, some [.nilfn]⟩ (.node 141 ⟨.other, 1, 8, some [.nilptr]⟩ .nil .nil)
  (.node 143 ⟨.other, 1, 8, some [.nilfn]⟩ .nil .nil))
  (.node 147 ⟨.other, 1, 8, some [.nilfn]⟩ (.node 146 ⟨.other, 1, 8, some [.nilfn]⟩ .nil .nil) .nil))
  (.node 154 ⟨.other, 1, 8, some [.nilfn]⟩ (.node 152 ⟨.other, 1, 8, some [.nilfn]⟩ (.node 150 ⟨.other, 1, 8, some [.nilfn]⟩ .nil .nil) .nil)
  (.node 156 ⟨.other, 1, 8, some [.nilfn]⟩ (.node 155 ⟨.other, 1, 8, some [.nilfn]⟩ .nil .nil) .nil)))
  (.node 164 ⟨(.arr 65 5), 65, 65, none⟩ (.node 161 ⟨.other, 1, 8, some [.nilfn]⟩ (.node 159 ⟨.other, 1, 8, some [.nilfn]⟩ (.node 158 ⟨.other, 1, 8, some [.nilfn]⟩ .nil .nil)
  (.node 160 ⟨.other, 1, 8, some [.nilptr]⟩ .nil .nil))
  (.node 163 ⟨(.int .u32), 1, 4, some [(.int .u32 0)]⟩ (.node 162 ⟨(.arr 20 54), 20, 160, some [(.int .u64 0), (.int .u64 0), (.int .u64 0), (.int .u64 0), (.int .u64 0), (.int .u64 0), (.int .u64 0), (.int .u64 0), (.int .u64 0), (.int .u64 0), (.int .u64 0), (.int .u64 0), (.int .u64 0), (.int .u64 0), (.int .u64 0), (.int .u64 0), (.int .u64 0), (.int .u64 0), (.int .u64 0), (.int .u64 0)]⟩ .nil .nil) .nil))
  (.node 167 ⟨.other, 1, 8, some [.nilfn]⟩ (.node 166 ⟨(.int .u64), 1, 8, some [(.int .u64 0)]⟩ (.node 165 ⟨.other, 1, 8, some [.nilfn]⟩ .nil .nil) .nil)
  (.node 169 ⟨.other, 1, 8, some [.nilfn]⟩ (.node 168 ⟨.other, 1, 8, some [.nilfn]⟩ .nil .nil) .nil)))))
  (.node 201 ⟨.other, 1, 8, some [.nilfn]⟩ (.node 185 ⟨.other, 1, 8, some [.nilfn]⟩ (.node 179 ⟨.other, 1, 8, some [.nilfn]⟩ (.node 175 ⟨.other, 1, 8, some [.nilfn]⟩ (.node 173 ⟨.other, 1, 8, some [.nilfn]⟩ (.node 172 ⟨.other, 1, 8, some [.nilfn]⟩ .nil .nil)
  (.node 174 ⟨.other, 1, 8, some [.nilfn]⟩ .nil .nil))
  (.node 178 ⟨.other, 1, 8, some [.nilfn]⟩ (.node 176 ⟨.other, 1, 8, some [.nilfn]⟩ .nil .nil) .nil))
  (.node 182 ⟨.other, 1, 8, some [.nilptr]⟩ (.node 181 ⟨.other, 1, 8, some [.nilfn]⟩ (.node 180 ⟨.other, 1, 8, some [.nilfn]⟩ .nil .nil) .nil)
  (.node 184 ⟨.other, 1, 8, some [.nilfn]⟩ (.node 183 ⟨.other, 1, 8, some [.nilfn]⟩ .nil .nil) .nil)))
  (.node 194 ⟨.other, 1, 8, some [.nilfn]⟩ (.node 191 ⟨.other, 1, 8, some [.nilfn]⟩ (.node 188 ⟨.other, 1, 8, some [.nilfn]⟩ (.node 186 ⟨.other, 1, 8, some [.nilfn]⟩ .nil .nil)
  (.node 189 ⟨(.int .i64), 1, 8, some [(.int .i64 0)]⟩ .nil .nil))
  (.node 193 ⟨.other, 1, 8, some [.nilfn]⟩ (.node 192 ⟨.other, 1, 8, some [.nilptr]⟩ .nil .nil) .nil))
  (.node 197 ⟨.other, 1, 8, some [.nilfn]⟩ (.node 196 ⟨.other, 1, 8, some [.nilfn]⟩ (.node 195 ⟨.other, 1, 8, some [.nilfn]⟩ .nil .nil) .nil)
  (.node 200 ⟨.other, 1, 8, some [.nilfn]⟩ (.node 199 ⟨.other, 1, 8, some [.nilfn]⟩ .nil .nil) .nil))))
  (.node 215 ⟨(.st [(0, 1)]), 1, 16, some [(.str ⟨#[]⟩)]⟩ (.node 209 ⟨(.arr 256 5), 256, 256, none⟩ (.node 205 ⟨(.st [(0, 1), (1, 1), (2, 1)]), 3, 48, some [(.str ⟨#[]⟩), (.str ⟨#[]⟩), .niliface]⟩ (.node 203 ⟨(.arr 64 5), 64, 64, none⟩ (.node 202 ⟨(.arr 32 5), 32, 32, some [(.int .u8 0), (.int .u8 0), (.int .u8 0), (.int .u8 0), (.int .u8 0), (.int .u8 0), (.int .u8 0), (.int .u8 0), (.int .u8 0), (.int .u8 0), (.int .u8 0), (.int .u8 0), (.int .u8 0), (.int .u8 0), (.int .u8 0), (.int .u8 0), (.int .u8 0), (.int .u8 0), (.int .u8 0), (.int .u8 0), (.int .u8 0), (.int .u8 0), (.int .u8 0), (.int .u8 0), (.int .u8 0), (.int .u8 0), (.int .u8 0), (.int .u8 0), (.int .u8 0), (.int .u8 0), (.int .u8 0), (.int .u8 0)]⟩ .nil .nil)
  (.node 204 ⟨(.st [(0, 1), (1, 1), (2, 1)]), 3, 48, some [(.str ⟨#[]⟩), (.str ⟨#[]⟩), .niliface]⟩ .nil .nil))
  (.node 208 ⟨.other, 1, 8, some [.nilfn]⟩ (.node 206 ⟨.other, 1, 8, some [.nilfn]⟩ .nil .nil) .nil))
  (.node 212 ⟨(.arr 16 211), 32, 32, some [(.int .u8 0), (.int .u8 0), (.int .u8 0), (.int .u8 0), (.int .u8 0), (.int .u8 0), (.int .u8 0), (.int .u8 0), (.int .u8 0), (.int .u8 0), (.int .u8 0), (.int .u8 0), (.int .u8 0), (.int .u8 0), (.int .u8 0), (.int .u8 0), (.int .u8 0), (.int .u8 0), (.int .u8 0), (.int .u8 0), (.int .u8 0), (.int .u8 0), (.int .u8 0), (.int .u8 0), (.int .u8 0), (.int .u8 0), (.int .u8 0), (.int .u8 0), (.int .u8 0), (.int .u8 0), (.int .u8 0), (.int .u8 0)]⟩ (.node 211 ⟨(.st [(0, 1), (1, 1)]), 2, 2, some [(.int .u8 0), (.int .u8 0)]⟩ (.node 210 ⟨(.st [(0, 1), (1, 1)]), 2, 2, some [(.int .u8 0), (.int .u8 0)]⟩ .nil .nil) .nil)
  (.node 214 ⟨(.st [(0, 1)]), 1, 16, some [(.str ⟨#[]⟩)]⟩ (.node 213 ⟨.other, 1, 8, some [.nilptr]⟩ .nil .nil) .nil)))
  (.node 222 ⟨(.int .u8), 1, 1, some [(.int .u8 0)]⟩ (.node 219 ⟨(.st [(0, 0)]), 0, 0, some []⟩ (.node 217 ⟨(.st [(0, 1), (1, 1), (2, 1), (3, 1)]), 4, 40, some [.nilptr, .nilptr, .nilptr, (.str ⟨#[]⟩)]⟩ (.node 216 ⟨(.st [(0, 1), (1, 1), (2, 1), (3, 1)]), 4, 40, some [.nilptr, .nilptr, .nilptr, (.str ⟨#[]⟩)]⟩ .nil .nil)
  (.node 218 ⟨(.arr 0 16), 0, 0, some []⟩ .nil .nil))
  (.node 221 ⟨(.int .u8), 1, 1, some [(.int .u8 0)]⟩ (.node 220 ⟨(.st [(0, 0)]), 0, 0, some []⟩ .nil .nil) .nil))
  (.node 225 ⟨(.int .i32), 1, 4, some [(.int .i32 0)]⟩ (.node 224 ⟨(.int .i32), 1, 4, some [(.int .i32 0)]⟩ (.node 223 ⟨.other, 1, 8, some [.nilfn]⟩ .nil .nil) .nil)
  (.node 227 ⟨(.st [(0, 1), (1, 1), (2, 1), (3, 1), (4, 1), (5, 1), (6, 1), (7, 1), (8, 1), (9, 1), (10, 1)]), 11, 48, some [(.int .u64 0), (.int .u64 0), (.int .u32 0), (.int .u8 0), (.int .u8 0), (.int .u8 0), (.int .u8 0), .nilfn, .nilptr, (.int .i32 0), (.int .i32 0)]⟩ (.node 226 ⟨(.st [(0, 1), (1, 1), (2, 1), (3, 1), (4, 1), (5, 1), (6, 1), (7, 1), (8, 1), (9, 1), (10, 1)]), 11, 48, some [(.int .u64 0), (.int .u64 0), (.int .u32 0), (.int .u8 0), (.int .u8 0), (.int .u8 0), (.int .u8 0), .nilfn, .nilptr, (.int .i32 0), (.int .i32 0)]⟩ .nil .nil) .nil))))))
theorem tb_ok : tb.Ok Tryz.prog := TT.ok_of (by kernel_rfl)
section
variable {m0 : Gm} {w0 : World} {F : Nat → Prop} {R0 : RT w0 F} {n : Nat} {σ : St} {ops : Array Oper} {o : Oper} {os : List Oper} {K : St → Prop} {d : Option Tmp} {s : OS} {rd : List Nat} {φ : Prop} {cs : List PV} {off sz : Nat} {p : PV} {vs : List PV} {cl : List (List Nat)} {i : Nat} {is : List Nat} {acc : List It}
theorem A1 (h : stepA tb ops n σ o = some (d, ⟨s, rd, φ⟩)) (k : RL ⟨Tryz.prog, m0, w0, F, R0⟩ n ops os K (σ.app d s)) (hφ : φ := by first | exact trivial | omega | exact ⟨by omega, by first | assumption | (simp; done)⟩ | exact ⟨by first | assumption | (simp; done), by omega⟩ | (simp; done) | exact ⟨by first | omega | decide, by first | omega | assumption⟩ | (simp; omega)) : RL ⟨Tryz.prog, m0, w0, F, R0⟩ n ops (o :: os) K σ := RL.auto tb_ok h k hφ
theorem A2 (h : loadS tb ops n σ o = some (d, cs, off, rd)) (hv : cs[off]? = some p) (k : RL ⟨Tryz.prog, m0, w0, F, R0⟩ n ops os K (σ.app d ⟨.pv p, [], []⟩)) : RL ⟨Tryz.prog, m0, w0, F, R0⟩ n ops (o :: os) K σ :=
  have ⟨h1, h2, h3⟩ := loadS_some tb_ok h hv
  RL.with h1 h2 (h3 σ (fun _ _ => rfl) (fun _ _ => rfl)) k
theorem A3 (h : loadR tb ops n σ o = some (d, cs, off, sz, rd)) (hv : (cs.drop off).take sz = vs) (k : RL ⟨Tryz.prog, m0, w0, F, R0⟩ n ops os K (σ.app d ⟨.pv (.agg vs), [], []⟩)) (hl : vs.length = sz := by rfl) : RL ⟨Tryz.prog, m0, w0, F, R0⟩ n ops (o :: os) K σ :=
  have ⟨h1, h2, h3⟩ := loadR_some tb_ok h hv hl
  RL.with h1 h2 (h3 σ (fun _ _ => rfl) (fun _ _ => rfl)) k
theorem D1 (ho : ops[i]? = some o) (h : stepA tb ops n σ o = some (d, ⟨s, rd, φ⟩)) (k : DL ⟨Tryz.prog, m0, w0, F, R0⟩ n ops cl is (⟨i, o, s, s.wr.map (·.1), s.nw, rd⟩ :: acc) K (σ.app d s)) (hc : newOk ops n cl ⟨i, o, s, s.wr.map (·.1), s.nw, rd⟩ acc = true := by kernel_rfl)
    (hφ : φ := by first | exact trivial | omega | exact ⟨by omega, by first | assumption | (simp; done)⟩ | exact ⟨by first | assumption | (simp; done), by omega⟩ | (simp; done) | exact ⟨by first | omega | decide, by first | omega | assumption⟩ | (simp; omega)) : DL ⟨Tryz.prog, m0, w0, F, R0⟩ n ops cl (i :: is) acc K σ := DL.auto tb_ok ho h k hφ hc
theorem D2 (ho : ops[i]? = some o) (h : loadS tb ops n σ o = some (d, cs, off, rd)) (hv : cs[off]? = some p) (k : DL ⟨Tryz.prog, m0, w0, F, R0⟩ n ops cl is (⟨i, o, ⟨.pv p, [], []⟩, [], [], rd⟩ :: acc) K (σ.app d ⟨.pv p, [], []⟩)) (hc : newOk ops n cl ⟨i, o, ⟨.pv p, [], []⟩, [], [], rd⟩ acc = true := by kernel_rfl) :
    DL ⟨Tryz.prog, m0, w0, F, R0⟩ n ops cl (i :: is) acc K σ :=
  have ⟨h1, h2, h3⟩ := loadS_some tb_ok h hv
  DL.with rd ho h1 h2 (fun τ ha => h3 τ (agr_e ha) (agr_o ha)) k hc
theorem D3 (ho : ops[i]? = some o) (h : loadR tb ops n σ o = some (d, cs, off, sz, rd)) (hv : (cs.drop off).take sz = vs) (k : DL ⟨Tryz.prog, m0, w0, F, R0⟩ n ops cl is (⟨i, o, ⟨.pv (.agg vs), [], []⟩, [], [], rd⟩ :: acc) K (σ.app d ⟨.pv (.agg vs), [], []⟩)) (hl : vs.length = sz := by rfl)
    (hc : newOk ops n cl ⟨i, o, ⟨.pv (.agg vs), [], []⟩, [], [], rd⟩ acc = true := by kernel_rfl) : DL ⟨Tryz.prog, m0, w0, F, R0⟩ n ops cl (i :: is) acc K σ :=
  have ⟨h1, h2, h3⟩ := loadR_some tb_ok h hv hl
  DL.with rd ho h1 h2 (fun τ ha => h3 τ (agr_e ha) (agr_o ha)) k hc
end
end Go.Proofs.YtopjkdddicgajaaGreatDoor
namespace Go.Proofs.YtopjkdddicgajaaGreatDoor
open Go.RowKit
set_option maxRecDepth 100000
/-- A slice of ints. -/
abbrev pints (l : List Int) : PV := .sl none l.length (l.map (.int .i64))
theorem pints_at {l : List Int} {k : Nat} (h : k < l.length) : (l.map (PV.int .i64))[k * 1]? = some (.int .i64 l[k]) := by simp [h]
theorem pints_ne {l : List Int} {k : Nat} (h : k < l.length) : l.map (PV.int .i64) ≠ [] := by intro e; simp at e; subst e; simp at h
end Go.Proofs.YtopjkdddicgajaaGreatDoor
namespace Go.Proofs.YtopjkdddicgajaaGreatDoor
open Go.RowKit
set_option maxRecDepth 100000
theorem mod_eq (x n : Int) (h : 1 ≤ n) : (x.tmod n + n).tmod n = x % n := by
  have hn : n ≠ 0 := by omega
  by_cases hx : 0 ≤ x
  · rw [Int.tmod_eq_emod_of_nonneg hx, Int.tmod_eq_emod_of_nonneg (by have := Int.emod_nonneg x hn; omega), Int.add_emod_right, Int.emod_emod_of_dvd _ (Int.dvd_refl n)]
  · have h1 : x.tmod n = -((-x) % n) := by
      rw [show x = -(-x) by omega, Int.neg_tmod, Int.tmod_eq_emod_of_nonneg (by omega), Int.neg_neg]
    have h2 := Int.emod_nonneg (-x) hn
    have h3 := Int.emod_lt_of_pos (-x) (show 0 < n by omega)
    rw [h1, Int.tmod_eq_emod_of_nonneg (by omega), Int.add_emod_right]
    rw [← Int.zero_sub, Int.sub_emod, Int.emod_emod_of_dvd _ (Int.dvd_refl n), ← Int.sub_emod, Int.zero_sub, Int.neg_neg]
theorem tmod_bd (x n : Int) (h : 1 ≤ n) : -n < x.tmod n ∧ x.tmod n < n := by
  have h1 := Int.tmod_lt_of_pos x (show 0 < n by omega)
  have h2 := Int.lt_tmod_of_pos x (show 0 < n by omega)
  omega
theorem mod_spec (x n : Int) (h1 : 1 ≤ n) (h2 : n ≤ 1000000) : FnP Tryz.prog 28 [.int .i64 x, .int .i64 n] (· = .int .i64 (x % n)) := by
  refine FnP.of Tryz.func28 rfl Tryz.ntmps28 (by simp) fun m0 w0 F R0 => ?_
  refine AW.seq ?_
  refine AW.region ?_
  refine A1 rfl ?_
  refine AW.seq ?_
  refine AW.seq ?_
  refine AW.region ?_
  iterate 2 refine A1 rfl ?_
  refine AW.condP rfl (fun hc => absurd hc (by omega)) (fun hc => ?_)
  refine AW.skip ?_
  have hb := tmod_bd x n h1
  refine AW.seq ?_
  refine AW.region ?_
  iterate 8 refine A1 rfl ?_
  refine AW.ret ?_
  exact ⟨_, _, rfl, rfl, congrArg (PV.int .i64) (mod_eq x n h1)⟩
/-- The cells of a source: its numbers, how many were given out. -/
abbrev srcC (L : List Int) (k : Nat) : List PV := [pints L, .int .i64 k]
def sNv (L : List Int) (k : Nat) (n : Int) : Int := match L[k]? with | some x => x % n | none => 0
def sNk (L : List Int) (k : Nat) : Nat := if k < L.length then k + 1 else k
theorem sNv_bd (L : List Int) (k : Nat) (n : Int) (h : 1 ≤ n) : 0 ≤ sNv L k n ∧ sNv L k n < n := by
  unfold sNv
  split
  · exact ⟨Int.emod_nonneg _ (by omega), Int.emod_lt_of_pos _ (by omega)⟩
  · omega
theorem n_spec (L : List Int) (k : Nat) (n : Int) (hL : L.length ≤ 600) (hk : k ≤ L.length) (h1 : 1 ≤ n) (h2 : n ≤ 1000000) : FnM Tryz.prog 14 47 (srcC L k) [.int .i64 n] (fun v c => v = .int .i64 (sNv L k n) ∧ c = srcC L (sNk L k)) := by
  refine FnM.of Tryz.func14 rfl Tryz.ntmps14 (by simp) rfl (by simp) fun m0 w0 F R0 => ?_
  refine AW.seq ?_
  refine AW.region ?_
  refine A1 rfl ?_
  refine AW.seq ?_
  refine AW.seq ?_
  repeat refine AW.seq ?_
  refine AW.draw follows [[], [0], [1, 0], [2, 1, 0], [], [4], [5, 4], [6, 5, 4], [7, 6, 5, 4], [8, 3, 2, 1, 0, 7, 6, 5, 4]] [0, 1, 2, 3, 4, 5, 6, 7, 8, 9] (by kernel_rfl) (by kernel_rfl) ?_
  iterate 10 refine D1 rfl rfl ?_
  refine ⟨by kernel_rfl, ?_⟩
  refine AW.condP rfl (fun hc => ?_) (fun hc => ?_)
  · refine AW.seq ?_
    refine AW.region ?_
    refine A1 rfl ?_
    refine AW.ret ?_
    have hkl : L[k]? = none := by simp; omega
    exact ⟨_, srcC L k, rfl, rfl, by simp [sNv, hkl], by simp only [sNk]; rw [if_neg (by omega)]⟩
  refine AW.skip ?_
  have hlt : k < L.length := by omega
  have hv := pints_at hlt
  have hne := pints_ne hlt
  refine AW.seq ?_
  refine AW.region ?_
  iterate 8 refine A1 rfl ?_
  refine AW.seq ?_
  repeat refine AW.seq ?_
  refine AW.draw follows [[], [0], [1, 0], [2, 1, 0], [], [4], [5, 4], [6, 5, 4], [7, 6, 5, 4], [8, 3, 2, 1, 0, 7, 6, 5, 4], [9, 8, 3, 2, 1, 0, 7, 6, 5, 4], [], [11, 10, 9, 8, 3, 2, 1, 0, 7, 6, 5, 4], [12, 11, 10, 9, 8, 3, 2, 1, 0, 7, 6, 5, 4]] [0, 1, 2, 3, 4, 5, 6, 7, 8, 9, 10, 11, 12, 13] (by kernel_rfl) (by kernel_rfl) ?_
  iterate 9 refine D1 rfl rfl ?_
  refine DL.step (d := some 31) [] rfl rfl rfl (fun τ h => xj_indexAddr k Tryz.underlying22 sz3 ((h.e 0 _ rfl).trans rfl) ((h.e 1 _ rfl).trans rfl) (by omega) (by omega) hne) rfl (by kernel_rfl) ?_
  first | refine D2 rfl rfl (by assumption) ?_ | refine D1 rfl rfl ?_
  refine D1 rfl rfl ?_
  refine DL.step (d := some 34) [] rfl rfl rfl (fun τ h => xj_call Tryz.call28 (mod_spec L[k] n h1 h2) (h.argsP rfl)) rfl (by kernel_rfl) ?_
  refine D1 rfl rfl ?_
  refine ⟨by kernel_rfl, ?_⟩
  refine AW.ret ?_
  exact ⟨_, srcC L (k + 1), rfl, rfl, by simp [sNv, hlt], by simp only [sNk]; rw [if_pos hlt]⟩
theorem range_spec (L : List Int) (k : Nat) (lo hi : Int) (hL : L.length ≤ 600) (hk : k ≤ L.length) (h1 : lo ≤ hi) (h2 : -1000 ≤ lo) (h3 : hi ≤ 1000) : FnM Tryz.prog 18 47 (srcC L k) [.int .i64 lo, .int .i64 hi] (fun v c => v = .int .i64 (lo + sNv L k (hi - lo + 1)) ∧ c = srcC L (sNk L k)) := by
  refine FnM.of Tryz.func18 rfl Tryz.ntmps18 (by simp) rfl (by simp) fun m0 w0 F R0 => ?_
  have hb := sNv_bd L k (hi - lo + 1) (by omega)
  refine AW.seq ?_
  refine AW.region ?_
  refine A1 rfl ?_
  refine AW.seq ?_
  refine AW.region ?_
  iterate 6 refine A1 rfl ?_
  refine RL.step (d := some 13) rfl rfl (xj_callM Tryz.call14 (n_spec L k (hi - lo + 1) hL hk (by omega) (by omega)) rfl rfl) ?_
  iterate 2 refine A1 rfl ?_
  refine AW.ret ?_
  exact ⟨_, srcC L (sNk L k), rfl, rfl, rfl, rfl⟩
end Go.Proofs.YtopjkdddicgajaaGreatDoor
namespace Go.Proofs.YtopjkdddicgajaaGreatDoor
open Go.RowKit
set_option maxRecDepth 100000
abbrev intsP (l : List Int) : List PV := l.map (.int .i64)
theorem new_spec (l : List Int) (hl : l.length ≤ 600) : FnO Tryz.prog 8 0 1 [.pv (pints l)] [] (fun v ob' => v = .ptr 0 0 ∧ ob' = lookO [(0, .mix 47 ((srcC l 0).map .pv))]) := by
  refine FnO.of Tryz.func8 rfl Tryz.ntmps8 (by simp) fun m0 w0 F R0 => ?_
  refine AW.seq ?_
  refine AW.region ?_
  refine A1 rfl ?_
  refine AW.seq ?_
  refine AW.region ?_
  iterate 3 refine A1 rfl ?_
  refine RL.step (d := some 6) rfl rfl ((xj_min rfl rfl).cast (v' := .pv (.int .i64 l.length)) (by rw [if_neg (by omega)])) ?_
  refine RL.step (d := some 7) rfl rfl ((xj_sliceTo l.length Tryz.underlying22 sz3 rfl rfl rfl (Nat.le_refl _) (by simp)).cast (v' := .pv (pints l)) (by rw [List.take_of_length_le (by simp)])) ?_
  iterate 3 refine A1 rfl ?_
  refine AW.ret ?_
  exact ⟨[(2, .ptr 0 0)], [(0, .mix 47 ((srcC l 0).map .pv))], [.ptr 0 0], St.le_mk ⟨rfl, trivial⟩ ⟨rfl, trivial⟩ rfl rfl, rfl, rfl, rfl, rfl, rfl⟩
abbrev srcO (L : List Int) (k : Nat) : Ob := .mix 47 ((srcC L k).map .pv)
end Go.Proofs.YtopjkdddicgajaaGreatDoor
namespace Go.Proofs.YtopjkdddicgajaaGreatDoor
/-- A name: 1 to 12 bytes, a letter first, then letters, digits and -. -/
def letterB (c : UInt8) : Bool := 97 ≤ c && c ≤ 122
def tailB (c : UInt8) : Bool := letterB c || (48 ≤ c && c ≤ 57) || c == 45
def wordL (s : List UInt8) : Bool := match s with | [] => false | c :: r => letterB c && r.all tailB && decide (r.length ≤ 11)
def wordB (s : ByteArray) : Bool := wordL s.data.toList
/-- The data of a schema. -/
structure Sch where
  attrs : List (ByteArray × Int)
  rels : List (ByteArray × List Int)
  feats : List (Int × Int × Int)
  label : Int
def ascB (l : List Int) : Bool := (List.range (l.length - 1)).all fun k => decide (l.getD k 0 < l.getD (k + 1) 0)
end Go.Proofs.YtopjkdddicgajaaGreatDoor
namespace Go.Proofs.YtopjkdddicgajaaGreatDoor.Mk
open Go.Proofs.YtopjkdddicgajaaGreatDoor
def chr (n : Int) : ByteArray := ⟨#[UInt8.ofNat n.toNat]⟩
def nm (p : UInt8) (i : Nat) : ByteArray := ⟨#[p]⟩ ++ chr (97 + i)
theorem asc_len : ∀ (l : List Int) (lo hi : Int), l.Pairwise (· < ·) → (∀ a ∈ l, lo ≤ a ∧ a ≤ hi) → (l.length : Int) ≤ max 0 (hi + 1 - lo) := by
  intro l
  induction l with
  | nil => intro lo hi _ _; simp; omega
  | cons x t ih =>
    intro lo hi hp hb
    have hp' := List.pairwise_cons.1 hp
    have hx := hb x (by simp)
    have := ih (x + 1) hi hp'.2 (fun a ha => ⟨by have := hp'.1 a ha; omega, (hb a (by simp [ha])).2⟩)
    simp only [List.length_cons]
    omega
theorem asc_pair {l : List Int} (h : ascB l = true) : l.Pairwise (· < ·) := by
  unfold ascB at h
  rw [List.all_eq_true] at h
  have h1 : ∀ p (hp : p + 1 < l.length), l[p] < l[p + 1] := fun p hp => by
    have := h p (by simp; omega)
    simpa [List.getD, hp, show p < l.length by omega] using this
  clear h
  induction l with
  | nil => exact List.Pairwise.nil
  | cons x t ih =>
    have ht := ih fun p hp => h1 (p + 1) (by simpa using hp)
    refine List.pairwise_cons.2 ⟨?_, ht⟩
    cases t with
    | nil => intro a ha; simp at ha
    | cons y t =>
      have hxy := h1 0 (by simp)
      simp at hxy
      intro a ha
      rcases List.mem_cons.1 ha with e | e
      · rw [e]; exact hxy
      · have := (List.pairwise_cons.1 ht).1 a e; omega
def okAt (i n : Nat) : Bool := decide (97 ≤ n ∧ n ≤ 122) || (decide (i ≠ 0) && (n == 45 || decide (48 ≤ n ∧ n ≤ 57)))
theorem okAt_zero (c : UInt8) : okAt 0 c.toNat = letterB c := by
  rw [Bool.eq_iff_iff]; simp [okAt, letterB, UInt8.le_iff_toNat_le]
theorem okAt_succ (k : Nat) (c : UInt8) : okAt (k + 1) c.toNat = tailB c := by
  rw [Bool.eq_iff_iff]
  have e : c = 45 ↔ c.toNat = 45 := by
    constructor
    · rintro rfl; rfl
    · intro h; exact UInt8.toNat_inj.1 h
  simp [okAt, tailB, letterB, UInt8.le_iff_toNat_le, e]
  omega
theorem word_all (l : List UInt8) : wordL l = (((List.range l.length).all fun k => okAt k (l.getD k 0).toNat) && decide (1 ≤ l.length) && decide (l.length ≤ 12)) := by
  cases l with
  | nil => simp [wordL]
  | cons c r =>
    rw [Bool.eq_iff_iff]
    simp only [wordL, Bool.and_eq_true, List.all_eq_true, decide_eq_true_eq, List.mem_range, List.length_cons]
    constructor
    · rintro ⟨⟨h1, h2⟩, h3⟩
      refine ⟨⟨fun k hk => ?_, by omega⟩, by omega⟩
      cases k with
      | zero => rw [List.getD_cons_zero, okAt_zero]; exact h1
      | succ k =>
        rw [List.getD_cons_succ, okAt_succ]
        have hk' : k < r.length := by omega
        rw [List.getD, List.getElem?_eq_getElem hk']
        exact h2 _ (List.getElem_mem hk')
    · rintro ⟨⟨h1, _⟩, h3⟩
      refine ⟨⟨?_, fun x hx => ?_⟩, by omega⟩
      · have := h1 0 (by omega); rwa [List.getD_cons_zero, okAt_zero] at this
      · obtain ⟨k, hk, rfl⟩ := List.getElem_of_mem hx
        have := h1 (k + 1) (by omega)
        rwa [List.getD_cons_succ, okAt_succ, List.getD, List.getElem?_eq_getElem hk] at this
theorem word_no (s : ByteArray) (k : Nat) (hk : k < s.size) (h : okAt k (s.data.toList.getD k 0).toNat = false) : wordB s = false := by
  unfold wordB
  rw [word_all]
  have : ((List.range s.data.toList.length).all fun k => okAt k (s.data.toList.getD k 0).toNat) = false := by
    rw [List.all_eq_false]
    exact ⟨k, by simp; exact hk, by rw [h]; simp⟩
  rw [this]; rfl
theorem word_yes (s : ByteArray) (h : ∀ k, k < s.size → okAt k (s.data.toList.getD k 0).toNat = true) : wordB s = (decide (1 ≤ s.size) && decide (s.size ≤ 12)) := by
  unfold wordB
  rw [word_all]
  have : ((List.range s.data.toList.length).all fun k => okAt k (s.data.toList.getD k 0).toNat) = true := by
    rw [List.all_eq_true]
    intro k hk
    exact h k (by simpa using hk)
  rw [this]
  simp
def AttrsOk (at' : List (ByteArray × Int)) : Prop := ∀ j (hj : j < at'.length), at'[j].1 = nm 97 j ∧ 1 ≤ at'[j].2 ∧ at'[j].2 ≤ 3
def RelsOk (rs : List (ByteArray × List Int)) (n : Nat) : Prop := ∀ j (hj : j < rs.length), rs[j].1 = nm 114 j ∧ rs[j].2 ≠ [] ∧ rs[j].2.Pairwise (· < ·) ∧ ∀ a ∈ rs[j].2, 0 ≤ a ∧ a < n
def CoverOk (rs : List (ByteArray × List Int)) (n : Nat) : Prop := ∀ a, a < n → ∃ x ∈ rs, (a : Int) ∈ x.2
def FeatOk (at' : List (ByteArray × Int)) (lb : Int) (k : Nat) (f : Int × Int × Int) : Prop :=
  ∃ a : Nat, f.1 = (a : Int) ∧ a < k ∧ (a : Int) ≠ lb ∧ ((f.2.1 = 1 ∧ (at'.getD a default).2 = 2 ∧ (f.2.2 = 0 ∨ f.2.2 = 1)) ∨ (f.2.1 = 2 ∧ (at'.getD a default).2 = 3 ∧ f.2.2 = 0))
def FeatsOk (at' : List (ByteArray × Int)) (fs : List (Int × Int × Int)) (lb : Int) (k : Nat) : Prop :=
  (fs.map (·.1)).Pairwise (· < ·) ∧ (∀ f ∈ fs, FeatOk at' lb k f) ∧ (lb = -1 ∨ ∃ a : Nat, lb = (a : Int) ∧ a < k ∧ (at'.getD a default).2 = 2)
theorem asc_snoc {l : List Int} {x : Int} (h : l.Pairwise (· < ·)) (hx : ∀ a ∈ l, a < x) : (l ++ [x]).Pairwise (· < ·) := by
  rw [List.pairwise_append]
  exact ⟨h, by simp, fun a ha b hb => by simp at hb; rw [hb]; exact hx a ha⟩
structure Made (S : Sch) (most : Nat) : Prop where
  a1 : 1 ≤ S.attrs.length
  a2 : S.attrs.length ≤ most
  r1 : 1 ≤ S.rels.length
  r2 : S.rels.length ≤ 3
  at' : AttrsOk S.attrs
  rs : RelsOk S.rels S.attrs.length
  cv : CoverOk S.rels S.attrs.length
  fs : FeatsOk S.attrs S.feats S.label S.attrs.length
def ListOk (l : List Int) (n : Nat) : Prop := l.Pairwise (· < ·) ∧ (∀ a ∈ l, 0 ≤ a ∧ a < n)
theorem ListOk.len {l : List Int} {n : Nat} (h : ListOk l n) : l.length ≤ n := by
  have := asc_len l 0 (n - 1) h.1 (fun a ha => by have := h.2 a ha; omega)
  omega
theorem ListOk.snoc {l : List Int} {n : Nat} (h : ListOk l n) : ListOk (l ++ [(n : Int)]) (n + 1) := by
  refine ⟨asc_snoc h.1 fun a ha => (h.2 a ha).2, fun a ha => ?_⟩
  rcases List.mem_append.1 ha with h1 | h1
  · have := h.2 a h1; omega
  · simp at h1; omega
theorem ListOk.mono {l : List Int} {n m : Nat} (h : ListOk l n) (hm : n ≤ m) : ListOk l m := ⟨h.1, fun a ha => by have := h.2 a ha; omega⟩
end Go.Proofs.YtopjkdddicgajaaGreatDoor.Mk
namespace Go.Proofs.YtopjkdddicgajaaGreatDoor
open Go.RowKit Mk
set_option maxRecDepth 100000
end Go.Proofs.YtopjkdddicgajaaGreatDoor
namespace Go.Proofs.YtopjkdddicgajaaGreatDoor
open Go.RowKit Mk
set_option maxRecDepth 100000
theorem pick_specF (L : List Int) (k : Nat) (l : List Int) (hL : L.length ≤ 600) (hk : k ≤ L.length) (hl : l ≠ []) (hl2 : l.length ≤ 1000) : ∃ x ∈ l, FnM Tryz.prog 19 47 (srcC L k) [pints l] (fun v c => v = .int .i64 x ∧ c = srcC L (sNk L k)) := by
  have hpos : 0 < l.length := List.length_pos_iff.2 hl
  have hb := sNv_bd L k l.length (by omega)
  obtain ⟨j, hj⟩ := Int.eq_ofNat_of_zero_le hb.1
  have hjl : j < l.length := by omega
  refine ⟨l[j], List.getElem_mem hjl, ?_⟩
  refine FnM.of Tryz.func19 rfl Tryz.ntmps19 (by simp) rfl (by simp) fun m0 w0 F R0 => ?_
  have hv := pints_at hjl
  have hne := pints_ne hjl
  repeat refine AW.seq ?_
  refine AW.region ?_
  refine A1 rfl ?_
  repeat refine AW.seq ?_
  refine AW.region ?_
  iterate 4 refine A1 rfl ?_
  refine RL.step (d := some 9) rfl rfl (xj_callM Tryz.call14 (n_spec L k l.length hL hk (by omega) (by omega)) rfl rfl) ?_
  refine RL.step (d := some 10) rfl rfl (xj_indexAddr j Tryz.underlying22 sz3 rfl rfl hj hjl hne) ?_
  first | refine A2 rfl (by assumption) ?_ | refine A1 rfl ?_
  refine A1 rfl ?_
  refine AW.ret ?_
  exact ⟨_, srcC L (sNk L k), rfl, rfl, rfl, rfl⟩
theorem flat_len {α β : Type} (f : α → List β) (n : Nat) (h : ∀ a, (f a).length = n) : ∀ l : List α, (l.flatMap f).length = l.length * n
  | [] => by simp
  | a :: l => by rw [List.flatMap_cons, List.length_append, h, flat_len f n h l, List.length_cons, Nat.succ_mul, Nat.add_comm]
theorem flat_row {α β : Type} (f : α → List β) (n : Nat) (h : ∀ a, (f a).length = n) : ∀ (l : List α) (k : Nat) (hk : k < l.length), ((l.flatMap f).drop (k * n)).take n = f l[k]
  | [], _, hk => by simp at hk
  | a :: l, 0, _ => by
    rw [List.flatMap_cons, Nat.zero_mul, List.drop_zero, List.take_append_of_le_length (by rw [h]; exact Nat.le_refl _), List.take_of_length_le (by rw [h]; exact Nat.le_refl _)]
    rfl
  | a :: l, k + 1, hk => by
    rw [List.flatMap_cons, List.drop_append, List.drop_of_length_le (by rw [h, Nat.succ_mul]; omega), List.nil_append, h, show (k + 1) * n - n = k * n by rw [Nat.succ_mul]; omega]
    rw [flat_row f n h l k (by simpa using hk)]
    simp
end Go.Proofs.YtopjkdddicgajaaGreatDoor
namespace Go.Proofs.YtopjkdddicgajaaGreatDoor
open Go.RowKit
set_option maxRecDepth 100000
end Go.Proofs.YtopjkdddicgajaaGreatDoor
namespace Go.Proofs.YtopjkdddicgajaaGreatDoor
open Go.RowKit Mk
set_option maxRecDepth 100000
set_option maxHeartbeats 1000000
abbrev strsP (l : List ByteArray) : List PV := l.map .str
abbrev pstrs (l : List ByteArray) : PV := .sl none l.length (strsP l)
theorem pstrs_at {l : List ByteArray} {k : Nat} (h : k < l.length) : (strsP l)[k * 1]? = some (.str l[k]) := by simp [h]
theorem pstrs_ne {l : List ByteArray} {k : Nat} (h : k < l.length) : strsP l ≠ [] := by intro e; simp at e; subst e; simp at h
theorem bytesP_at {l : List UInt8} {k : Nat} (h : k < l.length) : (bytesP l)[k * 1]? = some (.int .u8 (l[k].toNat : Int)) := by simp [bytesP, h]
theorem bytesP_ne {l : List UInt8} {k : Nat} (h : k < l.length) : bytesP l ≠ [] := by intro e; simp [bytesP] at e; subst e; simp at h
/-- What the loop of Word tests. -/
def wtest (k : Nat) (c : UInt8) : Bool := !(decide ((97 : Int) ≤ c.toNat) && decide ((c.toNat : Int) ≤ 122)) && (((k : Int) == 0) || (((c.toNat : Int) != 45) && (decide ((c.toNat : Int) < 48) || decide ((57 : Int) < c.toNat))))
theorem wtest_eq (k : Nat) (c : UInt8) : wtest k c = !okAt k c.toNat := by
  unfold wtest okAt
  generalize c.toNat = n
  have h1 : ((k : Int) == 0) = !decide (k ≠ 0) := by
    by_cases h : k = 0
    · subst h; rfl
    · have : ((k : Int) == 0) = false := by rw [beq_eq_false_iff_ne]; omega
      rw [this]; simp [h]
  have h2 : ((n : Int) != 45) = !(n == 45) := by
    by_cases h : n = 45
    · subst h; rfl
    · have h3 : (n : Int) ≠ 45 := by omega
      rw [bne_iff_ne.2 h3, beq_eq_false_iff_ne.2 h]; rfl
  have h3 : (decide ((97 : Int) ≤ n) && decide ((n : Int) ≤ 122)) = decide (97 ≤ n ∧ n ≤ 122) := by
    rw [Bool.eq_iff_iff]; simp; omega
  have h4 : (decide ((n : Int) < 48) || decide ((57 : Int) < n)) = !decide (48 ≤ n ∧ n ≤ 57) := by
    rw [Bool.eq_iff_iff]; simp; omega
  rw [h1, h2, h3, h4]
  cases decide (97 ≤ n ∧ n ≤ 122) <;> cases decide (k ≠ 0) <;> cases (n == 45) <;> cases decide (48 ≤ n ∧ n ≤ 57) <;> rfl
theorem word_spec (s : ByteArray) (hs : s.size ≤ 9223372036854775807) : FnP Tryz.prog 75 [.str s] (· = .bool (wordB s)) := by
  refine FnP.of Tryz.func75 rfl Tryz.ntmps75 (by simp) fun m0 w0 F R0 => ?_
  have hsz : s.data.toList.length = s.size := Array.length_toList
  repeat refine AW.seq ?_
  refine AW.region ?_
  refine A1 rfl ?_
  repeat refine AW.seq ?_
  refine AW.region ?_
  iterate 4 refine A1 rfl ?_
  repeat refine AW.seq ?_
  refine AW.block ?_
  repeat refine AW.seq ?_
  refine AW.loop (st := fun x_0 : Nat => mkS [(0, .pv (.str s)), (7, .pv (.sl (some false) s.data.toList.length (bytesP s.data.toList))), (8, .pv (.int .i64 s.data.toList.length)), (9, .pv (.int .i64 x_0))] [] 0)
    (I := fun x_0 => x_0 ≤ s.data.toList.length ∧ ∀ j, j < x_0 → okAt j (s.data.toList.getD j 0).toNat = true) (μ := fun x_0 => s.data.toList.length - x_0) (x0 := (0)) (St.le_mk ⟨rfl, rfl, rfl, rfl, trivial⟩ trivial rfl rfl) (⟨Nat.zero_le _, fun j hj => absurd hj (Nat.not_lt_zero _)⟩) ?_
  rintro k ⟨hk, hall⟩
  repeat refine AW.seq ?_
  refine AW.region ?_
  refine A1 rfl ?_
  repeat refine AW.seq ?_
  refine AW.condP rfl (fun hc10 => ?_) (fun hc10 => ?_)
  · have hlt : k < s.data.toList.length := by omega
    have hv := bytesP_at hlt
    have hne := bytesP_ne hlt
    have hgd : s.data.toList.getD k 0 = s.data.toList[k] := by rw [List.getD_eq_getElem?_getD, List.getElem?_eq_getElem hlt]; rfl
    refine AW.skip ?_
    repeat refine AW.seq ?_
    refine AW.block ?_
    repeat refine AW.seq ?_
    refine AW.region ?_
    iterate 2 refine A1 rfl ?_
    first | refine A2 rfl (by assumption) ?_ | refine A1 rfl ?_
    iterate 2 refine A1 rfl ?_
    generalize s.data.toList[k] = c at hgd ⊢
    repeat refine AW.seq ?_
    refine AW.region ?_
    iterate 3 refine A1 rfl ?_
    apply RL.andB 3 16 19 [17, 18] rfl (by first | exact MonoK.le | exact MonoK.aw | exact MonoK.back)
    · intro hb2
      iterate 3 refine A1 rfl ?_
      exact St.le_fg (fEq.upd (fEq.upd (fEq.upd (fEq.upd (fEq.refl) rfl) rfl) rfl) rfl) rfl rfl rfl
    · intro hb2
      iterate 3 refine A1 rfl ?_
      exact St.le_fg (fEq.upd (fEq.upd (fEq.upd (fEq.upd (fEq.refl) rfl) rfl) rfl) rfl) rfl rfl rfl
    refine A1 rfl ?_
    repeat refine AW.seq ?_
    refine AW.region ?_
    iterate 3 refine A1 rfl ?_
    apply RL.andB 15 22 37 [23, 24, 25, 26, 27, 28, 29, 30, 31, 32, 33, 34, 35, 36] rfl (by first | exact MonoK.le | exact MonoK.aw | exact MonoK.back)
    · intro hb2
      iterate 3 refine A1 rfl ?_
      apply RL.orB 11 25 36 [26, 27, 28, 29, 30, 31, 32, 33, 34, 35] rfl (by first | exact MonoK.le | exact MonoK.aw | exact MonoK.back)
      · intro hb5
        iterate 11 refine A1 rfl ?_
        exact St.le_fg (fEq.upd (fEq.upd (fEq.upd (fEq.upd (fEq.upd (fEq.upd (fEq.upd (fEq.upd (fEq.upd (fEq.upd (fEq.upd (fEq.upd (fEq.refl) rfl) rfl) rfl) rfl) rfl) rfl) rfl) rfl) rfl) rfl) rfl) rfl) rfl rfl rfl
      · intro hb5
        iterate 3 refine A1 rfl ?_
        apply RL.andB 7 28 35 [29, 30, 31, 32, 33, 34] rfl (by first | exact MonoK.le | exact MonoK.aw | exact MonoK.back)
        · intro hb8
          iterate 3 refine A1 rfl ?_
          apply RL.orB 3 31 34 [32, 33] rfl (by first | exact MonoK.le | exact MonoK.aw | exact MonoK.back)
          · intro hb11
            iterate 3 refine A1 rfl ?_
            exact St.le_fg (fEq.upd (fEq.upd (fEq.upd (fEq.upd (fEq.refl) rfl) rfl) rfl) rfl) rfl rfl rfl
          · intro hb11
            iterate 3 refine A1 rfl ?_
            exact St.le_fg (fEq.upd (fEq.upd (fEq.upd (fEq.upd (fEq.refl) rfl) rfl) rfl) rfl) rfl rfl rfl
          refine A1 rfl ?_
          exact St.le_fg (fEq.upd (fEq.upd (fEq.upd (fEq.upd (fEq.upd (fEq.upd (fEq.upd (fEq.upd (fEq.upd (fEq.refl) rfl) rfl) rfl) rfl) rfl) rfl) rfl) rfl) rfl) rfl rfl rfl
        · intro hb8
          iterate 7 refine A1 rfl ?_
          exact St.le_fg (fEq.upd (fEq.upd (fEq.upd (fEq.upd (fEq.upd (fEq.upd (fEq.upd (fEq.upd (fEq.refl) rfl) rfl) rfl) rfl) rfl) rfl) rfl) rfl) rfl rfl rfl
        refine A1 rfl ?_
        exact St.le_fg (fEq.upd (fEq.upd (fEq.upd (fEq.upd (fEq.upd (fEq.upd (fEq.upd (fEq.upd (fEq.upd (fEq.upd (fEq.upd (fEq.upd (fEq.upd (fEq.refl) rfl) rfl) rfl) rfl) rfl) rfl) rfl) rfl) rfl) rfl) rfl) rfl) rfl) rfl rfl rfl
      refine A1 rfl ?_
      exact St.le_fg (fEq.upd (fEq.upd (fEq.upd (fEq.upd (fEq.upd (fEq.upd (fEq.upd (fEq.upd (fEq.upd (fEq.upd (fEq.upd (fEq.upd (fEq.upd (fEq.upd (fEq.upd (fEq.upd (fEq.upd (fEq.refl) rfl) rfl) rfl) rfl) rfl) rfl) rfl) rfl) rfl) rfl) rfl) rfl) rfl) rfl) rfl) rfl) rfl) rfl rfl rfl
    · intro hb2
      iterate 15 refine A1 rfl ?_
      exact St.le_fg (fEq.upd (fEq.upd (fEq.upd (fEq.upd (fEq.upd (fEq.upd (fEq.upd (fEq.upd (fEq.upd (fEq.upd (fEq.upd (fEq.upd (fEq.upd (fEq.upd (fEq.upd (fEq.upd (fEq.refl) rfl) rfl) rfl) rfl) rfl) rfl) rfl) rfl) rfl) rfl) rfl) rfl) rfl) rfl) rfl) rfl) rfl rfl rfl
    have hw : _ = true ∨ _ = false := Bool.eq_false_or_eq_true (wtest k c)
    repeat refine AW.seq ?_
    refine AW.cond rfl (fun hc37 => ?_) (fun hc37 => ?_)
    · have hc : wtest k c = true := hc37
      repeat refine AW.seq ?_
      refine AW.region ?_
      refine A1 rfl ?_
      repeat refine AW.seq ?_
      refine AW.ret ?_
      exact ⟨_, _, rfl, rfl, congrArg PV.bool (word_no s k (by omega) (by rw [hgd]; rw [wtest_eq] at hc; simpa using hc)).symm⟩
    · have hc : wtest k c = false := hc37
      refine AW.skip ?_
      repeat refine AW.seq ?_
      refine AW.region ?_
      iterate 2 refine A1 rfl ?_
      exact ⟨(k + 1), St.le_mk ⟨rfl, rfl, rfl, rfl, trivial⟩ trivial rfl rfl, ⟨by omega, fun j hj => by rcases Nat.lt_succ_iff_lt_or_eq.1 hj with h | rfl; exact hall j h; rw [hgd]; rw [wtest_eq] at hc; simpa using hc⟩, by omega⟩
  · repeat refine AW.seq ?_
    refine AW.exit ?_
    repeat refine AW.seq ?_
    refine AW.region ?_
    iterate 4 refine A1 rfl ?_
    apply RL.andB 4 42 46 [43, 44, 45] rfl (by first | exact MonoK.le | exact MonoK.aw | exact MonoK.back)
    · intro hb3
      iterate 4 refine A1 rfl ?_
      exact St.le_fg (fEq.upd (fEq.upd (fEq.upd (fEq.upd (fEq.upd (fEq.refl) rfl) rfl) rfl) rfl) rfl) rfl rfl rfl
    · intro hb3
      iterate 4 refine A1 rfl ?_
      exact St.le_fg (fEq.upd (fEq.upd (fEq.upd (fEq.upd (fEq.upd (fEq.refl) rfl) rfl) rfl) rfl) rfl) rfl rfl rfl
    refine A1 rfl ?_
    repeat refine AW.seq ?_
    refine AW.ret ?_
    exact ⟨_, _, rfl, rfl, congrArg PV.bool (by rw [word_yes s (fun j hj => hall j (by omega))]; rw [Bool.eq_iff_iff]; simp; omega)⟩
end Go.Proofs.YtopjkdddicgajaaGreatDoor
namespace Go.Proofs.YtopjkdddicgajaaGreatDoor
/-- The number of a list of limbs, the least one first. -/
def val : List Nat → Nat
  | [] => 0
  | a :: l => a + 1000000000 * val l
/-- The limbs of a number, without zeros at the end. -/
def limbs (n : Nat) : List Nat := if n = 0 then [] else n % 1000000000 :: limbs (n / 1000000000)
termination_by n
decreasing_by omega
/-- All limbs are less than the base. -/
def Lok (l : List Nat) : Prop := ∀ a ∈ l, a < 1000000000
theorem limbs_zero : limbs 0 = [] := by rw [limbs]; rfl
theorem limbs_pos {n : Nat} (h : n ≠ 0) : limbs n = n % 1000000000 :: limbs (n / 1000000000) := by
  conv => lhs; rw [limbs]
  rw [if_neg h]
theorem val_limbs (n : Nat) : val (limbs n) = n := by
  induction n using Nat.strongRecOn with
  | ind n ih =>
    by_cases h : n = 0
    · subst h; rw [limbs_zero]; rfl
    · rw [limbs_pos h, val, ih _ (by omega)]; omega
theorem limbs_ok (n : Nat) : Lok (limbs n) := by
  induction n using Nat.strongRecOn with
  | ind n ih =>
    by_cases h : n = 0
    · subst h; rw [limbs_zero]; intro a ha; simp at ha
    · rw [limbs_pos h]
      intro a ha
      rcases List.mem_cons.1 ha with rfl | ha
      · exact Nat.mod_lt _ (by decide)
      · exact ih _ (by omega) a ha
theorem Lok.cons {a : Nat} {l : List Nat} (h : Lok (a :: l)) : a < 1000000000 ∧ Lok l := ⟨h a (by simp), fun b hb => h b (by simp [hb])⟩
theorem Lok.at {l : List Nat} (h : Lok l) (i : Nat) : l.getD i 0 < 1000000000 := by
  by_cases hi : i < l.length
  · simp only [List.getD, List.getElem?_eq_getElem hi, Option.getD_some]; exact h _ (List.getElem_mem hi)
  · simp [List.getD, List.getElem?_eq_none (Nat.le_of_not_lt hi)]
theorem Lok.get {l : List Nat} (h : Lok l) {i : Nat} (hi : i < l.length) : l[i] < 1000000000 := h _ (List.getElem_mem hi)
theorem Lok.take {l : List Nat} (h : Lok l) (k : Nat) : Lok (l.take k) := fun a ha => h a (List.mem_of_mem_take ha)
theorem Lok.drop {l : List Nat} (h : Lok l) (k : Nat) : Lok (l.drop k) := fun a ha => h a (List.mem_of_mem_drop ha)
theorem Lok.set {l : List Nat} (h : Lok l) {k x : Nat} (hx : x < 1000000000) : Lok (l.set k x) := fun a ha => by
  rcases List.mem_or_eq_of_mem_set ha with e | e
  · exact h a e
  · rw [e]; exact hx
theorem Lok.append {l r : List Nat} (h : Lok l) (h2 : Lok r) : Lok (l ++ r) := fun a ha => (List.mem_append.1 ha).elim (h a) (h2 a)
theorem Lok.replicate (k : Nat) : Lok (List.replicate k 0) := fun a ha => by rw [List.eq_of_mem_replicate ha]; decide
theorem val_append (l r : List Nat) : val (l ++ r) = val l + 1000000000 ^ l.length * val r := by
  induction l with
  | nil => simp [val]
  | cons a l ih => rw [List.cons_append, val, val, ih, List.length_cons, Nat.pow_succ, Nat.mul_add, ← Nat.mul_assoc, Nat.mul_comm (1000000000 ^ l.length) 1000000000, Nat.add_assoc]
theorem val_split (l : List Nat) (k : Nat) : val l = val (l.take k) + 1000000000 ^ (min k l.length) * val (l.drop k) := by
  conv => lhs; rw [← List.take_append_drop k l]
  rw [val_append, List.length_take]
theorem val_lt {l : List Nat} (h : Lok l) : val l < 1000000000 ^ l.length := by
  induction l with
  | nil => simp [val]
  | cons a l ih =>
    have h1 := h.cons
    have h2 := ih h1.2
    rw [val, List.length_cons, Nat.pow_succ]
    have : val l + 1 ≤ 1000000000 ^ l.length := h2
    have := Nat.mul_le_mul_left 1000000000 this
    rw [Nat.mul_comm (1000000000 ^ l.length)]
    omega
theorem val_zero {l : List Nat} (h : ∀ i, l.getD i 0 = 0) : val l = 0 := by
  induction l with
  | nil => rfl
  | cons a l ih =>
    have h0 := h 0
    simp at h0
    rw [val, ih (fun i => by simpa using h (i + 1)), h0]
/-- The limbs of a list: without its zeros at the end. -/
theorem limbs_take {l : List Nat} (h : Lok l) : ∀ {n : Nat}, n ≤ l.length → (∀ i, n ≤ i → l.getD i 0 = 0) → (n = 0 ∨ l.getD (n - 1) 0 ≠ 0) → limbs (val l) = l.take n := by
  induction l with
  | nil => intro n _ _ _; simp [val, limbs_zero]
  | cons a l ih =>
    intro n hn hz hl
    cases n with
    | zero =>
      have : val (a :: l) = 0 := val_zero fun i => hz i (Nat.zero_le _)
      rw [this, limbs_zero]; rfl
    | succ n =>
      have h1 := h.cons
      have e := ih h1.2 (n := n) (by simpa using hn) (fun i hi => by simpa using hz (i + 1) (by omega)) (by
        rcases Nat.eq_zero_or_pos n with e | e
        · exact .inl e
        · right
          rcases hl with hl | hl
          · omega
          · rw [Nat.add_sub_cancel] at hl
            obtain ⟨m, rfl⟩ : ∃ m, n = m + 1 := ⟨n - 1, by omega⟩
            simpa using hl)
      have hne : val (a :: l) ≠ 0 := by
        intro h0
        rw [val] at h0
        have ha : a = 0 := by omega
        have hv : val l = 0 := by omega
        rw [hv, limbs_zero] at e
        have hlen := congrArg List.length e
        simp at hlen hn
        rcases hl with hl | hl
        · omega
        · have hn0 : n = 0 := by omega
          subst hn0
          simp at hl
          exact hl ha
      rw [limbs_pos hne, val, List.take_succ_cons]
      have e1 : (a + 1000000000 * val l) % 1000000000 = a := by omega
      have e2 : (a + 1000000000 * val l) / 1000000000 = val l := by omega
      rw [e1, e2, e]
theorem limbs_top {n : Nat} (h : n ≠ 0) : (limbs n).getD ((limbs n).length - 1) 0 ≠ 0 := by
  induction n using Nat.strongRecOn with
  | ind n ih =>
    rw [limbs_pos h]
    by_cases h2 : n / 1000000000 = 0
    · rw [h2, limbs_zero]; simp; omega
    · have := ih _ (by omega) h2
      have hl : 0 < (limbs (n / 1000000000)).length := by rw [limbs_pos h2]; simp
      obtain ⟨m, hm⟩ : ∃ m, (limbs (n / 1000000000)).length = m + 1 := ⟨_, (Nat.succ_pred_eq_of_pos hl).symm⟩
      rw [List.length_cons, hm]
      rw [hm] at this
      simpa using this
theorem limbs_len0 {n : Nat} : (limbs n).length = 0 ↔ n = 0 := by
  constructor
  · intro h
    have := val_limbs n
    rw [List.eq_nil_of_length_eq_zero h] at this
    exact this.symm
  · rintro rfl; rw [limbs_zero]; rfl
theorem lt_limbs (n : Nat) : n < 1000000000 ^ (limbs n).length := by
  have := val_lt (limbs_ok n)
  rwa [val_limbs] at this
theorem limbs_ge {n : Nat} (h : n ≠ 0) : 1000000000 ^ ((limbs n).length - 1) ≤ n := by
  have hl : (limbs n).length ≠ 0 := fun e => h (limbs_len0.1 e)
  have ht := limbs_top h
  have e := val_split (limbs n) ((limbs n).length - 1)
  rw [val_limbs, Nat.min_eq_left (by omega)] at e
  have hd : (limbs n).drop ((limbs n).length - 1) = [(limbs n).getD ((limbs n).length - 1) 0] := by
    rw [List.drop_eq_getElem_cons (by omega), List.drop_of_length_le (by omega)]
    simp [List.getD, show (limbs n).length - 1 < (limbs n).length by omega]
  rw [hd] at e
  simp only [val, Nat.mul_zero, Nat.add_zero] at e
  have : 1000000000 ^ ((limbs n).length - 1) * 1 ≤ 1000000000 ^ ((limbs n).length - 1) * (limbs n).getD ((limbs n).length - 1) 0 := Nat.mul_le_mul_left _ (by omega)
  omega
theorem limbs_le {n k : Nat} : (limbs n).length ≤ k ↔ n < 1000000000 ^ k := by
  constructor
  · intro h; exact Nat.lt_of_lt_of_le (lt_limbs n) (Nat.pow_le_pow_right (by decide) h)
  · intro h
    by_cases h0 : n = 0
    · subst h0; rw [limbs_zero]; simp
    · apply Nat.le_of_not_lt
      intro hk
      have h1 := limbs_ge h0
      have h2 : 1000000000 ^ k ≤ 1000000000 ^ ((limbs n).length - 1) := Nat.pow_le_pow_right (by decide) (by omega)
      omega
theorem limbs_lt_len {a b : Nat} (h : (limbs a).length < (limbs b).length) : a < b := by
  by_cases h0 : b = 0
  · subst h0; rw [limbs_zero] at h; simp at h
  · have h1 := limbs_ge h0
    have h2 := lt_limbs a
    have h3 : 1000000000 ^ (limbs a).length ≤ 1000000000 ^ ((limbs b).length - 1) := Nat.pow_le_pow_right (by decide) (by omega)
    omega
theorem limbs_inj {a b : Nat} (h : limbs a = limbs b) : a = b := by rw [← val_limbs a, h, val_limbs]
theorem limbs_small {n : Nat} (h0 : n ≠ 0) (h : n < 1000000000) : limbs n = [n] := by
  rw [limbs_pos h0, Nat.mod_eq_of_lt h, Nat.div_eq_of_lt h, limbs_zero]
/-- The greatest limb that differs tells which number is less. -/
theorem val_less {l r : List Nat} (hl : Lok l) (hlen : l.length = r.length) {i : Nat} (hi : i < l.length) (hd : l.drop (i + 1) = r.drop (i + 1)) (h : l.getD i 0 < r.getD i 0) : val l < val r := by
  have e1 := val_split l i
  have e2 := val_split r i
  rw [Nat.min_eq_left (by omega)] at e1 e2
  have d1 : l.drop i = l.getD i 0 :: l.drop (i + 1) := by rw [List.drop_eq_getElem_cons hi]; simp [List.getD, hi]
  have d2 : r.drop i = r.getD i 0 :: r.drop (i + 1) := by rw [List.drop_eq_getElem_cons (by omega)]; simp [List.getD, show i < r.length by omega]
  rw [d1, val] at e1
  rw [d2, val, ← hd] at e2
  have h1 := val_lt (hl.take i)
  rw [List.length_take, Nat.min_eq_left (by omega)] at h1
  generalize val (l.drop (i + 1)) = t at *
  generalize l.getD i 0 = x at *
  generalize r.getD i 0 = y at *
  generalize 1000000000 ^ i = p at *
  have h2 : p * (x + 1000000000 * t) + p ≤ p * (y + 1000000000 * t) := by rw [← Nat.mul_succ]; exact Nat.mul_le_mul_left _ (by omega)
  omega
end Go.Proofs.YtopjkdddicgajaaGreatDoor
