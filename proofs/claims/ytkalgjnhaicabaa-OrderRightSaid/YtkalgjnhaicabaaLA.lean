/-
  What the laws of orders need besides: bounds of made schemas, calls that are not functions in regions that draw. No statement of the program is proved here.
-/
import Derived.Test.YtkalgjnhaicabaaW1
namespace Go.Proofs.Ytkalgjnhaicabaa
open Go.RowKit Mk
set_option maxHeartbeats 1000000

theorem asc_len {n : Nat} : ∀ {l : List Int}, l.Pairwise (· < ·) → (∀ a ∈ l, 0 ≤ a ∧ a < n) → l.length ≤ n := by
  intro l hp hr
  have hnd : l.Nodup := hp.imp (fun h e => by omega)
  have hsub : ∀ a ∈ l, a ∈ upZ n := fun a ha => by
    obtain ⟨x, hx⟩ := Int.eq_ofNat_of_zero_le (hr a ha).1
    exact upZ_mem.2 ⟨x, by have := (hr a ha).2; omega, hx⟩
  have : (((upZ n).filter fun a => decide (a ∈ l))).Perm l := nodup_perm (List.Pairwise.sublist List.filter_sublist (upZ_nodup _)) hnd fun a => by
    rw [List.mem_filter, decide_eq_true_iff]
    exact ⟨fun h => h.2, fun h => ⟨hsub a h, h⟩⟩
  rw [← this.length_eq]
  exact Nat.le_trans (List.length_filter_le _ _) (by rw [upZ_len]; exact Nat.le_refl _)
theorem nm_size (p : UInt8) (i : Nat) : (nm p i).size = 2 := by
  unfold nm chr
  simp [ByteArray.size_append]
  rfl
theorem made_SB {S : Sch} {most : Nat} (h : Made S most) (hm : most ≤ 8) : SB S := by
  have h1 := h.a2
  have h2 := h.r2
  have h3 := featsOk_len h.fs
  refine ⟨by omega, by omega, by omega, fun x hx => ?_, fun x hx => ?_, fun x hx => ?_⟩
  · obtain ⟨i, hi, rfl⟩ := List.getElem_of_mem hx
    rw [(h.at' i hi).1, nm_size]; decide
  · obtain ⟨i, hi, rfl⟩ := List.getElem_of_mem hx
    rw [(h.rs i hi).1, nm_size]; decide
  · obtain ⟨i, hi, rfl⟩ := List.getElem_of_mem hx
    have := asc_len (h.rs i hi).2.2.1 (h.rs i hi).2.2.2
    omega
section
variable {C : Ctx} {n : Nat} {σ : St} {dst : Option Tmp} {ty : TypeId} {ts : Array TypeId} {pos : String} {after : Array Edge} {gd : Option (Nat × Bool)}
/-- What a method leaves, if it isn't a function: for DL.rel. -/
def RM (T : TypeId) (id : Nat) (Q : PV → List PV → Prop) (s : OS) : Prop := ∃ r cs', Q r cs' ∧ s = ⟨.pv r, [(id, some (.mix T (cs'.map .pv)))], []⟩
theorem relM {f : FuncId} {xs : Array Operand} {ps : List PV} {T : TypeId} {id : Nat} {cs : List PV} {Q : PV → List PV → Prop} (hc : CallOk C.P f) (hf : FnM C.P f T cs ps Q) (hargs : xs.toList.map (σ.ev n) = .ptr id 0 :: ps.map .pv) (ho : σ.ob id = some (.mix T (cs.map .pv))) :
    OJ C n ⟨dst, .call { callee := .value (.func f), args := xs, argTypes := ts }, ty, pos, after, gd⟩ (fun τ' => ∃ s, RM T id Q s ∧ s.wr.map (·.1) = [id] ∧ s.nw = [] ∧ τ' = σ.app dst s) σ :=
  oj_callM hc hf hargs ho fun r cs' h => ⟨_, ⟨r, cs', h, rfl⟩, rfl, rfl, rfl⟩
end

/-- From a contract on plain values to a call. -/
theorem fn_calls {P : Program} {f : FuncId} {args : List PV} {us : List Value} (h : FnP P f args (· = .bool true)) (w : World) (hrel : RelPL w (fun b => b < w.heap.size) args us) :
    Calls P f us.toArray w fun e w' => e = .returned (.bool true) ∧ Below w.heap.size w w' :=
  (h w _ us (fun _ hb => hb) hrel).mono fun _ _ ⟨u, v, e, hv, hb, hr⟩ => by
    subst hv
    simp only [RelP] at hr
    subst hr
    exact ⟨e, hb⟩
/-- A slice of integers as the reading of the arguments gives it. -/
theorem rel_ints {w : World} {a : Option Addr} {len cap : Nat} {zs : List Int}
    (h : (a = none ∧ len = 0 ∧ cap = 0 ∧ zs = []) ∨ ∃ x, a = some x ∧ len ≤ cap ∧ cap ≤ maxLen ∧ zs.length = cap ∧ (∀ i, i < zs.length → w.cell? (x.add i) = some (.int .i64 (zs.getD i 0))) ∧ ∀ n ∈ zs, (Lit.int .i64 n).wf = true) :
    RelP w (fun b => b < w.heap.size) (pints (zs.take len)) (.slice a len cap) ∧ (zs.take len).length = len ∧ len ≤ maxLen := by
  rcases h with ⟨rfl, rfl, rfl, rfl⟩ | ⟨x, rfl, hl, hm, hz, hc, _⟩
  · refine ⟨?_, rfl, by simp [maxLen]⟩
    simp only [pints, RelP]
    exact ⟨none, 0, rfl, Nat.le_refl _, by simp [maxLen], (fun _ e => by cases e), (fun e => by cases e), fun e => absurd rfl e⟩
  · have hlen : (zs.take len).length = len := by simp; omega
    refine ⟨?_, hlen, by omega⟩
    simp only [pints, RelP]
    refine ⟨some x, cap, by rw [hlen], by omega, hm, (fun _ e => by cases e), (fun e => by cases e), fun hne => ?_⟩
    have hpos : 0 < zs.length := by
      rcases Nat.eq_zero_or_pos zs.length with h0 | h0
      · exfalso; apply hne; rw [List.eq_nil_of_length_eq_zero h0]; simp
      · exact h0
    obtain ⟨b, off, sp⟩ := x
    have hsp : sp = none := by
      have h0 := hc 0 hpos
      cases sp with
      | none => rfl
      | some s =>
        exfalso
        have e : (⟨b, off, some s⟩ : Addr).add 0 = ⟨b, off, some s⟩ := rfl
        rw [e] at h0
        unfold World.cell? at h0
        split at h0
        · simp at h0
        · cases h0
    subst hsp
    have h0 := hc 0 hpos
    rw [Addr.add_lit] at h0
    refine ⟨b, off, (zs.take len).map (Value.int .i64), rfl, ?_, World.block_lt_of_cell? w _ h0, fun j hj => ?_⟩
    · generalize zs.take len = l
      induction l with
      | nil => exact RelPL.nil
      | cons y l ih => exact RelPL.cons (by simp only [RelP]) ih
    · have hj2 : j < len ∧ j < zs.length := by simp at hj; omega
      have hcj := hc j hj2.2
      rw [Addr.add_lit] at hcj
      rw [hcj, List.getElem?_map, List.getElem?_take, if_pos hj2.1, List.getElem?_eq_getElem hj2.2]
      simp [List.getD, hj2.2]

end Go.Proofs.Ytkalgjnhaicabaa
