/-
  The walk of schema.features and schema.Check.
-/
import Derived.Test.YtopblgabadljdaaCheckR
namespace Go.Proofs.Ytopblgabadljdaa
open Go.RowKit

theorem featCells_get (l : List (Int × Int × Int)) (k : Nat) (hk : k < l.length) : (featCells l)[k * 3]? = some (.int .i64 l[k].1) ∧ (featCells l)[k * 3 + 1]? = some (.int .i64 l[k].2.1) ∧ (featCells l)[k * 3 + 2]? = some (.int .i64 l[k].2.2) := by
  induction l generalizing k with
  | nil => simp at hk
  | cons a l ih =>
    cases k with
    | zero => exact ⟨rfl, rfl, rfl⟩
    | succ k =>
      have := ih k (by simpa using hk)
      simp only [featCells, List.flatMap_cons] at this ⊢
      rw [show (k + 1) * 3 = (k * 3) + 3 by omega, List.getElem?_append_right (by simp), show (k * 3 + 3 + 1) = (k * 3 + 1) + 3 by omega, List.getElem?_append_right (by simp), show (k * 3 + 3 + 2) = (k * 3 + 2) + 3 by omega, List.getElem?_append_right (by simp)]
      simpa using this
theorem featCells_len (l : List (Int × Int × Int)) : (featCells l).length = l.length * 3 := by
  induction l with
  | nil => rfl
  | cons a l ih => simp only [featCells, List.flatMap_cons, List.length_append, List.length_cons, List.length_nil] at ih ⊢; omega
theorem featCells_take (l : List (Int × Int × Int)) (k : Nat) : featCells (l.take k) = (featCells l).take (k * 3) := by
  induction l generalizing k with
  | nil => simp [featCells]
  | cons a l ih =>
    cases k with
    | zero => simp [featCells]
    | succ k =>
      have := ih k
      simp only [featCells, List.take_succ_cons, List.flatMap_cons] at this ⊢
      rw [this, show (k + 1) * 3 = k * 3 + 3 by omega]
      rfl
theorem feat_at {w : World} {R : Nat → Prop} {A : Option Addr} {l : List (Int × Int × Int)} (h : Row w R A (featCells l)) {k : Nat} (hk : k < l.length) :
    ∃ b off : Nat, A = some ⟨b, off, none⟩ ∧ b < w.heap.size ∧ w.cell? ⟨b, off + k * 3, none⟩ = some (.int .i64 l[k].1) ∧ w.cell? ⟨b, off + k * 3 + 1, none⟩ = some (.int .i64 l[k].2.1) ∧ w.cell? ⟨b, off + k * 3 + 2, none⟩ = some (.int .i64 l[k].2.2) := by
  obtain ⟨b, off, e, _, hb, hc⟩ := h.at_ (k := k * 3) (by rw [featCells_len]; omega)
  obtain ⟨h1, h2, h3⟩ := featCells_get l k hk
  exact ⟨b, off, e, hb, by rw [hc _ (by rw [featCells_len]; omega)]; exact h1, by rw [Nat.add_assoc, hc _ (by rw [featCells_len]; omega)]; exact h2, by rw [Nat.add_assoc, hc _ (by rw [featCells_len]; omega)]; exact h3⟩

/-- The closure in features: is it the same attribute? -/
theorem feat1_any (a k m : Int) (bf : Nat) (x y z : Int) (w : World) (h : Blk w bf 83 #[.int .i64 x, .int .i64 y, .int .i64 z]) :
    Calls Try.prog 64 #[.agg #[.int .i64 a, .int .i64 k, .int .i64 m], .pointer (some ⟨bf, 0, none⟩)] w fun e w' => e = .returned (.bool (a == x)) ∧ Below w.heap.size w w' := by
  have hc := h.cell 0
  have hlt := h.lt
  simp at hc
  go_enter Try.func64, Try.ntmps64
  go_wp2
  go_ret
  exact ⟨rfl, (Below.refl _ _).alloc (Nat.le_refl _) _⟩

theorem indexF_any (A : Option Addr) (c : Nat) (l : List (Int × Int × Int)) (bf : Nat) (x y z : Int) (w : World) {R : Nat → Prop} (h : Row w R A (featCells l)) (hl : l.length ≤ 1000) (hf : Blk w bf 83 #[.int .i64 x, .int .i64 y, .int .i64 z]) :
    Calls Try.prog 69 #[.slice A l.length c, .func (.func 64) #[] #[.pointer (some ⟨bf, 0, none⟩)]] w fun e w' => e = .returned (.int .i64 (idxI (l.map (·.1)) x)) ∧ Below w.heap.size w w' := by
  have hml : (l.map (·.1)).length = l.length := by simp
  generalize hM : l.map (·.1) = m at *
  have HM := Lib.hid hM
  have HML := Lib.hid hml
  clear hM hml
  go_enter Try.func69, Try.ntmps69
  go_wp2
  go_loopw [8] (fun i wr => ∃ k : Nat, k ≤ l.length ∧ i = .int .i64 k ∧ hasB (m.take k) x = false ∧ Below w.heap.size w wr) (fun i _ => l.length - (intOf i).toNat)
  case atStart => exact ⟨0, Nat.zero_le _, rfl, by simp [hasB], Below.refl _ _⟩
  case round =>
    obtain ⟨k, hk, rfl, hno, hbel⟩ := hrel
    have HN := Lib.hid hno
    clear hno
    by_cases hlt : k < l.length
    · obtain ⟨b, off, rfl, hbb, c1, c2, c3⟩ := feat_at (h.ext hbel) hlt
      have hf' := hf.ext hbel
      have hmk : ∃ hk2 : k < m.length, m[k] = l[k].1 := ⟨by rw [HML.out]; exact hlt, by have := HM.out; subst this; simp⟩
      have HMK := Lib.hid hmk
      have HF := Lib.hid hf'
      clear hmk hf'
      cases he : (l[k].1 == x)
      · go_wp2_with (go_at_call 64; go_must (refine (feat1_any _ _ _ bf x y z _ HF.out).mono ?_; rintro e w1 ⟨rfl, hb1⟩))
        obtain ⟨hk2, hmk⟩ := HMK.out
        exact ⟨⟨k + 1, by omega, by go_num, hasB_succ hk2 HN.out (by rw [hmk]; simpa using he), hbel.trans (hb1.mono hbel.size)⟩, by simp [intOf]; omega⟩
      · go_wp2_with (go_at_call 64; go_must (refine (feat1_any _ _ _ bf x y z _ HF.out).mono ?_; rintro e w1 ⟨rfl, hb1⟩))
        go_ret
        obtain ⟨hk2, hmk⟩ := HMK.out
        exact ⟨ret_int (idxI_snoc hk2 HN.out (by rw [hmk]; simpa using he)).symm, hbel.trans (hb1.mono hbel.size)⟩
    · go_wp2
      go_ret
      have hn := HN.out
      rw [List.take_of_length_le (by rw [HML.out]; omega)] at hn
      exact ⟨ret_int (idxI_none hn).symm, hbel⟩

theorem containsF_any (A : Option Addr) (c : Nat) (l : List (Int × Int × Int)) (bf : Nat) (x y z : Int) (w : World) {R : Nat → Prop} (h : Row w R A (featCells l)) (hl : l.length ≤ 1000) (hf : Blk w bf 83 #[.int .i64 x, .int .i64 y, .int .i64 z]) :
    Calls Try.prog 63 #[.slice A l.length c, .func (.func 64) #[] #[.pointer (some ⟨bf, 0, none⟩)]] w fun e w' => e = .returned (.bool (hasB (l.map (·.1)) x)) ∧ Below w.heap.size w w' := by
  have hb := (idxI_bd (l.map (·.1)) x).1
  have HB := Lib.hid hb
  clear hb
  go_enter Try.func63, Try.ntmps63
  go_wp2_with (go_at_call 69; go_must (refine (indexF_any A c l bf x y z w h hl hf).mono ?_; rintro e w1 ⟨rfl, hb1⟩))
  go_ret
  exact ⟨ret_bool (by rw [Bool.eq_iff_iff]; simpa using HB.out), hb1⟩

theorem featE_eq (S : Sch) (k : Nat) (hk : k < S.feats.length) : featE S k = if S.feats[k].1 < 0 ∨ (S.attrs.length : Int) ≤ S.feats[k].1 then 2
    else if ((S.feats[k].2.1 == 1 && (S.attrs.getD S.feats[k].1.toNat default).2 == 2 && (S.feats[k].2.2 == 0 || S.feats[k].2.2 == 1)) || (S.feats[k].2.1 == 2 && (S.attrs.getD S.feats[k].1.toNat default).2 == 3 && S.feats[k].2.2 == 0)) = false then 7
    else if (S.feats[k].1 == S.label || hasB ((S.feats.take k).map (·.1)) S.feats[k].1) = true then 9 else 0 := by
  have e : S.feats.getD k default = S.feats[k] := by simp [List.getD, hk]
  have e2 : ((S.feats.take k).any fun g => g.1 == S.feats[k].1) = hasB ((S.feats.take k).map (·.1)) S.feats[k].1 := by
    unfold hasB
    rw [Bool.eq_iff_iff, List.any_eq_true, decide_eq_true_eq, List.mem_map]
    constructor
    · rintro ⟨g, h1, h2⟩; exact ⟨g, h1, by simpa using h2⟩
    · rintro ⟨g, h1, h2⟩; exact ⟨g, h1, by simpa using h2⟩
  unfold featE
  rw [e, ← e2]

set_option maxRecDepth 100000 in
set_option maxHeartbeats 1000000 in
theorem features_any (v : Value) (S : Sch) (w : World) {R : Nat → Prop} (h : SchAt w R v S) (hb : SBd S) :
    Calls Try.prog 52 #[v] w fun e w' => e = .returned (.int .i64 (scanE (featE S) S.feats.length)) ∧ Below w.heap.size w w' := by
  obtain ⟨A1, c1, A2, c2, A3, c3, rfl, l1, l2, l3, h1, h2, h3⟩ := h
  clear h2 l1 l2
  have hba := hb.a
  have hbf := hb.f
  go_enter Try.func52, Try.ntmps52
  go_wp2
  go_loopw [11] (fun i wr => ∃ k : Nat, k ≤ S.feats.length ∧ i = .int .i64 k ∧
    Blk wr w.heap.size 28 #[Value.slice A1 S.attrs.length c1, Value.slice A2 S.rels.length c2, Value.slice A3 S.feats.length c3, Value.int IntKind.i64 S.label] ∧ scanE (featE S) k = 0 ∧ Below w.heap.size w wr) (fun i _ => S.feats.length - (intOf i).toNat)
  case atStart => exact ⟨0, Nat.zero_le _, rfl, Blk.new _ _ _, rfl, (Below.refl _ _).alloc (Nat.le_refl _) _⟩
  case round =>
    obtain ⟨k, hk, rfl, hbx, hsc, hbel⟩ := hrel
    have HSC := Lib.hid hsc
    have HBX := Lib.hid hbx
    have x0 := hbx.cell 0
    have x2 := hbx.cell 2
    have x3 := hbx.cell 3
    have xlt := hbx.lt
    simp at x0 x2 x3
    clear hsc hbx
    by_cases hlt : k < S.feats.length
    · obtain ⟨b, off, rfl, hbb, hc1, hc2, hc3⟩ := feat_at h3 hlt
      have hc1' : wr.cell? ⟨b, off + k * 3, none⟩ = some (.int .i64 S.feats[k].1) := by rw [hbel.cell (p := ⟨b, off + k * 3, none⟩) hbb]; exact hc1
      have hc2' : wr.cell? ⟨b, off + k * 3 + 1, none⟩ = some (.int .i64 S.feats[k].2.1) := by rw [hbel.cell (p := ⟨b, off + k * 3 + 1, none⟩) hbb]; exact hc2
      have hc3' : wr.cell? ⟨b, off + k * 3 + 2, none⟩ = some (.int .i64 S.feats[k].2.2) := by rw [hbel.cell (p := ⟨b, off + k * 3 + 2, none⟩) hbb]; exact hc3
      clear hc1 hc2 hc3
      have hrange : S.feats[k].1 < 0 ∨ (0 ≤ S.feats[k].1 ∧ (S.attrs.length : Int) ≤ S.feats[k].1) ∨ (0 ≤ S.feats[k].1 ∧ S.feats[k].1 < S.attrs.length) := by omega
      have hfe := featE_eq S k hlt
      generalize S.feats[k].1 = F at *
      generalize S.feats[k].2.1 = K at *
      generalize S.feats[k].2.2 = M at *
      have HFE := Lib.hid hfe
      clear hfe
      rcases hrange with hr | ⟨hr1, hr2⟩ | ⟨hr1, hr2⟩
      · go_wp2
        go_ret
        refine ⟨ret_int ?_, hbel.alloc hbel.size _⟩
        have hf : featE S k = 2 := by rw [HFE.out, if_pos (.inl hr)]
        rw [scanE_at HSC.out (by rw [hf]; decide) hlt, hf]
      · go_wp2
        go_ret
        refine ⟨ret_int ?_, hbel.alloc hbel.size _⟩
        have hf : featE S k = 2 := by rw [HFE.out, if_pos (.inr hr2)]
        rw [scanE_at HSC.out (by rw [hf]; decide) hlt, hf]
      · obtain ⟨an, rfl⟩ := Int.eq_ofNat_of_zero_le hr1
        have hanl : an < S.attrs.length := by omega
        obtain ⟨b', off', hA1, hbb', ha1, ha2⟩ := attr_at (h1.ext hbel) hanl
        subst hA1
        have hat : (S.attrs.getD ((an : Int)).toNat default).2 = S.attrs[an].2 := by simp [List.getD, hanl]
        have hfe2 := HFE.out
        rw [hat, if_neg (by omega)] at hfe2
        generalize S.attrs[an].2 = D at *
        have hct : ∀ M' : Int, Calls Try.prog 63 #[.slice (some ⟨b, off, none⟩) k c3, .func (.func 64) #[] #[.pointer (some ⟨wr.heap.size, 0, none⟩)]]
            (wr.alloc (.cells #[.int .i64 an, .int .i64 K, .int .i64 M'] 83)) fun e w' => e = .returned (.bool (hasB ((S.feats.take k).map (·.1)) (an : Int))) ∧ Below (wr.heap.size + 1) (wr.alloc (.cells #[.int .i64 an, .int .i64 K, .int .i64 M'] 83)) w' := fun M' => by
          have hrt : Row wr R (some ⟨b, off, none⟩) (featCells (S.feats.take k)) := by rw [featCells_take]; exact (h3.ext hbel).take _
          have := containsF_any (some ⟨b, off, none⟩) c3 (S.feats.take k) wr.heap.size an K M' _ (hrt.alloc (.cells #[.int .i64 an, .int .i64 K, .int .i64 M'] 83)) (by simp; omega) (Blk.new _ _ _)
          rw [show (S.feats.take k).length = k by simp; omega, World.size_alloc] at this
          exact this
        generalize hasB ((S.feats.take k).map (·.1)) (an : Int) = dup at hct hfe2
        have HCT := Lib.hid hct
        clear hat HFE
        have HFE := Lib.hid hfe2
        clear hfe2 hct ha1
        cases hK1 : (K == 1)
        · cases hK2 : (K == 2)
          · -- neither
            go_wp2_with fail
            go_ret
            refine ⟨ret_int ?_, hbel.alloc hbel.size _⟩
            have hf : featE S k = 7 := by rw [HFE.out]; simp [*]
            rw [scanE_at HSC.out (by rw [hf]; decide) hlt, hf]
          · cases hD3 : (D == 3)
            · -- no category
              go_wp2_with fail
              go_ret
              refine ⟨ret_int ?_, hbel.alloc hbel.size _⟩
              have hf : featE S k = 7 := by rw [HFE.out]; simp [*]
              rw [scanE_at HSC.out (by rw [hf]; decide) hlt, hf]
            · cases hM0 : (M == 0)
              · -- missing
                go_wp2_with fail
                go_ret
                refine ⟨ret_int ?_, hbel.alloc hbel.size _⟩
                have hf : featE S k = 7 := by rw [HFE.out]; simp [*]
                rw [scanE_at HSC.out (by rw [hf]; decide) hlt, hf]
              · -- a category
                cases hLb : ((an : Int) == S.label)
                · cases dup
                  · go_wp2_with (go_at_call 63; go_must (refine (HCT.out M).mono ?_; rintro e w1 ⟨rfl, hb1⟩))
                    refine ⟨⟨k + 1, by omega, by go_num, (HBX.out.alloc _).below hb1 (by omega), ?_, ?_⟩, by simp [intOf]; omega⟩
                    · rw [scanE_succ HSC.out, HFE.out]; simp [*]
                    · exact (hbel.alloc hbel.size _).trans (hb1.mono (by have := hbel.size; simp; omega))
                  · go_wp2_with (go_at_call 63; go_must (refine (HCT.out M).mono ?_; rintro e w1 ⟨rfl, hb1⟩))
                    go_ret
                    refine ⟨ret_int ?_, (hbel.alloc hbel.size _).trans (hb1.mono (by have := hbel.size; simp; omega))⟩
                    have hf : featE S k = 9 := by rw [HFE.out]; simp [*]
                    rw [scanE_at HSC.out (by rw [hf]; decide) hlt, hf]
                · go_wp2_with fail
                  go_ret
                  refine ⟨ret_int ?_, hbel.alloc hbel.size _⟩
                  have hf : featE S k = 9 := by rw [HFE.out]; simp [*]
                  rw [scanE_at HSC.out (by rw [hf]; decide) hlt, hf]
        · have hK2 : (K == 2) = false := by simp at hK1; simp [hK1]
          cases hD2 : (D == 2)
          · -- no number
            go_wp2_with fail
            go_ret
            refine ⟨ret_int ?_, hbel.alloc hbel.size _⟩
            have hf : featE S k = 7 := by rw [HFE.out]; simp [*]
            rw [scanE_at HSC.out (by rw [hf]; decide) hlt, hf]
          · cases hM0 : (M == 0)
            · cases hM1 : (M == 1)
              · -- missing
                go_wp2_with fail
                go_ret
                refine ⟨ret_int ?_, hbel.alloc hbel.size _⟩
                have hf : featE S k = 7 := by rw [HFE.out]; simp [*]
                rw [scanE_at HSC.out (by rw [hf]; decide) hlt, hf]
              · -- a number
                cases hLb : ((an : Int) == S.label)
                · cases dup
                  · go_wp2_with (go_at_call 63; go_must (refine (HCT.out M).mono ?_; rintro e w1 ⟨rfl, hb1⟩))
                    refine ⟨⟨k + 1, by omega, by go_num, (HBX.out.alloc _).below hb1 (by omega), ?_, ?_⟩, by simp [intOf]; omega⟩
                    · rw [scanE_succ HSC.out, HFE.out]; simp [*]
                    · exact (hbel.alloc hbel.size _).trans (hb1.mono (by have := hbel.size; simp; omega))
                  · go_wp2_with (go_at_call 63; go_must (refine (HCT.out M).mono ?_; rintro e w1 ⟨rfl, hb1⟩))
                    go_ret
                    refine ⟨ret_int ?_, (hbel.alloc hbel.size _).trans (hb1.mono (by have := hbel.size; simp; omega))⟩
                    have hf : featE S k = 9 := by rw [HFE.out]; simp [*]
                    rw [scanE_at HSC.out (by rw [hf]; decide) hlt, hf]
                · go_wp2_with fail
                  go_ret
                  refine ⟨ret_int ?_, hbel.alloc hbel.size _⟩
                  have hf : featE S k = 9 := by rw [HFE.out]; simp [*]
                  rw [scanE_at HSC.out (by rw [hf]; decide) hlt, hf]
            · -- a number
              cases hLb : ((an : Int) == S.label)
              · cases dup
                · go_wp2_with (go_at_call 63; go_must (refine (HCT.out M).mono ?_; rintro e w1 ⟨rfl, hb1⟩))
                  refine ⟨⟨k + 1, by omega, by go_num, (HBX.out.alloc _).below hb1 (by omega), ?_, ?_⟩, by simp [intOf]; omega⟩
                  · rw [scanE_succ HSC.out, HFE.out]; simp [*]
                  · exact (hbel.alloc hbel.size _).trans (hb1.mono (by have := hbel.size; simp; omega))
                · go_wp2_with (go_at_call 63; go_must (refine (HCT.out M).mono ?_; rintro e w1 ⟨rfl, hb1⟩))
                  go_ret
                  refine ⟨ret_int ?_, (hbel.alloc hbel.size _).trans (hb1.mono (by have := hbel.size; simp; omega))⟩
                  have hf : featE S k = 9 := by rw [HFE.out]; simp [*]
                  rw [scanE_at HSC.out (by rw [hf]; decide) hlt, hf]
              · go_wp2_with fail
                go_ret
                refine ⟨ret_int ?_, hbel.alloc hbel.size _⟩
                have hf : featE S k = 9 := by rw [HFE.out]; simp [*]
                rw [scanE_at HSC.out (by rw [hf]; decide) hlt, hf]
    · go_wp2
      go_ret
      obtain rfl : k = S.feats.length := by omega
      exact ⟨ret_int HSC.out.symm, hbel⟩

end Go.Proofs.Ytopblgabadljdaa
