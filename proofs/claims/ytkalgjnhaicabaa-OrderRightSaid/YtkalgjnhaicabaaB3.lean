/-
  outline.Of, order.Of, in our step logic. No statement of the program is proved here.
-/
import Derived.Test.YtkalgjnhaicabaaB2
import Derived.Test.YtkalgjnhaicabaaE18
namespace Go.Proofs.Ytkalgjnhaicabaa
open Go.RowKit Mk
set_option maxRecDepth 100000
set_option maxHeartbeats 1000000

section
variable {C : Ctx} {n : Nat} {σ τ : St} {ops : Array Oper} {dst : Option Tmp} {ty : TypeId} {ts : Array TypeId} {pos : String} {after : Array Edge} {gd : Option (Nat × Bool)}
theorem Agr.argsV {s : OS} {rd : List Nat} {y : Operand} {xs : Array Operand} (h : Agr n ops ⟨dst, .call { callee := .value y, args := xs, argTypes := ts }, ty, pos, after, gd⟩ σ τ s rd) : xs.toList.map (τ.ev n) = xs.toList.map (σ.ev n) := by
  apply List.map_congr_left
  intro x hx
  obtain ⟨i, hi⟩ := List.getElem?_of_mem hx
  exact h.e (i + 1) x (by simpa [Op.operands, Call.operands, Nat.add_comm] using hi)
/-- A call of a function value that is handed places, if it always leaves the same. -/
theorem xj_callVF {f : FuncId} {xs : Array Operand} {y : Operand} {fs cs : List V} {args : List V} {os : List (Nat × Ob)} {k' : Nat} {r : V} {X : Nat → Option Ob} {vs : List V} (ids : List Nat) (base : Nat) (hc : CallOk C.P f) (hf : FnO C.P f ids.length k' args os (fun v ob' => v = r ∧ ob' = X)) (hy : σ.ev n y = .fn (.func f) fs cs) (hxs : xs.toList.map (σ.ev n) = vs) (hargs : fs ++ vs ++ cs = V.renL (renI ids base) args)
    (ha : V.allL (okR ids.length 0) args = true) (hos : os.map (·.1) = (List.range ids.length).map (big + ·)) (hob : os.all (fun p => p.2.all (okR ids.length 0)) = true) (hobs : allObR σ (renI ids base) os)
    (hnd : ids.Nodup) (hav : (nwO base k').all σ.av = true) :
    XJ C n ⟨dst, .call { callee := .value y, args := xs, argTypes := ts }, ty, pos, after, gd⟩ σ ⟨r.ren (renI ids base), wrO ids base k' X, nwO base k'⟩ :=
  oj_callVO ids base hc hy (by rw [hxs]; exact hargs) ha hos hob hobs hnd hav hf (by rintro _ _ ⟨rfl, rfl⟩; rfl)
end

/-- What a component adds to the parents: its first number in q has the parent par; the rest of it is placed by W. -/
def placeC (q : List Int) (W : B64 → Int → List Int → List Int) (par : Int) (P : List Int) (c : B64) : List Int :=
  match q.find? (fun a => c.getLsbD a.toNat) with
  | some a => W (c &&& ~~~(BitVec.twoPow 64 a.toNat)) a (P.set a.toNat par)
  | none => P
noncomputable def placeF (G : List B64) (q : List Int) : Nat → B64 → Int → List Int → List Int
  | 0, _, _, P => P
  | f + 1, rest, par, P => (compsN G rest G.length).1.foldl (placeC q (placeF G q f) par) P

abbrev plF (G : List B64) (q : List Int) : V := .fn (.func 49) [] [.pv (.rp [psets G] 0), .pv (.rp [pints q] 0), .ptr big 0, .ptr 1000001 0]
abbrev plA (G : List B64) (q : List Int) (rest : B64) (par : Int) : List V := [.pv (setP rest), .pv (.int .i64 par), .pv (.rp [psets G] 0), .pv (.rp [pints q] 0), .ptr big 0, .ptr 1000001 0]
abbrev plO (G : List B64) (q : List Int) (P : List Int) : List (Nat × Ob) := [(big, .mix 33 [.osl 1000002 1 G.length]), (1000001, .mix 82 [plF G q]), (1000002, intsO P)]
theorem find_take {q : List Int} {p : Int → Bool} {k : Nat} (hk : k < q.length) (hno : q.take k |>.all (fun a => !p a)) (h : p q[k] = true) : q.find? p = some q[k] := by
  rw [List.find?_eq_some_iff_append]
  refine ⟨h, q.take k, q.drop (k + 1), ?_, fun a ha => List.all_eq_true.1 hno a ha⟩
  conv => lhs; rw [← List.take_append_drop k q]
  rw [List.drop_eq_getElem_cons hk]

theorem place_step (G : List B64) (hG : G.length ≤ 12) (q : List Int) (hq : ∀ a ∈ q, 0 ≤ a ∧ a < G.length) (hql : q.length ≤ 1000) (W : B64 → Int → List Int → List Int) (hWl : ∀ r p P, (W r p P).length = P.length) (rest : B64) (par : Int)
    (hrec : ∀ c ∈ (compsN G rest G.length).1, ∀ (a : Nat) (P : List Int), a < G.length → c.getLsbD a = true → P.length = G.length → FnO Try.prog 49 3 0 (plA G q (c &&& ~~~(BitVec.twoPow 64 a)) a) (plO G q P) (fun r ob' => r = .tup [] ∧ ob' = lookO (plO G q (W (c &&& ~~~(BitVec.twoPow 64 a)) a P))))
    (P : List Int) (hP : P.length = G.length) :
    FnO Try.prog 49 3 0 (plA G q rest par) (plO G q P) (fun r ob' => r = .tup [] ∧ ob' = lookO (plO G q ((compsN G rest G.length).1.foldl (placeC q W par) P))) := by
  refine FnO.of Try.func49 rfl Try.ntmps49 (by simp) fun m0 w0 F R0 => ?_
  have hcl := comps_len G rest G.length
  have hlen : ∀ (Q : List Int) c, (placeC q W par Q c).length = Q.length := by
    intro Q c; unfold placeC; split
    · rw [hWl]; simp
    · rfl
  repeat refine AW.seq ?_
  refine AW.region ?_
  first | refine RL.step (d := some 12) rfl rfl (xj_load1 ⟨_, Try.underlying80, rfl⟩ rfl rfl rfl) ?_ | refine RL.step (d := some 12) rfl rfl (xj_load1P ⟨_, Try.underlying80, rfl⟩ rfl rfl (by first | rfl | assumption)) ?_ | refine RL.step (d := some 12) rfl rfl (xj_loadR ⟨_, Try.underlying80, rfl⟩ rfl (by first | rfl | assumption)) ?_
  refine RL.step (d := some 13) rfl rfl (xj_moveE rfl) ?_
  refine RL.step (d := some 14) rfl rfl (xj_call Try.call50 (comps_spec G hG rest) rfl) ?_
  first | refine RL.step (d := some 15) rfl rfl (xj_len Try.underlying79 rfl) ?_ | refine RL.step (d := some 15) rfl rfl (xj_lenO Try.underlying79 rfl rfl) ?_ | refine RL.step (d := some 15) rfl rfl (xj_lenG Try.underlying79 rfl) ?_
  refine RL.step (d := some 16) rfl rfl (xj_moveE rfl) ?_
  repeat refine AW.seq ?_
  refine AW.block ?_
  repeat refine AW.seq ?_
  refine AW.loop (st := fun x_0 : Nat × List Int => mkS [(1, .pv (.int .i64 par)), (3, .pv (.rp [pints q] 0)), (4, .ptr big 0), (5, .ptr 1000001 0), (14, .pv (psets (compsN G rest G.length).1)), (15, .pv (.int .i64 (compsN G rest G.length).1.length)), (16, .pv (.int .i64 x_0.1))] [(big, .mix 33 [.osl 1000002 1 G.length]), (1000001, .mix 82 [plF G q]), (1000002, intsO x_0.2)] 0)
    (I := fun x_0 => x_0.1 ≤ (compsN G rest G.length).1.length ∧ x_0.2.length = P.length ∧ x_0.2 = ((compsN G rest G.length).1.take x_0.1).foldl (placeC q W par) P) (μ := fun x_0 => (compsN G rest G.length).1.length - x_0.1) (x0 := (0, P)) (St.le_mk ⟨rfl, rfl, rfl, rfl, rfl, rfl, rfl, trivial⟩ ⟨rfl, rfl, rfl, trivial⟩ rfl rfl) (⟨Nat.zero_le _, rfl, rfl⟩) ?_
  rintro ⟨k, Q⟩ ⟨hk, hQl, hQ⟩
  try simp only at hk hQl hQ ⊢
  repeat refine AW.seq ?_
  refine AW.region ?_
  refine RL.step (d := some 17) rfl rfl (xj_bin rfl rfl rfl) ?_
  repeat refine AW.seq ?_
  refine AW.condP rfl (fun hc17 => ?_) (fun hc17 => ?_)
  · have hlt : k < (compsN G rest G.length).1.length := by omega
    have hv := psets_at hlt
    have hne := psets_ne hlt
    have hcm := List.getElem_mem hlt
    have hfs : ((compsN G rest G.length).1.take (k + 1)).foldl (placeC q W par) P = placeC q W par Q (compsN G rest G.length).1[k] := by rw [take_snoc hlt, List.foldl_append, ← hQ]; rfl
    generalize hcd : (compsN G rest G.length).1[k] = c at *
    refine AW.skip ?_
    repeat refine AW.seq ?_
    refine AW.block ?_
    repeat refine AW.seq ?_
    refine AW.region ?_
    first | refine RL.step (d := some 18) rfl rfl (xj_indexAddr _ Try.underlying79 sz84 rfl rfl rfl (by omega) (by assumption)) ?_ | refine RL.step (d := some 18) rfl rfl (xj_indexAddrO _ Try.underlying79 sz84 rfl rfl rfl rfl (by omega)) ?_
    first | refine RL.step (d := some 19) rfl rfl (xj_load1 ⟨_, Try.underlying84, rfl⟩ rfl rfl rfl) ?_ | refine RL.step (d := some 19) rfl rfl (xj_load1P ⟨_, Try.underlying84, rfl⟩ rfl rfl (by first | rfl | assumption)) ?_ | refine RL.step (d := some 19) rfl rfl (xj_loadR ⟨_, Try.underlying84, rfl⟩ rfl (by first | rfl | assumption)) ?_
    refine RL.step (d := some 9) rfl rfl (xj_assignE rfl) ?_
    repeat refine AW.seq ?_
    refine AW.region ?_
    first | refine RL.step (d := some 20) rfl rfl (xj_load1 ⟨_, Try.underlying22, rfl⟩ rfl rfl rfl) ?_ | refine RL.step (d := some 20) rfl rfl (xj_load1P ⟨_, Try.underlying22, rfl⟩ rfl rfl (by first | rfl | assumption)) ?_ | refine RL.step (d := some 20) rfl rfl (xj_loadR ⟨_, Try.underlying22, rfl⟩ rfl (by first | rfl | assumption)) ?_
    first | refine RL.step (d := some 21) rfl rfl (xj_len Try.underlying22 rfl) ?_ | refine RL.step (d := some 21) rfl rfl (xj_lenO Try.underlying22 rfl rfl) ?_ | refine RL.step (d := some 21) rfl rfl (xj_lenG Try.underlying22 rfl) ?_
    refine RL.step (d := some 22) rfl rfl (xj_moveE rfl) ?_
    repeat refine AW.seq ?_
    refine AW.block ?_
    repeat refine AW.seq ?_
    refine AW.loop (st := fun x_1 : Nat => mkS [(1, .pv (.int .i64 par)), (3, .pv (.rp [pints q] 0)), (4, .ptr big 0), (5, .ptr 1000001 0), (9, .pv (setP c)), (14, .pv (psets (compsN G rest G.length).1)), (15, .pv (.int .i64 (compsN G rest G.length).1.length)), (16, .pv (.int .i64 k)), (20, .pv (pints q)), (21, .pv (.int .i64 q.length)), (22, .pv (.int .i64 x_1))] [(big, .mix 33 [.osl 1000002 1 G.length]), (1000001, .mix 82 [plF G q]), (1000002, intsO Q)] 0)
      (I := fun x_1 => x_1 ≤ q.length ∧ (q.take x_1).all (fun a => !c.getLsbD a.toNat) = true) (μ := fun x_1 => q.length - x_1) (x0 := (0)) (St.le_mk ⟨rfl, rfl, rfl, rfl, rfl, rfl, rfl, rfl, rfl, rfl, rfl, trivial⟩ ⟨rfl, rfl, rfl, trivial⟩ rfl rfl) (⟨Nat.zero_le _, rfl⟩) ?_
    rintro j ⟨hj, hno⟩
    repeat refine AW.seq ?_
    refine AW.region ?_
    refine RL.step (d := some 23) rfl rfl (xj_bin rfl rfl rfl) ?_
    repeat refine AW.seq ?_
    refine AW.condP rfl (fun hc23 => ?_) (fun hc23 => ?_)
    · have hjl : j < q.length := by omega
      have hvj := pints_at hjl
      have hnej := pints_ne hjl
      have hqj := hq _ (List.getElem_mem hjl)
      obtain ⟨a, ha⟩ := Int.eq_ofNat_of_zero_le hqj.1
      have hat : q[j].toNat = a := by omega
      have hhas : FnP Try.prog 51 [setP c, .int .i64 q[j]] (· = .bool (c.getLsbD a)) := by rw [ha]; exact has_sp c a (by omega)
      have hof : FnP Try.prog 52 [.int .i64 q[j]] (· = setP (BitVec.twoPow 64 a)) := by rw [ha]; exact of_spec a (by omega)
      refine AW.skip ?_
      repeat refine AW.seq ?_
      refine AW.block ?_
      repeat refine AW.seq ?_
      refine AW.region ?_
      first | refine RL.step (d := some 24) rfl rfl (xj_indexAddr _ Try.underlying22 sz3 rfl rfl rfl (by omega) (by assumption)) ?_ | refine RL.step (d := some 24) rfl rfl (xj_indexAddrO _ Try.underlying22 sz3 rfl rfl rfl rfl (by omega)) ?_
      first | refine RL.step (d := some 25) rfl rfl (xj_load1 ⟨_, Try.underlying3, rfl⟩ rfl rfl rfl) ?_ | refine RL.step (d := some 25) rfl rfl (xj_load1P ⟨_, Try.underlying3, rfl⟩ rfl rfl (by first | rfl | assumption)) ?_ | refine RL.step (d := some 25) rfl rfl (xj_loadR ⟨_, Try.underlying3, rfl⟩ rfl (by first | rfl | assumption)) ?_
      refine RL.step (d := some 11) rfl rfl (xj_assignE rfl) ?_
      repeat refine AW.seq ?_
      refine AW.region ?_
      refine RL.step (d := some 26) rfl rfl (xj_moveE rfl) ?_
      refine RL.step (d := some 27) rfl rfl (xj_moveE rfl) ?_
      refine RL.step (d := some 28) rfl rfl (xj_call Try.call51 hhas rfl) ?_
      repeat refine AW.seq ?_
      refine AW.cond rfl (fun hc28 => ?_) (fun hc28 => ?_)
      · have hgo := hrec c hcm a (Q.set a par) (by omega) hc28 (by simp; omega)
        have hpl : placeC q W par Q c = W (c &&& ~~~(BitVec.twoPow 64 a)) a (Q.set a par) := by unfold placeC; rw [find_take hjl hno (by rw [hat]; exact hc28)]; simp only [hat, ha, Int.toNat_natCast]
        have hlW : (W (c &&& ~~~(BitVec.twoPow 64 a)) a (Q.set a par)).length = P.length := by rw [hWl]; simp; omega
        have hset : intsP (Q.set a par) = (intsP Q).set (a * 1) (.int .i64 par) := by simp [List.map_set]
        repeat refine AW.seq ?_
        refine AW.region ?_
        first | refine RL.step (d := some 29) rfl rfl (xj_fieldAddr fo33_0 rfl rfl) ?_ | refine RL.step (d := some 29) rfl rfl (xj_fieldAddrR fo33_0 rfl) ?_
        first | refine RL.step (d := some 30) rfl rfl (xj_load1 ⟨_, Try.underlying22, rfl⟩ rfl rfl rfl) ?_ | refine RL.step (d := some 30) rfl rfl (xj_load1P ⟨_, Try.underlying22, rfl⟩ rfl rfl (by first | rfl | assumption)) ?_ | refine RL.step (d := some 30) rfl rfl (xj_loadR ⟨_, Try.underlying22, rfl⟩ rfl (by first | rfl | assumption)) ?_
        refine RL.step (d := some 31) rfl rfl (xj_moveE rfl) ?_
        refine RL.step (d := some 32) rfl rfl (xj_moveE rfl) ?_
        refine RL.step (d := some 33) rfl rfl (xj_indexAddrO a Try.underlying22 sz3 rfl rfl rfl ha (by omega)) ?_
        refine RL.step (d := none) rfl rfl (xj_storeP sz3 rfl rfl rfl rfl (by simp; omega)) ?_
        repeat refine AW.seq ?_
        refine AW.draw follows [[], [], [], [2], [3, 1, 2], [], [5, 4, 0, 3, 1, 2]] [0, 1, 2, 3, 4, 5, 6] (by kernel_rfl) (by kernel_rfl) ?_
        first | refine DL.step (d := some 34) [_] rfl rfl rfl (fun τ h => xj_load1 ⟨_, Try.underlying82, rfl⟩ ((h.e 0 _ rfl).trans rfl) ((h.o 0 _ rfl).trans rfl) rfl) rfl (by kernel_rfl) ?_ | refine DL.step (d := some 34) [_] rfl rfl rfl (fun τ h => xj_load1P ⟨_, Try.underlying82, rfl⟩ ((h.e 0 _ rfl).trans rfl) ((h.o 0 _ rfl).trans rfl) (by first | rfl | assumption)) rfl (by kernel_rfl) ?_ | refine DL.step (d := some 34) [] rfl rfl rfl (fun τ h => xj_loadR ⟨_, Try.underlying82, rfl⟩ ((h.e 0 _ rfl).trans rfl) (by first | rfl | assumption)) rfl (by kernel_rfl) ?_
        refine DL.step (d := some 35) [] rfl rfl rfl (fun τ h => xj_moveE ((h.e 0 _ rfl).trans rfl)) rfl (by kernel_rfl) ?_
        refine DL.step (d := some 36) [] rfl rfl rfl (fun τ h => xj_moveE ((h.e 0 _ rfl).trans rfl)) rfl (by kernel_rfl) ?_
        refine DL.step (d := some 37) [] rfl rfl rfl (fun τ h => xj_call Try.call52 hof (h.argsP rfl)) rfl (by kernel_rfl) ?_
        refine DL.step (d := some 38) [] rfl rfl rfl (fun τ h => xj_andNotV ((h.e 0 _ rfl).trans rfl) ((h.e 1 _ rfl).trans rfl)) rfl (by kernel_rfl) ?_
        refine DL.step (d := some 39) [] rfl rfl rfl (fun τ h => xj_moveE ((h.e 0 _ rfl).trans rfl)) rfl (by kernel_rfl) ?_
        refine DL.step (d := some 40) [big, 1000001, 1000002] rfl rfl rfl (fun τ h => xj_callVF [big, 1000001, 1000002] 0 Try.call49 hgo ((h.e 0 _ rfl).trans rfl) (h.argsV.trans rfl) (by rw [← ha]; rfl) rfl rfl rfl ⟨((h.o 0 _ rfl).trans rfl), ((h.o 1 _ rfl).trans rfl), ((h.o 2 _ rfl).trans (congrArg (fun c => some (Ob.cells 3 c)) hset.symm)), trivial⟩ (by decide) rfl) rfl (by kernel_rfl) ?_
        refine ⟨by kernel_rfl, ?_⟩
        repeat refine AW.seq ?_
        refine AW.exit ?_
        repeat refine AW.seq ?_
        refine AW.region ?_
        refine RL.step (d := some 42) rfl rfl (xj_add rfl rfl (by omega)) ?_
        refine RL.step (d := some 16) rfl rfl (xj_moveE rfl) ?_
        exact ⟨(k + 1, W (c &&& ~~~(BitVec.twoPow 64 a)) a (Q.set a par)), St.le_mk ⟨rfl, rfl, rfl, rfl, rfl, rfl, rfl, trivial⟩ ⟨rfl, rfl, rfl, trivial⟩ rfl rfl, ⟨by simp only; omega, hlW, by simp only; rw [hfs, hpl]⟩, by simp only; omega⟩
      · refine AW.skip ?_
        repeat refine AW.seq ?_
        refine AW.region ?_
        refine RL.step (d := some 41) rfl rfl (xj_add rfl rfl (by omega)) ?_
        refine RL.step (d := some 22) rfl rfl (xj_moveE rfl) ?_
        exact ⟨(j + 1), St.le_mk ⟨rfl, rfl, rfl, rfl, rfl, rfl, rfl, rfl, rfl, rfl, rfl, trivial⟩ ⟨rfl, rfl, rfl, trivial⟩ rfl rfl, ⟨by omega, all_take hjl hno (by rw [hat, hc28]; rfl)⟩, by omega⟩
    · have hnone : q.find? (fun a => c.getLsbD a.toNat) = none := by rw [List.take_of_length_le (by omega)] at hno; rw [List.find?_eq_none]; intro x hx; have := List.all_eq_true.1 hno x hx; simpa using this
      have hpl : placeC q W par Q c = Q := by unfold placeC; rw [hnone]
      repeat refine AW.seq ?_
      refine AW.exit ?_
      repeat refine AW.seq ?_
      refine AW.region ?_
      refine RL.step (d := some 42) rfl rfl (xj_add rfl rfl (by omega)) ?_
      refine RL.step (d := some 16) rfl rfl (xj_moveE rfl) ?_
      exact ⟨(k + 1, Q), St.le_mk ⟨rfl, rfl, rfl, rfl, rfl, rfl, rfl, trivial⟩ ⟨rfl, rfl, rfl, trivial⟩ rfl rfl, ⟨by simp only; omega, hQl, by simp only; rw [hfs, hpl]⟩, by simp only; omega⟩
  · repeat refine AW.seq ?_
    refine AW.exit ?_
    exact ⟨[], plO G q ((compsN G rest G.length).1.foldl (placeC q W par) P), [], St.le_mk trivial (by rw [List.take_of_length_le (by omega)] at hQ; rw [← hQ]; exact ⟨by kernel_rfl, by kernel_rfl, by kernel_rfl, trivial⟩) rfl rfl, rfl, rfl, rfl, rfl, rfl⟩

theorem compB_sub {G : List B64} {R : B64} {a i : Nat} (ha : R.getLsbD a = true) (h : (compB G R a).getLsbD i = true) : R.getLsbD i = true := by
  cases compB_reach h with
  | refl => exact ha
  | step _ _ h => exact h
theorem comps_sub (G : List B64) (rest : B64) : ∀ k, (∀ i, (compsN G rest k).2.getLsbD i = true → rest.getLsbD i = true) ∧ ∀ c ∈ (compsN G rest k).1, ∀ i, c.getLsbD i = true → rest.getLsbD i = true
  | 0 => ⟨fun _ h => h, fun c hc => by simp [compsN] at hc⟩
  | k + 1 => by
    obtain ⟨h1, h2⟩ := comps_sub G rest k
    simp only [compsN]
    split
    · rename_i hk
      refine ⟨fun i hi => ?_, fun c hc i hi => ?_⟩
      · rw [BitVec.getLsbD_and, Bool.and_eq_true] at hi; exact h1 i hi.1
      · rcases List.mem_append.1 hc with h | h
        · exact h2 c h i hi
        · rw [List.mem_singleton.1 h] at hi; exact h1 i (compB_sub hk hi)
    · exact ⟨h1, h2⟩
def popB (x : B64) : Nat := (List.range 64).countP fun i => x.getLsbD i
theorem pop_lt {x y : B64} (h : ∀ i, x.getLsbD i = true → y.getLsbD i = true) {j : Nat} (h1 : x.getLsbD j = false) (h2 : y.getLsbD j = true) : popB x < popB y :=
  countP_lt (fun a _ ha => h a ha) ⟨j, List.mem_range.2 (bits_lt h2), h1, h2⟩
theorem diff_bit (c : B64) (a i : Nat) : (c &&& ~~~(BitVec.twoPow 64 a)).getLsbD i = (c.getLsbD i && decide (a ≠ i)) := by
  rw [BitVec.getLsbD_and, BitVec.getLsbD_not, BitVec.getLsbD_twoPow]
  by_cases hi : i < 64
  · by_cases e : a = i
    · subst e; simp [hi]
    · simp [hi, e]
  · rw [BitVec.getLsbD_of_ge c i (by omega)]; rfl
theorem pop_step {G : List B64} {rest c : B64} {k a : Nat} (hc : c ∈ (compsN G rest k).1) (ha : c.getLsbD a = true) : popB (c &&& ~~~(BitVec.twoPow 64 a)) < popB rest := by
  have hs := (comps_sub G rest k).2 c hc
  refine pop_lt (fun i hi => ?_) (j := a) ?_ (hs a ha)
  · rw [diff_bit, Bool.and_eq_true] at hi; exact hs i hi.1
  · rw [diff_bit]; simp
theorem pop_zero {x : B64} (h : popB x = 0) (i : Nat) : x.getLsbD i = false := by
  cases e : x.getLsbD i with
  | false => rfl
  | true =>
    have := List.countP_eq_zero.1 h i (List.mem_range.2 (bits_lt e))
    exact absurd e this
theorem comps_zero (G : List B64) {rest : B64} (h : ∀ i, rest.getLsbD i = false) : ∀ k, compsN G rest k = ([], rest)
  | 0 => rfl
  | k + 1 => by simp only [compsN, comps_zero G h k, h k]; simp
theorem place_len (G : List B64) (q : List Int) : ∀ (f : Nat) (rest : B64) (par : Int) (P : List Int), (placeF G q f rest par P).length = P.length
  | 0, _, _, _ => rfl
  | f + 1, rest, par, P => by
    simp only [placeF]
    generalize (compsN G rest G.length).1 = cs
    induction cs generalizing P with
    | nil => rfl
    | cons c cs ih =>
      rw [List.foldl_cons, ih]
      unfold placeC; split
      · rw [place_len G q f]; simp
      · rfl
theorem place_all (G : List B64) (hG : G.length ≤ 12) (q : List Int) (hq : ∀ a ∈ q, 0 ≤ a ∧ a < G.length) (hql : q.length ≤ 1000) : ∀ (f : Nat) (rest : B64) (par : Int) (P : List Int), popB rest ≤ f → P.length = G.length →
    FnO Try.prog 49 3 0 (plA G q rest par) (plO G q P) (fun r ob' => r = .tup [] ∧ ob' = lookO (plO G q (placeF G q f rest par P)))
  | 0, rest, par, P, hf, hP => by
    have hz := comps_zero G (pop_zero (Nat.le_zero.1 hf)) G.length
    have := place_step G hG q hq hql (fun _ _ P => P) (fun _ _ _ => rfl) rest par (by rw [hz]; intro c hc; cases hc) P hP
    rw [hz] at this
    exact this
  | f + 1, rest, par, P, hf, hP => place_step G hG q hq hql (placeF G q f) (place_len G q f) rest par (fun c hc a P' ha hca hP' => place_all G hG q hq hql f _ _ P' (by have := pop_step hc hca; omega) hP') P hP

theorem pop_le (x : B64) : popB x ≤ 64 := Nat.le_trans List.countP_le_length (by simp)
noncomputable def ofL (G : List B64) (q : List Int) : List Int := placeF G q 64 (allB G.length) (-1) (List.replicate G.length 0)
theorem ofL_len (G : List B64) (q : List Int) : (ofL G q).length = G.length := by unfold ofL; rw [place_len]; simp
theorem ouOf_spec (S : Sch) (hS : SB S) (hV : Valid S) (q : List Int) (hq : ∀ a ∈ q, 0 ≤ a ∧ a < S.attrs.length) (hql : q.length ≤ 1000) : FnP Try.prog 30 [schP S, pints q] (fun v => ∃ G, IsG S G ∧ v = ordP (ofL G q)) := by
  refine FnP.fg2 (FnP.ofC Try.func30 rfl Try.ntmps30 (by simp) fun m0 w0 F R0 => ?_)
  have hn12 := hV.n2
  repeat refine AW.seq ?_
  refine AW.region ?_
  refine RL.step (d := some 2) rfl rfl (xj_box 0 rfl rfl rfl (by rintro _ _ ⟨⟩) (by rintro _ _ _ ⟨⟩) (by rintro _ ⟨⟩)) ?_
  refine RL.step (d := some 3) rfl rfl (xj_box 1 rfl rfl rfl (by rintro _ _ ⟨⟩) (by rintro _ _ _ ⟨⟩) (by rintro _ ⟨⟩)) ?_
  refine RL.step (d := some 4) rfl rfl (xj_alloc 2 zero33 rfl rfl) ?_
  repeat refine AW.seq ?_
  refine AW.region ?_
  first | refine RL.step (d := some 8) rfl rfl (xj_loadA ⟨_, Try.underlying30, rfl⟩ sz30 rfl rfl rfl rfl) ?_ | refine RL.step (d := some 8) rfl rfl (xj_loadAP ⟨_, Try.underlying30, rfl⟩ sz30 rfl rfl rfl rfl) ?_ | refine RL.step (d := some 8) rfl rfl (xj_loadAR ⟨_, Try.underlying30, rfl⟩ sz30 rfl rfl rfl) ?_
  refine RL.call rfl (oj_call Try.call48 (ounew_spec S hS hV) rfl ?_)
  rintro _ ⟨G, rfl, hG⟩
  have hGl := hG.len
  refine RL.step (d := some 5) rfl rfl (xj_alloc 3 zero80 rfl rfl) ?_
  first | refine RL.step (d := none) rfl rfl (xj_store sz80 rfl rfl rfl rfl (by first | (simp; done) | exact Nat.le_of_ble_eq_true rfl) rfl rfl) ?_ | refine RL.step (d := none) rfl rfl (xj_storeP sz80 rfl rfl rfl rfl (by simp; omega)) ?_
  repeat refine AW.seq ?_
  refine AW.region ?_
  first | refine RL.step (d := some 10) rfl rfl (xj_load1 ⟨_, Try.underlying80, rfl⟩ rfl rfl rfl) ?_ | refine RL.step (d := some 10) rfl rfl (xj_load1P ⟨_, Try.underlying80, rfl⟩ rfl rfl (by first | rfl | assumption)) ?_ | refine RL.step (d := some 10) rfl rfl (xj_loadR ⟨_, Try.underlying80, rfl⟩ rfl (by first | rfl | assumption)) ?_
  first | refine RL.step (d := some 11) rfl rfl (xj_len Try.underlying80 rfl) ?_ | refine RL.step (d := some 11) rfl rfl (xj_lenO Try.underlying80 rfl rfl) ?_ | refine RL.step (d := some 11) rfl rfl (xj_lenG Try.underlying80 rfl) ?_
  refine RL.step (d := some 12) rfl rfl (xj_make 4 _ el22 rfl rfl rfl rfl rfl (by omega) rfl) ?_
  refine RL.step (d := some 13) rfl rfl (xj_build bi33 rfl) ?_
  refine RL.step (d := some 6) rfl rfl (xj_alloc 5 zero33 rfl rfl) ?_
  first | refine RL.step (d := none) rfl rfl (xj_store sz33 rfl rfl rfl rfl (by first | (simp; done) | exact Nat.le_of_ble_eq_true rfl) rfl rfl) ?_ | refine RL.step (d := none) rfl rfl (xj_storeP sz33 rfl rfl rfl rfl (by simp; omega)) ?_
  repeat refine AW.seq ?_
  refine AW.region ?_
  refine RL.step (d := some 7) rfl rfl (xj_alloc 6 zero82 rfl rfl) ?_
  refine AW.weaken (St.le_ppA 1 rfl rfl) ?_
  refine AW.weaken (St.le_ppA 3 rfl rfl) ?_
  have hgo := place_all G (by omega) q (by rw [hGl]; exact hq) hql 64 (allB G.length) (-1) (List.replicate G.length 0) (pop_le _) (by simp)
  repeat refine AW.seq ?_
  refine AW.region ?_
  refine RL.step (d := some 14) rfl rfl (xj_makeFunc) ?_
  first | refine RL.step (d := none) rfl rfl (xj_store sz82 rfl rfl rfl rfl (by first | (simp; done) | exact Nat.le_of_ble_eq_true rfl) rfl rfl) ?_ | refine RL.step (d := none) rfl rfl (xj_storeP sz82 rfl rfl rfl rfl (by simp; omega)) ?_
  repeat refine AW.seq ?_
  refine AW.draw follows [[], [], [1], [2, 0, 1]] [0, 1, 2, 3] (by kernel_rfl) (by kernel_rfl) ?_
  first | refine DL.step (d := some 15) [_] rfl rfl rfl (fun τ h => xj_load1 ⟨_, Try.underlying82, rfl⟩ ((h.e 0 _ rfl).trans rfl) ((h.o 0 _ rfl).trans rfl) rfl) rfl (by kernel_rfl) ?_ | refine DL.step (d := some 15) [_] rfl rfl rfl (fun τ h => xj_load1P ⟨_, Try.underlying82, rfl⟩ ((h.e 0 _ rfl).trans rfl) ((h.o 0 _ rfl).trans rfl) (by first | rfl | assumption)) rfl (by kernel_rfl) ?_ | refine DL.step (d := some 15) [] rfl rfl rfl (fun τ h => xj_loadR ⟨_, Try.underlying82, rfl⟩ ((h.e 0 _ rfl).trans rfl) (by first | rfl | assumption)) rfl (by kernel_rfl) ?_
  first | refine DL.step (d := some 16) [_] rfl rfl rfl (fun τ h => xj_load1 ⟨_, Try.underlying80, rfl⟩ ((h.e 0 _ rfl).trans rfl) ((h.o 0 _ rfl).trans rfl) rfl) rfl (by kernel_rfl) ?_ | refine DL.step (d := some 16) [_] rfl rfl rfl (fun τ h => xj_load1P ⟨_, Try.underlying80, rfl⟩ ((h.e 0 _ rfl).trans rfl) ((h.o 0 _ rfl).trans rfl) (by first | rfl | assumption)) rfl (by kernel_rfl) ?_ | refine DL.step (d := some 16) [] rfl rfl rfl (fun τ h => xj_loadR ⟨_, Try.underlying80, rfl⟩ ((h.e 0 _ rfl).trans rfl) (by first | rfl | assumption)) rfl (by kernel_rfl) ?_
  refine DL.step (d := some 17) [] rfl rfl rfl (fun τ h => xj_call Try.call53 (allB_spec G (by omega)) (h.argsP rfl)) rfl (by kernel_rfl) ?_
  refine DL.step (d := some 18) [5, 6, 4] rfl rfl rfl (fun τ h => xj_callVF [5, 6, 4] 7 Try.call49 hgo ((h.e 0 _ rfl).trans rfl) (h.argsV.trans rfl) rfl rfl rfl rfl ⟨((h.o 0 _ rfl).trans rfl), ((h.o 1 _ rfl).trans rfl), ((h.o 2 _ rfl).trans (congrArg (fun c => some (Ob.cells 3 c)) ((mkZ_one (.int .i64 0) (G.length * 1)).trans (by simp)))), trivial⟩ (by decide) rfl) rfl (by kernel_rfl) ?_
  refine ⟨by kernel_rfl, ?_⟩
  repeat refine AW.seq ?_
  refine AW.region ?_
  first | refine RL.step (d := some 19) rfl rfl (xj_loadA ⟨_, Try.underlying33, rfl⟩ sz33 rfl rfl rfl rfl) ?_ | refine RL.step (d := some 19) rfl rfl (xj_loadAP ⟨_, Try.underlying33, rfl⟩ sz33 rfl rfl rfl rfl) ?_ | refine RL.step (d := some 19) rfl rfl (xj_loadAR ⟨_, Try.underlying33, rfl⟩ sz33 rfl rfl rfl) ?_
  first | refine RL.step (d := none) rfl rfl (xj_store sz33 rfl rfl rfl rfl (by first | (simp; done) | exact Nat.le_of_ble_eq_true rfl) rfl rfl) ?_ | refine RL.step (d := none) rfl rfl (xj_storeP sz33 rfl rfl rfl rfl (by simp; omega)) ?_
  repeat refine AW.seq ?_
  refine AW.ret ?_
  exact ⟨_, _, rfl, rfl, ⟨cellOk1 ⟨_, Try.underlying33, rfl⟩ sz33 rfl rfl rfl, trivial⟩, G, hG, by show PV.agg [.sl none G.length (intsP (ofL G q))] = _; rw [ordP, pints, ofL_len]⟩

end Go.Proofs.Ytkalgjnhaicabaa
