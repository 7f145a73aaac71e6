/- Lemmas. No condition. -/
import Derived.Test.YthicoeegbdboeaaGreatDoorJF17
import Derived.Test.YthicoeegbdboeaaGreatDoorCards
import Derived.Test.YthicoeegbdboeaaGreatDoorTie
import Derived.WalkKit
import Derived.ProofKit
import Derived.OpenShut
import Derived.ShutString
import Derived.ChangeOld
import Derived.Below
import Derived.Carry
import Derived.LaidMore
import Derived.Handed
import Derived.SevenTiedAt
namespace Go.Proofs.YthicoeegbdboeaaGreatDoor.cofactorAdds
open Go.ChangeShapes Go.WideShapes Go.ChangeAt Go.RowKit
open Go.ChangeMaps (open_string shut_string)
set_option linter.unusedVariables false
theorem own:ownKnob Tryz.prog.godebug=none:=by kernel_rfl
theorem laidOut:laidOutB Tryz.prog=true:=by kernel_rfl
set_option maxRecDepth 100000 in
theorem lifted (os:Os) (started:os.Started) (H:Type) (enc:TypeId × Value→H) :
    ReturnsInHanded {} Tryz.checked os 3 .any (fun w args=>(Rows.cofactorAddsSpec.pre enc Tryz.prog Tryz.f3 Rows.cofactorAddsRow.domain false w args∧laidMetH Tryz.prog Rows.cofactorAddsRow.laid w)∧sizedMet enc Tryz.prog Tryz.f3 (OpenSpec.ofChange Rows.cofactorAddsSpec) false w args)
      (Rows.cofactorAddsSpec.post enc Tryz.prog Tryz.f3 false true false false):=by
  refine returnsInHanded_of_calls (C:=Tryz.checked) own started (by kernel_rfl)
    (ChangeSpec.witness_shaped (enc:=enc) (C:=Tryz.checked) (fn:=Tryz.f3) (os:=os) (X:=fun w _=>laidMetH Tryz.prog Rows.cofactorAddsRow.laid w) false (witW os) #[.slice none 0 0,.int .u8 0] 8 rfl (Fx os _) (by kernel_rfl) (by kernel_rfl) (by kernel_rfl) (R6 os _)) ?_
  intro w tape i _ hsh _ hok hpre _
  obtain⟨_,_,_,fn',hfn',_,_,_,_,hval0⟩:=hok
  obtain rfl:fn'=Tryz.f3:=Option.some.inj (hfn'.symm.trans Tryz.func3)
  obtain⟨⟨⟨ds,gs,before,hw,_⟩,hx⟩,_⟩:=hpre
  have hW:=DataW.Whole.of_heap (w':=w.forCall tape i) (by rfl) hw
  have hL:laidMetH Tryz.prog Rows.cofactorAddsRow.laid (w.forCall tape i):=hx.of_heap (by rfl)
  have key:Calls Tryz.prog 3 i.args (w.forCall tape i) fun e W'=>∃v,e= .returned v∧Rows.cofactorAddsSpec.post enc Tryz.prog Tryz.f3 false true false false (w.forCall tape i) i.args v W':=by
    clear hw hx hfn'
    generalize i.args=args at *
    generalize w.forCall tape i=W at *
    have hval:∀(j:Nat) t v,Tryz.f3.params[j]?=some t→args[j]?=some v→Value.okWide Tryz.prog W .any _ t v:=hval0
    have hW':=hW
    obtain⟨p,q,hA0,hV,rfl,hfz,hnd⟩:=hW
    have hA:DataW.TrodAll enc Tryz.prog W 0 (fun _=>true) true Tryz.f3.params.toList args.toList ds p:=hA0
    rw[Tryz.params3]at hA hval
    obtain⟨v0,vs0,d0,ds0,p0,q0,hargs,rfl,rfl,h0,r0⟩:=trodAll_cons hA
    obtain⟨v1,vs1,d1,ds1,p1,q1,rfl,rfl,rfl,h1,r1⟩:=trodAll_cons r0
    obtain⟨rfl,rfl,rfl⟩:=trodAll_nil r1
    obtain rfl:args=#[v0,v1]:=by cases args; simp_all
    obtain⟨rfl,rfl⟩:=trodVars_none hV
    have k0:=h0
    have lt0:∀x∈p0,x.block < W.heap.size:=by obtain⟨m,hm⟩:=k0; exact DataW.trod_lt m _ _ _ hm
    obtain⟨b0,len0,cap0,rfl⟩:=okWide_slice Tryz.underlying22 (hval 0 22 v0 rfl rfl)
    obtain⟨a0,i0,e0⟩:=S1.one rfl h0
    have k1:=h1
    have lt1:∀x∈p1,x.block < W.heap.size:=by obtain⟨m,hm⟩:=k1; exact DataW.trod_lt m _ _ _ hm
    obtain⟨b1,rfl⟩:=okWide_int Tryz.underlying5 (hval 1 5 v1 rfl rfl)
    obtain⟨a1,i1,e1⟩:=op_u8.one rfl h1
    clear hA0 hval0 hval
    refine(MY (oO a0 a1 i1) W (QY hsh hL) (ZG.cons e0 (ZG.cons e1 ZG.nil))).mono fun e W' ⟨he,bel⟩=>?_
    subst he
    exact⟨_,rfl,_,_,_,[],_,[],hW',trodAll_mk1 (shut_bool Tryz.underlying4 _),(trodAll_cons_mk (Below.trod laidOut (by kernel_rfl) (of_decide_eq_true (by kernel_rfl)) k0 bel lt0) (trodAll_cons_mk (Below.trod laidOut (by kernel_rfl) (of_decide_eq_true (by kernel_rfl)) k1 bel lt1) trodAll_mk0)),rfl,bel.frame _,fun h=>by cases h⟩
  exact key.mono fun e W' ⟨v,he,hp⟩=>by
    subst he
    exact ChangeSpec.post_blind hp
theorem cP{a b:Bool}(h:a=true)(g:b=true):(a && b)=true:=by rw[h,g]; rfl
set_option maxHeartbeats 40000000 in
theorem closed:joinedFacts Tryz.pinned.checked.prog 3 Tryz.f3 Rows.cofactorAddsSpec Rows.cofactorAddsRow=true:=by
  unfold joinedFacts
  iterate 31 refine cP ?_ ?_
  all_goals as_aux_lemma=>kernel_rfl
set_option maxHeartbeats 40000000 in
theorem over:Rows.CofactorAddsSaid :=
  OpenClaim.holds_of_wide 3 Tryz.f3 rfl rfl rfl rfl rfl rfl rfl ⟨rfl,rfl,rfl,rfl,rfl⟩ rfl rfl rfl rfl rfl (by as_aux_lemma=>kernel_rfl) Tryz.func3 closed
    (by as_aux_lemma=>exact of_decide_eq_true (by kernel_rfl)) (by as_aux_lemma=>unfold Func.isWrapper; first|(rw[if_pos (by decide +kernel)]; kernel_rfl)|(rw[if_neg (by decide +kernel)]; exact⟨rfl,rfl⟩))
    (fun os started H enc _=>lifted os started H enc)
end Go.Proofs.YthicoeegbdboeaaGreatDoor.cofactorAdds
