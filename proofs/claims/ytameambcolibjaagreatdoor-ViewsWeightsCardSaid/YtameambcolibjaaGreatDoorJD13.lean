/- Lemmas. No condition. -/
import Derived.RangeFuncIn
import Derived.RangeFuncCalls
import Derived.RangeFuncLeaves
import Derived.RangeFuncSeq
import Derived.Sort.MapsRangeIn
import Derived.RangeFuncGives
import Derived.RangeFuncKeeps
import Derived.RangeFuncBox
import Derived.Shelf.Abstract
import Derived.OwnWalkIn
import Derived.TacticsInMore
import Derived.LoopNIn
import Derived.LoopIn
import Derived.RegionIn
import Derived.RangeFuncRecord
import Derived.StillTail
import Derived.Deep.Quiet
import Derived.Shelf.SlSortCmp.QuietGrown
import Derived.Shelf.SlSortCmp.NoneTotal
import Derived.Shelf.Lay
import Derived.Ground.SlsfProg
import Derived.Ground.NamesProg
import Derived.Test.YtameambcolibjaaGreatDoorJD12
set_option maxRecDepth 100000
set_option maxHeartbeats 4000000
open Go.RowKit Go.Proofs.Tryz
open Option renaming some→UF,none→UG
open Bool renaming true→VA,false→WA
namespace Go.Proofs.YtameambcolibjaaGreatDoor
variable{α β:Type}{cs:List PV}{S:Sch}{P:Program}{v c k x i r n M l id b clock g sz b4:Nat}{L K D:List Int}{a:Act}{f:FuncId}{w W:World}{R:Nat->Prop}{y body:Code}{m:Gm}{es:Array MapEntry}{seen:Array Nat}{e:MapEntry}{T E:TypeId}{u:Value}
section
open Mk Jn
set_option autoImplicit false
theorem qk(f:Nat->α):∀(us:List (Nat×α))(D:List α),(∀p∈us,p.2=f p.1)->∀i,i<D.length->(cc D us)[i]? =if i∈us.map (·.1)then UF (f i)else D[i]?
 |[],D,_,i,_=>by simp[cc]
 | u::us,D,h,i,hi=>by
   have e:cc D (u::us)=cc (D.set u.1 u.2) us:=rfl;rw[e,qk f us _ (λp hp=>h p (by simp[hp])) i (by simpa using hi)];by_cases h1:i∈us.map (·.1)
   .grind
   grind
theorem QO{cs:List Int}{F:Int->B64}(x:Nat):∀g:B64,(cs.foldl (λz c=>z|||F c) g).getLsbD x=(g.getLsbD x||cs.any λc=>(F c).getLsbD x):=by induction cs<;>grind
theorem zD{P:List Int}(j:UpOk P)(q:v<P.length):(upZ P.length).filter (λa=>decide (a∈cm P v)&&(dL P v).any λb=>gm S a b)=gh S P v:=by
 unfold gh;refine uW ?_ (WI VR ((Tl P.length).imp λh=>Int.le_of_lt h));have d:=(Wm.1 (ke j v q)).2;refine fF (WI VR (cQ _)) (by unfold NU;exact WI VR d) λa=>?_
 unfold NU;rw[Wt,Wt,dO,VH];refine⟨λh=>h.2,λh=>⟨?_,h⟩⟩;obtain⟨x,hx,e,_⟩:=mX j v q a h.1;exact cf.2 ⟨x,hx,e⟩
def AbB(P:List Int)(v:Nat)(ab:B64):Prop:=∀x:Nat,ab.getLsbD x=VA↔(x:Int)∈cm P v
theorem xN(P:List Int)(G:List B64)(x:Nat):∀(k:Nat)(v:Int),(ju P G k v).getLsbD x=(lD P k v).any λm=>(G.getD m.toNat 0#64).getLsbD x
 |0,v=>by rw[ju,lD];simp
 | k+1,v=>by
   rw[ju,lD,QO,List.any_cons,List.any_flatMap]
   congr 1
   exact ah (aC P v).any (funext λc=>xN P G x k c)
theorem CP(P:List Int):∀(k:Nat)(v:Int)(ab:B64),(yx P k v ab).map (·.1)=(lD P k v).map Int.toNat
 |0,v,ab=>rfl
 | k+1,v,ab=>by
   rw[yx,lD,cd,cd,Wv,Wv]
   congr 1
   exact ah (λf=>List.flatMap f (aC P v)) (funext λc=>CP P k c _)
theorem CE(P:List Int)(G:List B64)(n x:Nat):∀(k:Nat)(v:Int)(ab:B64),x∈(lD P k v).map Int.toNat->x∈(kF P G n k v ab).map (·.1)
 |0,v,ab,h=>by rw[kF];simpa[lD]using h
 | k+1,v,ab,h=>by
   rw[kF,UO,Wv,UN,UU];rw[lD,cd,Wv]at h;rcases By.1 h with h|h
   .right;simp[h]
   obtain⟨c,hc,h⟩:=UU.1 h;exact .inl ⟨c,hc,CE P G n x k c _ h⟩
section
variable {S:Sch}{P:List Int}(h:OrdOk S P)
include h
theorem n12:P.length<=12:=by rw[h.len];exact h.val.n2
theorem AbB.down{ab:B64}(d:AbB P v ab)(j:v<P.length)(hc:c<P.length)(q:P.getD c 0=(v:Int)):AbB P c (ab|||BitVec.twoPow 64 (v:Int).toNat):=by
 intro x;have s:=n12 h;rw[dF h.jE hc j q,BitVec.getLsbD_or,BitVec.getLsbD_twoPow,UW,d x,By];simp only[Ux,dO,VH];constructor
 .grind
 grind
theorem AbB.pop{ab:B64}(d:AbB P v ab)(j:v<P.length):lL ab=(cm P v).length:=by
 refine(M3 (Wm.1 (ke h.jE v j)).2 (λy hy=>?_) λa=>(d a).symm).symm;obtain⟨a,_,e,_⟩:=mX h.jE v j y hy;omega
theorem Og:∀(k v:Nat)(ab:B64),v<P.length->AbB P v ab->∀p∈yx P k v ab,p.2=((cm P (p.1:Nat)).length:Int)
 | 0,v,ab,hv,hab,p,hp=>by
   rw[yx,IT]at hp;subst hp;show(lL ab:Int)=_;rw[hab.pop h hv];rfl
 | k+1,v,ab,hv,hab,p,hp=>by
   rw[yx,By]at hp;rcases hp with hp|hp
   .subst hp;show(lL ab:Int)=_;rw[hab.pop h hv];rfl
   obtain⟨c,hc,hp⟩:=UU.1 hp;obtain⟨m,hm,rfl,e⟩:=bg.1 hc;exact Og k m _ hm (hab.down h hv hm e) p hp
theorem Gu(j:v<P.length)(s:P.length<=k+1+(cm P v).length)(t:x<P.length):(x:Int)∈lD P k v↔(x:Int)∈dL P v:=by
 have q:cM P k v=cM P (k+1) v:=(qI h.jE k v j s).symm;rw[tZ,q,tree_vs,dC,By];have hc:=j9 h.jE (k+1) v (λa ha e=>by rw[dF h.jE ha j (by rw[getD_at ha];exact e),IN];omega) x t;have d:(v:Int)∈cm P x++[-1]↔(v:Int)∈cm P x:=by grind
 simp only[d]at hc;constructor
 .grind
 grind
theorem OQ(d:v<P.length):∀x∈lD P k v,∃m:Nat,m<P.length/\x=(m:Int):=λx hx=>by
 rw[tZ]at hx;obtain⟨m,hm,e,_⟩:=CO h.jE k v d x hx;exact⟨m,hm,e⟩
theorem Ou{ab:B64}(d:v<P.length)(s:P.length<=k+1+(cm P v).length)(j:AbB P v ab):l6 (ju P (gr S) k v&&&ab) P.length=gh S P v:=by
 rw[<-zD h.jE d];unfold l6 upZ;rw[List.filter_map]
 congr 1
 apply List.filter_congr;intro x q;have q:=Vj.1 q;show _=(decide ((x:Int)∈cm P v)&&(dL P v).any λb=>gm S (x:Int) b);rw[BitVec.getLsbD_and,xN];by_cases ha:(x:Int)∈cm P v
 .rw[(j x).2 ha,Wu,SR ha,WV,UH,VL,VL];constructor
  .rintro⟨m,hm,hb⟩;obtain⟨m',hm',rfl⟩:=OQ h d m hm;refine⟨_,(Gu h d s hm').1 hm,?_⟩;rw[Ux,Ba h.val (by rw[<-h.len];exact hm'),dO]at hb;exact rq hb.2
  rintro⟨m,hm,hb⟩;obtain⟨⟨m',hm',rfl⟩,h2⟩:=dC.1 hm;refine⟨_,(Gu h d s hm').2 hm,?_⟩;rw[Ux,Ba h.val (by rw[<-h.len];exact hm'),dO,VH];refine⟨?_,rq hb⟩;rintro rfl;rcases h2 with h2|h2
  .have:m'=v:=XX;subst this;exact wm h.jE d ha
  exact wm h.jE d (pA h.jE d h2 ha)
 rw[Up ha,Bool.false_and,Bool.and_eq_false_iff];right
 rw[Bool.eq_false_iff];exact λe=>ha ((j x).1 e)
theorem JP:∀(k v:Nat)(ab:B64),v<P.length->P.length<=k+1+(cm P v).length->AbB P v ab->∀p∈kF P (gr S) P.length k v ab,p.2=gh S P (p.1:Nat)
 |0,v,ab,hv,hf,hab,p,hp=>by grind[kF,IT,Ou]
 | k+1,v,ab,hv,hf,hab,p,hp=>by
   rw[kF,UN,IT]at hp;rcases hp with hp|hp
   .obtain⟨c,hc,hp⟩:=UU.1 hp;obtain⟨m,hm,rfl,e⟩:=bg.1 hc;exact JP k m _ hm (by rw[dF h.jE hm hv e,IN];omega) (hab.down h hv hm e) p hp
   subst hp;exact Ou h hv hf hab
omit h in
theorem ug(hc:c<P.length)(e:P.getD c 0= -1):cm P c=[]:=qa hc (by rw[<-getD_at hc];exact e)
omit h in
theorem CY(hc:c<P.length)(e:P.getD c 0= -1):AbB P c 0#64:=λx=>by rw[ug hc e];simp
theorem G6(j:i<P.length):∃c:Nat,c<P.length/\P.getD c 0= -1/\(c:Int)∈aC P (-1)/\i∈(lD P P.length c).map Int.toNat:=by
 have d:(i:Int)∈aR P:=(b8 h.jE).mem_iff.2 (cf.2 ⟨i,j,O⟩);rw[<-vC,UU]at d;obtain⟨c,hc,d⟩:=d;obtain⟨m,hm,rfl,e⟩:=bg.1 hc;exact⟨m,hm,e,hc,IS.2 ⟨_,d,O⟩⟩
omit h in
theorem Iw(D l:List Int):∀a∈l,D.getD a.toNat 0<=D.getD (js D l l.length).toNat 0:=by
 have d:∀(k:List Int)(h0:Int),D.getD h0.toNat 0<=D.getD (k.foldl (λh a=>if D.getD a.toNat 0>D.getD h.toNat 0 then a else h) h0).toNat 0/\∀a∈k,D.getD a.toNat 0<=D.getD (k.foldl (λh a=>if D.getD a.toNat 0>D.getD h.toNat 0 then a else h) h0).toNat 0:=by
  intro k;induction k with
  |nil=>intro h0;exact⟨Int.le_refl _,λa ha=>by cases ha⟩
  | cons x k ih=>
    intro h0;rw[VO];have j:=ih (if D.getD x.toNat 0>D.getD h0.toNat 0 then x else h0);by_cases hx:D.getD x.toNat 0>D.getD h0.toNat 0
    .grind
    grind
 intro a ha;unfold js;rw[V7];exact(d l _).2 a ha
theorem QR{r:ByteArray×List Int}(q:r∈S.rels)(D:List Int)(A:∀i:Nat,i<P.length->D.getD i 0=((cm P (i:Nat)).length:Int)):js D r.2 r.2.length=je P r.2:=by
 have d:∀a∈r.2,0<=a/\a<P.length:=by rw[h.len];exact h.val.rng r q
 obtain⟨h1,h2⟩:=uX h.jE (h.val.ne r q) d (h.rt r q);have s:=x3 D (h.val.ne r q) r.2.length;rcases h2 _ s with e|e
 .exact e
 exfalso;have t:=Iw D r.2 _ h1;obtain⟨a,ha⟩:=tI (d _ s).1;obtain⟨b,hb⟩:=tI (d _ h1).1;have B:=(d _ s).2;have G:=(d _ h1).2;rw[ha]at B e t;rw[hb]at G e t;have z:a<P.length:=XX;have j:b<P.length:=XX;have H:=JI h.jE j e;rw[Ux,Ux,A a z,A b j]at t;omega
def bC(S:Sch)(P:List Int):VD:=⟨(upZ P.length).map (aC P)++[aC P (-1)],(upZ P.length).map (gh S P),(upZ P.length).map (nE (S.rels.map λr=>je P r.2) S.rels.length),aR P⟩
theorem Ky:oy S P (gr S)=bC S P:=by
 have d:(gr S).length=P.length:=by rw[Cg,h.len]
 have z:∀i:Nat,i<P.length->(cc (List.replicate (gr S).length (0:Int)) ((aC P (-1)).flatMap λc=>yx P P.length c 0#64)).getD i 0=((cm P (i:Nat)).length:Int):=by
  intro i hi;rw[Ur,qk (λi=>((cm P (i:Nat)).length:Int)) _ _ (λp hp=>?_) i (by rw[V0,d];exact hi),AT ?_]
  .rfl
  .grind[G6,Wv,CP]
  obtain⟨c,hc,hp⟩:=UU.1 hp;obtain⟨m,hm,rfl,e⟩:=bg.1 hc;exact Og h P.length m _ hm (CY hm e) p hp
 have j:(oy S P (gr S)).chs=(bC S P).chs:=by
  show lsT P P.length=_;unfold lsT bC;rw[mH]
  congr 1
  exact UT λv _=>mH P v
 have q:(oy S P (gr S)).kes=(bC S P).kes:=by
  show cc (List.replicate (gr S).length []) _=(upZ P.length).map (gh S P);apply Xh;intro i;by_cases hi:i<P.length
  .rw[qk (λi=>gh S P (i:Nat)) _ _ (λp hp=>?_) i (by rw[V0,d];exact hi),AT ?_]
   .simp[upZ,hi]
   .grind[G6,Wv,CE]
   obtain⟨c,hc,hp⟩:=UU.1 hp;obtain⟨m,hm,rfl,e⟩:=bg.1 hc;rw[d]at hp;exact JP h P.length m _ hm XX (CY hm e) p hp
  rw[W8 (by rw[dJ,V0,d];omega),W8 (by rw[AS,bo];omega)]
 have s:(oy S P (gr S)).hos=(bC S P).hos:=by
  show hsT (gr S).length (hpL _ S) S.rels.length=_;unfold hsT bC hpL;rw[d]
  congr 2
  exact UT λr hr=>QR h hr _ (by rw[d]at z;exact z)
 have t:(oy S P (gr S)).wa=(bC S P).wa:=rfl;generalize oy S P (gr S)=A at j q s t;generalize bC S P=B at j q s t;cases A;cases B;simp only at j q s t;rw[j,q,s,t]
end
theorem Sy(d:Valid S)(j:S.rels.length<=1000)(q:∀r∈S.rels,r.2.length<=1000):SJn S:=⟨by have:=d.n2;omega,j,q,d.rng⟩
end
section
open Mk Jn
set_option autoImplicit false
def hoL(S:Sch)(P:List Int)(v:Int):List Int:=nE (S.rels.map λr=>je P r.2) S.rels.length v
theorem lE{P:List Int}{v r:Int}:r∈hoL S P v↔∃k:Nat,∃h:k<S.rels.length,r=(k:Int)/\je P S.rels[k].2=v:=by
 unfold hoL nE;rw[IS];constructor
 .grind
 grind



end
section
namespace Vw
open Mm Jn Mk
set_option autoImplicit false
def dd(A:List Int)(l:List Rw):Prt:=⟨A,l.map λx=>⟨x.v,Gv.whole x.w.toNat⟩⟩
def EW(E:List En):List En:=E.mergeSort λa b=>decide (a.t.data.toList<=b.t.data.toList)
def cK(K:List Int)(E:List En):Prt:=⟨K,(EW E).map λe=>⟨e.v,e.g⟩⟩
theorem eW(E:List En):(EW E).Perm E:=XF _ _
theorem s0(f:Gv->Nat)(K:List Int)(E:List En):(cK K E).tot f=gP f E:=by
 unfold Prt.tot cK gP;simp only[Vb];exact((eW E).map λe=>f e.g).sum_nat
section
variable (S:Sch)(P:List Int)(T:List (List Rw))(lf:Int->ByteArray->Gv)
def oU(r:Int):List Int:=(S.rels.getD r.toNat default).2
def gT(r:Int):List Rw:=T.getD r.toNat []
def eE(f:Int->List En)(v:Int):List Prt:=((hoL S P v).map λr=>dd (oU S r) (gT T r))++(aC P v).map λc=>cK (gh S P c) (f c)
noncomputable def mkV(f:Int->List En)(v:Int):List En:=viewE (lf v) S.attrs.length v (gh S P v) (eE S P T f v)
noncomputable def vwK:Nat->Int->List En
 |0,v=>mkV S P T lf (λ_=>[]) v
 |k+1,v=>mkV S P T lf (vwK k) v
noncomputable def vwS(v:Int):List En:=vwK S P T lf P.length v
def qg:Nat->Int->List Int
 |0,v=>hoL S P v
 |k+1,v=>hoL S P v++(aC P v).flatMap (qg k)
def z8(f:Gv->Nat)(r:Int):Nat:=(dd (oU S r) (gT T r)).tot f
end
section
variable {S:Sch}{P:List Int}{T:List (List Rw)}{lf:Int->ByteArray->Gv}
theorem lN{f g:Int->List En}{v:Int}(h:∀c∈aC P v,f c=g c):mkV S P T lf f v=mkV S P T lf g v:=by
 have e:((aC P v).map λc=>cK (gh S P c) (f c))=(aC P v).map λc=>cK (gh S P c) (g c):=UT λc hc=>by rw[h c hc]
 unfold mkV eE;rw[e]
theorem CD(d:UpOk P):∀(k:Nat)(v:Nat),v<P.length->P.length<=k+1+(cm P v).length->vwK S P T lf (k+1) v=vwK S P T lf k v
 | 0,v,hv,h=>by
   rw[vwK,vwK];exact lN λc hc=>by rw[mv d hv XX]at hc;simp at hc
 | k+1,v,hv,h=>by
   rw[vwK,vwK];refine lN λc hc=>?_
   obtain⟨m,hm,rfl,hp⟩:=bg.1 hc;have e:=dF d hm hv hp;exact CD d k m hm (by rw[e,IN];omega)
theorem oN(d:UpOk P)(j:v<P.length):vwS S P T lf v=mkV S P T lf (vwS S P T lf) v:=by
 unfold vwS;rw[<-CD d P.length v j XX,vwK]
theorem gI:∀(k:Nat)(v:Int),qg S P k v=(cM P k v).vs.flatMap (hoL S P)
 |0,v=>by rw[qg,cM,Tr.vs,vsL];simp
 | k+1,v=>by
   rw[qg,cM,Tr.vs,eT,UJ,Wh,List.flatMap_assoc];rw[show qg S P k=λc=>(cM P k c).vs.flatMap (hoL S P)from funext (gI k)]
theorem oJ(f:α->List Nat):∀l:List α,cD (l.flatMap f)=cD (l.map λa=>cD (f a))
 |[]=>rfl
 |a::l=>by rw[UJ,dS,cd,cD,oJ f l]
theorem zY{f:Gv->Nat}(d:Msr f)(j:∀v t,f (lf v t)=1)(q:f (Gv.whole 1)=1):∀(k:Nat)(v:Int),gP f (vwK S P T lf k v)<=cD ((qg S P k v).map (z8 S T f))
 | 0,v=>by
   rw[vwK,qg];refine AI (wU d (j v) q _ _) ?_;unfold eE;rw[UO,dS,Vb,Vb];have h3:cD ((aC P v).map (Prt.tot f∘λc=>cK (gh S P c) []))<=1^(aC P v).length:=by
    refine pg (tJ 1) (λa ha=>?_) X2;obtain⟨c,_,rfl⟩:=IS.1 ha;show(cK (gh S P c) []).tot f<=1;rw[s0];exact aJ _
   rw[Nat.one_pow]at h3;exact AI (US _ h3) (Vl (Uv _))
 | k+1,v=>by
   rw[vwK,qg,UO,dS,Wv,oJ];refine AI (wU d (j v) q _ _) ?_;unfold eE;rw[UO,dS,Vb,Vb];refine Va (Vl O) (oG λc _=>?_);show(cK (gh S P c) (vwK S P T lf k c)).tot f<=_;rw[s0];exact zY d j q k c
theorem zB(d:L.Nodup)(H:List Int):∀k,(L.map λv=>(nE H k v).length).sum<=k
 | 0=>by
   have:∀l:List Int,(l.map λv=>(nE H 0 v).length).sum=0:=λl=>by
    induction l with
    |nil=>rfl
    |cons a l ih=>rw[cd,U4,ih];rfl
   rw[this];exact tJ _
 | k+1=>by
   have h:=zB d H k;have e:∀l:List Int,(l.map λv=>(nE H (k+1) v).length).sum=(l.map λv=>(nE H k v).length).sum+l.count (H.getD k 0):=λl=>by
    induction l with
    |nil=>rfl
    | cons a l ih=>
      rw[cd,U4,ih,cd,U4,List.count_cons,lM,D8];generalize H.getD k 0=y;by_cases ha:y=a
      .subst ha;rw[AT O,AT X2,Uu];omega
      rw[pF ha,pF (by simpa using Ne.symm ha),V6];omega
   rw[e];have:=List.nodup_iff_count.1 d (H.getD k 0);omega
theorem lU(f:α->List β):∀l:List α,(l.flatMap f).length=(l.map λa=>(f a).length).sum
 |[]=>rfl
 |a::l=>by rw[UJ,D8,lU f l,cd,U4]
theorem Gj(d:L.Nodup):(L.flatMap (hoL S P)).length<=S.rels.length:=by
 rw[lU];exact zB d _ _
theorem Sq:∀{L:List Int},L.Nodup->(∀x∈L,∃a:Nat,a<n/\x=(a:Int))->L.length<=n:=by
 intro L hL hr;have h:=zB hL (upZ n) n;have e:∀l:List Int,(∀x∈l,∃a:Nat,a<n/\x=(a:Int))->l.length<=(l.map λv=>(nE (upZ n) n v).length).sum:=λl=>by
  induction l with
  |nil=>intro _;exact aJ _
  | cons x l ih=>
    intro hx;obtain⟨a,ha,rfl⟩:=hx x X2;have d:=ih λy hy=>hx y (by simp[hy])
    have j:1<=(nE (upZ n) n (a:Int)).length:=by
     refine U7.2 λe=>?_
     have:(a:Int)∈nE (upZ n) n (a:Int):=by
      unfold nE;refine IS.2 ⟨a,Wt.2 ⟨Vj.2 ha,?_⟩,O⟩;simp[upZ,List.getD,ha]
     rw[e]at this;simp at this
    rw[IN,cd,U4];omega
 exact AI (e L hr) h
theorem nK(j:UpOk P)(d:v<P.length):(cM P P.length v).vs.Nodup/\∀x∈(cM P P.length v).vs,∃a:Nat,a<P.length/\x=(a:Int):=by
 rw[tree_vs];have q:=uA (P:=P) P.length (v:Int);have s:∀a (ha:a<P.length),P[a]=(v:Int)->P.length+1<=(cm P a).length+P.length:=λa ha e=>by
  have:=dF j ha d (by rw[getD_at ha];exact e);rw[this,IN];omega
 have hc:=λx (hx:x<P.length)=>j9 j P.length (v:Int) s x hx
 refine⟨Wm.2 ⟨λh=>?_,List.nodup_iff_count.2 λx=>?_⟩,λx hx=>?_⟩
 .have h1:=List.count_pos_iff.2 h;rw[hc v d,pF]at h1
  .omega
  .intro h2;rcases UN.1 h2 with h2|h2
   .exact wm j d h2
   simp at h2
 .by_cases hx:x∈kV P P.length (v:Int)
  .obtain⟨a,ha,rfl⟩:=q x hx;rw[hc a ha];split<;>omega
  rw[List.count_eq_zero.2 hx];omega
 rcases By.1 hx with rfl|hx
 .exact⟨v,d,O⟩
 exact q x hx
theorem T0(d:UpOk P){f:Gv->Nat}(j:Msr f)(q:∀v t,f (lf v t)=1)(s:f (Gv.whole 1)=1)(z:1<=M)(A:∀r,z8 S T f r<=M)(B:v<P.length):gP f (vwS S P T lf v)<=M^S.rels.length:=by
 refine AI (zY j q s _ _) (pg z (λa ha=>?_) ?_)
 .obtain⟨r,_,rfl⟩:=IS.1 ha;exact A r
 rw[AS,gI];exact Gj (nK d B).1
theorem xI(d:UpOk P){f:Gv->Nat}(j:Msr f)(q:∀v t,f (lf v t)=1)(s:f (Gv.whole 1)=1)(z:1<=M)(A:∀r,z8 S T f r<=M):cD ((aC P (-1)).map λr=>gP f (vwS S P T lf r))<=M^S.rels.length:=by
 refine AI (oG λr _=>zY j q s P.length r) ?_;rw[<-oJ,<-Wv];refine pg z (λa ha=>?_) ?_
 .obtain⟨r,_,rfl⟩:=IS.1 ha;exact A r
 rw[AS];have e:(aC P (-1)).flatMap (qg S P P.length)=(aR P).flatMap (hoL S P):=by
  rw[<-mf,eT,Wh,List.flatMap_assoc];rw[show qg S P P.length=λc=>(cM P P.length c).vs.flatMap (hoL S P)from funext (gI _)]
 rw[e];exact Gj ((b8 d).nodup_iff.2 (cQ _))
theorem SO(j:∀v t,(lf v t).k<=1):∀(k:Nat)(v:Int),∀e∈vwK S P T lf k v,e.g.k<=(cM P k v).vs.length:=by
 have d:∀(f:Int->List En)(v:Int)(b:Int->Nat),(∀c∈aC P v,∀e∈f c,e.g.k<=b c)->∀e∈mkV S P T lf f v,e.g.k<=((aC P v).map b).sum+1:=by
  intro f v b hb;refine mA (I:=λe=>e.g.k<=((aC P v).map b).sum+1) (λx y hx hy t=>Nat.max_le.2 ⟨hx,hy⟩) _ (λ_ h=>absurd h X2) λl hl=>?_
  have q:=BD l hl;have s:=j v (l.1.v.getD v.toNat ⟨#[]⟩);have z:((eE S P T f v).map Prt.km).sum<=((aC P v).map b).sum:=by
   unfold eE;rw[UO,List.sum_append,Vb,Vb];have A:((hoL S P v).map (Prt.km∘λr=>dd (oU S r) (gT T r))).sum<=((hoL S P v).map λ_=>0).sum:=ye λr _=>Rk λi hi=>by
    obtain⟨x,_,rfl⟩:=IS.1 hi;exact tJ _
   have B:((hoL S P v).map λ_=>0).sum=0:=by
    generalize hoL S P v=l;induction l with
    |nil=>rfl
    |cons a l ih=>rw[cd,U4,ih]
   have G:((aC P v).map (Prt.km∘λc=>cK (gh S P c) (f c))).sum<=((aC P v).map b).sum:=ye λc hc=>Rk λi hi=>by
    obtain⟨x,hx,rfl⟩:=IS.1 hi;exact hb c hc x ((eW _).mem_iff.1 hx)
   omega
  have H:(Gv.whole 1).k=0:=rfl;show l.2.k+(lf v _).k<=_;omega
 intro k;induction k with
 | zero=>
   intro v e he;have:=d (λ_=>[]) v (λ_=>0) (λ_ _ _ h=>absurd h X2) e (by rw[vwK]at he;exact he);have J:((aC P v).map λ_=>0).sum=0:=by
    generalize aC P v=l;induction l with
    |nil=>rfl
    |cons a l ih=>rw[cd,U4,ih]
   rw[cM,Tr.vs,vsL];simp only[Uu];omega
 | succ k ih=>
   intro v e he;have:=d (vwK S P T lf k) v (λc=>(cM P k c).vs.length) (λc _ e he=>ih c e he) e (by rw[vwK]at he;exact he);rw[cM,Tr.vs,eT,Wh,IN,lU];exact this
theorem vwS_k(d:UpOk P)(j:∀v t,(lf v t).k<=1)(q:v<P.length):∀e∈vwS S P T lf v,e.g.k<=P.length:=λe he=>by
 obtain⟨h2,h3⟩:=nK d q;exact AI (SO j _ _ e he) (Sq h2 h3)
end
end Vw
end
section
namespace Vw
open Mm Jn Mk
set_option autoImplicit false
section
variable {Q:List Par}{X:Nat->List ByteArray}
structure VX(X:Nat->List ByteArray)(A:List Int)(V:List ByteArray):Prop where
 len:V.length=A.length
 x:∀j (h:j<V.length) (h':j<A.length),V[j]∈X A[j].toNat
structure ChX(n:Nat)(X:Nat->List ByteArray)(x:Ch):Prop where
 v:x.v.length=n
 s:x.s.length=n
 x:∀a,x.v.getD a ⟨#[]⟩∈X a
theorem SY(d:∀a,(⟨#[]⟩:ByteArray)∈X a):ChX n X (ch0 n):=by
 refine⟨by simp[ch0],by simp[ch0],λa=>?_⟩;have:(ch0 n).v.getD a ⟨#[]⟩=⟨#[]⟩:=by
  simp only[ch0,Ur,Wr];split<;>rfl
 rw[this];exact d a
theorem I8:∀{A:List Int}{V:List ByteArray}{x:Ch},VX X A V->ChX n X x->ChX n X (yz x A V)
 |[],V,x,_,h=>h
 |a::A,[],x,hv,_=>absurd hv.len X2
 | a::A,t::V,x,hv,h=>by
   show ChX n X (yz (EX x (a,t)) A V);refine I8 ⟨by have:=hv.len;simpa using this,λj h1 h2=>?_⟩ ⟨by simpa[EX]using h.v,by simpa[EX]using h.s,λb=>?_⟩
   .have:=hv.x (j+1) (by simpa using h1) (by simpa using h2);simpa using this
   have h3:=hv.x 0 X2 X2;simp only[List.getElem_cons_zero]at h3;simp only[EX,Ur,WX];split
   .rename_i e;subst e;split
    .exact h3
    have h4:=h.x a.toNat
    rename_i h5;rw[Ur,W8 XX]at h4;exact h4
   have h4:=h.x b;rw[Ur]at h4;exact h4
structure ItX(Q:List Par)(X:Nat->List ByteArray)(A:List Int)(V:List ByteArray)(g:Gv):Prop where
 ok:GvOk Q g
 n:1<=g.n
 v:VX X A V
abbrev PtX(Q:List Par)(X:Nat->List ByteArray)(p:Prt):Prop:=∀i∈p.is,ItX Q X p.a i.v i.g
theorem PU{x:Ch}(h:ChX n X x):VX X K (lG K x):=
 ⟨by simp[lG],λj h1 h2=>by simp only[lG,VC];exact h.x _⟩
theorem CV{ps:List Prt}(d:∀p∈ps,PtX Q X p){x:Ch}{g:Gv}(j:ChX n X x)(q:GvOk Q g)(s:1<=g.n):∀l∈leaves ps x g,ChX n X l.1/\GvOk Q l.2/\1<=l.2.n:=
 Ey (I:=λx g=>ChX n X x/\GvOk Q g/\1<=g.n) ⟨j,q,s⟩ λp hpp i hi x g h _=>⟨I8 (d p hpp i hi).v h.1,h.2.1.mul (d p hpp i hi).ok,Va h.2.2 (d p hpp i hi).n⟩
structure LfX(Q:List Par)(X:Nat->List ByteArray)(lf:Int->ByteArray->Gv):Prop where
 g:∀v t,t∈X v.toNat->GvOk Q (lf v t)
 n:∀v t,(lf v t).n=1
 w:∀v t,(lf v t).w=1
 k:∀v t,(lf v t).k=1
 x0:∀a,(⟨#[]⟩:ByteArray)∈X a
theorem II{lf:Int->ByteArray->Gv}(d:LfX Q X lf){v:Int}{ps:List Prt}(j:∀p∈ps,PtX Q X p):∀e∈viewE (lf v) n v K ps,ItX Q X K e.v e.g:=by
 refine mA (I:=λe=>ItX Q X K e.v e.g) (λx y hx hy t=>⟨hx.ok.add hy.ok,AI hx.n (Wq _ _),hx.v⟩) _ (λ_ h=>absurd h X2) λl hll=>?_
 obtain⟨h1,h2,h3⟩:=CV j (SY (n:=n) d.x0) (GvOk.whole Q 1) (tJ 1) l hll;refine⟨h2.mul (d.g _ _ (h1.x _)),?_,PU h1⟩;show 1<=l.2.n*(lf v _).n;rw[d.n];omega
section
variable {S:Sch}{P:List Int}{T:List (List Rw)}{lf:Int->ByteArray->Gv}
def TbX(X:Nat->List ByteArray)(S:Sch)(T:List (List Rw)):Prop:=∀r:Int,∀x∈gT T r,VX X (oU S r) x.v
theorem SG(d:TbX X S T)(r:Int):PtX Q X (dd (oU S r) (gT T r)):=λi hi=>by
 obtain⟨x,hx,rfl⟩:=IS.1 hi;exact⟨GvOk.whole Q _,tJ 1,d r x hx⟩
theorem S9{E:List En}(h:∀e∈E,ItX Q X K e.v e.g):PtX Q X (cK K E):=λi hi=>by
 obtain⟨e,he,rfl⟩:=IS.1 hi;exact h e ((eW E).mem_iff.1 he)
theorem zj(d:TbX X S T){f:Int->List En}{v:Int}(j:∀c∈aC P v,∀e∈f c,ItX Q X (gh S P c) e.v e.g):∀p∈eE S P T f v,PtX Q X p:=λp hp=>by
 rcases UN.1 hp with hp|hp
 .grind[IS.1,SG]
 grind[IS.1,S9]
theorem Sr(hl:LfX Q X lf)(hT:TbX X S T):∀(k:Nat)(v:Int),∀e∈vwK S P T lf k v,ItX Q X (gh S P v) e.v e.g
 |0,v=>by rw[vwK];exact II hl (zj hT λ_ _ _ h=>absurd h X2)
 |k+1,v=>by rw[vwK];exact II hl (zj hT λc _=>Sr hl hT k c)
theorem OG(d:LfX Q X lf)(j:TbX X S T)(v:Int):∀e∈vwS S P T lf v,ItX Q X (gh S P v) e.v e.g:=Sr d j _ v
theorem NV(f:Int->List En)(v:Int):EnOk (mkV S P T lf f v):=CL _ EnOk.nil
theorem TF:∀(k:Nat)(v:Int),EnOk (vwK S P T lf k v)
 |0,v=>by rw[vwK];exact NV _ v
 |k+1,v=>by rw[vwK];exact NV _ v
theorem Oh(v:Int):EnOk (vwS S P T lf v):=TF _ v
def getV(vs:List (Option (List En)))(c:Int):List En:=(vs.getD c.toNat UG).getD []
noncomputable def bldS(S:Sch)(P:List Int)(T:List (List Rw))(lf:Int->ByteArray->Gv)(vs:List (Option (List En)))(v:Int):List (Option (List En)):=vs.set v.toNat (UF (mkV S P T lf (getV vs) v))
noncomputable def stV(S:Sch)(P:List Int)(T:List (List Rw))(lf:Int->ByteArray->Gv)(D:List Int):List (Option (List En)):=(List.range P.length).map λa:Nat=>if(a:Int)∈D then UF (vwS S P T lf a)else UG
theorem HM(D:List Int):(stV S P T lf D).length=P.length:=by simp[stV]
theorem C1{a:Nat}(h:a<(stV S P T lf D).length):(stV S P T lf D)[a]=if(a:Int)∈D then UF (vwS S P T lf a)else UG:=by simp[stV]
theorem Hg{a:Nat}(d:a<P.length)(h:(a:Int)∈D):getV (stV S P T lf D) a=vwS S P T lf a:=by
 unfold getV;rw[Ur,Ux,BY (by rw[HM];exact d),C1,AT h];rfl
theorem Bx(z:UpOk P)(H:i<(aR P).length):bldS S P T lf (stV S P T lf ((aR P).drop (i+1))) (aR P)[i]=stV S P T lf ((aR P).drop i)/\∀c∈aC P (aR P)[i],c∈(aR P).drop (i+1):=by
 have I:(aR P).Nodup:=(b8 z).nodup_iff.2 (cQ _);obtain⟨v,hv,e⟩:∃v:Nat,v<P.length/\(aR P)[i]=(v:Int):=by
  have:=(b8 z).mem_iff.1 (ak H);exact cf.1 this
 have t:∀c∈aC P (aR P)[i],c∈(aR P).drop (i+1):=by
  intro c hc;rw[e]at hc;obtain⟨m,hm,rfl,hp⟩:=bg.1 hc;have A:(m:Int)∈aR P:=(b8 z).mem_iff.2 (cf.2 ⟨m,hm,O⟩);obtain⟨j,hj,ej⟩:=Vz A;have q:=(Q9 z hj).2;rw[ej,Ux,hp]at q;rcases q with q|q
  .omega
  obtain⟨l,hl,el⟩:=VF.1 q;have:l=i:=by grind[aR,List.getElem_inj]
  rw[List.mem_drop_iff_getElem];obtain⟨d,rfl⟩:∃d,j=i+1+d:=⟨j-(i+1),XX⟩;exact⟨d,XX,ej⟩
 refine⟨?_,t⟩;have s:(aR P).drop i=(aR P)[i]::(aR P).drop (i+1):=Us H;have B:mkV S P T lf (getV (stV S P T lf ((aR P).drop (i+1)))) (v:Int)=vwS S P T lf v:=by
  rw[oN z hv];refine lN λc hc=>?_
  have G:=t c (by rw[e];exact hc);obtain⟨m,hm,rfl,_⟩:=bg.1 hc;exact Hg hm G
 unfold bldS;rw[e,B,s,e,Ux];apply Vq
 .simp[stV]
 .intro a G q;rw[C1 q,XI];by_cases hav:v=a
  .subst hav;simp
  rw[pF hav,C1 (by simpa[stV]using G)];have:((a:Int)∈(v:Int)::(aR P).drop (i+1))↔(a:Int)∈(aR P).drop (i+1):=by grind
  simp only[this]
theorem TG(d:UpOk P)(j:i<(aR P).length)(e:(aR P)[i]=(v:Int)):(stV S P T lf ((aR P).drop (i+1))).set v (UF (vwS S P T lf v))=stV S P T lf ((aR P).drop i):=by
 obtain⟨h1,h2⟩:=Bx (S:=S) (T:=T) (lf:=lf) d j;rw[<-h1];have q:v<P.length:=by
  have:=(b8 d).mem_iff.1 (ak j);obtain⟨w,hw,e2⟩:=cf.1 this;omega
 unfold bldS;rw[e,Ux,oN d q]
 congr 2
 refine lN λc hc=>?_
 have s:=h2 c (by rw[e];exact hc);obtain⟨m,hm,rfl,_⟩:=bg.1 hc;exact(Hg hm s).symm
theorem PM(d:UpOk P):stV S P T lf (aR P)=(List.range P.length).map λa:Nat=>UF (vwS S P T lf a):=by
 unfold stV;refine UT λa ha=>AT ?_
 exact(b8 d).mem_iff.2 (cf.2 ⟨a,Vj.1 ha,O⟩)
def fR(E:List En):List En:=E.mergeSort λa b=> !bB b.v a.v
theorem eV(E:List En):(fR E).Perm E:=XF _ _
theorem Pg(E:List En):(fR E).Pairwise λa b=>bB b.v a.v=WA:=by
 have h:=Xj (le:=λa b:En=> !bB b.v a.v) (λa b c h1 h2=>?_) (λa b=>?_) E
 .exact h.imp fun{a b} h=>by simpa using h
 .grind[VM,bB,fN,mw]
 grind[bB]
theorem EnOk.vnd{E:List En}(h:EnOk E):E.Pairwise λa b=>a.v≠b.v:=by
 have:=h.nd;rw[List.Nodup,VW]at this;refine List.Pairwise.imp_of_mem (fun{a b} ha hb hne e=>hne ?_) this;rw[h.t a ha,h.t b hb,e]
theorem sX:∀{l m:List En},(l.Pairwise λa b=>bB b.v a.v=WA)->(m.Pairwise λa b=>bB b.v a.v=WA)->(l.Pairwise λa b=>a.v≠b.v)->l.Perm m->l=m
 |[],m,_,_,_,hp=>List.Perm.nil_eq hp
 |x::l,[],_,_,_,hp=>absurd hp.length_eq X2
 | x::l,y::m,h1,h2,h3,hp=>by
   obtain⟨a1,a2⟩:=Vd.1 h1;obtain⟨b1,b2⟩:=Vd.1 h2;obtain⟨c1,c2⟩:=Vd.1 h3;have d:x=y:=by grind[By.1,Vx,mw]
   subst d;rw[sX a2 b2 c2 (List.Perm.cons_inv hp)]
theorem QU{E l:List En}(h:EnOk E)(d:l.Perm E)(j:l.Pairwise λa b=>bB b.v a.v=WA):l=fR E:=
 sX j (Pg E) (d.symm.pairwise h.vnd λh e=>h e.symm) (d.trans (eV E).symm)
def gz:Gv:=⟨Mm.Sem.zero,0,0,0⟩
theorem Tb(Q:List Par):GvOk Q gz:=by
 have h:Mm.Sem.zero=cnt (0:Nat):=Mm.Sem.same (by show(0:Rat)=(((0:Nat):Int):Rat);rfl) (λ_=>rfl) (λ_ _=>rfl);refine⟨?_,?_⟩
 .show SOk 0 0 Mm.Sem.zero;rw[h];exact oD 0
 show Sup Q Mm.Sem.zero;rw[h];exact Sup.cnt Q _
def atV(E:List En)(key:List ByteArray):Gv:=((E.find? λe=>decide (e.v=key)).map (·.g)).getD gz
theorem R9{E:List En}{Q:List Par}(h:∀e∈E,GvOk Q e.g)(key:List ByteArray):GvOk Q (atV E key):=by
 unfold atV;cases he:E.find? λe=>decide (e.v=key)with
 |none=>exact Tb Q
 |some e=>exact h e (Wy he)
theorem Qh{f:Gv->Nat}(d:f gz=0)(E:List En)(key:List ByteArray):f (atV E key)<=gP f E:=by
 unfold atV;cases he:E.find? λe=>decide (e.v=key)with
 |none=>show f gz<=_;rw[d];exact aJ _
 |some e=>exact zN (Wy he)
noncomputable def totF(S:Sch)(P:List Int)(T:List (List Rw))(lf:Int->ByteArray->Gv)(rs:List Int)(z:Gv):Gv:=rs.foldl (λz r=>z.mul (atV (fR (vwS S P T lf r)) [])) z
noncomputable def totV(S:Sch)(P:List Int)(T:List (List Rw))(lf:Int->ByteArray->Gv):Gv:=totF S P T lf (aC P (-1)) (Gv.whole 1)
theorem uU{f:Gv->Nat}(d:Msr f)(j:f gz=0):∀{rs:List Int}{z:Gv},f (totF S P T lf rs z)<=f z*cD (rs.map λr=>gP f (vwS S P T lf r))
 |[],z=>by show f z<=f z*1;omega
 | r::rs,z=>by
   show f (totF S P T lf rs (z.mul (atV (fR (vwS S P T lf r)) [])))<=_;refine AI (uU d j (rs:=rs)) ?_;rw[d.mul,cd,cD,<-Vm];refine Vk _ (US _ ?_);refine AI (Qh j _ _) (Vl ?_);exact((eV _).map λe=>f e.g).sum_nat
theorem Oa:∀{rs:List Int}{z:Gv}(b:Int->Nat),(∀r∈rs,∀e∈vwS S P T lf r,e.g.k<=b r)->(totF S P T lf rs z).k<=z.k+(rs.map b).sum
 |[],z,b,_=>by show z.k<=z.k+0;omega
 | r::rs,z,b,h=>by
   show(totF S P T lf rs (z.mul (atV (fR (vwS S P T lf r)) []))).k<=_;refine AI (Oa (rs:=rs) b λq hq=>h q (by simp[hq])) ?_;have d:(atV (fR (vwS S P T lf r)) []).k<=b r:=by
    unfold atV;cases he:(fR (vwS S P T lf r)).find? λe=>decide (e.v=[])with
    |none=>exact aJ _
    |some e=>exact h r X2 e ((eV _).mem_iff.1 (Wy he))
   show z.k+(atV _ []).k+_<=_;rw[cd,U4];omega
theorem Nu(d:UpOk P)(j:∀v t,(lf v t).k<=1):(totV S P T lf).k<=P.length:=by
 have h:=Oa (S:=S) (P:=P) (T:=T) (lf:=lf) (rs:=aC P (-1)) (z:=Gv.whole 1) (λr=>(cM P P.length r).vs.length) (λr _ e he=>SO j _ r e he);have e:((aC P (-1)).map λr=>(cM P P.length r).vs.length).sum=(aR P).length:=by
  rw[<-mf,eT,Wh,lU]
 rw[e,(b8 d).length_eq,bo]at h;have q:(Gv.whole 1).k=0:=rfl;unfold totV;omega
end
end
end Vw
end
section
abbrev rnd(l:Nat):Fence:=Fence.wide.inRound l
theorem Hk{args:Array Value}{R:Ending->World->Prop}(h:Calls P f args w R):CallsIn (rnd l) k P f args w R:=
 (callsIn_wide.2 h).inRound l
theorem KB{row:String}{args:Array Value}{R:Value->World->Prop}(h:Rows P row args w R):RowsIn (rnd l) k P row args w R:=by
 intro c cs _;obtain⟨v,w',r,s⟩:=h c cs;exact⟨v,w',r,stepsIn_wide.2 s⟩
theorem Bb{o:Oper}{K:Act->World->Prop}{Q:Exit->Act->World->Prop}(j:∀c,o.op≠ .defer c)(h:o.wp P a w K Q):o.wpIn (rnd l) k P a w K Q:=by
 refine⟨λ_ _=>trivial,?_⟩;have e:o.semAt (rnd l).round a.eval=execOp a.eval o:=by
  unfold Oper.semAt;split
  .rename_i hc;exact absurd hc (j _)
  .rfl
 rw[e];unfold Oper.wp Oper.upon at h;unfold Oper.uponIn;cases hr:(execOp a.eval o).run P w with
 | ok x w1=>
   rw[hr]at h;cases x<;>first|exact h|exact⟨λd=>absurd (show WA=VA from d) XZ,Hk h⟩|exact⟨λd=>absurd (show WA=VA from d) XZ,KB h⟩|exact h.elim
 | halt x w1=>
   rw[hr]at h;cases x<;>first|exact h|exact h.elim
structure AWR(C:Ctx)(n:Nat)(c:Code)(Q:Exit->St->Prop)(σ:St):Prop where
 go:∀l a w,SJ C n σ a w->c.wpIn (rnd l) 0 C.P (λex a' w'=>∃σ',Q ex σ'/\SJ C n σ' a' w') a w
section
variable {C:Ctx}{n:Nat}{Q:Exit->St->Prop}{σ τ:St}
theorem AWR.skip(h:Q .normal σ):AWR C n .skip Q σ:=⟨λ_ _ _ hs=>wpIn_skip ⟨σ,h,hs⟩⟩
theorem AWR.seq{x:Code}(h:AWR C n x (E1 (AWR C n y Q) Q) σ):AWR C n (.seq x y) Q σ:=by
 refine⟨λl a w hs=>?_⟩;refine wpIn_seq (wpIn_mono (h.go l a w hs) ?_);rintro e a' w' ⟨s,q,r⟩;cases e<;>first|exact AWR.go q l a' w' r|exact⟨s,q,r⟩
theorem AWR.block{c:Code}(h:AWR C n c (yn id Q) σ):AWR C n (.block id c) Q σ:=by
 refine⟨λl a w hs=>?_⟩;refine wpIn_block (wpIn_mono (h.go l a w hs) ?_);rintro e a' w' ⟨s,q,r⟩;cases e with
 | exit id'=>
   simp only[yn]at q;simp only[Exit.inBlock];split
   .grind
   grind
 |_=>exact⟨s,q,r⟩
theorem AWR.cond{c:Operand}{x:Code}{b:Bool}(hc:σ.ev n c= .pv (.bool b))(j:b=VA->AWR C n x Q σ)(q:b=WA->AWR C n y Q σ):AWR C n (.cond c x y) Q σ:=by
 refine⟨λl a w hs=>?_⟩;obtain⟨m,R,hw⟩:=hs;have d:=hw.ev c;rw[hc]at d;simp only[Rel,RelP]at d;exact wpIn_cond_split d (λe=>(j e).go l a w ⟨m,R,hw⟩) (λe=>(q e).go l a w ⟨m,R,hw⟩)
variable {ops:Array Oper}
theorem RL.S6(t:∀o∈ops.toList,∀c,o.op≠ .defer c)(l:Nat)(K:St->Prop):∀(os:List Oper)(k:Nat)(σ:St),ops.toList.drop k=os->RL C n ops os K σ->∀a w,SJ C n σ a w->∀Q:Exit->Act->World->Prop,
  (∀a w,(∃s,K s/\SJ C n s a w)->Q .normal a w)->wpOpsIn (rnd l) 0 C.P ops Q (List.range' k (ops.size-k)) a w:=by
 intro os;induction os with
 | nil=>
   intro k σ hd h a w hs Q hQ;have:ops.size-k=0:=by simp_all
   rw[this];simp only[List.range'_zero,wpOpsIn];exact hQ a w ⟨σ,h,hs⟩
 | cons o os ih=>
   intro k σ hd h a w hs Q hQ;have z:k<ops.size:=by
    have:=ah List.length hd;simp at this;omega
   have A:ops[k]? =UF o:=by
    have:=ah (·[0]?) hd;simpa using this
   have q:o∈ops.toList:=by grind
   have B:ops.toList.drop (k+1)=os:=by
    have:=ah (List.drop 1) hd;simpa[WZ]using this
   have e:ops.size-k=(ops.size-(k+1))+1:=XX;rw[e,List.range'_succ];have d:∀a' w',(∃s,RL C n ops os K s/\SJ C n s a' w')->wpOpsIn (rnd l) 0 C.P ops Q (List.range' (k+1) (ops.size-(k+1))) a' w':=by grind
   simp only[wpOpsIn,A];simp only[RL]at h;cases hg:o.guard with
   | none=>
     rw[hg]at h;simp only[Region.wanted,hg,XO];exact Bb (t o q) (Oper.wp_mono d (h a w Q hs))
   | some jw=>
     obtain⟨j,want⟩:=jw;rw[hg]at h;obtain⟨b,hb,h1,h2⟩:=h;have G:=hb a w hs;simp only[Region.wanted,hg,G];by_cases hbw:b=UF want
     .subst hbw;simp only[Vh,XO];exact Bb (t o q) (Oper.wp_mono d (h1 O a w Q hs))
     have:(b==UF want)=WA:=by simpa using hbw
     simp only[this,Vv,XR];exact⟨λ_ _=>trivial,d _ _ (h2 hbw a w hs)⟩
def noDef(ops:Array Oper):Bool:=ops.toList.all λo=>match o.op with|.defer _=>WA|_=>VA
theorem AWR.region(j:noDef ops=VA)(h:RL C n ops ops.toList (Q .normal) σ):AWR C n (.region id ops WA) Q σ:=by
 refine⟨λl a w hs=>?_⟩;refine wpIn_region ?_;have d:∀o∈ops.toList,∀c,o.op≠ .defer c:=λo ho c e=>by
  have:=IX.1 j o ho;rw[e]at this;cases this
 have:=RL.S6 d l (Q .normal) ops.toList 0 σ X2 h a w hs (λex a' w'=>∃σ',Q ex σ'/\SJ C n σ' a' w') (λ_ _ x=>x);rw[List.range_eq_range'];simpa using this
end
end
section
def Ob.lC:Ob->Bool
 |.cells .. |.mix .. |.gro .. =>VA
 |_=>WA
theorem nv.lC{av:Av}{N:Nat}{o:Ob}(h:nv w m av R b N o)(hc:o.lC=VA):∃arr ty fz,w.heap[b]? =UF (.cells arr ty fz):=by
 cases o with
 |cells ty cs=>obtain⟨arr,h1,_⟩:=h;exact⟨_,_,_,h1⟩
 |mix ty cs=>obtain⟨arr,h1,_⟩:=h;exact⟨_,_,_,h1⟩
 |gro ty cs=>obtain⟨arr,h1,_⟩:=h;exact⟨_,_,_,h1⟩
 |_=>cases hc
structure Btw(P:Program)(w0:World)(R0:Nat->Prop)(bs X:List Nat)(os:List (Nat×Ob))(k:Nat)(W:World):Prop where
 ex:∃(m:Gm)(rt:RT W (eG m)),HR ⟨P,m,W,eG m,rt⟩ m rt.p (aA os) (avK k) W/\(∀j b,bs[j]? =UF b->∃N,m (big+j)=UF (b,N))/\
  (∀id b N,m id=UF (b,N)->w0.heap.size<=b/\b∉X)/\(∀b,R0 b->rt.p b)/\(∀b,rt.p b->(R0 b\/w0.heap.size<=b)/\b∉X)
 bel:Below w0.heap.size w0 W
 xs:∀x∈X,x<W.heap.size/\w0.heap.size<=x
section
variable {P:Program}{w0:World}{R0:Nat->Prop}{bs X X':List Nat}{os os':List (Nat×Ob)}{k k':Nat}{W W':World}
theorem Btw.other(h:Btw P w0 R0 bs X os k W)(A:W.heap.size<=W'.heap.size)(B:∀q,q<W.heap.size->q∉X->W'.heap[q]? =W.heap[q]?)(z:Below w0.heap.size w0 W')
  (G:∀x∈X',x∈X\/(W.heap.size<=x/\x<W'.heap.size)):Btw P w0 R0 bs X' os k W':=by
 obtain⟨m,rt,hr,h1,h2,h3,h4⟩:=h.ex;have s:∀b,rt.p b->rt.p b/\W'.heap[b]? =W.heap[b]? :=λb hb'=>⟨hb',B b (rt.d b hb').1 (h4 b hb').2⟩
 have t:∀b,b<W.heap.size->b∉X->b∉X':=λb hlt hn hm=>by grind
 have j:=hr.own;refine⟨⟨m,⟨rt.p,rt.g.mono s,λb hb'=>⟨Uq (rt.d b hb').1 A,(rt.d b hb').2⟩,[]⟩,?_,h1,λid b N e=>⟨(h2 id b N e).1,t b (j id b N e).1 (h2 id b N e).2⟩,h3,λb hb'=>⟨(h4 b hb').1,t b (rt.d b hb').1 (h4 b hb').2⟩⟩,z,λx hx=>?_⟩
 .exact ⟨hr.dom,hr.free,λid o b N h5 h6=>nv.mono s (λ_ _ _ e=>e) (λ_ e=>e) (B b (j id b N h6).1 (h2 id b N h6).2) (hr.obj id o b N h5 h6),hr.inj,
   λid b N e=>⟨Uq (j id b N e).1 A,(j id b N e).2.1,.inl ⟨id,N,e⟩⟩,λb hb'=>Uq (hr.rsz b hb') A,λb hb'=> .inl hb',λb hb'=>hb',Fr.refl _ _,λ_ _ _ e=>e,hr.res⟩
 rcases G x hx with e|e
 .exact⟨Uq (h.xs x e).1 A,(h.xs x e).2⟩
 exact⟨e.2,AI h.bel.size e.1⟩
theorem Btw.round{slots:List (Nat×V)}{Q:Exit->St->Prop}{G:Exit->List (Nat×Ob)->Nat->Prop}(hA:∀m0 w0 F R0,AWR ⟨P,m0,w0,F,R0⟩ n body Q (mkS slots os k))
  (hQ:∀ex τ,Q ex τ->∃os' k',τ.le (mkS [] os' k')/\(∀j,j<bs.length->bM (aA os' (big+j))=VA)/\G ex os' k')
  (h:Btw P w0 R0 bs X os k W) (a:Act) (aa:a.defers=[]) (ab:a.tmps.size=n)
  (ac:∀(m:Gm)(R:Nat->Prop),(∀j b,bs[j]? =UF b->∃N,m (big+j)=UF (b,N))->(∀b,R0 b->R b)->∀t,t<n->Rel W m (avK k) R (look slots t) (a.eval (.tmp t))):
  body.wpIn (rnd l) 0 P (λex _ W'=>(∃os' k',G ex os' k'/\Btw P w0 R0 bs X os' k' W')/\(∀x∈X,W'.heap[x]? =W.heap[x]?)/\W.heap.size<=W'.heap.size/\(∀b,R0 b->W'.heap[b]? =W.heap[b]?)/\
   ((∀i o,aA os i=UF o->o.lC=VA)->∀(q:Nat)(o:Obj),W.heap[q]? =UF o->o.isWalk=VA->W'.heap[q]? =UF o)) a W:=by
 obtain⟨m,rt0,hr0,h1,h2,h3,h4⟩:=h.ex;obtain⟨rt,hp,hd0⟩:∃rt:RT W (eG m),rt.p=rt0.p/\rt.df=[]:=⟨⟨rt0.p,rt0.g,rt0.d,[]⟩,O,O⟩;have J:=hr0.dfs hp;rw[<-hp]at J h3 h4;refine wpIn_mono ((hA m W (eG m) rt).go l a W ⟨m,rt.p,J,aa.trans hd0.symm,ab,ac m rt.p h1 h3⟩) ?_;rintro ex a' W' ⟨τ,hq,hsj⟩;obtain⟨os',k',hle,hlive,hG⟩:=hQ ex τ hq;obtain⟨m',R',hw⟩:=hle _ _ _ _ hsj;have s:HR ⟨P,m,W,eG m,rt⟩ m' R' (aA os') (avK k') W':=hw.hr;have z:Fr (eG m) W W':=s.frame;have H:∀x∈X,¬eG m x:=λx A ⟨id,N,e⟩=>(h2 id x N e).2 A
 have U:∀x∈X,¬R' x:=λx A hR=>by
  rcases s.rfr x hR with e|e|e
  .exact(h4 x e).2 A
  .have:=(h.xs x A).1;exact absurd e (Nat.not_le.2 this)
  exact H x A e
 have I:Below w0.heap.size w0 W':=by
  have Y:Below w0.heap.size W W':=⟨z.os,z.tape,z.output,z.size,λq hq'=>z.block q (Uq hq' h.bel.size) fun⟨id,N,e⟩=>by have:=(h2 id q N e).1;omega⟩;exact h.bel.trans Y
 have Z:(∀i o,aA os i=UF o->o.lC=VA)->∀(q:Nat)(o:Obj),W.heap[q]? =UF o->o.isWalk=VA->W'.heap[q]? =UF o:=by
  intro hc q o ho hiw;refine(z.block q (S8.1 ho).1 ?_).trans ho;rintro⟨id,N,e⟩;have B:=J.dom id;rw[e]at B;cases ho2:aA os id with
  |none=>rw[ho2]at B;cases B
  | some o2=>
    obtain⟨arr,ty,fz,h5⟩:=(J.obj id o2 q N ho2 e).lC (hc id o2 ho2);rw[h5]at ho;cases ho;cases hiw
 refine⟨⟨os',k',hG,⟨⟨m',⟨R',s.gi,λb hb=>⟨s.rsz b hb,fun⟨id,N,e⟩=>(s.own id b N e).2.1 hb⟩,[]⟩,?_,?_,?_,λb hb=>s.r0 b (h3 b hb),?_⟩,I,λx A=>⟨Uq (h.xs x A).1 z.size,(h.xs x A).2⟩⟩⟩,λx A=>z.block x (h.xs x A).1 (H x A),z.size,λb hb=>z.block b (rt.d b (h3 b hb)).1 (rt.d b (h3 b hb)).2,Z⟩
 .exact⟨s.dom,s.free,s.obj,s.inj,λid b N e=>⟨(s.own id b N e).1,(s.own id b N e).2.1,.inl ⟨id,N,e⟩⟩,s.rsz,λb hb=> .inl hb,λb hb=>hb,Fr.refl _ _,λ_ _ _ e=>e,s.res⟩
 .intro j b hj;obtain⟨N,hN⟩:=h1 j b hj;have B:=s.dom (big+j);rw[hlive j (RE.1 hj).1]at B;obtain⟨y,hy⟩:=UP.1 B;have:=s.gY (big+j) y (Wq _ _) hy;have e:m (big+j)=UF y:=this;rw[hN]at e;exact⟨N,by rw[hy,<-e]⟩
 .intro id b N e;rcases(s.own id b N e).2.2 with⟨id2,N2,e2⟩|e2
  .exact h2 id2 b N2 e2
  have e3:W.heap.size<=b:=e2;exact⟨AI h.bel.size e3,λA=>by have:=(h.xs b A).1;omega⟩
 .intro b hb;refine⟨?_,λA=>U b A hb⟩;rcases s.rfr b hb with e|e|⟨id,N,e⟩
  .exact(h4 b e).1
  .exact .inr (AI h.bel.size e)
  exact .inr (h2 id b N e).1
end
end
section
open Go.RowKit Go.MapKept
open Go.ChangeMaps (setBlock)
section
variable {F:Fence}{n:Nat}{P:Program}(w:World){ops:Array Oper}{rest:List Oper}{o:Oper}{a:Act}{Q:Exit->Act->World->Prop}
theorem jx(j:o.guard=UG)(m:Operand)(t:TypeId)(d:o.op=Op.range t m)(k e:TypeId)(q:P.underlying t=UF (.map k e))(b:Nat)(es:Array MapEntry)(clock:Nat)(s:a.eval m= .map (UF b))(z:w.heap[b]? =UF (.map es clock))
  (A:wpListIn F n P ops Q rest (a.put o.dst (.pointer (UF ⟨w.heap.size,0,UG⟩))) (w.alloc (.mapIter (UF b) clock #[] clock))):wpListIn F n P ops Q (o::rest) a w:=by
 refine wpListIn_plain j λK' hK'=>?_
 unfold Oper.wpIn;refine⟨by simp[Oper.about,d],?_⟩;rw[Oper.semAt_plain F _ _ (by rw[d];intro c hc';cases hc')];simp[execOp,d,s,run_range_map w t k e b es clock q z,Result.andThen];exact hK' _ _ A
theorem yL(z:o.guard=UG)(it:Operand)(d:o.op=Op.next it WA)(r b clock:Nat)(seen:Array Nat)(es:Array MapEntry)(s:a.eval it= .pointer (UF ⟨r,0,UG⟩))(A:w.heap[r]? =UF (.mapIter (UF b) clock seen clock))(B:w.heap[b]? =UF (.map es clock))(t:dT es.toList clock)
  (j:(leftOf es seen).size=0->wpListIn F n P ops Q rest (a.put o.dst (.tuple #[.bool WA])) w)
  (q:∀e∈(leftOf es seen).toList,∀w1,(w1=w\/w1=w.drew)->wpListIn F n P ops Q rest (a.put o.dst (.tuple #[.bool VA,e.key,e.val])) (setBlock w1 r (.mapIter (UF b) clock (seen.push e.born) clock))):wpListIn F n P ops Q (o::rest) a w:=by
 refine wpListIn_plain z λK' hK'=>?_
 unfold Oper.wpIn;refine⟨by simp[Oper.about,d],?_⟩;rw[Oper.semAt_plain F _ _ (by rw[d];intro c hc';cases hc')];rcases Go.run_next_at (P:=P) w o.type r b clock clock seen es clock A B t.2 (tJ _)with⟨h0,hrun⟩|⟨e,he,w1,hal,hrun⟩
 .simp[execOp,d,s,hrun,Result.andThen];exact hK' _ _ (j h0)
 simp[execOp,d,s,hrun,Result.andThen];exact hK' _ _ (q e he w1 hal)
theorem jT(s:o.guard=UG)(it:Operand)(d:o.op=Op.entry it)(r:Nat)(k v:Value)(q:a.eval it= .pointer (UF ⟨r,0,UG⟩))(j:(Instr.entry (.pointer (UF ⟨r,0,UG⟩))).run P w= .ok (.tuple #[k,v]) w)
  (t:wpListIn F n P ops Q rest (a.put o.dst (.tuple #[k,v])) w):wpListIn F n P ops Q (o::rest) a w:=by
 refine wpListIn_plain s λK' hK'=>?_
 unfold Oper.wpIn;refine⟨by simp[Oper.about,d],?_⟩;rw[Oper.semAt_plain F _ _ (by rw[d];intro c hc';cases hc')];simp[execOp,d,q,j,Result.andThen];exact hK' _ _ t
end
def gO(es:Array MapEntry)(seen:Array Nat):List Value:=(es.toList.filter λe=> !seen.contains e.born).map (·.key)
theorem qU(es:Array MapEntry):gO es #[]=es.toList.map (·.key):=by
 unfold gO;rw[List.filter_eq_self.2 λe _=>by simp]
theorem ed(es:Array MapEntry)(seen:Array Nat):(leftOf es seen).toList=es.toList.filter λe=> !seen.contains e.born:=by unfold leftOf;simp
theorem JG{l:List α}(h:i<l.length):l.Perm (l[i]::l.eraseIdx i):=by grind[Us,U3,List.eraseIdx_eq_take_drop_succ,trans,Xq]
theorem oE(j:dT es.toList clock)(q:e∈(leftOf es seen).toList):(gO es seen).Perm (e.key::gO es (seen.push e.born)):=by
 rw[ed]at q;obtain⟨i,hi⟩:=VE q;have d:((es.toList.filter λe=> !seen.contains e.born).map (·.born)).Nodup:=(VR.map _).nodup j.1;have s:(es.toList.filter λx=> !(seen.push e.born).contains x.born)=(es.toList.filter λe=> !seen.contains e.born).eraseIdx i:=by
  rw[<-k8 d hi,List.filter_filter];apply List.filter_congr;intro x _;rw[contains_push];cases seen.contains x.born<;>cases (x.born==e.born)<;>rfl
 unfold gO;rw[s];obtain⟨hlt,rfl⟩:=RE.1 hi;have:=(JG hlt).map (·.key);simpa using this
theorem oq(h:(leftOf es seen).size=0):gO es seen=[]:=by grind[Xi.1,UR,ed,gO]
end
section
section
variable {P:Program}{w0:World}{R0 R1:Nat->Prop}{bs X:List Nat}{os:List (Nat×Ob)}{k:Nat}{W W':World}
theorem Btw.more(h:Btw P w0 R0 bs X os k W){W1:World}(q:Below W.heap.size W W1):Btw P w0 (λb=>R0 b\/(W.heap.size<=b/\b<W1.heap.size)) bs X os k W1:=by
 obtain⟨m,rt,hr,h1,h2,h3,h4⟩:=h.ex;have s:=h.bel.size;have A:∀b,b<W.heap.size->W1.heap[b]? =W.heap[b]? :=λb hlt=>q.block b hlt
 have t:∀b,rt.p b->(rt.p b\/(W.heap.size<=b/\b<W1.heap.size))/\W1.heap[b]? =W.heap[b]? :=λb hb'=>⟨.inl hb',A b (rt.d b hb').1⟩
 have j:=hr.own;refine⟨⟨m,⟨λb=>rt.p b\/(W.heap.size<=b/\b<W1.heap.size),rt.g.mono t,?_,[]⟩,?_,h1,h2,?_,?_⟩,h.bel.trans (q.mono s),λx z=>⟨Uq (h.xs x z).1 q.size,(h.xs x z).2⟩⟩
 .rintro b (hb'|hb')
  .exact⟨Uq (rt.d b hb').1 q.size,(rt.d b hb').2⟩
  exact⟨hb'.2,fun⟨id,N,e⟩=>by have:=(j id b N e).1;omega⟩
 .refine⟨hr.dom,hr.free,λid o b N h5 h6=>nv.mono t (λ_ _ _ e=>e) (λ_ e=>e) (A b (j id b N h6).1) (hr.obj id o b N h5 h6),hr.inj,λid b N e=>⟨Uq (j id b N e).1 q.size,?_,.inl ⟨id,N,e⟩⟩,?_,λb hb'=> .inl hb',λb hb'=>hb',Fr.refl _ _,λ_ _ _ e=>e,hr.res⟩
  .grind
  rintro b (hb'|hb')
  .exact Uq (hr.rsz b hb') q.size
  exact hb'.2
 .grind
 rintro b (hb'|hb')
 .grind
 exact⟨.inr (AI s hb'.1),λz=>by have:=(h.xs b z).1;omega⟩
theorem Btw.less(h:Btw P w0 R1 bs X os k W)(d:∀b,R0 b->R1 b)(j:∀b,R1 b->R0 b\/w0.heap.size<=b):Btw P w0 R0 bs X os k W:=by
 obtain⟨m,rt,hr,h1,h2,h3,h4⟩:=h.ex;exact⟨⟨m,rt,hr,h1,h2,λb hb=>h3 b (d b hb),λb hb=>⟨(h4 b hb).1.elim (j b) .inr,(h4 b hb).2⟩⟩,h.bel,h.xs⟩
theorem btwS(h:Btw P w0 R0 bs X os k W)(d:x∈X)(o:Obj):Btw P w0 R0 bs X os k (W.putObj x o):=
 h.other X2 (λq _ hn=>World.putObj_heap_other λe=>hn (e▸d)) (h.bel.grown ⟨O,O,O,X2,λk _ hk=>World.putObj_heap_other λe=>hk (by rw[e])⟩ h.bel.size λk e=>by cases e;exact(h.xs x d).2) (λy hy=> .inl hy)
theorem Btw.rlt(h:Btw P w0 R0 bs X os k W)(j:R0 b):b<W.heap.size/\b∉X:=by
 obtain⟨m,rt,hr,h1,h2,h3,h4⟩:=h.ex;exact⟨(rt.d b (h3 b j)).1,(h4 b (h3 b j)).2⟩
end
def S4{α:Type}(it:Bool)(P:Program)(gf:Nat)(lb:Array Value)(encs:α->Array Value)(Kp:World->World->Prop)(Pr:List α->α->Prop)(S:List α->Prop)(w:World):Prop:=
 ∀(l:Nat)(J:List α->World->Prop)(W:World),Below w.heap.size w W->
  (∀pre W1 W2 row,J pre W1->W1.grownBy W2 row->(∀q,row=UF q->it=VA/\q=W.heap.size)->J pre W2)->
  (∀pre x W1,J pre W1->Pr pre x->YieldAt Fence.wide 0 P l (encs x) W1 λe W'=>e= .returned (.bool VA)/\J (pre++[x]) W'/\Kp W1 W')->
  (∀o,J [] (bif it then W.alloc o else W))->
  CallsIn Fence.wide 1 P gf (#[.func (.yield l) #[] #[]]++lb) W λe W'=>(∃v,e= .returned v)/\∃xs,S xs/\J xs W'
theorem mT{nt:Nat}{g:Operand}{ps:Array Tmp}{assign:Code}{Q:Exit->Act->World->Prop}{w0 W0:World}{R0:Nat->Prop}{bs:List Nat}(it:Bool){gf:Nat}{lb:Array Value}{encs:α->Array Value}{Kp:World->World->Prop}
  {Pr:List α->α->Prop} {S:List α->Prop} (hg:a.eval g= .func (.func gf) #[] lb) (eg:∀args w,(callFunc gf args).run P w= .ok (.enter gf args) w) (hseq:S4 it P gf lb encs Kp Pr S W0) (hps:∀x,(encs x).size=ps.size)
  (hKp1:it=VA->∀A B,KeepsWalks A B->Kp A B) (hKp2:it=WA->∀A B:World,(∀b,R0 b->B.heap[b]? =A.heap[b]?)->Kp A B)
  (Inv:List α->List (Nat×Ob)->Nat->Prop) {os0:List (Nat×Ob)} {k0:Nat} (hi0:Inv [] os0 k0) (ab:Btw P w0 R0 bs [] os0 k0 W0) (ac:it=VA->∀pre os k,Inv pre os k->∀i o,aA os i=UF o->o.lC=VA)
  (a1:α->World->Act) (nw:α->World->World) (hnw:∀x W,Below W.heap.size W (nw x W)) (ha1:∀x W,(a1 x W).defers=[]/\(a1 x W).tmps.size=nt)
  (J:∀(l:Nat)(x:α)(W:World)(K:Act->World->Prop),K (a1 x W) (nw x W)->assign.wpIn (rnd l) 0 P (Exit.then K (λ_ _ _=>False)) { tmps:=(ps.zip (encs x)).foldl (λt (p,v)=>t.setIfInBounds p v) a.tmps,defers:=[] } W)
  (hbody:∀pre x os k,Inv pre os k->Pr pre x->∃(slots:List (Nat×V))(Qb:Exit->St->Prop),(∀m0 w0 F R0,AWR ⟨P,m0,w0,F,R0⟩ nt body Qb (mkS slots os k))/\
   (∀ex τ,Qb ex τ->∃os' k',τ.le (mkS [] os' k')/\(∀j,j<bs.length->bM (aA os' (big+j))=VA)/\ex= .normal/\Inv (pre++[x]) os' k')/\
   (∀(W W2:World)(m:Gm)(R:Nat->Prop),(∀b,W.heap.size<=b->b<(nw x W).heap.size->R b/\W2.heap[b]? =(nw x W).heap[b]?)->(∀j b,bs[j]? =UF b->∃N,m (big+j)=UF (b,N))->(∀b,R0 b->R b)->∀t,t<nt->Rel W2 m (avK k) R (look slots t) ((a1 x W).eval (.tmp t))))
  (hdone:∀(D:Nat)(X:List Nat)(xs:List α)(os:List (Nat×Ob))(k:Nat)(W:World),w0.heap.size<=D->D<W.heap.size->D∈X->S xs->Inv xs os k->Btw P w0 R0 bs X os k W->W.heap[D]? =UF (.deferred (UF []))->Q .normal { a with defers:={ target:=.collected D,args:= #[] }::a.defers } W):
  (Code.rangeFunc g ps assign body).wpIn Fence.wide 2 P Q a W0:=by
 refine wpIn_rangeFunc ?_;intro fn hfn;have hge:=ab.bel.size;obtain⟨rec,hrec⟩:∃rec:LoopState->Option Code->Loop,rec=λst pe=>{ state:=st,pending:=pe,fn,tmps:=a.tmps,params:=ps,assign,body,defers:=W0.heap.size }:=⟨_,O⟩
 obtain⟨W1,hW1⟩:∃W1,(W0.alloc (.deferred (UF []))).alloc (.loop (rec .ready UG))=W1:=⟨_,O⟩;obtain⟨D,hD⟩:∃D,D=W0.heap.size:=⟨_,O⟩;have hL1:W1.heap[D+1]? =UF (.loop (rec .ready UG)):=by
  rw[<-hW1,hD];have:=World.alloc_heap_new (W0.alloc (.deferred (UF []))) (.loop (rec .ready UG));rwa [World.size_alloc]at this
 have hK1:W1.heap[D]? =UF (.deferred (UF [])):=by
  rw[<-hW1,hD];exact(Below.heap_alloc _ _ _ X2).trans (World.alloc_heap_new W0 _)
 have hs1:W1.heap.size=D+2:=by rw[<-hW1];simp[hD]
 have z:Below W0.heap.size W0 W1:=by rw[<-hW1];exact((Below.refl _ W0).alloc (tJ _) _).alloc X2 _
 have d:Btw P w0 R0 bs [D,D+1] os0 k0 W1:=by
  refine ab.other XX (λq hq _=>z.block q hq) (ab.bel.trans (z.mono hge)) (λx hx=>?_);simp only[By,Vy,Xd]at hx;omega
 obtain⟨X,hX⟩:∃X,X=bif it then [D,D+1,D+2]else [D,D+1]:=⟨_,O⟩;have hDX:D∈X:=by rw[hX];cases it<;>simp
 have H:D+1∈X:=by rw[hX];cases it<;>simp
 have hXm:∀x,x∈X->x=D\/x=D+1\/(it=VA/\x=D+2):=λx hx=>by grind
 refine⟨D+1,[{ target:=.collected D,args:= #[] }],W1,{ target:=.fn (.func gf) lb,args:= #[.func (.yield (D+1)) #[] #[]] },W1,gf,
  #[.func (.yield (D+1)) #[] #[]]++lb,W1,?_,?_,λ_ _=>trivial,?_,λ_=>by decide,?_⟩
 .rw[<-hW1,hrec,hD];exact run_enterLoop_outer _ _ _ _ _
 .simp only[resolve,hg];simp[go_sem]
 .simp[invoke,go_sem,eg]
 refine(hseq (D+1) (λpre W=>(∃os k,Inv pre os k/\Btw P w0 R0 bs X os k W)/\W.heap[D+1]? =UF (.loop (rec .ready UG))/\W.heap[D]? =UF (.deferred (UF []))) W1 z ?_ ?_ ?_).mono ?_
 .rintro pre Wa Wb row ⟨⟨os,k,hi,hb⟩,h1,h2⟩ hgr hrow;have U:∀q,q∉X->UF q≠row:=λq hq e=>by grind
  have s:=(S8.1 h1).1;have I:=(S8.1 h2).1;refine⟨⟨os,k,hi,hb.other hgr.size (λq hq Y=>hgr.block q hq (U q Y)) (hb.bel.grown hgr hb.bel.size λq e=>by have:=hrow q e;omega) λy hy=> .inl hy⟩,(hgr.block _ s λe=>?_).trans h1,(hgr.block _ I λe=>?_).trans h2⟩
  .have:=hrow _ e.symm;omega
  have:=hrow _ e.symm;omega
 .rintro pre x W ⟨⟨os,k,hi,hb⟩,h1,h2⟩ hpr;have s:D+1<W.heap.size:=(S8.1 h1).1;have I:D<W.heap.size:=(S8.1 h2).1;have hy:=run_yield (P:=P) (args:=encs x) h1 (by rw[hrec];first|exact hps x|exact(hps x).symm);rw[hrec]at hy;have Y:=hnw x W;have h1n:(nw x W).heap[D+1]? =UF (.loop (rec .ready UG)):=(Y.block _ s).trans h1;have h2n:(nw x W).heap[D]? =UF (.deferred (UF [])):=(Y.block _ I).trans h2;refine⟨fn,_,assign,body,hy,roundIn_of_wpIn hfn (J _ x W _ ⟨_,run_beginRound h1n (by rw[hrec]),?_⟩)⟩;have hbm:=hb.more Y;have hbb:=btwS hbm H (.loop { rec .ready UG with state:=.busy });obtain⟨slots,Qb,hA,hQ,hsl⟩:=hbody pre x os k hi hpr;have hlt':D+1<(nw x W).heap.size:=Uq s Y.size;have Z:=hbb.round (n:=nt) (l:=D+1) (body:=body) (slots:=slots) (G:=λex os' k'=>ex= .normal/\Inv (pre++[x]) os' k') hA hQ (a1 x W) (ha1 x W).1 (ha1 x W).2
   (λm R hm hR t ht=>hsl W _ m R (λb hb1 hb2=>⟨hR b (.inr ⟨hb1,hb2⟩),World.putObj_heap_other XX⟩) hm (λb hb'=>hR b (.inl hb')) t ht)
  refine wpIn_mono Z ?_;rintro ex a3 W3 ⟨⟨os',k',⟨rfl,hi'⟩,hb3⟩,hX3,hsz3,hRk,hwk⟩;have aa:W3.heap[D+1]? =UF (.loop { rec .ready UG with state:=.busy }):=(hX3 (D+1) H).trans (World.putObj_heap_same hlt');have hk3:W3.heap[D]? =UF (.deferred (UF [])):=(hX3 D hDX).trans ((World.putObj_heap_other XX).trans h2n);have hlt3:D+1<W3.heap.size:=(S8.1 aa).1;have hb4:Btw P w0 R0 bs X os' k' W3:=hb3.less (λb hb'=> .inl hb') λb hb'=>hb'.imp id λh=>AI hb.bel.size h.1
  refine⟨_,_,run_endRound UG aa,O,⟨⟨os',k',hi',btwS hb4 H _⟩,?_,(World.putObj_heap_other XX).trans hk3⟩,?_⟩
  .rw[World.putObj_heap_same hlt3,hrec];rfl
  cases hit:it with
  | true=>
    refine hKp1 hit _ _ ?_;have q1:KeepsWalks W (nw x W):=⟨Y.size,λq o ho _=>(Y.block q (S8.1 ho).1).trans ho⟩;have q2:KeepsWalks (nw x W) ((nw x W).putObj (D+1) (.loop { rec .ready UG with state:=.busy })):=KeepsWalks.putObj _ h1n O;have q3:KeepsWalks ((nw x W).putObj (D+1) (.loop { rec .ready UG with state:=.busy })) W3:=⟨hsz3,hwk (ac hit pre os k hi)⟩;exact((q1.trans q2).trans q3).trans (KeepsWalks.putObj _ aa O)
  | false=>
    refine hKp2 hit _ _ λb hb'=>?_
    obtain⟨g1,g2⟩:=hb.rlt hb';have U:b≠D+1:=λe=>g2 (e▸H)
    exact(World.putObj_heap_other U).trans ((hRk b (.inl hb')).trans ((World.putObj_heap_other U).trans (Y.block b g1)))
 .intro o;cases hit:it with
  | true=>
    simp only[VG];have ha:Below W1.heap.size W1 (W1.alloc o):=(Below.refl _ W1).alloc (tJ _) o;refine⟨⟨os0,k0,hi0,?_⟩,(ha.block _ XX).trans hL1,(ha.block _ XX).trans hK1⟩;refine d.other ha.size (λq hq _=>ha.block q hq) (d.bel.trans (ha.mono d.bel.size)) λy hy=>?_
    rcases hXm y hy with rfl|rfl|⟨_,rfl⟩
    .exact .inl X2
    .exact .inl X2
    simp_all
  | false=>
    simp only[UZ];rw[hit]at hX;subst hX;exact⟨⟨os0,k0,hi0,d⟩,hL1,hK1⟩
 rintro e W2 ⟨⟨v,rfl⟩,xs,hS,⟨os,k,hi,hb⟩,h1,h2⟩;have s:=(S8.1 h2).1;refine⟨UG,_,by have:=run_endLoop (P:=P) h1 (by rw[hrec];simp);rw[hrec]at this;exact this,hdone D X xs os k _ XX (by simpa using s) hDX hS hi (btwS hb H _) ((World.putObj_heap_other XX).trans h2)⟩
end
section
open Go.RowKit Go.Shelf Mm
open Go.ChangeMaps (setBlock)
attribute [local go_sem] Oper.semAt_some
theorem HZ(es:Array MapEntry)(seen:Array Nat):(leftOf es seen).size=(gO es seen).length:=by
 unfold gO;rw[AS,<-ed,UR]
theorem nT{mb:Nat}{c1 c2:Nat}{x:Option Nat}(d:w.heap[mb]? =UF (.map es clock))(j:w.heap[r]? =UF (.mapIter x c1 seen c2)):w.rangeLeft mb r=(gO es seen).length:=by
 rw[<-HZ];simp[World.rangeLeft,d,j]
def cP(p:Par):Value:=.agg #[.int .i64 p.f,.string p.c]
theorem kr{p q:Par}(h:cP p=cP q):p=q:=by
 obtain⟨a,s⟩:=p;obtain⟨b,t⟩:=q;simp only[cP,Value.agg.injEq,Array.mk.injEq,Wg,Value.int.injEq,Value.string.injEq,and_true,true_and]at h;rw[h.1,h.2]
def fu(p:PP):Value:=.agg #[.int .i64 p.1.f,.string p.1.c,.int .i64 p.2.f,.string p.2.c]
theorem mL{p q:PP}(h:fu p=fu q):p=q:=by
 obtain⟨⟨a,s⟩,⟨a2,s2⟩⟩:=p;obtain⟨⟨b,t⟩,⟨b2,t2⟩⟩:=q;simp only[fu,Value.agg.injEq,Array.mk.injEq,Wg,Value.int.injEq,Value.string.injEq,and_true,true_and]at h;obtain⟨h1,h2,h3,h4⟩:=h;rw[h1,h2,h3,h4]
theorem pL{p q:ByteArray}(h:Value.string p=Value.string q):p=q:=by cases h;rfl
theorem AL{enc:α->Value}{xs:List α}(d:es.toList.map (·.key)=xs.map enc)(j:e∈(leftOf es seen).toList):e∈es.toList/\∃x∈xs,enc x=e.key:=by grind[ed,Wt.1,List.mem_map_of_mem,IS.1]
theorem dG{f:α->β}(q:∀a b,f a=f b->a=b):∀{l m:List α},(l.map f).Perm (m.map f)->l.Perm m:=by
 intro l;induction l with
 |nil=>intro m h;have:=h.length_eq;simp at this;rw[UM this.symm]
 | cons a l ih=>
   intro m h;have d:f a∈m.map f:=h.subset X2;obtain⟨b,hb,e⟩:=IS.1 d;obtain rfl:=q _ _ e;obtain⟨s,t,rfl⟩:=List.append_of_mem hb;have j:(l.map f).Perm ((s++t).map f):=by
    have:((s++b::t).map f).Perm (f b::(s++t).map f):=by simp only[UO,cd];exact Xq
    exact(h.trans this).cons_inv
   exact((ih j).cons b).trans Xq.symm
theorem vr{enc:α->Value}{xs:List α}(j:es.toList.map (·.key)=xs.map enc)(seen:Array Nat):∃rest:List α,gO es seen=rest.map enc:=by
 have d:∀l:List Value,(∀v∈l,∃x,enc x=v)->∃rest:List α,l=rest.map enc:=by
  intro l;induction l with
  |nil=>intro _;exact⟨[],O⟩
  | cons v l ih=>
    intro h;obtain⟨x,hxe⟩:=h v X2;obtain⟨r,hr⟩:=ih λu hu=>h u (by simp[hu])
    exact⟨x::r,by rw[cd,hxe,<-hr]⟩
 refine d _ λv hv=>?_
 unfold gO at hv;obtain⟨e,he,rfl⟩:=IS.1 hv;obtain⟨_,x,_,hxe⟩:=AL (seen:=seen) (e:=e) j (by rw[ed];exact he);exact⟨x,hxe⟩
theorem vI{F:Fence}(w:World){ops:Array Oper}{rest:List Oper}{o:Oper}{Q:Exit->Act->World->Prop}(I:o.guard=UG)(it:Operand)(t:o.op=Op.next it WA)(r b clock:Nat)(seen:Array Nat)(es:Array MapEntry)
  (z:a.eval it= .pointer (UF ⟨r,0,UG⟩)) (G:w.heap[r]? =UF (.mapIter (UF b) clock seen clock)) (H:w.heap[b]? =UF (.map es clock)) (A:r≠b) (B:dT es.toList clock)
  (j:(leftOf es seen).size=0->wpListIn F n P ops Q rest (a.put o.dst (.tuple #[.bool WA])) w)
  (q:∀e:MapEntry,e∈leftOf es seen->∀W2:World,W2.heap[r]? =UF (.mapIter (UF b) clock (seen.push e.born) clock)->W2.heap[b]? =UF (.map es clock)->w.grownBy W2 (UF r)->wpListIn F n P ops Q rest (a.put o.dst (.tuple #[.bool VA,e.key,e.val])) W2):wpListIn F n P ops Q (o::rest) a w:=by
 refine yL w I it t r b clock seen es z G H B j λe he w1 hal=>?_
 have d:w1.heap=w.heap:=by rcases hal with rfl|rfl<;>rfl
 have s:r<w.heap.size:=(S8.1 G).1;refine q e (by simpa using he) _ ?_ ?_ ⟨by rcases hal with rfl|rfl<;>rfl,by rcases hal with rfl|rfl<;>rfl,by rcases hal with rfl|rfl<;>rfl,by simp[setBlock,d],λk _ hk=>?_⟩
 .simp only[setBlock];rw[Array.getElem?_setIfInBounds_self,AT (by rw[d];exact s)]
 .simp only[setBlock];rw[VT A,d];exact H
 simp only[setBlock];rw[VT (λe=>hk (by rw[e])),d]
theorem HU(Bm off mb:Nat)(es:Array MapEntry)(clock:Nat)(xs:List Par)(w:World)(t:dT es.toList clock)(hx:es.toList.map (·.key)=xs.map cP)(hBm:Bm<w.heap.size)
  (ac:w.cell? ⟨Bm,off,UG⟩=UF (.map (UF mb))) (B:w.heap[mb]? =UF (.map es clock)):
  S4 VA prog 144 #[.pointer (UF ⟨Bm,off,UG⟩)] (λx=> #[cP x]) KeepsWalks (λpre x=>∃rest,(pre++x::rest).Perm xs) (λj=>j.Perm xs) w:=by
 intro l J W hW hJ hY h0;have h0:∀o,J [] (W.alloc o):=h0;have hm:W.cell? ⟨Bm,off,UG⟩=UF (.map (UF mb)):=(hW.cell (p:=⟨Bm,off,UG⟩) hBm).trans ac;have hmb:mb<w.heap.size:=(S8.1 B).1;have hb:W.heap[mb]? =UF (.map es clock):=(hW.block mb hmb).trans B;have hne:mb≠W.heap.size:=by have:=hW.size;omega
 clear ac B;have hnd:=t.1;refine callsIn_of_wp func144 O trivial ?_ O;simp only[ntmps144,UL,IN,V6,Nat.reduceAdd,Nat.reduceSub,WR,WO,Xg,W7,Vo,VI]
 gi_wp2_with (first
  |(gi_at_range;refine jx _ O _ 102 O 136 101 underlying102 mb es clock O hb ?_)
  |gi_in)
 try go_frame
 gi_loopw [3] (λ_ wr=>∃(seen:Array Nat)(j:List Par),wr.heap[W.heap.size]? =UF (.mapIter (UF mb) clock seen clock)/\wr.heap[mb]? =UF (.map es clock)/\(j.map cP++gO es seen).Perm (xs.map cP)/\J j wr)
  (λ_ wr=>wr.rangeLeft mb W.heap.size)
 case atStart=>
  exact⟨#[],[],World.alloc_heap_new W _,(Below.heap_alloc W _ mb (by have:=hW.size;omega)).trans hb,by rw[qU,hx];exact UX _,h0 _⟩
 case round=>
  obtain⟨seen,j,hit,hmp,hP,hJs⟩:=hrel
  gi_wp2_with (first
   |(gi_at_next;refine vI _ rfl _ rfl W.heap.size mb clock seen es rfl hit hmp (λe=>hne e.symm) t ?_ ?_)
   |gi_in)
  .intro h00
   gi_wp2
   go_end0
   rw[oq (by simp[h00]),Vg]at hP;exact⟨⟨_,O⟩,j,dG (λ_ _=>kr) hP,hJs⟩
  .intro e G W2 hit2 hmp2 hg2;have G:e∈(leftOf es seen).toList:=by simpa using G
   obtain⟨hem,x,hxm,hxe⟩:=AL hx G;have H:J j W2:=hJ j wr W2 (UF W.heap.size) hJs hg2 (λq e=>by cases e;exact⟨X5,O⟩);have s:=oE t G;clear t;obtain⟨ek,ev,eb⟩:=e;obtain rfl:cP x=ek:=hxe;have I:(Instr.entry (.pointer (UF ⟨W.heap.size,0,UG⟩))).run prog W2= .ok (.tuple #[cP x,ev]) W2:=run_entry_at W2 W.heap.size mb clock seen es clock ⟨cP x,ev,eb⟩ hit2 hmp2 hem hnd;simp only at hit2;generalize hk0:cP x=kx at I ⊢;have hk1:kx= .agg #[.int .i64 x.f,.string x.c]:=hk0.symm;subst hk1;have U:=((s.append_left (j.map cP)).symm.trans hP);obtain⟨rest,hrest⟩:=vr (enc:=cP) hx (seen.push eb);have V:∃rest,(j++x::rest).Perm xs:=⟨rest,dG (λ_ _=>kr) (by rw[UO,cd,<-hrest];exact U)⟩;obtain⟨W3,hW3⟩:∃W3,W2.alloc (.cells #[.int .i64 x.f,.string x.c] 136)=W3:=⟨_,O⟩;have d:Below W2.heap.size W2 W3:=by rw[<-hW3];exact(Below.refl _ W2).alloc (tJ _) _
   have Y:J j W3:=hJ j W2 W3 UG H ⟨d.os,d.tape,d.output,d.size,λk hk _=>d.block k hk⟩ (λq e=>by cases e);have Z:W3.heap[W.heap.size]? =UF (.mapIter (UF mb) clock (seen.push eb) clock):=(d.block _ (S8.1 hit2).1).trans hit2;have aa:W3.heap[mb]? =UF (.map es clock):=(d.block _ (S8.1 hmp2).1).trans hmp2;have hlt:=s.length_eq;have hl1:=nT hmp hit;have ab:(j++[x]).map cP++gO es (seen.push eb)=j.map cP++cP x::gO es (seen.push eb):=X2;obtain⟨fn,tmps,assign,body,hy,hR⟩:=hY j x W3 Y V;rw[hk0]at hy;clear hP s G hem hx hxm V hY hJ hg2 H h0 hW d Y;subst hW3
   gi_wp2_with (first
    |(refine jT _ O _ O W.heap.size _ ev O I ?_)
    |gi_in)
   refine hR.mono ?_;rintro e W4 ⟨rfl,hJ4,hk4⟩
   gi_wp2
   have z:=hk4.same _ _ Z O;have A:=hk4.same _ _ aa O
   go_roundw
   case rel=>exact⟨_,_,z,A,by rw[ab];exact U,hJ4⟩
   case measure=>rw[nT A z,hl1,hlt];simp
theorem EY(Bm off mb:Nat)(es:Array MapEntry)(clock:Nat)(xs:List PP)(w:World)(t:dT es.toList clock)(hx:es.toList.map (·.key)=xs.map fu)(hBm:Bm<w.heap.size)
  (ac:w.cell? ⟨Bm,off,UG⟩=UF (.map (UF mb))) (B:w.heap[mb]? =UF (.map es clock)):
  S4 VA prog 149 #[.pointer (UF ⟨Bm,off,UG⟩)] (λx=> #[fu x]) KeepsWalks (λpre x=>∃rest,(pre++x::rest).Perm xs) (λj=>j.Perm xs) w:=by
 intro l J W hW hJ hY h0;have h0:∀o,J [] (W.alloc o):=h0;have hm:W.cell? ⟨Bm,off,UG⟩=UF (.map (UF mb)):=(hW.cell (p:=⟨Bm,off,UG⟩) hBm).trans ac;have hmb:mb<w.heap.size:=(S8.1 B).1;have hb:W.heap[mb]? =UF (.map es clock):=(hW.block mb hmb).trans B;have hne:mb≠W.heap.size:=by have:=hW.size;omega
 clear ac B;have hnd:=t.1;refine callsIn_of_wp func149 O trivial ?_ O;simp only[ntmps149,UL,IN,V6,Nat.reduceAdd,Nat.reduceSub,WR,WO,Xg,W7,Vo,VI]
 gi_wp2_with (first
  |(gi_at_range;refine jx _ O _ 103 O 195 101 underlying103 mb es clock O hb ?_)
  |gi_in)
 try go_frame
 gi_loopw [3] (λ_ wr=>∃(seen:Array Nat)(j:List PP),wr.heap[W.heap.size]? =UF (.mapIter (UF mb) clock seen clock)/\wr.heap[mb]? =UF (.map es clock)/\(j.map fu++gO es seen).Perm (xs.map fu)/\J j wr)
  (λ_ wr=>wr.rangeLeft mb W.heap.size)
 case atStart=>
  exact⟨#[],[],World.alloc_heap_new W _,(Below.heap_alloc W _ mb (by have:=hW.size;omega)).trans hb,by rw[qU,hx];exact UX _,h0 _⟩
 case round=>
  obtain⟨seen,j,hit,hmp,hP,hJs⟩:=hrel
  gi_wp2_with (first
   |(gi_at_next;refine vI _ rfl _ rfl W.heap.size mb clock seen es rfl hit hmp (λe=>hne e.symm) t ?_ ?_)
   |gi_in)
  .intro h00
   gi_wp2
   go_end0
   rw[oq (by simp[h00]),Vg]at hP;exact⟨⟨_,O⟩,j,dG (λ_ _=>mL) hP,hJs⟩
  .intro e G W2 hit2 hmp2 hg2;have G:e∈(leftOf es seen).toList:=by simpa using G
   obtain⟨hem,x,hxm,hxe⟩:=AL hx G;have H:J j W2:=hJ j wr W2 (UF W.heap.size) hJs hg2 (λq e=>by cases e;exact⟨X5,O⟩);have s:=oE t G;clear t;obtain⟨ek,ev,eb⟩:=e;obtain rfl:fu x=ek:=hxe;have I:(Instr.entry (.pointer (UF ⟨W.heap.size,0,UG⟩))).run prog W2= .ok (.tuple #[fu x,ev]) W2:=run_entry_at W2 W.heap.size mb clock seen es clock ⟨fu x,ev,eb⟩ hit2 hmp2 hem hnd;simp only at hit2;generalize hk0:fu x=kx at I ⊢;have hk1:kx= .agg #[.int .i64 x.1.f,.string x.1.c,.int .i64 x.2.f,.string x.2.c]:=hk0.symm;subst hk1;have U:=((s.append_left (j.map fu)).symm.trans hP);obtain⟨rest,hrest⟩:=vr (enc:=fu) hx (seen.push eb);have V:∃rest,(j++x::rest).Perm xs:=⟨rest,dG (λ_ _=>mL) (by rw[UO,cd,<-hrest];exact U)⟩;obtain⟨W3,hW3⟩:∃W3,W2.alloc (.cells #[.int .i64 x.1.f,.string x.1.c,.int .i64 x.2.f,.string x.2.c] 195)=W3:=⟨_,O⟩;have d:Below W2.heap.size W2 W3:=by rw[<-hW3];exact(Below.refl _ W2).alloc (tJ _) _
   have Y:J j W3:=hJ j W2 W3 UG H ⟨d.os,d.tape,d.output,d.size,λk hk _=>d.block k hk⟩ (λq e=>by cases e);have Z:W3.heap[W.heap.size]? =UF (.mapIter (UF mb) clock (seen.push eb) clock):=(d.block _ (S8.1 hit2).1).trans hit2;have aa:W3.heap[mb]? =UF (.map es clock):=(d.block _ (S8.1 hmp2).1).trans hmp2;have hlt:=s.length_eq;have hl1:=nT hmp hit;have ab:(j++[x]).map fu++gO es (seen.push eb)=j.map fu++fu x::gO es (seen.push eb):=X2;obtain⟨fn,tmps,assign,body,hy,hR⟩:=hY j x W3 Y V;rw[hk0]at hy;clear hP s G hem hx hxm V hY hJ hg2 H h0 hW d Y;subst hW3
   gi_wp2_with (first
    |(refine jT _ O _ O W.heap.size _ ev O I ?_)
    |gi_in)
   refine hR.mono ?_;rintro e W4 ⟨rfl,hJ4,hk4⟩
   gi_wp2
   have z:=hk4.same _ _ Z O;have A:=hk4.same _ _ aa O
   go_roundw
   case rel=>exact⟨_,_,z,A,by rw[ab];exact U,hJ4⟩
   case measure=>rw[nT A z,hl1,hlt];simp
theorem Gs(Bm off mb:Nat)(es:Array MapEntry)(clock:Nat)(xs:List ByteArray)(w:World)(t:dT es.toList clock)(hx:es.toList.map (·.key)=xs.map Value.string)(hBm:Bm<w.heap.size)
  (ac:w.cell? ⟨Bm,off,UG⟩=UF (.map (UF mb))) (B:w.heap[mb]? =UF (.map es clock)):
  S4 VA prog 255 #[.pointer (UF ⟨Bm,off,UG⟩)] (λx=> #[Value.string x]) KeepsWalks (λpre x=>∃rest,(pre++x::rest).Perm xs) (λj=>j.Perm xs) w:=by
 intro l J W hW hJ hY h0;have h0:∀o,J [] (W.alloc o):=h0;have hm:W.cell? ⟨Bm,off,UG⟩=UF (.map (UF mb)):=(hW.cell (p:=⟨Bm,off,UG⟩) hBm).trans ac;have hmb:mb<w.heap.size:=(S8.1 B).1;have hb:W.heap[mb]? =UF (.map es clock):=(hW.block mb hmb).trans B;have hne:mb≠W.heap.size:=by have:=hW.size;omega
 clear ac B;have hnd:=t.1;refine callsIn_of_wp func255 O trivial ?_ O;simp only[ntmps255,UL,IN,V6,Nat.reduceAdd,Nat.reduceSub,WR,WO,Xg,W7,Vo,VI]
 gi_wp2_with (first
  |(gi_at_range;refine jx _ O _ 92 O 9 39 underlying92 mb es clock O hb ?_)
  |gi_in)
 try go_frame
 gi_loopw [3] (λ_ wr=>∃(seen:Array Nat)(j:List ByteArray),wr.heap[W.heap.size]? =UF (.mapIter (UF mb) clock seen clock)/\wr.heap[mb]? =UF (.map es clock)/\(j.map Value.string++gO es seen).Perm (xs.map Value.string)/\J j wr)
  (λ_ wr=>wr.rangeLeft mb W.heap.size)
 case atStart=>
  exact⟨#[],[],World.alloc_heap_new W _,(Below.heap_alloc W _ mb (by have:=hW.size;omega)).trans hb,by rw[qU,hx];exact UX _,h0 _⟩
 case round=>
  obtain⟨seen,j,hit,hmp,hP,hJs⟩:=hrel
  gi_wp2_with (first
   |(gi_at_next;refine vI _ rfl _ rfl W.heap.size mb clock seen es rfl hit hmp (λe=>hne e.symm) t ?_ ?_)
   |gi_in)
  .intro h00
   gi_wp2
   go_end0
   rw[oq (by simp[h00]),Vg]at hP;exact⟨⟨_,O⟩,j,dG (λ_ _=>pL) hP,hJs⟩
  .intro e G W2 hit2 hmp2 hg2;have G:e∈(leftOf es seen).toList:=by simpa using G
   obtain⟨hem,x,hxm,hxe⟩:=AL hx G;have H:J j W2:=hJ j wr W2 (UF W.heap.size) hJs hg2 (λq e=>by cases e;exact⟨X5,O⟩);have s:=oE t G;clear t;obtain⟨ek,ev,eb⟩:=e;obtain rfl:Value.string x=ek:=hxe;have I:(Instr.entry (.pointer (UF ⟨W.heap.size,0,UG⟩))).run prog W2= .ok (.tuple #[Value.string x,ev]) W2:=run_entry_at W2 W.heap.size mb clock seen es clock ⟨Value.string x,ev,eb⟩ hit2 hmp2 hem hnd;simp only at hit2;generalize hk0:Value.string x=kx at I ⊢;have hk1:kx= .string x:=hk0.symm;subst hk1;have U:=((s.append_left (j.map Value.string)).symm.trans hP);obtain⟨rest,hrest⟩:=vr (enc:=Value.string) hx (seen.push eb);have V:∃rest,(j++x::rest).Perm xs:=⟨rest,dG (λ_ _=>pL) (by rw[UO,cd,<-hrest];exact U)⟩;obtain⟨W3,hW3⟩:∃W3,W2=W3:=⟨_,O⟩;have d:Below W2.heap.size W2 W3:=by rw[<-hW3];exact Below.refl _ W2
   have Y:J j W3:=hJ j W2 W3 UG H ⟨d.os,d.tape,d.output,d.size,λk hk _=>d.block k hk⟩ (λq e=>by cases e);have Z:W3.heap[W.heap.size]? =UF (.mapIter (UF mb) clock (seen.push eb) clock):=(d.block _ (S8.1 hit2).1).trans hit2;have aa:W3.heap[mb]? =UF (.map es clock):=(d.block _ (S8.1 hmp2).1).trans hmp2;have hlt:=s.length_eq;have hl1:=nT hmp hit;have ab:(j++[x]).map Value.string++gO es (seen.push eb)=j.map Value.string++Value.string x::gO es (seen.push eb):=X2;obtain⟨fn,tmps,assign,body,hy,hR⟩:=hY j x W3 Y V;rw[hk0]at hy;clear hP s G hem hx hxm V hY hJ hg2 H h0 hW d Y;subst hW3
   gi_wp2_with (first
    |(refine jT _ O _ O W.heap.size _ ev O I ?_)
    |gi_in)
   refine hR.mono ?_;rintro e W4 ⟨rfl,hJ4,hk4⟩
   gi_wp2
   have z:=hk4.same _ _ Z O;have A:=hk4.same _ _ aa O
   go_roundw
   case rel=>exact⟨_,_,z,A,by rw[ab];exact U,hJ4⟩
   case measure=>rw[nT A z,hl1,hlt];simp
end
section
abbrev apO(T E:TypeId)(sz n:Nat)(cs:List PV):List (Nat×Ob):=[(big,.mix T [.gsl 0 sz n]),(0,.gro E cs)]
theorem Cn(q:id≠big)(s:id≠0):aA (apO T E sz n cs) id=UG:=by
 have d:Nat.beq id big=WA:=by cases hb:Nat.beq id big;rfl;exact absurd (bZ hb) q
 have j:Nat.beq id 0=WA:=by cases hb:Nat.beq id 0;rfl;exact absurd (bZ hb) s
 simp only[aA,d,j,UZ]
theorem Jr(h:avK 1 id=VA):id≠big/\id≠0/\id<big:=by
 have d:Nat.ble 1 id=VA/\Nat.blt id big=VA:=by simpa[avK]using h
 have g1:=Uy d.1;have g2:id<big:=Uy d.2;exact⟨XX,XX,g2⟩
theorem y3(I:rN w R)(t:∀b,R b->b<w.heap.size)(q:Below w.heap.size w W)(G:W.heap[b4]? =UF (.cells #[.slice UG 0 0] T (0,0)))(g4:w.heap.size<=b4):
  Btw P w R [b4] [] (apO T E sz 0 []) 1 W:=by
 have H:b4<W.heap.size:=(S8.1 G).1;obtain⟨m,hm⟩:∃m:Gm,m=λid=>if id=big then UF (b4,1)else UG:=⟨_,O⟩
 have m4:m big=UF (b4,1):=by rw[hm];simp
 have z:∀id,id≠big->m id=UG:=λid h=>by rw[hm];simp[h]
 have s:∀id b N,m id=UF (b,N)->id=big/\b=b4/\N=1:=λid b N e=>by
  by_cases h:id=big
  .subst h;rw[m4]at e;cases e;exact⟨O,O,O⟩
  rw[z id h]at e;cases e
 have A:∀b,R b->R b/\W.heap[b]? =w.heap[b]? :=λb h=>⟨h,q.block b (t b h)⟩
 have B:∀b,w.heap.size<=b->¬R b:=λb h hr=>by have:=t b hr;omega
 have d:∀id b N,m id=UF (b,N)->w.heap.size<=b/\b<W.heap.size:=λid b N e=>by
  obtain⟨_,rfl,_⟩:=s id b N e;exact⟨g4,H⟩
 refine⟨⟨m,⟨R,I.mono A,λb h=>⟨Uq (t b h) q.size,fun⟨id,N,e⟩=>B b (d id b N e).1 h⟩,[]⟩,?_,?_,?_,λ_ h=>h,?_⟩,q,λx hx=>absurd hx X2⟩
 .refine⟨λid=>?_,λid h=>?_,λid o b N ho e=>?_,λi j b N N' e1 e2=>?_,λid b N e=>⟨(d id b N e).2,B b (d id b N e).1,.inl ⟨id,N,e⟩⟩,λb h=>Uq (t b h) q.size,λb h=> .inl h,λb h=>h,Fr.refl _ _,λ_ _ _ e=>e,λid h=>?_⟩
  .by_cases e1:id=big
   .subst e1;rw[m4];rfl
   rw[z id e1];by_cases e2:id=0
   .subst e2;rfl
   rw[Cn e1 e2];rfl
  .obtain⟨h1,h2,_⟩:=Jr h;exact Cn h1 h2
  .obtain⟨rfl,rfl,rfl⟩:=s id b N e;obtain rfl:o= .mix T [.gsl 0 sz 0]:=by
    have:aA (apO T E sz 0 []) big=UF (.mix T [.gsl 0 sz 0]):=rfl;rw[this]at ho;cases ho;rfl
   refine⟨_,G,O,tJ 1,?_⟩;simp only[RelL,Rel];refine⟨_,_,O,⟨O,UG,0,O,tJ _,XZ,λ_=>⟨O,O,z 0 XZ⟩,λh=>absurd h XZ⟩,O⟩
  .exact(s i b N e1).1.trans (s j b N' e2).1.symm
  show(Nat.ble 1 id&&Nat.blt id big)=WA;have:Nat.blt id big=WA:=by cases q:Nat.blt id big;rfl;have:=Uy q;omega
  rw[this,Bool.and_false]
 .intro j b hj;match j with
  |0=>cases hj;exact⟨1,m4⟩
  |j+1=>simp at hj
 .exact λid b N e=>⟨(d id b N e).1,X2⟩
 exact λb h=>⟨.inl h,X2⟩
theorem Ak{R:RT w (eG m)}{X:List Nat}(J:∀id,m id=UG)(h:Btw P w R.p [b4] X (apO T E sz n cs) 1 W):
  ∃u,W.cell? ⟨b4,0,UG⟩=UF u/\∀W':World,Below w.heap.size w W'->W.heap.size<=W'.heap.size->(∀q,q<W.heap.size->q∉X->W'.heap[q]? =W.heap[q]?)->
   ∃m' R',HR ⟨P,m,w,eG m,R⟩ m' R' (aA [(0,.gro E cs)]) (avK 1) W'/\Rel W' m' (avK 1) R' (.gsl 0 sz n) u:=by
 obtain⟨mB,rt,hr,h1,h2,h3,h4⟩:=h.ex;obtain⟨N4,hN4⟩:=h1 0 b4 O;obtain⟨arr,e1,e2,e3,e4⟩:=hr.obj big (.mix T [.gsl 0 sz n]) b4 N4 O hN4;simp only[RelL]at e4;obtain⟨u,_,ha,hu,rfl⟩:=e4;have H:W.cell? ⟨b4,0,UG⟩=UF u:=by
  have:arr[0]? =UF u:=by
   have:=ah (·[0]?) ha;simpa using this
  simp[World.cell?,e1,this]
 refine⟨u,H,λW' hb hs hq=>?_⟩;have z:∀b,rt.p b->rt.p b/\W'.heap[b]? =W.heap[b]? :=λb hb'=>⟨hb',hq b (rt.d b hb').1 (h4 b hb').2⟩
 have s:=hr.own;obtain⟨m',hm⟩:∃m':Gm,m'=λid=>if id=0 then mB 0 else UG:=⟨_,O⟩
 have m0:m' 0=mB 0:=by rw[hm];simp
 have G:∀id,id≠0->m' id=UG:=λid h=>by rw[hm];simp[h]
 have t:∀id x,m' id=UF x->mB id=UF x:=λid x e=>by
  by_cases h:id=0
  .subst h;rw[m0]at e;exact e
  rw[G id h]at e;cases e
 have A:aA [(0,Ob.gro E cs)] 0=UF (.gro E cs):=rfl;have B:∀id,id≠0->aA [(0,Ob.gro E cs)] id=UG:=λid h=>by
  have I:Nat.beq id 0=WA:=by cases hb:Nat.beq id 0;rfl;exact absurd (bZ hb) h
  simp only[aA,I,UZ]
 refine⟨m',rt.p,⟨λid=>?_,λid h=>?_,λid o b N ho e=>?_,λi j b N N' a1 a2=>hr.inj i j b N N' (t _ _ a1) (t _ _ a2),λid b N e=>⟨Uq (s id b N (t _ _ e)).1 hs,(s id b N (t _ _ e)).2.1,.inr (h2 id b N (t _ _ e)).1⟩,
  λb hb'=>Uq (hr.rsz b hb') hs,λb hb'=>(h4 b hb').1.imp id .inl,h3,Fr.Pf hb _,λid x hid e=>?_,λid hid=>di hid⟩,?_⟩
 .by_cases e:id=0
  .subst e;rw[m0,A];exact hr.dom 0
  rw[G id e,B id e];rfl
 .exact B id (Jr h).2.1
 .have e0:id=0:=by
   by_cases e':id=0
   .exact e'
   rw[G id e']at e;cases e
  subst e0;rw[A]at ho;cases ho;exact nv.mono z (λid x _ e=>t id x e) (λ_ e=>e) (hq b (s 0 b N (t _ _ e)).1 (h2 0 b N (t _ _ e)).2) (hr.obj 0 _ b N O (t _ _ e))
 .rw[G id (by have:big=9000:=rfl;omega)]at e;cases e
 exact hu.mono z (λid x _ e=>t id x e) λ_ e=>e
theorem zc{R:RT w (eG m)}{R':Nat->Prop}{av:Av}(h:HR ⟨P,m,w,eG m,R⟩ m R' (aA []) av w):∀id,m id=UG:=λid=>by
 have:=h.dom id;cases hm:m id with
 |none=>rfl
 |some x=>rw[hm]at this;cases this
theorem A4{enc:α->Value}:∀{l:List Value},(∀v∈l,∃x,enc x=v)->∃rest:List α,l=rest.map enc
 |[],_=>⟨[],O⟩
 | v::l,h=>by
   obtain⟨x,hxe⟩:=h v X2;obtain⟨r,hr⟩:=A4 (l:=l) λu hu=>h u (by simp[hu])
   exact⟨x::r,by rw[cd,hxe,<-hr]⟩
theorem PW{enc:α->Value}{kp:α->PV}(q:∀(w:World)(R:Nat->Prop)(x:α)(u:Value),RelP w R (kp x) u->u=enc x){xs:List α}{vs:List PV}(h:RelP w R (.mp (xs.map kp) vs) u):
  ∃(mb:Nat)(es:Array MapEntry)(clock:Nat)(xs':List α),u= .map (UF mb)/\R mb/\w.heap[mb]? =UF (.map es clock)/\dT es.toList clock/\es.toList.map (·.key)=xs'.map enc/\(xs'.map enc).Perm (xs.map enc):=by
 simp only[RelP]at h;obtain⟨b,rfl,hb,es,clock,l,h1,h2,h3,h4,h5⟩:=h;have d:∀{ys:List α}{us:List Value},RelPL w R (ys.map kp) us->us=ys.map enc:=by
  intro ys;induction ys with
  |nil=>intro us h;simpa[RelPL]using h
  | cons y ys ih=>
    intro us h;simp only[cd,RelPL]at h;obtain⟨u,vs,rfl,h6,h7⟩:=h;rw[q _ _ _ _ h6,ih h7];rfl
 have e:=d h2;have j:(es.toList.map (·.key)).Perm (xs.map enc):=by rw[<-e];exact(h5.map _).symm
 obtain⟨xs',hx⟩:=A4 (enc:=enc) (l:=es.toList.map (·.key)) λv hv=>by
  obtain⟨x,_,hx⟩:=IS.1 (j.subset hv);exact⟨x,hx⟩
 exact⟨b,es,clock,xs',O,hb,h1,h4,hx,hx▸j⟩
end
section
open Go.RowKit Go.Shelf Mm
attribute [local go_sem] Oper.semAt_some
abbrev RV(x:ByteArray):List PV:=[.str x]
theorem Qi(w:World)(R:Nat->Prop)(x:Par)(u:Value)(h:RelP w R (bT x) u):u=cP x:=by
 simp only[RelP,RelPL]at h;obtain⟨us,rfl,u1,v1,rfl,rfl,u2,v2,rfl,rfl,rfl⟩:=h;rfl
theorem Ry(w:World)(R:Nat->Prop)(x:PP)(u:Value)(h:RelP w R (ppP x) u):u=fu x:=by
 simp only[RelP,RelPL]at h;obtain⟨us,rfl,u1,v1,rfl,rfl,u2,v2,rfl,rfl,u3,v3,rfl,rfl,u4,v4,rfl,rfl,rfl⟩:=h;rfl
theorem QJ(w:World)(R:Nat->Prop)(x:ByteArray)(u:Value)(h:RelP w R (PV.str x) u):u=Value.string x:=by
 simpa only[RelP]using h
def tF(l:List Par):List PV:=l.flatMap rR
theorem AG(l:List Par):(tF l).length=l.length*2:=bL _ 2 (λ_=>rfl) l
theorem E6(l:List Par)(t:Par):tF l++rR t=tF (l++[t]):=by simp[tF]
noncomputable def apBodyP:Code:=match Tryz.f211.body with
 |some (.seq _ (.seq (.seq _ (.block _ (.rangeFunc _ _ _ b))) _))=>b
 |_=> .skip
theorem Gf(ss:List Par)(x:Par)(j:ss.length<=1000000):∀m0 w0 F R0,AWR ⟨prog,m0,w0,F,R0⟩ Tryz.f211.ntmps apBodyP (λex τ=>ex= .normal/\τ.le (mkS [] (apO 186 136 2 (ss++[x]).length (tF (ss++[x]))) 1)) (mkS [(2,.ptr big 0),(5,.pv (.rp (rR x) 0))] (apO 186 136 2 ss.length (tF ss)) 1):=by
 intro m0 w0 F R0;have d:=AG ss
 repeat refine AWR.seq ?_
 refine AWR.block ?_
 repeat refine AWR.seq ?_
 exact AWR.region O<|Ar 5 O<|⟨O,TS [2] trivial ⟨UI (b:=UF (.mix 186 [.gsl 2 2 (ss.length+1)])) XY (ah (λn=>UF (Ob.mix 186 [.gsl 2 2 n])) X2),UI (b:=UF (.gro 136 (tF ss++rR x))) XY (ah (λc=>UF (Ob.gro 136 c)) (E6 ss _)),X5⟩ O O XZ O⟩
def vt(l:List PP):List PV:=l.flatMap ppC
theorem Br(l:List PP):(vt l).length=l.length*4:=bL _ 4 (λ_=>rfl) l
theorem H2(l:List PP)(t:PP):vt l++ppC t=vt (l++[t]):=by simp[vt]
noncomputable def apBodyQ:Code:=match Tryz.f214.body with
 |some (.seq _ (.seq (.seq _ (.block _ (.rangeFunc _ _ _ b))) _))=>b
 |_=> .skip
theorem Uj(ss:List PP)(x:PP)(j:ss.length<=1000000):∀m0 w0 F R0,AWR ⟨prog,m0,w0,F,R0⟩ Tryz.f214.ntmps apBodyQ (λex τ=>ex= .normal/\τ.le (mkS [] (apO 192 195 4 (ss++[x]).length (vt (ss++[x]))) 1)) (mkS [(2,.ptr big 0),(5,.pv (.rp (ppC x) 0))] (apO 192 195 4 ss.length (vt ss)) 1):=by
 intro m0 w0 F R0;have d:=Br ss
 repeat refine AWR.seq ?_
 refine AWR.block ?_
 repeat refine AWR.seq ?_
 exact AWR.region O<|Ar 5 O<|⟨O,TS [2] trivial ⟨UI (b:=UF (.mix 192 [.gsl 2 4 (ss.length+1)])) XY (ah (λn=>UF (Ob.mix 192 [.gsl 2 4 n])) X2),UI (b:=UF (.gro 195 (vt ss++ppC x))) XY (ah (λc=>UF (Ob.gro 195 c)) (H2 ss _)),X5⟩ O O XZ O⟩
def yy(l:List ByteArray):List PV:=l.flatMap RV
theorem Lg(l:List ByteArray):(yy l).length=l.length*1:=bL _ 1 (λ_=>rfl) l
theorem FF(l:List ByteArray)(t:ByteArray):yy l++RV t=yy (l++[t]):=by simp[yy]
noncomputable def apBodyS:Code:=match Tryz.f292.body with
 |some (.seq _ (.seq (.seq _ (.block _ (.rangeFunc _ _ _ b))) _))=>b
 |_=> .skip
theorem GM(ss:List ByteArray)(x:ByteArray)(j:ss.length<=1000000):∀m0 w0 F R0,AWR ⟨prog,m0,w0,F,R0⟩ Tryz.f292.ntmps apBodyS (λex τ=>ex= .normal/\τ.le (mkS [] (apO 39 9 1 (ss++[x]).length (yy (ss++[x]))) 1)) (mkS [(2,.ptr big 0),(5,.pv (.str x))] (apO 39 9 1 ss.length (yy ss)) 1):=by
 intro m0 w0 F R0;have d:=Lg ss
 repeat refine AWR.seq ?_
 refine AWR.block ?_
 repeat refine AWR.seq ?_
 exact AWR.region O<|Ar 5 O<|⟨O,TS [2] trivial ⟨UI (b:=UF (.mix 39 [.gsl 2 1 (ss.length+1)])) XY (ah (λn=>UF (Ob.mix 39 [.gsl 2 1 n])) X2),UI (b:=UF (.gro 9 (yy ss++RV x))) XY (ah (λc=>UF (Ob.gro 9 c)) (FF ss _)),X5⟩ O O XZ O⟩
theorem uS(i:Nat)(o:Ob)(h:aA (apO T E sz n cs) i=UF o):o.lC=VA:=by
 have:=bN h;simp only[By,Vy,Xd,Prod.mk.injEq]at this;rcases this with⟨_,rfl⟩|⟨_,rfl⟩<;>rfl
theorem JN{W2:World}{av:Av}{us:List Value}{ty:TypeId}{B:Nat}(d:RelPL W2 R cs us)(q:R B)(s:W2.heap[B]? =UF (.cells us.toArray ty (0,0))):Rel W2 m av R (.pv (.rp cs 0)) (.pointer (UF ⟨B,0,UG⟩)):=by
 simp only[Rel,RelP];exact⟨B,0,us,O,d,q,λj _=>by simp[World.cell?,s]⟩
theorem tO{v:V}(j:a.eval (.tmp 2)= .pointer (UF ⟨b,0,UG⟩))(q:Rel W m (avK 1) R v (a.eval (.tmp 5)))(s:∃N,m big=UF (b,N))(t:Nat):
  Rel W m (avK 1) R (look [(2,.ptr big 0),(5,v)] t) (a.eval (.tmp t)):=by
 by_cases e2:t=2
 .subst e2;rw[j];show Rel W m (avK 1) R (.ptr big 0) _;obtain⟨N,hN⟩:=s;simp only[Rel];exact⟨XZ,λb' N' e=>by rw[hN]at e;cases e;rfl⟩
 by_cases e5:t=5
 .subst e5;exact q
 have b2':Nat.beq t 2=WA:=by cases hb:Nat.beq t 2;rfl;exact absurd (bZ hb) e2
 have d:Nat.beq t 5=WA:=by cases hb:Nat.beq t 5;rfl;exact absurd (bZ hb) e5
 have e:look [(2,V.ptr big 0),(5,v)] t= .pv .any:=by simp only[look,b2',d,UZ]
 rw[e];simp only[Rel,RelP]
theorem oo{o:Obj}(h:Below n w W)(d:n<=r):Below n w (W.putObj r o):=
 ⟨h.os,h.tape,h.output,by simpa using h.size,λk hk=>(World.putObj_heap_other XX).trans (h.block k hk)⟩
theorem zP{enc:α->Value}{kp:α->PV}(d:∀(w:World)(R:Nat->Prop)(x:α)(u:Value),RelP w R (kp x) u->u=enc x){xs:List α}{vs:List PV}(h:RelP w R (.fn (.func f) [] [.rp [.mp (xs.map kp) vs] 0]) u):
  ∃(b off mb:Nat)(es:Array MapEntry)(clock:Nat)(xs':List α),u= .func (.func f) #[] #[.pointer (UF ⟨b,off,UG⟩)]/\R b/\w.cell? ⟨b,off,UG⟩=UF (.map (UF mb))/\R mb/\w.heap[mb]? =UF (.map es clock)/\dT es.toList clock/\es.toList.map (·.key)=xs'.map enc/\(xs'.map enc).Perm (xs.map enc):=by
 rw[RelP]at h;obtain⟨us,vs',rfl,h1,h2⟩:=h;simp only[RelPL]at h1 h2;obtain⟨u3,us3,rfl,h3,rfl⟩:=h2;subst h1;rw[RelP]at h3;obtain⟨b,off,us4,rfl,h4,h5⟩:=h3;simp only[RelPL]at h4;obtain⟨um,us5,rfl,h6,rfl⟩:=h4;obtain⟨mb,es,clock,xs',rfl,g1,g2,g3,g4,g5⟩:=PW d h6;refine⟨b,off,mb,es,clock,xs',O,h5.1,?_,g1,g2,g3,g4,g5⟩;have:=h5.2 0 X2;simpa using this
theorem Uf{enc:α->Value}{kp:α->PV}{fA fK:FuncId}{kcs:List α->List PV}(z:∀(w:World)(R:Nat->Prop)(x:α)(u:Value),RelP w R (kp x) u->u=enc x)(s:∀x y,enc x=enc y->x=y)
  (q:∀(b off mb:Nat)(es:Array MapEntry)(clock:Nat)(xs:List α)(w:World)(m:Gm)(R:RT w (eG m)),(∀id,m id=UG)->xs.length<=1000000->dT es.toList clock->es.toList.map (·.key)=xs.map enc->b<w.heap.size->w.cell? ⟨b,off,UG⟩=UF (.map (UF mb))->w.heap[mb]? =UF (.map es clock)->
   CallsIn Fence.wide 2 prog fA #[.slice UG 0 0,.func (.func fK) #[] #[.pointer (UF ⟨b,off,UG⟩)]] w λe w'=>∃u ss m' R',e= .returned u/\ss.Perm xs/\HR ⟨prog,m,w,eG m,R⟩ m' R' (aA [(0,.gro E (kcs ss))]) (avK 1) w'/\Rel w' m' (avK 1) R' (.gsl 0 sz ss.length) u)
  (xs:List α) (vs:List PV) (B:xs.length<=1000000):FnO prog fA 0 1 [.pv nS,.pv (.fn (.func fK) [] [.rp [.mp (xs.map kp) vs] 0])] []
  (λv ob=>∃ss,ss.Perm xs/\v= .gsl 0 sz ss.length/\ob=aA [(0,.gro E (kcs ss))]):=by
 intro w m R us hHR hrel;have j:=zc hHR;simp only[RelL,Rel]at hrel;obtain⟨u1,us1,rfl,h1,u2,us2,rfl,h2,rfl⟩:=hrel;simp only[RelP]at h1;obtain⟨A,c,rfl,_,_,hnil,hcz,_⟩:=h1;have t:A=UG:=by have:=hnil VA O;simpa using this.symm
 obtain rfl:=hcz trivial;subst t;obtain⟨b,off,mb,es,clock,xs',rfl,hRb,hcell,hRm,hb,hst,hx,hp⟩:=zP z h2;refine Calls.mono (callsIn_wide.1 (q b off mb es clock xs' w m R j (by have:=(dG s hp).length_eq;omega) hst hx (R.d b hRb).1 hcell hb)) ?_;rintro e w' ⟨u,ss,m',R',rfl,hS,h3,h4⟩;refine⟨u,_,_,m',R',O,⟨ss,hS.trans (dG s hp),O,O⟩,O,?_,h3,h4⟩;intro i o h;by_cases h0:i=0
 .subst h0;cases h;exact⟨O,O⟩
 have b2:Nat.beq i 0=WA:=by cases hb:Nat.beq i 0;rfl;exact absurd (bZ hb) h0
 simp only[aA,b2,UZ]at h;cases h
theorem Se(b off mb:Nat)(es:Array MapEntry)(clock:Nat)(xs:List Par)(w:World)(m:Gm)(R:RT w (eG m))(I:∀id,m id=UG)(U:xs.length<=1000000)(J:dT es.toList clock)(Z:es.toList.map (·.key)=xs.map cP)(B:b<w.heap.size)
  (hc:w.cell? ⟨b,off,UG⟩=UF (.map (UF mb))) (V:w.heap[mb]? =UF (.map es clock)):
  CallsIn Fence.wide 2 prog 211 #[.slice UG 0 0,.func (.func 144) #[] #[.pointer (UF ⟨b,off,UG⟩)]] w λe w'=>∃u ss m' R',e= .returned u/\ss.Perm xs/\HR ⟨prog,m,w,eG m,R⟩ m' R' (aA [(0,.gro 136 (tF ss))]) (avK 1) w'/\Rel w' m' (avK 1) R' (.gsl 0 2 ss.length) u:=by
 have Y:=enters_of (P:=prog) func144 XY O;refine callsIn_of_wp_marks func211 O trivial ?_ O;simp only[ntmps211,UL,IN,V6,Nat.reduceAdd,Nat.reduceSub,WR,WO,Xg,W7,Vo,VI]
 gi_wp2
 obtain⟨W0,hW0⟩:∃W0,w.alloc (Obj.cells #[Value.slice UG 0 0] 186)=W0:=⟨_,O⟩;have s:Below w.heap.size w W0:=by rw[<-hW0];exact(Below.refl _ w).alloc (tJ _) _
 have G:W0.heap[w.heap.size]? =UF (.cells #[.slice UG 0 0] 186 (0,0)):=by rw[<-hW0];exact World.alloc_heap_new w _
 have A:mb<w.heap.size:=(S8.1 V).1;rw[hW0];refine mT (nt:=13) (w0:=w) (R0:=R.p) (bs:=[w.heap.size]) VA (encs:=λx=> #[cP x]) O Y (HU b off mb es clock xs W0 J Z (Uq B s.size) ((s.cell (p:=⟨b,off,UG⟩) B).trans hc) ((s.block mb A).trans V)) (λ_=>rfl) (λ_ _ _ h=>h) (λh=>by cases h)
  (λpre os k=>os=apO 186 136 2 pre.length (tF pre)/\k=1) ⟨O,O⟩ (y3 R.g (λb h=>(R.d b h).1) s G (tJ _)) ?cell
  (λx W=>{ tmps:= #[.slice UG 0 0,.func (.func 144) #[] #[.pointer (UF ⟨b,off,UG⟩)],.pointer (UF ⟨w.heap.size,0,UG⟩),undef,.slice UG 0 0,.pointer (UF ⟨W.heap.size,0,UG⟩),.func (.func 144) #[] #[.pointer (UF ⟨b,off,UG⟩)],cP x,undef,undef,undef,undef,undef],defers:=[] })
  (λx W=>W.alloc (.cells #[.int .i64 x.f,.string x.c] 136)) (λx W=>(Below.refl _ W).alloc (tJ _) _) (λ_ _=>⟨O,O⟩) ?assign ?body ?done
 case cell=>rintro _ pre os k ⟨rfl,rfl⟩ i o h;exact uS i o h
 case assign=>
  intro l x W K hK;simp only[cP]at hK ⊢
  gi_wp2
  exact hK
 case body=>
  rintro pre x os k ⟨rfl,rfl⟩ ⟨rest,hpr⟩;have H:pre.length<=1000000:=by have:=hpr.length_eq;simp at this;omega
  refine⟨_,_,Gf pre x H,?_,?_⟩
  .rintro ex τ ⟨rfl,h⟩;exact ⟨_,_,h,λj hj=>by obtain rfl:j=0:=(by simpa using hj);rfl,O,O,O⟩
  .intro W W2 m2 R2 hnew hm2 hR2 t _;refine tO O ?_ (hm2 0 _ O) t;obtain⟨g1,g2⟩:=hnew W.heap.size (tJ _) X2;exact JN (us:=(#[.int .i64 x.f,.string x.c]:Array Value).toList) (by simp only[RelPL,RelP];exact⟨_,_,O,O,_,_,O,O,O⟩) g1 (g2.trans (World.alloc_heap_new W _))
 case done=>
  rintro D X ss os k W hD hDl hDX hS ⟨rfl,rfl⟩ hB hdef;obtain⟨u,hcu,hout⟩:=Ak I hB;have z:=hB.bel;clear hB hW0
  gi_wp2
  refine⟨X2,.inl ⟨_,_,O,run_takeDeferred hdef,?_⟩⟩;refine⟨u,by simp[results,Tryz.f211,go_sem],u,ss,?_⟩;refine(hout _ (oo z hD) X2 (λq _ U=>World.putObj_heap_other (λe=>U (e▸hDX)))).imp λm' h=>h.imp λR' h=>⟨O,hS,h.1,h.2⟩
theorem Ni(xs:List Par)(vs:List PV)(d:xs.length<=1000000):FnO prog 211 0 1 [.pv nS,.pv (.fn (.func 144) [] [.rp [.mp (xs.map bT) vs] 0])] []
  (λv ob=>∃ss,ss.Perm xs/\v= .gsl 0 2 ss.length/\ob=aA [(0,.gro 136 (tF ss))]):=
 Uf Qi (λ_ _=>kr) (λb off mb es clock xs w m R h1 h2 h3 h4 h5 h6 h7=>Se b off mb es clock xs w m R h1 h2 h3 h4 h5 h6 h7) xs vs d
theorem GN(xs:List Par)(vs:List PV)(j:xs.length<=1000000):FnO prog 142 0 1 [.pv (.fn (.func 144) [] [.rp [.mp (xs.map bT) vs] 0])] []
  (λv ob=>∃ss,ss.Perm xs/\v= .gsl 0 2 ss.length/\ob=aA [(0,.gro 136 (tF ss))]):=by
 have d:=Ni xs vs j;refine FnO.of func142 O O (Uy O) ?_;intro m0 w0 F R0;refine Z1 O<|Z1 O<|RL.call O (cj [] 0 call211 O O O O (by exact trivial) XZ O d ?_);rintro _ _ ⟨ss,hS,rfl,rfl⟩;exact A1 O<|Gt O<|⟨[(2,.gsl 0 2 ss.length)],[(0,.gro 136 (tF ss))],_,TO (aS XY) (aO XY) O O,O,O,O,⟨ss,hS,O,O⟩⟩
theorem Tp(b off mb:Nat)(es:Array MapEntry)(clock:Nat)(xs:List PP)(w:World)(m:Gm)(R:RT w (eG m))(I:∀id,m id=UG)(U:xs.length<=1000000)(J:dT es.toList clock)(Z:es.toList.map (·.key)=xs.map fu)(B:b<w.heap.size)
  (hc:w.cell? ⟨b,off,UG⟩=UF (.map (UF mb))) (V:w.heap[mb]? =UF (.map es clock)):
  CallsIn Fence.wide 2 prog 214 #[.slice UG 0 0,.func (.func 149) #[] #[.pointer (UF ⟨b,off,UG⟩)]] w λe w'=>∃u ss m' R',e= .returned u/\ss.Perm xs/\HR ⟨prog,m,w,eG m,R⟩ m' R' (aA [(0,.gro 195 (vt ss))]) (avK 1) w'/\Rel w' m' (avK 1) R' (.gsl 0 4 ss.length) u:=by
 have Y:=enters_of (P:=prog) func149 XY O;refine callsIn_of_wp_marks func214 O trivial ?_ O;simp only[ntmps214,UL,IN,V6,Nat.reduceAdd,Nat.reduceSub,WR,WO,Xg,W7,Vo,VI]
 gi_wp2
 obtain⟨W0,hW0⟩:∃W0,w.alloc (Obj.cells #[Value.slice UG 0 0] 192)=W0:=⟨_,O⟩;have s:Below w.heap.size w W0:=by rw[<-hW0];exact(Below.refl _ w).alloc (tJ _) _
 have G:W0.heap[w.heap.size]? =UF (.cells #[.slice UG 0 0] 192 (0,0)):=by rw[<-hW0];exact World.alloc_heap_new w _
 have A:mb<w.heap.size:=(S8.1 V).1;rw[hW0];refine mT (nt:=13) (w0:=w) (R0:=R.p) (bs:=[w.heap.size]) VA (encs:=λx=> #[fu x]) O Y (EY b off mb es clock xs W0 J Z (Uq B s.size) ((s.cell (p:=⟨b,off,UG⟩) B).trans hc) ((s.block mb A).trans V)) (λ_=>rfl) (λ_ _ _ h=>h) (λh=>by cases h)
  (λpre os k=>os=apO 192 195 4 pre.length (vt pre)/\k=1) ⟨O,O⟩ (y3 R.g (λb h=>(R.d b h).1) s G (tJ _)) ?cell
  (λx W=>{ tmps:= #[.slice UG 0 0,.func (.func 149) #[] #[.pointer (UF ⟨b,off,UG⟩)],.pointer (UF ⟨w.heap.size,0,UG⟩),undef,.slice UG 0 0,.pointer (UF ⟨W.heap.size,0,UG⟩),.func (.func 149) #[] #[.pointer (UF ⟨b,off,UG⟩)],fu x,undef,undef,undef,undef,undef],defers:=[] })
  (λx W=>W.alloc (.cells #[.int .i64 x.1.f,.string x.1.c,.int .i64 x.2.f,.string x.2.c] 195)) (λx W=>(Below.refl _ W).alloc (tJ _) _) (λ_ _=>⟨O,O⟩) ?assign ?body ?done
 case cell=>rintro _ pre os k ⟨rfl,rfl⟩ i o h;exact uS i o h
 case assign=>
  intro l x W K hK;simp only[fu]at hK ⊢
  gi_wp2
  exact hK
 case body=>
  rintro pre x os k ⟨rfl,rfl⟩ ⟨rest,hpr⟩;have H:pre.length<=1000000:=by have:=hpr.length_eq;simp at this;omega
  refine⟨_,_,Uj pre x H,?_,?_⟩
  .rintro ex τ ⟨rfl,h⟩;exact ⟨_,_,h,λj hj=>by obtain rfl:j=0:=(by simpa using hj);rfl,O,O,O⟩
  .intro W W2 m2 R2 hnew hm2 hR2 t _;refine tO O ?_ (hm2 0 _ O) t;obtain⟨g1,g2⟩:=hnew W.heap.size (tJ _) X2;exact JN (us:=(#[.int .i64 x.1.f,.string x.1.c,.int .i64 x.2.f,.string x.2.c]:Array Value).toList) (by simp only[RelPL,RelP];exact⟨_,_,O,O,_,_,O,O,_,_,O,O,_,_,O,O,O⟩) g1 (g2.trans (World.alloc_heap_new W _))
 case done=>
  rintro D X ss os k W hD hDl hDX hS ⟨rfl,rfl⟩ hB hdef;obtain⟨u,hcu,hout⟩:=Ak I hB;have z:=hB.bel;clear hB hW0
  gi_wp2
  refine⟨X2,.inl ⟨_,_,O,run_takeDeferred hdef,?_⟩⟩;refine⟨u,by simp[results,Tryz.f214,go_sem],u,ss,?_⟩;refine(hout _ (oo z hD) X2 (λq _ U=>World.putObj_heap_other (λe=>U (e▸hDX)))).imp λm' h=>h.imp λR' h=>⟨O,hS,h.1,h.2⟩
theorem Nk(xs:List PP)(vs:List PV)(d:xs.length<=1000000):FnO prog 214 0 1 [.pv nS,.pv (.fn (.func 149) [] [.rp [.mp (xs.map ppP) vs] 0])] []
  (λv ob=>∃ss,ss.Perm xs/\v= .gsl 0 4 ss.length/\ob=aA [(0,.gro 195 (vt ss))]):=
 Uf Ry (λ_ _=>mL) (λb off mb es clock xs w m R h1 h2 h3 h4 h5 h6 h7=>Tp b off mb es clock xs w m R h1 h2 h3 h4 h5 h6 h7) xs vs d
theorem GH(xs:List PP)(vs:List PV)(j:xs.length<=1000000):FnO prog 147 0 1 [.pv (.fn (.func 149) [] [.rp [.mp (xs.map ppP) vs] 0])] []
  (λv ob=>∃ss,ss.Perm xs/\v= .gsl 0 4 ss.length/\ob=aA [(0,.gro 195 (vt ss))]):=by
 have d:=Nk xs vs j;refine FnO.of func147 O O (Uy O) ?_;intro m0 w0 F R0;refine Z1 O<|Z1 O<|RL.call O (cj [] 0 call214 O O O O (by exact trivial) XZ O d ?_);rintro _ _ ⟨ss,hS,rfl,rfl⟩;exact A1 O<|Gt O<|⟨[(2,.gsl 0 4 ss.length)],[(0,.gro 195 (vt ss))],_,TO (aS XY) (aO XY) O O,O,O,O,⟨ss,hS,O,O⟩⟩
theorem TD(b off mb:Nat)(es:Array MapEntry)(clock:Nat)(xs:List ByteArray)(w:World)(m:Gm)(R:RT w (eG m))(I:∀id,m id=UG)(U:xs.length<=1000000)(J:dT es.toList clock)(Z:es.toList.map (·.key)=xs.map Value.string)(B:b<w.heap.size)
  (hc:w.cell? ⟨b,off,UG⟩=UF (.map (UF mb))) (V:w.heap[mb]? =UF (.map es clock)):
  CallsIn Fence.wide 2 prog 292 #[.slice UG 0 0,.func (.func 255) #[] #[.pointer (UF ⟨b,off,UG⟩)]] w λe w'=>∃u ss m' R',e= .returned u/\ss.Perm xs/\HR ⟨prog,m,w,eG m,R⟩ m' R' (aA [(0,.gro 9 (yy ss))]) (avK 1) w'/\Rel w' m' (avK 1) R' (.gsl 0 1 ss.length) u:=by
 have Y:=enters_of (P:=prog) func255 XY O;refine callsIn_of_wp_marks func292 O trivial ?_ O;simp only[ntmps292,UL,IN,V6,Nat.reduceAdd,Nat.reduceSub,WR,WO,Xg,W7,Vo,VI]
 gi_wp2
 obtain⟨W0,hW0⟩:∃W0,w.alloc (Obj.cells #[Value.slice UG 0 0] 39)=W0:=⟨_,O⟩;have s:Below w.heap.size w W0:=by rw[<-hW0];exact(Below.refl _ w).alloc (tJ _) _
 have G:W0.heap[w.heap.size]? =UF (.cells #[.slice UG 0 0] 39 (0,0)):=by rw[<-hW0];exact World.alloc_heap_new w _
 have A:mb<w.heap.size:=(S8.1 V).1;rw[hW0];refine mT (nt:=13) (w0:=w) (R0:=R.p) (bs:=[w.heap.size]) VA (encs:=λx=> #[Value.string x]) O Y (Gs b off mb es clock xs W0 J Z (Uq B s.size) ((s.cell (p:=⟨b,off,UG⟩) B).trans hc) ((s.block mb A).trans V)) (λ_=>rfl) (λ_ _ _ h=>h) (λh=>by cases h)
  (λpre os k=>os=apO 39 9 1 pre.length (yy pre)/\k=1) ⟨O,O⟩ (y3 R.g (λb h=>(R.d b h).1) s G (tJ _)) ?cell
  (λx W=>{ tmps:= #[.slice UG 0 0,.func (.func 255) #[] #[.pointer (UF ⟨b,off,UG⟩)],.pointer (UF ⟨w.heap.size,0,UG⟩),undef,.slice UG 0 0,.string x,.func (.func 255) #[] #[.pointer (UF ⟨b,off,UG⟩)],Value.string x,undef,undef,undef,undef,undef],defers:=[] })
  (λx W=>W) (λx W=>Below.refl _ W) (λ_ _=>⟨O,O⟩) ?assign ?body ?done
 case cell=>rintro _ pre os k ⟨rfl,rfl⟩ i o h;exact uS i o h
 case assign=>
  intro l x W K hK
  gi_wp2
  exact hK
 case body=>
  rintro pre x os k ⟨rfl,rfl⟩ ⟨rest,hpr⟩;have H:pre.length<=1000000:=by have:=hpr.length_eq;simp at this;omega
  refine⟨_,_,GM pre x H,?_,?_⟩
  .rintro ex τ ⟨rfl,h⟩;exact ⟨_,_,h,λj hj=>by obtain rfl:j=0:=(by simpa using hj);rfl,O,O,O⟩
  .intro W W2 m2 R2 hnew hm2 hR2 t _;refine tO O ?_ (hm2 0 _ O) t;simp only[Rel,RelP,Act.eval];rfl
 case done=>
  rintro D X ss os k W hD hDl hDX hS ⟨rfl,rfl⟩ hB hdef;obtain⟨u,hcu,hout⟩:=Ak I hB;have z:=hB.bel;clear hB hW0
  gi_wp2
  refine⟨X2,.inl ⟨_,_,O,run_takeDeferred hdef,?_⟩⟩;refine⟨u,by simp[results,Tryz.f292,go_sem],u,ss,?_⟩;refine(hout _ (oo z hD) X2 (λq _ U=>World.putObj_heap_other (λe=>U (e▸hDX)))).imp λm' h=>h.imp λR' h=>⟨O,hS,h.1,h.2⟩
theorem MX(xs:List ByteArray)(vs:List PV)(d:xs.length<=1000000):FnO prog 292 0 1 [.pv nS,.pv (.fn (.func 255) [] [.rp [.mp (xs.map PV.str) vs] 0])] []
  (λv ob=>∃ss,ss.Perm xs/\v= .gsl 0 1 ss.length/\ob=aA [(0,.gro 9 (yy ss))]):=
 Uf QJ (λ_ _=>pL) (λb off mb es clock xs w m R h1 h2 h3 h4 h5 h6 h7=>TD b off mb es clock xs w m R h1 h2 h3 h4 h5 h6 h7) xs vs d
theorem JA(xs:List ByteArray)(vs:List PV)(j:xs.length<=1000000):FnO prog 253 0 1 [.pv (.fn (.func 255) [] [.rp [.mp (xs.map PV.str) vs] 0])] []
  (λv ob=>∃ss,ss.Perm xs/\v= .gsl 0 1 ss.length/\ob=aA [(0,.gro 9 (yy ss))]):=by
 have d:=MX xs vs j;refine FnO.of func253 O O (Uy O) ?_;intro m0 w0 F R0;refine Z1 O<|Z1 O<|RL.call O (cj [] 0 call292 O O O O (by exact trivial) XZ O d ?_);rintro _ _ ⟨ss,hS,rfl,rfl⟩;exact A1 O<|Gt O<|⟨[(2,.gsl 0 1 ss.length)],[(0,.gro 9 (yy ss))],_,TO (aS XY) (aO XY) O O,O,O,O,⟨ss,hS,O,O⟩⟩
end
section
open Go Go.RowKit
section
variable {P:Program}{ops:Array Oper}{C:World->Prop}
def rO(P:Program)(ops:Array Oper)(C:World->Prop)(n:Nat)(L:Array Bool->Act->Prop):Nat->Array Bool->Act->Prop
 |0,listed,a=>L listed a
 |f+1,listed,a=>Region.ready .any ops listed≠[]/\∀i∈Region.ready .any ops listed,i<n/\qOp P ops C i (rO P ops C n L f (listed.setIfInBounds i VA)) a
theorem rO.any{L:Array Bool->Act->Prop}{Q':Exit->Act->World->Prop}(d:∀listed a w,C w->L listed a->wpAny P .any ops Q' g listed a w)(f:Nat):
  ∀(listed:Array Bool)(a:Act)(w:World),C w->rO P ops C n L f listed a->wpAny P .any ops Q' (f+g) listed a w:=by
 induction f with
 |zero=>intro listed a w hw h;rw[UQ];exact d _ _ _ hw h
 | succ f ih=>
   intro listed a w hw h;rw[Nat.add_right_comm];exact⟨λe=>absurd e h.1,λi hi=>wpOp_of_qOp hw (λa' w' hw' h'=>ih _ a' w' hw' h') (h.2 i hi).2⟩
theorem rO.take{o:Oper}{v:Value}{L:Array Bool->Act->Prop}(z:ops[i]? =UF o)(q:∀(j:Nat)(o:Oper) cs b,ops[j]? =UF o->o.op≠ .select cs b)
  (B:Region.sinkB .any ops n=VA) (hc:Region.chainB .any ops n=VA) (G:n<ops.size) (s:i<n) (J:∀listed a,L listed a->∀j∈Region.ready .any ops listed,n<=j) (f:Nat):
  ∀(listed:Array Bool)(a:Act),HeadInv .any ops n listed->(∀j oj,ops[j]? =UF oj->j≠i->listed.getD j VA=WA->(∀e∈oj.after,Region.binds .any e=VA->e.on≠i)->o.apart ops oj=VA)->
   i∈Region.ready .any ops listed->YieldsIn P ops C o v a->rO P ops C n L f (listed.setIfInBounds i VA) (a.put o.dst v)->rO P ops C n L (f+1) listed a:=by
 induction f with
 | zero=>
   intro listed a inv _ hr hy H;refine⟨List.ne_nil_of_mem hr,λj hj=>?_⟩;have d:j<n:=Nat.lt_of_not_le λh=>tail_waits B hc G inv _ i O s (mem_ready.1 hr).1 j h hj
   refine⟨d,?_⟩;by_cases e:j=i
   .subst e;exact hy.qOp z H
   exact absurd (J _ _ H j (ready_mono hj e)) XX
 | succ f ih=>
   intro listed a inv hap hr hy H;refine⟨List.ne_nil_of_mem hr,λj hj=>?_⟩;have d:j<n:=Nat.lt_of_not_le λh=>tail_waits B hc G inv _ i O s (mem_ready.1 hr).1 j h hj
   refine⟨d,?_⟩;by_cases e:j=i
   .subst e;exact hy.qOp z H
   obtain⟨hj0,oj,hoj,hw⟩:=mem_ready.1 hj;have t:∀x∈oj.after,Region.binds .any x=VA->x.on≠i:=λx hx hb he=>by
    have A:=hw x hx hb;rw[he,getD_both (mem_ready.1 hr).1]at A;cases A
   have I:=qOp_put hoj (hap j oj hoj e hj0 t) (λcs b=>q i o cs b z) (λcs b=>q j oj cs b hoj) hy (H.2 j (ready_mono hj e)).2;refine qOp_mono (λa' h=>ih _ a' (inv.set hj d) (λk ok hk hki hun=>hap k ok hk hki ?_) (ready_mono hr (Ne.symm e)) h.1 (by rw[Array.setIfInBounds_comm _ _ e];exact h.2)) I;by_cases ek:j=k
   .subst ek;exact hj0
   rwa [getD_set_ne VA ek]at hun
theorem rO.lex{Lq:Act->Prop}(d:Region.noSelect ops=VA)(t:Region.sinkB .any ops n=VA)(hc:Region.chainB .any ops n=VA)(z:n<ops.size):
  ∀(l:List Oper)(k:Nat)(listed:Array Bool)(a:Act),(∀j,j<l.length->l[j]? =ops[k+j]?)->k+l.length=n->HeadInv .any ops n listed->
  Region.lexHead .any ops g l.length k listed=VA->wpQuiet P ops C Lq l a->rO P ops C n (λlisted' a'=>Region.seqB .any ops g n listed'=VA/\Lq a') l.length listed a:=by
 intro l;induction l with
 | nil=>
   intro k listed a _ hk _ hB h;obtain rfl:k=n:=by simpa using hk
   exact⟨by simpa[Region.lexHead]using hB,h⟩
 | cons o l ih=>
   intro k listed a hl hk inv hB h;have q:ops[k]? =UF o:=by simpa using(hl 0 X2).symm
   simp only[IN,Region.lexHead,dO]at hB hk;have s:k∈Region.ready .any ops listed:=by simpa using hB.1.1
   obtain⟨v,hy,hK⟩:=yieldsIn_of_qOp (K:=wpQuiet P ops C Lq l) q (by unfold qOp;simp only[q];exact h);refine rO.take q (Region.noSelect_spec d) t hc z XX (λlisted' a' hL=>seqB_ready hL.1) l.length listed a inv (Region.free_spec q hB.1.2) s hy (ih (k+1) _ _ (λj hj=>?_) XX (inv.set s XX) hB.2 hK);have:=hl (j+1) X3;simpa[Nat.add_assoc,WZ 1 j]using this
theorem iS{Q:Exit->Act->World->Prop}{l:List Oper}(n:Nat)(hd tl:List Oper)(B:l.take n=hd)(G:l.drop n=tl)(I:P.follows .mixedOrders=VA)(hB:Region.lexTailB .any l.toArray n=VA)(J:C { w with drawn:=w.drawn+1 })
  (h:wpQuiet P l.toArray C (λz=>∀w',C w'->wpList P l.toArray Q tl z w') hd a):(Code.region id l.toArray VA).wp P Q a w:=by
 subst B G;simp only[Region.lexTailB,dO,OC]at hB;obtain⟨⟨⟨⟨hsel,hn⟩,hs⟩,hc⟩,hlex⟩:=hB;have A:n<l.length:=by simpa using hn
 have d:(l.take n).length=n:=by simp;omega
 have q:HeadInv .any l.toArray n (Array.replicate l.toArray.size WA):=
  ⟨X2,λj oj _ hl=>(by rw[getD_replicate_false]at hl;cases hl),λt _ ht=>getD_in (by simpa using ht) (getD_replicate_false _ _)⟩
 have H:=rO.lex (C:=C) (g:=l.toArray.size-n) hsel hs hc hn (l.take n) 0 _ a (λj hj=>by rw[d]at hj;simp[hj]) (by simpa using d) q (by rw[d];exact hlex) h;refine wp_region_any I ?_;have s:(l.drop n).length=l.toArray.size-n:=X2;have:=rO.any (Q':=Q) (g:=l.toArray.size-n) (λlisted z w' hw hL=>by
  have:=wpAny_of_seq (md:=.any) (Q':=Q) (l.drop n) n listed z w' (λj=>by simp[Vp]) (by rw[s];exact hL.1) (hL.2 w' hw);rwa [s]at this) _ _ _ _ J H
 rw[d,show n+(l.toArray.size-n)=l.toArray.size by omega]at this;exact this
end
end
end Go.Proofs.YtameambcolibjaaGreatDoor
namespace Go.Proofs
open Go.Proofs.YtameambcolibjaaGreatDoor
end Go.Proofs
namespace Go.Proofs.YtameambcolibjaaGreatDoor
section
open Mk Jn
def Aa(s t:ByteArray):Int:=if Op.bytesLess s.toList t.toList=VA then-1 else if(s.toList==t.toList)=VA then 0 else 1
def tA(a b:List ByteArray):Int:=if bB a b=VA then-1 else if a=b then 0 else 1
theorem Fl(s:ByteArray)(w:World):Calls prog 160 #[.string s] w λe w'=>e= .returned (.bool WA)/\w=w':=by
 have d:(s.toList !=s.toList)=WA:=X2
 go_enter func160,ntmps160
 go_wp2
 go_ret
 exact⟨O,O⟩
theorem CH(s t:ByteArray)(w:World):Calls prog 89 #[.string s,.string t] w λe w'=>e= .returned (.int .i64 (Aa s t))/\w=w':=by
 have j:=Fl
 go_enter func89,ntmps89
 go_wp2_with (go_at_call 160;refine(j _ _).mono ?_;rintro e w' ⟨rfl,rfl⟩)
 .have h1:Op.bytesLess s.toList t.toList=VA:=X0
  go_ret
  exact⟨eL (by unfold Aa;rw[AT h1]),O⟩
 .have h1:Op.bytesLess s.toList t.toList=WA:=X0;have d:(!s.toList==t.toList)=VA:=X0
  go_ret
  refine⟨eL ?_,O⟩;unfold Aa;rw[h1,pF XZ,pF (by simpa using d)]
 have h1:Op.bytesLess s.toList t.toList=WA:=X0;have d:(!s.toList==t.toList)=WA:=X0
 go_ret
 refine⟨eL ?_,O⟩;unfold Aa;rw[h1,pF XZ,AT (by simpa using d)]
theorem FC{s t:ByteArray}(h:Aa s t=0):s=t:=by
 unfold Aa at h;split at h
 .cases h
 split at h
 .next h2=>exact bytes_inj (by simpa using h2)
 cases h
theorem PI{a b:List ByteArray}{k:Nat}(j:k<a.length)(q:k<b.length)(e:a.take k=b.take k)(d:Aa a[k] b[k]≠0):tA a b=Aa a[k] b[k]:=by grind[Aa,pr,uo,bytes_inj,tA]
theorem FR{a b:List ByteArray}{k:Nat}(d:k<a.length)(j:k=b.length)(e:a.take k=b.take k):tA a b=1:=by grind[mu,tA]
theorem Az{a b:List ByteArray}{k:Nat}(d:k=a.length)(j:k<=b.length)(e:a.take k=b.take k):tA a b=if(a.length:Int)<b.length then-1 else 0:=by grind[mu,tA,aG]
theorem BW(A B:Option Addr)(c d:Nat)(l m:List ByteArray)(w:World){R:Nat->Prop}(h:Row w R A (PC l)){R':Nat->Prop}(z:Row w R' B (PC m))(H:l.length<=1000000)(I:m.length<=1000000):
  Calls prog 34 #[.slice A l.length c,.slice B m.length d] w λe w'=>e= .returned (.int .i64 (tA l m))/\w=w':=by
 have q:=CH;have j:=@Row.N7 _ _ _ _ h;have hB:=@Row.N7 _ _ _ _ z;clear h z
 go_enter func34,ntmps34
 go_wp2
 go_loop [11] (λi=>∃k:Nat,k<=l.length/\k<=m.length/\i= .int .i64 k/\l.take k=m.take k) (λi=>l.length-(intOf i).toNat)
 case atStart=>exact⟨0,aJ _,aJ _,O,X2⟩
 case round=>
  obtain⟨k,hk,hkm,rfl,hno⟩:=hrel;have HN:=Lib.hid hno;clear hno;by_cases hlt:k<l.length
  .obtain⟨b,off,rfl,hb,hck⟩:=j hlt;by_cases hlt':k<m.length
   .obtain⟨b',off',rfl,hb',hck'⟩:=hB hlt';clear j hB
    go_wp2_with (go_at_call 89;refine(q _ _ _).mono ?_;rintro e w' ⟨rfl,rfl⟩)
    .have he:(Aa l[k] m[k] !=0)=VA:=X0
     go_ret
     exact⟨eL (PI hlt hlt' HN.out (by simpa using he)).symm,O⟩
    have he:(Aa l[k] m[k] !=0)=WA:=X0;refine⟨⟨k+1,XX,XX,by go_num,?_⟩,by simp[intOf];omega⟩;have G:=HN.out;rw[sh hlt,sh hlt',G,FC (s:=l[k]) (t:=m[k]) (by simpa using he)]
   obtain rfl:k=m.length:=XX;clear j hB
   go_wp2
   go_ret
   exact⟨eL (FR hlt O HN.out).symm,O⟩
  clear j hB
  go_wp2
  .have he:l.length<m.length:=X0
   go_ret
   refine⟨eL ?_,O⟩;rw[Az XX hkm HN.out,AT XX]
  have he:¬l.length<m.length:=X0
  go_ret
  refine⟨eL ?_,O⟩;rw[Az XX hkm HN.out,pF XX]
end
section
open Go.RowKit Mm Jn Go.Sort
theorem Ej(a:Int)(w:World):Calls prog 213 #[.int .i64 a] w λe w'=>e= .returned (.bool WA)/\w=w':=by
 have d:(a !=a)=WA:=X2
 go_enter func213,ntmps213
 go_wp2
 go_ret
 exact⟨O,O⟩
theorem Fi(a b:Int)(w:World):Calls prog 146 #[.int .i64 a,.int .i64 b] w λe w'=>e= .returned (.int .i64 (qi a b))/\w=w':=by
 have j:=Ej
 go_enter func146,ntmps146
 go_wp2_with (go_at_call 213;refine(j _ _).mono ?_;rintro e w' ⟨rfl,rfl⟩)
 .have h1:a<b:=X0
  go_ret
  exact⟨eL (by unfold qi;rw[AT h1]),O⟩
 .have h1:¬a<b:=XX;have d:b<a:=XX
  go_ret
  exact⟨eL (by unfold qi;rw[pF h1,AT d]),O⟩
 have h1:¬a<b:=XX;have d:¬b<a:=XX
 go_ret
 exact⟨eL (by unfold qi;rw[pF h1,pF d]),O⟩
theorem Tt(s t:ByteArray):Aa s t=uG s t:=by grind[Aa,uG]
theorem Hs(x y:Int)(b c:Nat)(w:World)(d:w.cell? ⟨b,0,UG⟩=UF (.int .i64 x))(j:w.cell? ⟨b,1,UG⟩=UF (.int .i64 y)):
  Calls prog 145 #[.slice (UF ⟨b,0,UG⟩) 2 c] w λe w'=>e= .returned (.int .i64 (orI [x,y]))/\w=w':=by
 go_enter func145,ntmps145
 go_wp2
 go_loop [8] (λi=>i= .int .i64 0\/(i= .int .i64 1/\x=0)\/(i= .int .i64 2/\x=0/\y=0)) (λi=>2-(intOf i).toNat)
 case atStart=>exact .inl O
 case round=>
  rcases hrel with rfl|⟨rfl,hx⟩|⟨rfl,hx,hy⟩
  .go_wp2
   .have h2:(x !=0)=VA:=X0
    go_ret
    refine⟨eL ?_,O⟩;rw[Sl,AT (by simpa using h2)]
   have h2:(x !=0)=WA:=X0;refine⟨.inr (.inl ⟨by go_num,by simpa using h2⟩),by simp[intOf]⟩
  .go_wp2
   .have h2:(y !=0)=VA:=X0
    go_ret
    refine⟨eL ?_,O⟩;rw[Sl,pF (by simp[hx])]
   have h2:(y !=0)=WA:=X0;refine⟨.inr (.inr ⟨by go_num,hx,by simpa using h2⟩),by simp[intOf]⟩
  go_wp2
  go_ret
  refine⟨eL ?_,O⟩;subst hx hy;rfl
theorem so{P:Program}{f:FuncId}{args:Array Value}{w:World}{n:Nat}{os:Array Obj}{v:Value}(h:Calls P f args (grow (w.drewN n) os) λe w'=>e= .returned v/\grow (w.drewN n) os=w'):
  Calls P f args (grow (w.drewN n) os) λe w''=>e= .returned v/\∃p:GrownBy,w''=grow (w.drewN p.n) p.os:=
 h.mono λ_ _ ⟨he,hq⟩=>⟨he,⟨n,os⟩,hq.symm⟩
theorem nk(w:World)(a1:Array Value)(ty:TypeId)(o2:Obj)(k:Nat)(n:Nat)(os:Array Obj):(grow (((w.alloc (.cells a1 ty)).alloc o2).drewN n) os).cell? ⟨w.heap.size,k,UG⟩=a1[k]? :=by
 rw[cell?_grow _ _ _ (by show w.heap.size<((w.alloc _).alloc _).heap.size;simp;omega)];have e:(((w.alloc (.cells a1 ty)).alloc o2).drewN n).heap[w.heap.size]? =UF (.cells a1 ty):=(Below.heap_alloc (w.alloc (.cells a1 ty)) o2 _ X2).trans (World.alloc_heap_new w _);simp only[World.cell?,e];rfl
theorem kC(w:World)(o1:Obj)(a2:Array Value)(ty:TypeId)(k:Nat)(n:Nat)(os:Array Obj):(grow (((w.alloc o1).alloc (.cells a2 ty)).drewN n) os).cell? ⟨w.heap.size+1,k,UG⟩=a2[k]? :=by
 rw[cell?_grow _ _ _ (by show w.heap.size+1<((w.alloc _).alloc _).heap.size;simp)];have e:(((w.alloc o1).alloc (.cells a2 ty)).drewN n).heap[w.heap.size+1]? =UF (.cells a2 ty):=by
  have:=World.alloc_heap_new (w.alloc o1) (.cells a2 ty);rwa [World.size_alloc]at this
 simp only[World.cell?,e];rfl
theorem CX(w:World)(o1 o2:Obj)(n:Nat)(os:Array Obj):∃q os',grow (((w.alloc o1).alloc o2).drewN n) os=grow (w.drewN q) os':=
 ⟨n, #[o1]++(#[o2]++os),by
  rw[alloc_eq_grow,alloc_eq_grow];show grow (grow (grow (w.drewN n) #[o1]) #[o2]) os=_;rw[grow_grow,grow_grow]⟩
theorem GI(W:World){N:Nat}(j:W.heap.size=N)(n:Nat)(os:Array Obj)(x y:Int)(c:Nat):Calls prog 145 #[.slice (UF ⟨N+os.size,0,UG⟩) 2 c] ((grow (W.drewN n) os).alloc (.cells #[.int .i64 x,.int .i64 y] 3)) λe w'=>
  e= .returned (.int .i64 (orI [x,y]))/\(grow (W.drewN n) os).alloc (.cells #[.int .i64 x,.int .i64 y] 3)=w':=by
 have d:(grow (W.drewN n) os).heap.size=N+os.size:=by simp[grow,World.drewN,j]
 have e:=World.alloc_heap_new (grow (W.drewN n) os) (.cells #[.int .i64 x,.int .i64 y] 3);rw[d]at e;refine Hs x y _ c _ ?_ ?_<;>simp only[World.cell?,e]<;>rfl
theorem BT(p q:Par)(w:World):Calls prog 83 #[cP p,cP q] w λe w'=>e= .returned (.int .i64 (bX p q))/\∃n os',w'=grow (w.drewN n) os':=by
 obtain⟨pf,pc⟩:=p;obtain⟨qf,qc⟩:=q;have z:=Fi;have hS:=CH;have A:=Hs;have t:bX ⟨pf,pc⟩ ⟨qf,qc⟩=orI [qi pf qf,Aa pc qc]:=by rw[Tt];rfl
 rw[t];clear t;simp only[cP]
 go_enter func83,ntmps83
 go_wp2
 have B:∀n os,_=UF _:=λn os=>(nk w #[.int .i64 pf,.string pc] 136 (.cells #[.int .i64 qf,.string qc] 136) 0 n os).trans O
 have G:∀n os,_=UF _:=λn os=>(nk w #[.int .i64 pf,.string pc] 136 (.cells #[.int .i64 qf,.string qc] 136) 1 n os).trans O
 have H:∀n os,_=UF _:=λn os=>(kC w (.cells #[.int .i64 pf,.string pc] 136) #[.int .i64 qf,.string qc] 136 0 n os).trans O
 have I:∀n os,_=UF _:=λn os=>(kC w (.cells #[.int .i64 pf,.string pc] 136) #[.int .i64 qf,.string qc] 136 1 n os).trans O
 have d:=CX w (.cells #[.int .i64 pf,.string pc] 136) (.cells #[.int .i64 qf,.string qc] 136);have j:((w.alloc (.cells #[.int .i64 pf,.string pc] 136)).alloc (.cells #[.int .i64 qf,.string qc] 136)).heap.size=w.heap.size+2:=X2;generalize hW:(w.alloc (.cells #[.int .i64 pf,.string pc] 136)).alloc (.cells #[.int .i64 qf,.string qc] 136)=W at*;clear hW;have s:=GI W j;refine iS (C:=λw'=>∃p:GrownBy,w'=grow (W.drewN p.n) p.os) 10 _ _ O O XY XY ⟨⟨1, #[]⟩,by rw[grow_empty];rfl⟩ ?_
 repeat (quiet_step (first|(go_at_call 146;exact so (z _ _ _))|(go_at_call 89;exact so (hS _ _ _))))
 refine wpQuiet_nil ?_;intro _ hw';obtain⟨⟨nq,osq⟩,hw''⟩:=hw';subst hw'';simp only[List.drop_succ_cons,List.drop_zero]
 go_wp2_with (go_at_call 145;refine(s _ _ _ _ _).mono ?_;rintro e w' ⟨rfl,rfl⟩)
 go_ret
 obtain⟨q,os',hq⟩:=d nq osq;exact⟨O,q,_,by rw[hq,alloc_eq_grow,grow_grow]⟩
theorem BB{W:World}{B off:Nat}{arr:Array Value}{cs:List Value}(h:∀j,W.cell? ⟨B,off+j,UG⟩=arr[off+j]?)(hc:cs=(arr.toList.drop off).take cs.length):∀j v,cs[j]? =UF v->W.cell? ⟨B,off+j,UG⟩=UF v:=by grind
theorem ka{P:Program}{ops:Array Oper}{C:World->Prop}{Q:Act->Prop}{rest:List Oper}{a:Act}{dst:Option Tmp}{T ty:TypeId}{x:Operand}{pos:String}{after:Array Edge}{us:List Value}{b off:Nat}(q:isRow P T)(s:bR P T us.length)
  (t:a.eval x= .pointer (UF ⟨b,off,UG⟩)) (hc:∀w,C w->∀j u,us[j]? =UF u->w.cell? ⟨b,off+j,UG⟩=UF u) (h:wpQuiet P ops C Q rest (a.put dst (.agg us.toArray))):wpQuiet P ops C Q (⟨dst,.load T x,ty,pos,after,UG⟩::rest) a:=by
 refine wpQuiet_step λK hK=>?_
 simp only[Region.wanted,XO];refine⟨_,λw hw=>?_,hK _ h⟩;obtain⟨d,hu,hd⟩:=q;have:=run_loadAt_mid (P:=P) w b off T us d (hc w hw) hu hd s;unfold Oper.quietAt;simp only[execOp,t,Sem.run_bind,this,Result.andThen_ok];exact⟨O,O⟩
theorem Jk(p q:PP)(w:World):Calls prog 86 #[fu p,fu q] w λe w'=>e= .returned (.int .i64 (ca p q))/\∃n os',w'=grow (w.drewN n) os':=by
 obtain⟨⟨af,ac⟩,⟨bf,bc⟩⟩:=p;obtain⟨⟨df,dc⟩,⟨ef,ec⟩⟩:=q;have z:=BT;simp only[cP]at z;have s:=λw=>z ⟨af,ac⟩ ⟨df,dc⟩ w
 have t:=λw=>z ⟨bf,bc⟩ ⟨ef,ec⟩ w
 simp only at s t;clear z;have G:ca (⟨af,ac⟩,⟨bf,bc⟩) (⟨df,dc⟩,⟨ef,ec⟩)=orI [bX ⟨af,ac⟩ ⟨df,dc⟩,bX ⟨bf,bc⟩ ⟨ef,ec⟩]:=rfl;rw[G];clear G;generalize bX ⟨af,ac⟩ ⟨df,dc⟩=u1 at*;generalize bX ⟨bf,bc⟩ ⟨ef,ec⟩=u2 at*;simp only[fu]
 go_enter func86,ntmps86
 go_wp2
 have H:∀n os j u,[.int .i64 af,.string ac][j]? =UF u->(grow (((w.alloc (.cells #[.int .i64 af,.string ac,.int .i64 bf,.string bc] 195)).alloc (.cells #[.int .i64 df,.string dc,.int .i64 ef,.string ec] 195)).drewN n) os).cell? ⟨w.heap.size,0+j,UG⟩=UF u:=λn os=>BB (λj=>nk w #[.int .i64 af,.string ac,.int .i64 bf,.string bc] 195 (.cells #[.int .i64 df,.string dc,.int .i64 ef,.string ec] 195) (0+j) n os) O
 have l1:∀n os j u,[.int .i64 bf,.string bc][j]? =UF u->(grow (((w.alloc (.cells #[.int .i64 af,.string ac,.int .i64 bf,.string bc] 195)).alloc (.cells #[.int .i64 df,.string dc,.int .i64 ef,.string ec] 195)).drewN n) os).cell? ⟨w.heap.size,2+j,UG⟩=UF u:=λn os=>BB (λj=>nk w #[.int .i64 af,.string ac,.int .i64 bf,.string bc] 195 (.cells #[.int .i64 df,.string dc,.int .i64 ef,.string ec] 195) (2+j) n os) O
 have l2:∀n os j u,[.int .i64 df,.string dc][j]? =UF u->(grow (((w.alloc (.cells #[.int .i64 af,.string ac,.int .i64 bf,.string bc] 195)).alloc (.cells #[.int .i64 df,.string dc,.int .i64 ef,.string ec] 195)).drewN n) os).cell? ⟨w.heap.size+1,0+j,UG⟩=UF u:=λn os=>BB (λj=>kC w (.cells #[.int .i64 af,.string ac,.int .i64 bf,.string bc] 195) #[.int .i64 df,.string dc,.int .i64 ef,.string ec] 195 (0+j) n os) O
 have I:∀n os j u,[.int .i64 ef,.string ec][j]? =UF u->(grow (((w.alloc (.cells #[.int .i64 af,.string ac,.int .i64 bf,.string bc] 195)).alloc (.cells #[.int .i64 df,.string dc,.int .i64 ef,.string ec] 195)).drewN n) os).cell? ⟨w.heap.size+1,2+j,UG⟩=UF u:=λn os=>BB (λj=>kC w (.cells #[.int .i64 af,.string ac,.int .i64 bf,.string bc] 195) #[.int .i64 df,.string dc,.int .i64 ef,.string ec] 195 (2+j) n os) O
 have d:=CX w (.cells #[.int .i64 af,.string ac,.int .i64 bf,.string bc] 195) (.cells #[.int .i64 df,.string dc,.int .i64 ef,.string ec] 195);have A:((w.alloc (.cells #[.int .i64 af,.string ac,.int .i64 bf,.string bc] 195)).alloc (.cells #[.int .i64 df,.string dc,.int .i64 ef,.string ec] 195)).heap.size=w.heap.size+2:=X2;generalize hW:(w.alloc (.cells #[.int .i64 af,.string ac,.int .i64 bf,.string bc] 195)).alloc (.cells #[.int .i64 df,.string dc,.int .i64 ef,.string ec] 195)=W at*;clear hW;have B:=GI W A;refine iS (C:=λw'=>∃p:GrownBy,w'=grow (W.drewN p.n) p.os) 10 _ _ O O XY XY ⟨⟨1, #[]⟩,by rw[grow_empty];rfl⟩ ?_;simp only[Xo,Xt]
 quiet_step (fail)
 refine ka (us:=[.int .i64 af,.string ac]) ⟨_,underlying136,O⟩ o7 (b:=w.heap.size) (off:=0) O (λw' hw j u hj=>by obtain⟨p,rfl⟩:=hw;exact H p.n p.os j u hj) ?_
 quiet_step (fail)
 refine ka (us:=[.int .i64 df,.string dc]) ⟨_,underlying136,O⟩ o7 (b:=w.heap.size+1) (off:=0) O (λw' hw j u hj=>by obtain⟨p,rfl⟩:=hw;exact l2 p.n p.os j u hj) ?_
 quiet_step (first|(go_at_call 83;exact Calls.grown_of (s _)))
 quiet_step (fail)
 refine ka (us:=[.int .i64 bf,.string bc]) ⟨_,underlying136,O⟩ o7 (b:=w.heap.size) (off:=2) O (λw' hw j u hj=>by obtain⟨p,rfl⟩:=hw;exact l1 p.n p.os j u hj) ?_
 quiet_step (fail)
 refine ka (us:=[.int .i64 ef,.string ec]) ⟨_,underlying136,O⟩ o7 (b:=w.heap.size+1) (off:=2) O (λw' hw j u hj=>by obtain⟨p,rfl⟩:=hw;exact I p.n p.os j u hj) ?_
 quiet_step (first|(go_at_call 83;exact Calls.grown_of (t _)))
 refine wpQuiet_nil ?_;intro _ hw';obtain⟨⟨nq,osq⟩,hw''⟩:=hw';subst hw'';simp only[List.drop_succ_cons,List.drop_zero]
 go_wp2_with (go_at_call 145;refine(B _ _ _ _ _).mono ?_;rintro e w' ⟨rfl,rfl⟩)
 go_ret
 obtain⟨q,os',hq⟩:=d nq osq;exact⟨O,q,_,by rw[hq,alloc_eq_grow,grow_grow]⟩
end
section
open Mk Jn
theorem sA{w:World}{R:Nat->Prop}:∀{l:List ByteArray}{us:List Value},RelPL w R (ct l) us->us=l.map Value.string
 |[],us,h=>by simpa[RelPL]using h
 | x::l,us,h=>by
   simp only[cd,RelPL,RelP]at h;obtain⟨u,vs,rfl,rfl,h2⟩:=h;rw[sA h2];rfl

theorem On(a b:List ByteArray):decide (tA a b<0)=bB a b:=by grind[tA,bB]
theorem nbeqJ{i k:Nat}(h:¬i=k):Nat.beq i k=WA:=by grind[Nat.beq,bZ]
theorem F9{α:Type}(f:α->List ByteArray):Go.Sort.SWO (Go.Proofs.ltOf λx y:α=>tA (f x) (f y)):=by
 have e:∀x y:α,Go.Proofs.ltOf (λx y:α=>tA (f x) (f y)) x y=bB (f x) (f y):=λx y=>by
  exact On (f x) (f y)
 refine⟨λx=>by rw[e];exact oV _,λx y z h1 h2=>?_,λx y z h1 h2=>?_⟩
 .rw[e]at *; exact fN h1 h2
 grind[bB,fN,mw]
theorem IF{α:Type}(f:α->List ByteArray)(x y:α):Go.Proofs.ltOf (λx y:α=>tA (f x) (f y)) x y=bB (f x) (f y):=by
 exact On (f x) (f y)
theorem vh(F arr:Array Value)(h:F.size<=arr.size):((Go.Sort.putCells id 0 F arr).toList.take F.size)=F.toList:=by
 apply Vq
 .simp[Go.Sort.putCells];omega
 .intro i h1 h2;rw[UR]at h2;simp only[List.getElem_take,Array.getElem_toList,Go.Sort.putCells,Array.getElem_mapIdx];rw[AT ⟨aJ _,XX⟩,Nat.sub_zero,getElem!_pos F i h2];rfl
end
end Go.Proofs.YtameambcolibjaaGreatDoor
