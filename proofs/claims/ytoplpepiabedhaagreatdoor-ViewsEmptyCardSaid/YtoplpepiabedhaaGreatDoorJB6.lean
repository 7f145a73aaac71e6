/- Lemmas. No condition. -/
import Derived.MapKept
import Derived.Carry
import Derived.Laws.RangeString
import Derived.Test.YtoplpepiabedhaaGreatDoorJB5
set_option maxRecDepth 100000
set_option maxHeartbeats 4000000
open Go.RowKit Go.Proofs.Tryz
namespace Go.Proofs.YtoplpepiabedhaaGreatDoor
section
open Mk
theorem dJ{l:List (ByteArray×List Int)}{k:Nat}(h:k<l.length):((aJ l).drop (k*2)).take 2=[.str l[k].1,ai l[k].2]:=cm _ 2 (fun _=>rfl) l k h
theorem fY{l:List (ByteArray×List Int)}{k:Nat}(h:k<l.length):aJ l≠[]:=fun e=>by have:=sU l;rw[e]at this;simp at this;omega
def dv(n:Nat)(U:List Bool)(p:Nat->Bool):Prop:=U.length=n/\∀a,a<n->U[a]? =some (p a)
theorem dv.zero(n:Nat):dv n (List.replicate n false) (fun _=>false):=⟨Tw,fun a ha=>by simp[ha]⟩
theorem dv.set{n:Nat}{U:List Bool}{p:Nat->Bool}(h:dv n U p){a:Nat}(ha:a<n):dv n (U.set a true) (fun b=>p b||(b==a)):=by
 refine⟨by simp[h.1],fun b hb=>?_⟩;by_cases e:b=a
 ·subst e;simp[h.1,hb]
 ·rw[Q7 (fun e'=>e e'.symm),h.2 b hb];simp[e]
theorem dv.congr{n:Nat}{U:List Bool}{p q:Nat->Bool}(h:dv n U p)(e:∀a,a<n->p a=q a):dv n U q:=⟨h.1,fun a ha=>by rw[h.2 a ha,e a ha]⟩
theorem dv.mem{n:Nat}{U:List Bool}{p:Nat->Bool}(h:dv n U p):decide (false∈U)= !((List.range n).all p):=by
 rw[PA];simp only[Po,Rm,RV,P0];constructor
 ·intro hm;obtain⟨a,ha,e⟩:=Q0 hm;refine⟨a,by rw[<-h.1];exact ha,?_⟩;have:=h.2 a (by rw[<-h.1];exact ha);rw[By ha,e]at this;simpa using this.symm
 ·rintro⟨a,ha,e⟩;have:=h.2 a ha;have e':p a=false:=by simpa using e
  rw[e']at this;exact Qv this
theorem tn(U:List Bool)(a:Nat):(bZ U).set a (.bool true)=bZ (U.set a true):=by simp[Qi]
theorem tM{b:Bool}{l:List Int}{q j a:Nat}(hq:q<l.length)(hj:l[q]=(j:Int)):((b||inB (l.take q) a)||(a==j))=(b||inB (l.take (q+1)) a):=by
 rw[bC hq,Bool.or_assoc]
 congr 1
 rw[PA];simp[inB,hj];exact or_congr Iff.rfl ⟨fun h=>by rw[h],fun h=>by omega⟩
theorem xU{l:List Int}{q n:Nat}(hq:q<l.length)(h:∀a∈l.take q,0<=a/\a<(n:Int))(hx:0<=l[q]/\l[q]<n):∀a∈l.take (q+1),0<=a/\a<(n:Int):=by
 rw[bC hq];intro a ha;rcases Pq.1 ha with h1|h1
 ·exact h a h1
 ·rw[OF.1 h1];exact hx
theorem yH{l:List Int}{p:Nat}(hp:p<l.length)(hp1:1<=p)(h:∀i,i+1<p->i+1<l.length->l.getD i 0<l.getD (i+1) 0)(hx:l[p-1]'Ts<l[p]):∀i,i+1<p+1->i+1<l.length->l.getD i 0<l.getD (i+1) 0:=by
 intro i h1 h2;by_cases e:i+1=p
 ·have e2:i=p-1:=Ts;subst e2;have e3:p-1+1=p:=Ts;simp only[e3,List.getD,By hp,By (show p-1<l.length by omega)];exact hx
 ·exact h i Ts h2
theorem yc{rs:List (ByteArray×List Int)}{k q a:Nat}(hk:k<rs.length)(hq:rs[k].2.length<=q):(((rs.take k).any fun r=>inB r.2 a)||inB (rs[k].2.take q) a)=((rs.take (k+1)).any fun r=>inB r.2 a):=by
 rw[bC hk,aX hq];simp only[List.any_append,List.any_cons,List.any_nil,Q5]
theorem o0(S:Sch)(hS:SB S):FnP prog 248 [eZ S] (· = .int .i64 (fE S)):=by
 refine FnP.of func248 O ntmps248 Tw fun m0 w0 F R0=>?_
 have hb:=hS.a;have hb2:=hS.r;refine Z2 O O O<|Z1 O O<|OT (OZ 3 1 1 9 O O)<|Gr O ?_;iterate 5 refine A1 O ?_
 refine Z4 O O O O O ?_;refine Gl O (st:=fun TC:Nat×List ByteArray×List Bool=>mkS [(3,.gsl 1 1 TC.2.1.length),(4,.osl 2 1 S.attrs.length),(16,.pv (.sl none S.rels.length (aJ S.rels))),(17,pIi S.rels.length),(18,pIi TC.1)] [(1,.gro 9 (bO TC.2.1)),(2,.cells 4 (bZ TC.2.2))] 3)
  (I:=fun TC=>TC.1<=S.rels.length/\TC.2.1=(S.rels.map (·.1)).take TC.1/\dv S.attrs.length TC.2.2 (fun a=>(S.rels.take TC.1).any fun r=>inB r.2 a)/\bG (ue S) TC.1=0) (μ:=fun TC=>S.rels.length-TC.1) (x0:=(0,[],List.replicate S.attrs.length false)) (OU (aS O) ⟨O,ag (fun c=>some (Ob.cells 4 c)) ((ck (.bool false) (S.attrs.length*1)).trans Tw),TB⟩ O O) (⟨cd _,O,dv.zero _,O⟩) ?_
 rintro⟨k,L,U⟩ ⟨hk,hL,hU,hs⟩;try simp only at hk hL hU hs ⊢
 refine Z1 O O ?_;refine Gp O O (fun hc19=>?_) (fun hc19=>?_)
 ·have hlt:k<S.rels.length:=Ts;have hrow:=dJ hlt;have hne:=fY hlt;have hnl:L.length=k:=by rw[hL];simp;omega
  have htk:L++[S.rels[k].1]=(S.rels.map (·.1)).take (k+1):=by rw[bC (by simpa using hlt),hL];simp
  have hns:=ql (L++[S.rels[k].1]) k Tx Tx (by simp only[<-hnl];simp;exact hS.rn _ (ar _));rw[pG,htk,qb Ts]at hns;have hre:=qW S k hlt;have hgd:S.rels.getD k default=S.rels[k]:=by simp[List.getD,hlt]
  have hsl:(bO L).length=L.length*1:=Tw;have hll:=hS.rl _ (ar hlt);have hul:=hU.1;refine OR<|Z2 O O O<|Rs 22 O O (aR ⟨_,underlying74,O⟩ JV O hrow O)<|Y3 O O O<|Gr O ?_;iterate 6 refine A1 O ?_
  refine Z2 O O O<|Rs 30 O O (rb call317 hns O O)<|A1 O<|Z2 O O O ?_;refine Gc O O (fun hc32=>?_) (fun hc32=>?_)
  ·refine Z2 O O O<|Gt O ?_;exact⟨_,_,O,O,ag (PV.int .i64) (by have e:ue S k=eG (S.rels.map (·.1)) k:=(by unfold ue;rw[AT (inT hc32)]);unfold fE;rw[fi hs (by rw[e];exact inT hc32) hlt,AT (by rw[e];exact inT hc32),e])⟩
  ·have hn0:eG (S.rels.map (·.1)) k=0:=inF hc32;have hre:ue S k=if S.rels[k].2=[]then 7 else if(S.rels[k].2.all fun a=>decide (0<=a)&&decide (a<S.attrs.length))=false then 2 else if FL S.rels[k].2=false then 10 else 0:=by unfold ue;rw[dw (by simp[hn0]),hgd]
   have hfin:∀e:Int,e≠0->ue S k=e->PV.int .i64 e= .int .i64 (fE S):=fun e h0 h1=>ag (PV.int .i64) (by unfold fE;rw[fi hs (by rw[h1];exact h0) hlt,AT (by rw[h1];exact h0),h1])
   refine OR<|Z4 O O O O O ?_;refine Gc O O (fun hc37=>?_) (fun hc37=>?_)
   ·exact Z1 O O<|Gt O<|⟨_,_,O,O,hfin 7 Tu (by rw[hre,AT (by have:=ibT hc37;apply PF;omega)])⟩
   ·have hl0:¬S.rels[k].2=[]:=fun e=>by rw[e]at hc37;simp at hc37
    refine OR<|Z4 O O O O O ?_;refine Gl O (st:=fun x_1:Nat×List Bool=>mkS [(3,.gsl 5 1 (L.length+1)),(4,.osl 2 1 S.attrs.length),(6,.ptr 3 0),(16,.pv (.sl none S.rels.length (aJ S.rels))),(17,pIi S.rels.length),(18,pIi k),(39,.pv (ai S.rels[k].2)),(40,.pv (.int .i64 S.rels[k].2.length)),(41,pIi x_1.1)] [(2,.cells 4 (bZ x_1.2)),(3,.mix 74 [.pv (.str S.rels[k].1),.pv (ai S.rels[k].2)]),(5,.gro 9 (bO L++[.str S.rels[k].1]))] 6)
     (I:=fun x_1=>x_1.1<=S.rels[k].2.length/\dv S.attrs.length x_1.2 (fun a=>((S.rels.take k).any fun r=>inB r.2 a)||inB (S.rels[k].2.take x_1.1) a)/\∀a∈S.rels[k].2.take x_1.1,0<=a/\a<S.attrs.length) (μ:=fun x_1=>S.rels[k].2.length-x_1.1) (x0:=(0,U)) (OU (aS O) (aO O) O O) (⟨cd _,hU.congr (fun a _=>by simp[inB]),Tw⟩) ?_
    rintro⟨q,U2⟩ ⟨hq,hU2,hr⟩;try simp only at hq hU2 hr ⊢
    refine Z1 O O ?_;refine Gp O O (fun hc42=>?_) (fun hc42=>?_)
    ·have hql:q<S.rels[k].2.length:=Ts;have hv:=aQ hql;have hne2:=aE hql;have hul2:=hU2.1;refine OR<|Z1 O O ?_;first|refine A2 O Tv ?_|refine A1 O ?_
     refine A1 O<|Z3 O O O O ?_;apply O2 5 47 52 [48,49,50,51] O TE
     ·intro hb2;iterate 5 refine A1 O ?_
      exact OW TD O O O
     ·intro hb2;iterate 5 refine A1 O ?_
      exact OW TD O O O
     refine Gc O O (fun hc52=>?_) (fun hc52=>?_)
     ·exact Z1 O O<|Gt O<|⟨_,_,O,O,hfin 2 Tu (by rw[hre,dw hl0,AT (Jy hql (by simp at hc52;omega))])⟩
     ·have hx:0<=S.rels[k].2[q]/\S.rels[k].2[q]<S.attrs.length:=by simp only[PL,Qx]at hc52;omega
      obtain⟨j,hj⟩:=Bb hx.1;exact OR<|Z2 O O O<|Rs 55 O O (aq j underlying215 sz4 O O O hj Ts)<|A1 O<|Z2 O O O<|⟨(q+1,U2.set j true),OU (aS O) ⟨by show some (Ob.cells _ _)=_;rw[<-tn];simp,O,O,TB⟩ O O,⟨Tz,(hU2.set (a:=j) Ts).congr (fun a _=>tM hql hj),xU hql hr hx⟩,Tz⟩
    ·have hrng:(S.rels[k].2.all fun a=>decide (0<=a)&&decide (a<S.attrs.length))=true:=wM (fun a ha=>hr a (by rw[aX Ts];exact ha));refine Gx O<|Z1 O O ?_;refine Gl O (st:=fun x_2:Nat=>mkS [(3,.gsl 5 1 (L.length+1)),(4,.osl 2 1 S.attrs.length),(6,.ptr 3 0),(10,pIi x_2),(16,.pv (.sl none S.rels.length (aJ S.rels))),(17,pIi S.rels.length),(18,pIi k)] [(2,.cells 4 (bZ U2)),(3,.mix 74 [.pv (.str S.rels[k].1),.pv (ai S.rels[k].2)]),(5,.gro 9 (bO L++[.str S.rels[k].1]))] 6)
      (I:=fun x_2=>1<=x_2/\∀i,i+1<x_2->i+1<S.rels[k].2.length->S.rels[k].2.getD i 0<S.rels[k].2.getD (i+1) 0) (μ:=fun x_2=>S.rels[k].2.length-x_2) (x0:=(1)) (OU (aS O) (aO O) O O) (⟨BY _,fun i hi=>by omega⟩) ?_
     rintro p ⟨hp1,hasc⟩;refine Gr O ?_;iterate 5 refine A1 O ?_
     refine Gp O O (fun hc61=>?_) (fun hc61=>?_)
     ·have hpl:p<S.rels[k].2.length:=Ts;have hpl1:p-1<S.rels[k].2.length:=Ts;have hv:=aQ hpl;have hv1:=aQ hpl1;have hne2:=aE hpl;refine OR<|Ge O follows [0,1,2,3,4,5,6,7,8,9,10,11] Tt ?_;iterate 4 refine D1 O O ?_
      first|refine D2 O O Tv ?_|refine D1 O O ?_
      iterate 4 refine D1 O O ?_
      refine Ds 73 [] O O O (fun τ h=>ae (p-1) underlying22 sz3 (Ee h 0 O O) (Ee h 1 O O) Ts Ts hne2) O Tt ?_;first|refine D2 O O Tv ?_|refine D1 O O ?_
      refine D1 O O ?_;refine⟨Tt,?_⟩;refine Gp O O (fun hc75=>?_) (fun hc75=>?_)
      ·exact Z1 O O<|Gt O<|⟨_,_,O,O,hfin 10 Tu (by rw[hre,dw hl0,dw (by rw[hrng];decide),AT (JS hp1 hpl hc75)])⟩
      ·exact OR<|Z3 O O O O<|⟨(p+1),OU (aS O) (aO O) O O,⟨Ts,yH hpl hp1 hasc Ts⟩,Ts⟩
     ·exact Gx O<|Z2 O O O<|⟨(k+1,L++[S.rels[k].1],U2),OV [0,5,2] ⟨by simp;rfl,O,O,O,O,TB⟩ ⟨ag (fun c=>some (Ob.gro 9 c)) (tN L S.rels[k].1).symm,O,TB⟩ O O Tu O,⟨Tz,htk,hU2.congr (fun a _=>yc hlt Ts),by simp only;rw[cR hs,hre,dw hl0,dw (by rw[hrng];decide),dw (by rw[ve (fun i hi=>hasc i Ts hi)];decide)]⟩,Tz⟩
 ·have hfull:((List.range S.attrs.length).all fun a=>(S.rels.take k).any fun r=>inB r.2 a)=((List.range S.attrs.length).all fun a=>rG S a):=by rw[aX Ts];rfl
  refine Gx O<|Z1 O O<|Rs 78 O O (rb call318 (oS U false (by have:=hU.1;omega)) (by rw[jX,hU.1];rfl) O) ?_;refine Gc O O (fun hc78=>?_) (fun hc78=>?_)
  ·exact Z1 O O<|Gt O<|⟨_,_,O,O,ag (PV.int .i64) (by unfold fE;rw[show S.rels.length=k by omega,dw (by simp[hs]),AT (by rw[<-hfull];rw[hU.mem]at hc78;simpa using hc78)])⟩
  ·exact OR<|Z1 O O<|Gt O<|⟨_,_,O,O,ag (PV.int .i64) (by unfold fE;rw[show S.rels.length=k by omega,dw (by simp[hs]),dw (by rw[<-hfull];rw[hU.mem]at hc78;simpa using hc78)])⟩
end
section
open Mk
abbrev vl(f:Int×Int×Int):List PV:=[.int .i64 f.1,.int .i64 f.2.1,.int .i64 f.2.2]
theorem jV{l:List (Int×Int×Int)}{k:Nat}(h:k<l.length):((aC l).drop (k*3)).take 3=vl l[k]:=cm _ 3 (fun _=>rfl) l k h
theorem nH{l:List (Int×Int×Int)}{k:Nat}(h:k<l.length):aC l≠[]:=fun e=>by have:=fP l;rw[e]at this;simp at this;omega
theorem fr{α:Type}{l:List α}{p:α->Bool}{k:Nat}(hk:k<l.length)(h:(l.take k).any p=false)(hn:p l[k]=false):(l.take (k+1)).any p=false:=by
 rw[bC hk];simp only[List.any_append,h,List.any_cons,hn,List.any_nil,Q5]
theorem pJ{α:Type}{l:List α}{p:α->Bool}{k:Nat}(hk:k<l.length)(h:p l[k]=true):l.any p=true:=Qy.2 ⟨_,ar hk,h⟩
theorem DI(l:List (Int×Int×Int))(g:FuncId)(caps:List PV)(p:Int×Int×Int->Bool)(hl:l.length<=1000000)(hc:cu prog g)(hg:∀f∈l,FnP prog g ([]++[.agg (vl f)]++caps) (· = .bool (p f))):
  FnP prog 200 [.sl none l.length (aC l),.fn (.func g) [] caps] (fun v=>∃i:Int,v= .int .i64 i/\decide (0<=i)=l.any p):=by
 refine FnP.of func200 O ntmps200 Tw fun m0 w0 F R0=>?_
 refine Z1 O O<|Z3 O O O O ?_;refine Gl O (st:=fun TC:Nat=>mkS [(0,.pv (.sl none l.length (aC l))),(1,.pv (.fn (.func g) [] caps)),(7,pIi l.length),(8,pIi TC)] [] 0)
  (I:=fun TC=>TC<=l.length/\(l.take TC).any p=false) (μ:=fun TC=>l.length-TC) (x0:=(0)) (OU (aS O) trivial O O) (⟨cd _,O⟩) ?_
 rintro k ⟨hk,hno⟩;refine Z1 O O ?_;refine Gp O O (fun hc9=>?_) (fun hc9=>?_)
 ·have hlt:k<l.length:=Ts;have hrow:=jV hlt;have hne:=nH hlt;have hgk:=hg _ (ar hlt);refine OR<|Z2 O O O<|Z4 O O O O O<|Rs 15 O O (aR ⟨_,underlying164,O⟩ wz O hrow O)<|Rs 16 O O (gE hc O hgk O) ?_;refine Gc O O (fun hc16=>?_) (fun hc16=>?_)
  ·exact Z2 O O O<|Gt O<|⟨_,_,O,O,_,O,by rw[pJ hlt hc16];exact Pn Ts⟩
  ·exact OR<|Z2 O O O<|⟨(k+1),OU (aS O) trivial O O,⟨Ts,fr hlt hno hc16⟩,Ts⟩
 ·exact Gx O<|Z1 O O<|Gt O<|⟨_,_,O,O,_,O,by rw[aX Ts]at hno;rw[hno];rfl⟩
theorem o8(l:List (Int×Int×Int))(g:FuncId)(caps:List PV)(p:Int×Int×Int->Bool)(hl:l.length<=1000000)(hc:cu prog g)(hg:∀f∈l,FnP prog g ([]++[.agg (vl f)]++caps) (· = .bool (p f))):
  FnP prog 319 [.sl none l.length (aC l),.fn (.func g) [] caps] (· = .bool (l.any p)):=by
 refine FnP.of func319 O ntmps319 Tw fun m0 w0 F R0=>?_
 refine Z1 O O<|Z2 O O O ?_;refine RL.call O (jz call200 (DI l g caps p hl hc hg) O ?_);rintro _ ⟨i,rfl,hi⟩;exact Y2 O O<|Gt O<|⟨_,_,O,O,ag PV.bool hi⟩
theorem zK(f:Int×Int×Int)(c:List PV)(a:Int)(hc:c[0]? =some (.int .i64 a)):FnP prog 320 [.agg (vl f),.rp c 0] (· = .bool (f.1==a)):=by
 refine FnP.of func320 O ntmps320 Tw fun m0 w0 F R0=>?_
 refine Z2 O O O<|Z3 O O O O ?_;first|refine A1 O ?_|refine A2 O Tv ?_
 exact Y2 O O<|Gt O<|⟨_,_,O,O,O⟩
theorem Aq(l:List (Int×Int×Int))(k:Nat)(hk:k<=l.length):PV.sl none k ((aC l).take (k*3))= .sl none (l.take k).length (aC (l.take k)):=by
 have e:(aC l).take (k*3)=aC (l.take k):=by
  conv=>lhs;rw[<-PK k l]
  have:aC (l.take k++l.drop k)=aC (l.take k)++aC (l.drop k):=by unfold aC;rw[PS]
  rw[this,List.take_append_of_le_length (by rw[fP];simp;omega),aX (by rw[fP];simp;omega)]
 rw[e];simp;omega
abbrev sCc(S:Sch):List V:=[.pv (.sl none S.attrs.length (aB S.attrs)),.pv (.sl none S.rels.length (aJ S.rels)),.pv (.sl none S.feats.length (aC S.feats)),pIi S.label]
theorem qK(S:Sch)(hS:SB S):FnP prog 249 [eZ S] (· = .int .i64 (bG (jf S) S.feats.length)):=by
 refine FnP.of func249 O ntmps249 Tw fun m0 w0 F R0=>?_
 have hb:=hS.a;have hb2:=hS.f;have hFl:=fP S.feats;refine Z2 O O O<|Z4 O O O O O ?_;refine Gl O (st:=fun TC:Nat=>mkS [(1,.ptr 0 0),(9,.pv (.sl none S.feats.length (aC S.feats))),(10,pIi S.feats.length),(11,pIi TC)] [(0,.mix 30 (sCc S))] 1)
  (I:=fun TC=>TC<=S.feats.length/\bG (jf S) TC=0) (μ:=fun TC=>S.feats.length-TC) (x0:=(0)) (OU (aS O) (aO O) O O) (⟨cd _,O⟩) ?_
 rintro k ⟨hk,hs⟩;refine Z1 O O ?_;refine Gp O O (fun hc12=>?_) (fun hc12=>?_)
 ·have hlt:k<S.feats.length:=Ts;have hrow:=jV hlt;have hne:=nH hlt;have hfe:=n5 S k hlt;have hfin:∀e:Int,e≠0->jf S k=e->PV.int .i64 e= .int .i64 (bG (jf S) S.feats.length):=fun e h0 h1=>ag (PV.int .i64) (by rw[fi hs (by rw[h1];exact h0) hlt,h1])
  refine OR<|Z2 O O O<|Rs 15 O O (aR ⟨_,underlying164,O⟩ wz O hrow O)<|Y3 O O O<|Z4 O O O O O ?_;apply O2 7 19 26 [20,21,22,23,24,25] O TE
  ·intro hb3;iterate 7 refine A1 O ?_
   exact OW TD O O O
  ·intro hb3;iterate 7 refine A1 O ?_
   exact OW TD O O O
  refine Gc O O (fun hc26=>?_) (fun hc26=>?_)
  ·exact Z1 O O<|Gt O<|⟨_,_,O,O,hfin 2 Tu (by rw[hfe,AT (by simpa using hc26)])⟩
  ·have hx:0<=S.feats[k].1/\S.feats[k].1<S.attrs.length:=by simp only[PL,Qx]at hc26;omega
   obtain⟨a,ha⟩:=Bb hx.1;have hal:a<S.attrs.length:=Ts;have hk2:(aB S.attrs)[a*2+1]? =some (.int .i64 S.attrs[a].2):=fD _ 2 (fun _=>rfl) S.attrs a 1 hal Tu;have hane:=gB hal;have hkd:(S.attrs.getD S.feats[k].1.toNat default).2=S.attrs[a].2:=by rw[ha];simp[List.getD,hal]
   refine OR<|Z4 O O O O O<|Rs 31 O O (ae a underlying26 kT O O ha hal hane)<|A1 O ?_;first|refine A2 O Tv ?_|refine A1 O ?_
   refine A1 O<|Z4 O O O O O ?_;apply O3 3 37 40 [38,39] O TE
   ·intro hb3;exact Y3 O O O<|OW TD O O O
   ·intro hb3;exact Y3 O O O<|OW TD O O O
   refine A1 O ?_;apply O3 9 41 50 [42,43,44,45,46,47,48,49] O TE
   ·intro hb7;iterate 4 refine A1 O ?_
    apply O2 4 45 49 [46,47,48] O TE
    ·intro hb11;iterate 4 refine A1 O ?_
     exact OW TD O O O
    ·intro hb11;iterate 4 refine A1 O ?_
     exact OW TD O O O
    exact A1 O<|OW TD O O O
   ·intro hb7;iterate 9 refine A1 O ?_
    exact OW TD O O O
   refine A1 O<|Z4 O O O O O ?_;apply O3 3 54 57 [55,56] O TE
   ·intro hb3;exact Y3 O O O<|OW TD O O O
   ·intro hb3;exact Y3 O O O<|OW TD O O O
   refine A1 O ?_;apply O3 4 58 62 [59,60,61] O TE
   ·intro hb7;iterate 4 refine A1 O ?_
    exact OW TD O O O
   ·intro hb7;iterate 4 refine A1 O ?_
    exact OW TD O O O
   refine A1 O<|Z3 O O O O ?_;apply O3 3 65 68 [66,67] O TE
   ·intro hb2;exact Y3 O O O<|OW TD O O O
   ·intro hb2;exact Y3 O O O<|OW TD O O O
   refine Gc O O (fun hc68=>?_) (fun hc68=>?_)
   ·exact Z1 O O<|Gt O<|⟨_,_,O,O,hfin 7 Tu (by rw[hfe,dw Ts,hkd,AT (by rw[PL];rw[sh,Rm,Rm]at hc68;exact hc68)])⟩
   ·refine OR<|OT (St.iB 1 O O)<|Gr O ?_;iterate 6 refine A1 O ?_
    apply O2 7 74 81 [75,76,77,78,79,80] O TE
    ·intro hb5;iterate 7 refine A1 O ?_
     exact OW TD O O O
    ·intro hb5;exact Y3 O O O<|Rg 78 O O O (XJ.cast (v':= .pv (.sl none (S.feats.take k).length (aC (S.feats.take k)))) (dq k underlying28 wz O O O Ts hFl) (by rw[Aq _ _ hk]))<|A1 O<|Rg 80 O O O (aa call319 (o8 (S.feats.take k) 320 [.rp (vl S.feats[k]) 0] (fun g=>g.1==S.feats[k].1) Tx call320 (fun f _=>zK f _ _ O)) O)<|A1 O<|OW TD O O O
    refine Gc O O (fun hc81=>?_) (fun hc81=>?_)
    ·exact Z1 O O<|Gt O<|⟨_,_,O,O,hfin 9 Tu (by rw[hfe,dw Ts,hkd,dw (by intro h;rw[PL]at h;rw[h.1,h.2]at hc68;cases hc68),AT hc81])⟩
    ·exact OR<|Z2 O O O<|⟨(k+1),OU (aS O) (aO O) O O,⟨Ts,by rw[cR hs,hfe,dw Ts,hkd,dw (by intro h;rw[PL]at h;rw[h.1,h.2]at hc68;cases hc68),dw (by rw[hc81];decide)]⟩,Ts⟩
 ·exact Gx O<|Z1 O O<|Gt O<|⟨_,_,O,O,ag (PV.int .i64) (by rw[show S.feats.length=k by omega,hs])⟩
end
section
open Mk
theorem xl(S:Sch):((((((S.attrs.length:Int)==0)||decide ((12:Int)<S.attrs.length))||((S.rels.length:Int)==0))||decide ((6:Int)<S.rels.length))||decide ((8:Int)<S.feats.length))=true↔S.attrs.length=0\/12<S.attrs.length\/S.rels.length=0\/6<S.rels.length\/8<S.feats.length:=by
 simp only[PQ,Rk,Po];omega
def BB(S:Sch):Nat->Int
 |0=>bG (fC S) S.attrs.length
 |1=>fE S
 |_=>bG (jf S) S.feats.length
def KI:Nat->FuncId
 |0=>247
 |1=>248
 |_=>249
theorem zL(S:Sch)(hS:SB S)(k:Nat):FnP prog (KI k) [eZ S] (· = .int .i64 (BB S k)):=by
 match k with
 |0=>exact nW S hS
 |1=>exact o0 S hS
 |k+2=>exact qK S hS
theorem F7(k:Nat):cu prog (KI k):=by
 match k with
 |0=>exact call247
 |1=>exact call248
 |k+2=>exact call249
theorem Ht(k:Nat)(hk:k<3):([.fn (.func 247) [] [],.fn (.func 248) [] [],.fn (.func 249) [] []]:List PV)[k*1]? =some (.fn (.func (KI k)) [] []):=by
 match k,hk with
 |0,_=>rfl
 |1,_=>rfl
 |2,_=>rfl
theorem HJ{S:Sch}{k:Nat}(hlim:¬ (S.attrs.length=0\/12<S.attrs.length\/S.rels.length=0\/6<S.rels.length\/8<S.feats.length))(hk:k<3)(hz:∀j,j<k->BB S j=0)(h:¬BB S k=0):BB S k=bp S:=by
 unfold bp;rw[dw hlim];match k,hk with
 |0,_=>rw[AT (show bG (fC S) S.attrs.length≠0 from h)];rfl
 |1,_=>have h0:=hz 0 Ts;rw[dw (fun e=>e h0),AT (show fE S≠0 from h)];rfl
 |2,_=>have h0:=hz 0 Ts;have h1:=hz 1 Ts;rw[dw (fun e=>e h0),dw (fun e=>e h1),AT (show bG (jf S) S.feats.length≠0 from h)];rfl
theorem qz(S:Sch)(hS:SB S):FnP prog 159 [eZ S] (· = .int .i64 (bp S)):=by
 refine FnP.of func159 O ntmps159 Tw fun m0 w0 F R0=>?_
 have hb:=hS.a;refine Z2 O O O<|Gr O ?_;iterate 5 refine A1 O ?_
 apply O2 5 10 15 [11,12,13,14] O TE
 ·intro hb4;iterate 5 refine A1 O ?_
  exact OW TD O O O
 ·intro hb4;iterate 5 refine A1 O ?_
  exact OW TD O O O
 refine A1 O ?_;apply O2 5 16 21 [17,18,19,20] O TE
 ·intro hb10;iterate 5 refine A1 O ?_
  exact OW TD O O O
 ·intro hb10;iterate 5 refine A1 O ?_
  exact OW TD O O O
 refine A1 O ?_;apply O2 5 22 27 [23,24,25,26] O TE
 ·intro hb16;iterate 5 refine A1 O ?_
  exact OW TD O O O
 ·intro hb16;iterate 5 refine A1 O ?_
  exact OW TD O O O
 refine A1 O ?_;apply O2 5 28 33 [29,30,31,32] O TE
 ·intro hb22;iterate 5 refine A1 O ?_
  exact OW TD O O O
 ·intro hb22;iterate 5 refine A1 O ?_
  exact OW TD O O O
 refine Gc O O (fun hc33=>?_) (fun hc33=>?_)
 ·exact Z1 O O<|Gt O<|⟨_,_,O,O,ag (PV.int .i64) (by unfold bp;rw[AT ((xl S).1 hc33)])⟩
 ·have hlim:¬ (S.attrs.length=0\/12<S.attrs.length\/S.rels.length=0\/6<S.rels.length\/8<S.feats.length):=fun h=>by rw[(xl S).2 h]at hc33;cases hc33
  refine OR<|Gr O<|Rs 34 O O (ak none Tw el364 O Tu Tu O O)<|Y2 O O ?_;refine Gl O (st:=fun TC:Nat=>mkS [(1,.ptr 0 0),(34,.pv (.sl none 3 [.fn (.func 247) [] [],.fn (.func 248) [] [],.fn (.func 249) [] []])),(35,pIi 3),(36,pIi TC)] [(0,.mix 30 (sCc S))] 1)
   (I:=fun TC=>TC<=3/\∀j,j<TC->BB S j=0) (μ:=fun TC=>3-TC) (x0:=(0)) (OU (aS O) (aO O) O O) (⟨Ts,fun j hj=>absurd hj (RJ _)⟩) ?_
  rintro k ⟨hk,hz⟩;refine Z1 O O ?_;refine Gp O O (fun hc37=>?_) (fun hc37=>?_)
  ·have hlt:k<3:=Ts;have hv:=Ht k hlt;refine OR<|Gr O<|Rs 38 O O (ae k underlying364 sz167 O O O hlt Tw) ?_;first|refine A2 O Tv ?_|refine A1 O ?_
   refine A1 O<|Z2 O O O<|Rs 42 O O (gE (F7 k) O (zL S hS k) O)<|A1 O<|Z2 O O O ?_;refine Gc O O (fun hc44=>?_) (fun hc44=>?_)
   ·exact Z2 O O O<|Gt O<|⟨_,_,O,O,ag (PV.int .i64) (HJ hlim hlt hz (inT hc44))⟩
   ·exact OR<|Z2 O O O<|⟨(k+1),OU (aS O) (aO O) O O,⟨Ts,fun j hj=>by rcases RC.1 hj with h|rfl;exact hz j h;exact inF hc44⟩,Ts⟩
  ·have h0:=hz 0 Ts;have h1:=hz 1 Ts;have h2:=hz 2 Ts;have hcl:=nk hlim h0 h1 h2;refine Gx O<|Z4 O O O O O ?_;apply O2 7 51 58 [52,53,54,55,56,57] O TE
   ·intro hb3;iterate 7 refine A1 O ?_
    exact OW TD O O O
   ·intro hb3;iterate 7 refine A1 O ?_
    exact OW TD O O O
   refine A1 O ?_;refine Gc O O (fun hc47=>?_) (fun hc47=>?_)
   ·exact Z1 O O<|Gt O<|⟨_,_,O,O,ag (PV.int .i64) (by rw[hcl,AT (by simpa using hc47)])⟩
   ·have hn:¬ (S.label< -1\/(S.attrs.length:Int)<=S.label):=by simpa using hc47
    have hlv:0<=S.label->∃(a:Nat),S.label=(a:Int)/\a<S.attrs.length/\(aB S.attrs)[a*2+1]? =some (.int .i64 (S.attrs.getD S.label.toNat default).2):=fun h=>by obtain⟨a,ha⟩:=Bb h;have hal:a<S.attrs.length:=Ts;refine⟨a,ha,hal,?_⟩;rw[ha];simp only[Pz,List.getD,By hal];exact fD _ 2 (fun _=>rfl) S.attrs a 1 hal Tu
    refine Z4 O O O O O ?_;apply O3 9 63 72 [64,65,66,67,68,69,70,71] O TE
    ·intro hb3;obtain⟨a,ha,hal,hk2⟩:=hlv (Q8 hb3);have hane:=gB hal;iterate 4 refine A1 O ?_
     refine Rg 68 O O O (ae a underlying26 kT O O ha hal hane)<|A1 O ?_;first|refine A2 O Tv ?_|refine A1 O ?_
     exact Y2 O O<|OW TD O O O
    ·intro hb3;iterate 9 refine A1 O ?_
     exact OW TD O O O
    refine A1 O ?_;refine Gc O O (fun hc59=>?_) (fun hc59=>?_)
    ·exact Z1 O O<|Gt O<|⟨_,_,O,O,ag (PV.int .i64) (by rw[hcl,dw hn,AT (by simpa using hc59)])⟩
    ·exact OR<|Z1 O O<|Gt O<|⟨_,_,O,O,ag (PV.int .i64) (by rw[hcl,dw hn,dw (by rintro⟨h1,h2⟩;rw[Pn (show S.label>=0 from h1),Tc,bne_eq_false_iff_eq]at hc59;exact h2 hc59)])⟩
end
section
open Mk
theorem I6{α:Type}[DecidableEq α]{l:List α}{x:α}(h:¬x∈l):hasB l x=false:=by unfold hasB;exact Pt h
theorem Cj{α:Type}[DecidableEq α]{l:List α}{x:α}(h:x∈l):hasB l x=true:=by unfold hasB;exact Pn h
theorem gy{α:Type}{l:List α}{j k:Nat}(hj:j<k)(hl:j<l.length):l[j]∈l.take k:=QS.2 ⟨j,Ts,O⟩
theorem L2{S:Sch}(hlim:¬ (S.attrs.length=0\/12<S.attrs.length\/S.rels.length=0\/6<S.rels.length\/8<S.feats.length)){e:Int}(h0:e≠0):
  (bG (fC S) S.attrs.length=e->bp S=e)/\(bG (fC S) S.attrs.length=0->fE S=e->bp S=e)/\(bG (fC S) S.attrs.length=0->fE S=0->bG (jf S) S.feats.length=e->bp S=e):=by
 unfold bp;rw[dw hlim];refine⟨fun h=>?_,fun h1 h2=>?_,fun h1 h2 h3=>?_⟩
 ·rw[AT (by rw[h];exact h0),h]
 ·rw[dw (fun e=>e h1),AT (by rw[h2];exact h0),h2]
 ·rw[dw (fun e=>e h1),dw (fun e=>e h2),AT (by rw[h3];exact h0),h3]
theorem sA(S:Sch)(hS:SB S):FnP prog 83 [eZ S] (· = .int .i64 (bp S)):=by
 refine FnP.of func83 O ntmps83 Tw fun m0 w0 F R0=>?_
 have hb:=hS.a;have hb2:=hS.r;have hb3:=hS.f;refine Z2 O O O<|Gr O ?_;iterate 5 refine A1 O ?_
 apply O2 5 24 29 [25,26,27,28] O TE
 ·intro hb4;iterate 5 refine A1 O ?_
  exact OW TD O O O
 ·intro hb4;iterate 5 refine A1 O ?_
  exact OW TD O O O
 refine A1 O ?_;apply O2 5 30 35 [31,32,33,34] O TE
 ·intro hb10;iterate 5 refine A1 O ?_
  exact OW TD O O O
 ·intro hb10;iterate 5 refine A1 O ?_
  exact OW TD O O O
 refine A1 O ?_;apply O2 5 36 41 [37,38,39,40] O TE
 ·intro hb16;iterate 5 refine A1 O ?_
  exact OW TD O O O
 ·intro hb16;iterate 5 refine A1 O ?_
  exact OW TD O O O
 refine A1 O ?_;apply O2 5 42 47 [43,44,45,46] O TE
 ·intro hb22;iterate 5 refine A1 O ?_
  exact OW TD O O O
 ·intro hb22;iterate 5 refine A1 O ?_
  exact OW TD O O O
 refine Gc O O (fun hc47=>?_) (fun hc47=>?_)
 ·exact Z1 O O<|Gt O<|⟨_,_,O,O,ag (PV.int .i64) (by unfold bp;rw[AT ((xl S).1 hc47)])⟩
 ·have hlim:¬ (S.attrs.length=0\/12<S.attrs.length\/S.rels.length=0\/6<S.rels.length\/8<S.feats.length):=fun h=>by rw[(xl S).2 h]at hc47;cases hc47
  have hpre:=fun{e:Int}(h:e≠0)=>L2 (S:=S) hlim h
  refine OR<|Z4 O O O O O ?_;refine Gl O (st:=fun TC:Nat=>mkS [(1,.ptr 0 0),(49,.pv (.sl none S.attrs.length (aB S.attrs))),(50,pIi S.attrs.length),(51,pIi TC)] [(0,.mix 30 (sCc S))] 1)
   (I:=fun TC=>TC<=S.attrs.length/\bG (fC S) TC=0) (μ:=fun TC=>S.attrs.length-TC) (x0:=(0)) (OU (aS O) (aO O) O O) (⟨cd _,O⟩) ?_
  rintro k ⟨hk,hs⟩;refine Z1 O O ?_;refine Gp O O (fun hc52=>?_) (fun hc52=>?_)
  ·have hlt:k<S.attrs.length:=Ts;have hrow:=kB hlt;have hne:=gB hlt;have hae:=yk S k hlt;have hfin:∀e:Int,e≠0->fC S k=e->PV.int .i64 e= .int .i64 (bp S):=fun e h0 h1=>ag (PV.int .i64) (((hpre h0).1 (by rw[fi hs (by rw[h1];exact h0) hlt,h1])).symm)
   refine OR<|Z2 O O O<|Rs 55 O O (aR ⟨_,underlying162,O⟩ kT O hrow O)<|Y3 O O O<|Z2 O O O<|Rs 58 O O (aa call172 (p9 S.attrs[k].1 (hS.an _ (ar hlt))) O)<|A1 O ?_;refine Gc O O (fun hc59=>?_) (fun hc59=>?_)
   ·exact Z1 O O<|Gt O<|⟨_,_,O,O,hfin 14 Tu (by rw[hae,AT (by simpa using hc59)])⟩
   ·have hw:¬fI S.attrs[k].1=false:=by simpa using hc59
    refine OR<|Z1 O O ?_;refine Gl O (st:=fun x_1:Nat=>mkS [(1,.ptr 0 0),(3,pIi k),(4,.ptr 1 0),(5,pIi x_1),(49,.pv (.sl none S.attrs.length (aB S.attrs))),(50,pIi S.attrs.length),(51,pIi k)] [(0,.mix 30 (sCc S)),(1,.mix 162 [.pv (.str S.attrs[k].1),.pv (.int .i64 S.attrs[k].2)])] 2)
     (I:=fun x_1=>x_1<=k/\¬S.attrs[k].1∈(S.attrs.map (·.1)).take x_1) (μ:=fun x_1=>k-x_1) (x0:=(0)) (OU (aS O) (aO O) O O) (⟨cd _,Tw⟩) ?_
    rintro j ⟨hj,hno⟩;refine Z3 O O O O ?_;refine Gp O O (fun hc62=>?_) (fun hc62=>?_)
    ·have hjk:j<k:=Ts;have hjl:j<S.attrs.length:=Ts;have hnm:(aB S.attrs)[j*2+0]? =some (.str S.attrs[j].1):=fD _ 2 (fun _=>rfl) S.attrs j 0 hjl Tu;have hmm:j<(S.attrs.map (·.1)).length:=by simpa using hjl
     have hme:(S.attrs.map (·.1))[j]=S.attrs[j].1:=Tw;refine OR<|Ge O follows [0,1,2,3,4,5,6,7,8] Tt ?_;iterate 5 refine D1 O O ?_
     first|refine D2 O O Tv ?_|refine D1 O O ?_
     iterate 3 refine D1 O O ?_
     refine⟨Tt,?_⟩;refine Gc O O (fun hc73=>?_) (fun hc73=>?_)
     ·exact Z1 O O<|Gt O<|⟨_,_,O,O,hfin 9 Tu (by rw[hae,dw hw,AT (Cj (by rw[<-baT hc73,<-hme];exact gy hjk hmm))])⟩
     ·exact OR<|Z3 O O O O<|⟨(j+1),OU (aS O) (aO O) O O,⟨Ts,fp hmm hno (by rw[hme];exact baF hc73)⟩,Ts⟩
    ·have hno2:¬hasB ((S.attrs.map (·.1)).take k) S.attrs[k].1=true:=by rw[show j=k by omega]at hno;rw[I6 hno];decide
     refine Gx O<|Z4 O O O O O ?_;apply O2 4 77 81 [78,79,80] O TE
     ·intro hb3;iterate 4 refine A1 O ?_
      exact OW TD O O O
     ·intro hb3;iterate 4 refine A1 O ?_
      exact OW TD O O O
     refine Gc O O (fun hc81=>?_) (fun hc81=>?_)
     ·exact Z1 O O<|Gt O<|⟨_,_,O,O,hfin 7 Tu (by rw[hae,dw hw,dw hno2,AT (by simp at hc81;omega)])⟩
     ·exact OR<|Z2 O O O<|⟨(k+1),OU (aS O) (aO O) O O,⟨Ts,by rw[cR hs,hae,dw hw,dw hno2,dw (by simp at hc81;omega)]⟩,Ts⟩
  ·have hA:bG (fC S) S.attrs.length=0:=by rw[show S.attrs.length=k by omega];exact hs
   refine Gx O<|Gr O ?_;iterate 5 refine A1 O ?_
   refine Z4 O O O O O ?_;refine Gl O (st:=fun x_2:Nat×List Bool=>mkS [(1,.ptr 0 0),(6,.osl 1 1 S.attrs.length),(88,.pv (.sl none S.rels.length (aJ S.rels))),(89,pIi S.rels.length),(90,pIi x_2.1)] [(0,.mix 30 (sCc S)),(1,.cells 4 (bZ x_2.2))] 2)
    (I:=fun x_2=>x_2.1<=S.rels.length/\dv S.attrs.length x_2.2 (fun a=>(S.rels.take x_2.1).any fun x=>inB x.2 a)/\bG (ue S) x_2.1=0) (μ:=fun x_2=>S.rels.length-x_2.1) (x0:=(0,List.replicate S.attrs.length false)) (OU (aS O) ⟨O,ag (fun c=>some (Ob.cells 4 c)) ((ck (.bool false) (S.attrs.length*1)).trans Tw),TB⟩ O O) (⟨cd _,dv.zero _,O⟩) ?_
   rintro⟨ri,U⟩ ⟨hk,hU,hs⟩;try simp only at hk hU hs ⊢
   refine Z1 O O ?_;refine Gp O O (fun hc91=>?_) (fun hc91=>?_)
   ·have hlt:ri<S.rels.length:=Ts;have hrow:=dJ hlt;have hne:=fY hlt;have hre:=qW S ri hlt;have hul:=hU.1;have hll:=hS.rl _ (ar hlt);have hfin:∀e:Int,e≠0->ue S ri=e->PV.int .i64 e= .int .i64 (bp S):=fun e h0 h1=>ag (PV.int .i64) (((hpre h0).2.1 hA (by unfold fE;rw[fi hs (by rw[h1];exact h0) hlt,AT (by rw[h1];exact h0),h1])).symm)
    refine OR<|Z2 O O O<|Rs 94 O O (aR ⟨_,underlying74,O⟩ JV O hrow O)<|Y3 O O O<|Z2 O O O<|Rs 97 O O (aa call172 (p9 S.rels[ri].1 (hS.rn _ (ar hlt))) O)<|A1 O ?_;refine Gc O O (fun hc98=>?_) (fun hc98=>?_)
    ·exact Z1 O O<|Gt O<|⟨_,_,O,O,hfin 14 Tu (by rw[hre,AT (by simpa using hc98)])⟩
    ·have hw:¬fI S.rels[ri].1=false:=by simpa using hc98
     refine OR<|Z1 O O ?_;refine Gl O (st:=fun x_3:Nat=>mkS [(1,.ptr 0 0),(6,.osl 1 1 S.attrs.length),(7,pIi ri),(8,.ptr 2 0),(9,pIi x_3),(88,.pv (.sl none S.rels.length (aJ S.rels))),(89,pIi S.rels.length),(90,pIi ri)] [(0,.mix 30 (sCc S)),(1,.cells 4 (bZ U)),(2,.mix 74 [.pv (.str S.rels[ri].1),.pv (ai S.rels[ri].2)])] 3)
      (I:=fun x_3=>x_3<=ri/\¬S.rels[ri].1∈(S.rels.map (·.1)).take x_3) (μ:=fun x_3=>ri-x_3) (x0:=(0)) (OU (aS O) (aO O) O O) (⟨cd _,Tw⟩) ?_
     rintro j ⟨hj,hno⟩;refine Z3 O O O O ?_;refine Gp O O (fun hc101=>?_) (fun hc101=>?_)
     ·have hjk:j<ri:=Ts;have hjl:j<S.rels.length:=Ts;have hnm:(aJ S.rels)[j*2+0]? =some (.str S.rels[j].1):=fD _ 2 (fun _=>rfl) S.rels j 0 hjl Tu;have hmm:j<(S.rels.map (·.1)).length:=by simpa using hjl
      have hme:(S.rels.map (·.1))[j]=S.rels[j].1:=Tw;refine OR<|Ge O follows [0,1,2,3,4,5,6,7,8] Tt ?_;iterate 5 refine D1 O O ?_
      first|refine D2 O O Tv ?_|refine D1 O O ?_
      iterate 3 refine D1 O O ?_
      refine⟨Tt,?_⟩;refine Gc O O (fun hc112=>?_) (fun hc112=>?_)
      ·exact Z1 O O<|Gt O<|⟨_,_,O,O,hfin 9 Tu (by rw[hre,dw hw,AT (Cj (by rw[<-baT hc112,<-hme];exact gy hjk hmm))])⟩
      ·exact OR<|Z3 O O O O<|⟨(j+1),OU (aS O) (aO O) O O,⟨Ts,fp hmm hno (by rw[hme];exact baF hc112)⟩,Ts⟩
     ·have hno2:¬hasB ((S.rels.map (·.1)).take ri) S.rels[ri].1=true:=by rw[show j=ri by omega]at hno;rw[I6 hno];decide
      refine Gx O<|Z4 O O O O O ?_;refine Gc O O (fun hc116=>?_) (fun hc116=>?_)
      ·exact Z1 O O<|Gt O<|⟨_,_,O,O,hfin 7 Tu (by rw[hre,dw hw,dw hno2,AT (by have:=ibT hc116;apply PF;omega)])⟩
      ·have hl0:¬S.rels[ri].2=[]:=fun e=>by rw[e]at hc116;simp at hc116
       refine OR<|Z4 O O O O O ?_;refine Gl O (st:=fun x_4:Nat×List Bool=>mkS [(1,.ptr 0 0),(6,.osl 1 1 S.attrs.length),(8,.ptr 2 0),(88,.pv (.sl none S.rels.length (aJ S.rels))),(89,pIi S.rels.length),(90,pIi ri),(118,.pv (ai S.rels[ri].2)),(119,.pv (.int .i64 S.rels[ri].2.length)),(120,pIi x_4.1)] [(0,.mix 30 (sCc S)),(1,.cells 4 (bZ x_4.2)),(2,.mix 74 [.pv (.str S.rels[ri].1),.pv (ai S.rels[ri].2)])] 3)
        (I:=fun x_4=>x_4.1<=S.rels[ri].2.length/\dv S.attrs.length x_4.2 (fun a=>((S.rels.take ri).any fun x=>inB x.2 a)||inB (S.rels[ri].2.take x_4.1) a)/\∀a∈S.rels[ri].2.take x_4.1,0<=a/\a<S.attrs.length) (μ:=fun x_4=>S.rels[ri].2.length-x_4.1) (x0:=(0,U)) (OU (aS O) (aO O) O O) (⟨cd _,hU.congr (fun a _=>by simp[inB]),Tw⟩) ?_
       rintro⟨q,U2⟩ ⟨hq,hU2,hr⟩;try simp only at hq hU2 hr ⊢
       refine Z1 O O ?_;refine Gp O O (fun hc121=>?_) (fun hc121=>?_)
       ·have hql:q<S.rels[ri].2.length:=Ts;have hv:=aQ hql;have hne2:=aE hql;have hul2:=hU2.1;refine OR<|Z1 O O ?_;first|refine A2 O Tv ?_|refine A1 O ?_
        refine A1 O<|Z3 O O O O ?_;apply O2 5 126 131 [127,128,129,130] O TE
        ·intro hb2;iterate 5 refine A1 O ?_
         exact OW TD O O O
        ·intro hb2;iterate 5 refine A1 O ?_
         exact OW TD O O O
        refine Gc O O (fun hc131=>?_) (fun hc131=>?_)
        ·exact Z1 O O<|Gt O<|⟨_,_,O,O,hfin 2 Tu (by rw[hre,dw hw,dw hno2,dw hl0,AT (Jy hql (by simp at hc131;omega))])⟩
        ·have hx:0<=S.rels[ri].2[q]/\S.rels[ri].2[q]<S.attrs.length:=by simp at hc131;omega
         obtain⟨j,hj⟩:=Bb hx.1;exact OR<|Z2 O O O<|Rs 134 O O (aq j underlying215 sz4 O O O hj Ts)<|A1 O<|Z2 O O O<|⟨(q+1,U2.set j true),OU (aS O) ⟨O,by show some (Ob.cells _ _)=_;rw[<-tn];simp,O,TB⟩ O O,⟨Tz,(hU2.set (a:=j) Ts).congr (fun a _=>tM hql hj),xU hql hr hx⟩,Tz⟩
       ·have hrng:(S.rels[ri].2.all fun a=>decide (0<=a)&&decide (a<S.attrs.length))=true:=wM (fun a ha=>hr a (by rw[aX Ts];exact ha));refine Gx O<|Z1 O O ?_;refine Gl O (st:=fun x_5:Nat=>mkS [(1,.ptr 0 0),(6,.osl 1 1 S.attrs.length),(8,.ptr 2 0),(12,pIi x_5),(88,.pv (.sl none S.rels.length (aJ S.rels))),(89,pIi S.rels.length),(90,pIi ri)] [(0,.mix 30 (sCc S)),(1,.cells 4 (bZ U2)),(2,.mix 74 [.pv (.str S.rels[ri].1),.pv (ai S.rels[ri].2)])] 3)
         (I:=fun x_5=>1<=x_5/\∀i,i+1<x_5->i+1<S.rels[ri].2.length->S.rels[ri].2.getD i 0<S.rels[ri].2.getD (i+1) 0) (μ:=fun x_5=>S.rels[ri].2.length-x_5) (x0:=(1)) (OU (aS O) (aO O) O O) (⟨BY _,fun i hi=>by omega⟩) ?_
        rintro p ⟨hp1,hasc⟩;refine Gr O ?_;iterate 5 refine A1 O ?_
        refine Gp O O (fun hc140=>?_) (fun hc140=>?_)
        ·have hpl:p<S.rels[ri].2.length:=Ts;have hpl1:p-1<S.rels[ri].2.length:=Ts;have hv:=aQ hpl;have hv1:=aQ hpl1;have hne2:=aE hpl;refine OR<|Ge O follows [0,1,2,3,4,5,6,7,8,9,10,11] Tt ?_;iterate 4 refine D1 O O ?_
         first|refine D2 O O Tv ?_|refine D1 O O ?_
         iterate 4 refine D1 O O ?_
         refine Ds 152 [] O O O (fun τ h=>ae (p-1) underlying22 sz3 (Ee h 0 O O) (Ee h 1 O O) Ts Ts hne2) O Tt ?_;first|refine D2 O O Tv ?_|refine D1 O O ?_
         refine D1 O O ?_;refine⟨Tt,?_⟩;refine Gp O O (fun hc154=>?_) (fun hc154=>?_)
         ·exact Z1 O O<|Gt O<|⟨_,_,O,O,hfin 10 Tu (by rw[hre,dw hw,dw hno2,dw hl0,dw (by rw[hrng];decide),AT (JS hp1 hpl hc154)])⟩
         ·exact OR<|Z3 O O O O<|⟨(p+1),OU (aS O) (aO O) O O,⟨Ts,yH hpl hp1 hasc Ts⟩,Ts⟩
        ·exact Gx O<|Z2 O O O<|⟨(ri+1,U2),OU (aS O) (aO O) O O,⟨Tz,hU2.congr (fun a _=>yc hlt Ts),by simp only;rw[cR hs,hre,dw hw,dw hno2,dw hl0,dw (by rw[hrng];decide),dw (by rw[ve (fun i hi=>hasc i Ts hi)];decide)]⟩,Tz⟩
   ·have hR:bG (ue S) S.rels.length=0:=by rw[show S.rels.length=ri by omega];exact hs
    have hU3:dv S.attrs.length U (rG S):=by rw[aX Ts]at hU;exact hU
    have hul:=hU3.1;refine Gx O<|Z3 O O O O ?_;refine Gl O (st:=fun x_6:Nat=>mkS [(1,.ptr 0 0),(6,.osl 1 1 S.attrs.length),(156,.osl 1 1 S.attrs.length),(157,pIi S.attrs.length),(158,pIi x_6)] [(0,.mix 30 (sCc S)),(1,.cells 4 (bZ U))] 2)
     (I:=fun x_6=>x_6<=S.attrs.length/\∀b,b<x_6->rG S b=true) (μ:=fun x_6=>S.attrs.length-x_6) (x0:=(0)) (OU (aS O) (aO O) O O) (⟨cd _,fun b hb=>absurd hb (RJ _)⟩) ?_
    rintro a ⟨ha,hus⟩;refine Z1 O O ?_;refine Gp O O (fun hc159=>?_) (fun hc159=>?_)
    ·have hal:a<S.attrs.length:=Ts;have hua:=hU3.2 a hal;have hva:(bZ U)[a*1]? =some (.bool (rG S a)):=by rw[PX,Rv,hua];rfl
     refine OR<|Z1 O O ?_;first|refine A2 O Tv ?_|refine A1 O ?_
     refine A1 O<|Z2 O O O ?_;refine Gc O O (fun hc163=>?_) (fun hc163=>?_)
     ·exact Z1 O O<|Gt O<|⟨_,_,O,O,ag (PV.int .i64) (((hpre Tu).2.1 hA (by unfold fE;rw[dw (fun e=>e hR),AT (RV.2 ⟨a,P0.2 hal,by simpa using hc163⟩)])).symm)⟩
     ·exact OR<|Z2 O O O<|⟨(a+1),OU (aS O) (aO O) O O,⟨Ts,fun b hb=>by rcases RC.1 hb with h|rfl;exact hus b h;simpa using hc163⟩,Ts⟩
    ·have hRS:fE S=0:=sL hR (IN.2 fun b hb=>hus b (by have:=P0.1 hb;omega));refine Gx O<|Z4 O O O O O ?_;refine Gl O (st:=fun x_7:Nat=>mkS [(1,.ptr 0 0),(6,.osl 1 1 S.attrs.length),(166,.pv (.sl none S.feats.length (aC S.feats))),(167,pIi S.feats.length),(168,pIi x_7)] [(0,.mix 30 (sCc S)),(1,.cells 4 (bZ U))] 2)
      (I:=fun x_7=>x_7<=S.feats.length/\bG (jf S) x_7=0) (μ:=fun x_7=>S.feats.length-x_7) (x0:=(0)) (OU (aS O) (aO O) O O) (⟨cd _,O⟩) ?_
     rintro f ⟨hk,hs⟩;refine Z1 O O ?_;refine Gp O O (fun hc169=>?_) (fun hc169=>?_)
     ·have hlt:f<S.feats.length:=Ts;have hrow:=jV hlt;have hne:=nH hlt;have hfe:=n5 S f hlt;have hfin:∀e:Int,e≠0->jf S f=e->PV.int .i64 e= .int .i64 (bp S):=fun e h0 h1=>ag (PV.int .i64) (((hpre h0).2.2 hA hRS (by rw[fi hs (by rw[h1];exact h0) hlt,h1])).symm)
      refine OR<|Z2 O O O<|Rs 172 O O (aR ⟨_,underlying164,O⟩ wz O hrow O)<|Y3 O O O<|Z4 O O O O O ?_;apply O2 6 176 182 [177,178,179,180,181] O TE
      ·intro hb3;iterate 6 refine A1 O ?_
       exact OW TD O O O
      ·intro hb3;iterate 6 refine A1 O ?_
       exact OW TD O O O
      refine Gc O O (fun hc182=>?_) (fun hc182=>?_)
      ·exact Z1 O O<|Gt O<|⟨_,_,O,O,hfin 2 Tu (by rw[hfe,AT (by simp at hc182;omega)])⟩
      ·have hx:0<=S.feats[f].1/\S.feats[f].1<S.attrs.length:=by simp at hc182;omega
       obtain⟨a,ha⟩:=Bb hx.1;have hal:a<S.attrs.length:=Ts;have hk2:(aB S.attrs)[a*2+1]? =some (.int .i64 S.attrs[a].2):=fD _ 2 (fun _=>rfl) S.attrs a 1 hal Tu;have hane:=gB hal;have hkd:(S.attrs.getD S.feats[f].1.toNat default).2=S.attrs[a].2:=by rw[ha];simp[List.getD,hal]
       refine OR<|Z4 O O O O O ?_;apply O3 9 186 195 [187,188,189,190,191,192,193,194] O TE
       ·intro hb3;iterate 4 refine A1 O ?_
        apply O2 4 190 194 [191,192,193] O TE
        ·intro hb7;iterate 4 refine A1 O ?_
         exact OW TD O O O
        ·intro hb7;iterate 4 refine A1 O ?_
         exact OW TD O O O
        exact A1 O<|OW TD O O O
       ·intro hb3;iterate 9 refine A1 O ?_
        exact OW TD O O O
       refine A1 O ?_;apply O3 9 196 205 [197,198,199,200,201,202,203,204] O TE
       ·intro hb13;iterate 4 refine A1 O ?_
        refine Rg 201 O O O (ae a underlying26 kT O O ha hal hane)<|A1 O ?_;first|refine A2 O Tv ?_|refine A1 O ?_
        exact Y2 O O<|OW TD O O O
       ·intro hb13;iterate 9 refine A1 O ?_
        exact OW TD O O O
       refine A1 O<|Z4 O O O O O ?_;apply O3 4 209 213 [210,211,212] O TE
       ·intro hb3;iterate 4 refine A1 O ?_
        exact OW TD O O O
       ·intro hb3;iterate 4 refine A1 O ?_
        exact OW TD O O O
       refine A1 O ?_;apply O3 9 214 223 [215,216,217,218,219,220,221,222] O TE
       ·intro hb8;iterate 4 refine A1 O ?_
        refine Rg 219 O O O (ae a underlying26 kT O O ha hal hane)<|A1 O ?_;first|refine A2 O Tv ?_|refine A1 O ?_
        exact Y2 O O<|OW TD O O O
       ·intro hb8;iterate 9 refine A1 O ?_
        exact OW TD O O O
       refine A1 O<|Z3 O O O O ?_;apply O3 3 226 229 [227,228] O TE
       ·intro hb2;exact Y3 O O O<|OW TD O O O
       ·intro hb2;exact Y3 O O O<|OW TD O O O
       refine Gc O O (fun hc229=>?_) (fun hc229=>?_)
       ·exact Z1 O O<|Gt O<|⟨_,_,O,O,hfin 7 Tu (by rw[hfe,dw Ts,hkd,AT (by revert hc229;generalize (S.feats[f].2.1==1)=b1;generalize (S.feats[f].2.2==0)=b2;generalize (S.feats[f].2.2==1)=b3;generalize (S.attrs[a].2==2)=b4;generalize (S.feats[f].2.1==2)=b5;generalize (S.attrs[a].2==3)=b6;cases b1<;>cases b2<;>cases b3<;>cases b4<;>cases b5<;>cases b6<;>decide)])⟩
       ·have hkind:¬ ((S.feats[f].2.1==1&&S.attrs[a].2==2&&(S.feats[f].2.2==0||S.feats[f].2.2==1))||(S.feats[f].2.1==2&&S.attrs[a].2==3&&S.feats[f].2.2==0))=false:=by revert hc229;generalize (S.feats[f].2.1==1)=b1;generalize (S.feats[f].2.2==0)=b2;generalize (S.feats[f].2.2==1)=b3;generalize (S.attrs[a].2==2)=b4;generalize (S.feats[f].2.1==2)=b5;generalize (S.attrs[a].2==3)=b6;cases b1<;>cases b2<;>cases b3<;>cases b4<;>cases b5<;>cases b6<;>decide
        refine OR<|Z1 O O ?_;refine Gl O (st:=fun x_8:Nat=>mkS [(1,.ptr 0 0),(6,.osl 1 1 S.attrs.length),(15,pIi f),(16,.ptr 2 0),(19,pIi x_8),(166,.pv (.sl none S.feats.length (aC S.feats))),(167,pIi S.feats.length),(168,pIi f)] [(0,.mix 30 (sCc S)),(1,.cells 4 (bZ U)),(2,.mix 164 [.pv (.int .i64 S.feats[f].1),.pv (.int .i64 S.feats[f].2.1),.pv (.int .i64 S.feats[f].2.2)])] 3)
         (I:=fun x_8=>x_8<=f/\((S.feats.take x_8).any fun g=>g.1==S.feats[f].1)=false) (μ:=fun x_8=>f-x_8) (x0:=(0)) (OU (aS O) (aO O) O O) (⟨cd _,O⟩) ?_
        rintro j ⟨hj,hno⟩;refine Z3 O O O O ?_;refine Gp O O (fun hc232=>?_) (fun hc232=>?_)
        ·have hjk:j<f:=Ts;have hjl:j<S.feats.length:=Ts;have hnm:(aC S.feats)[j*3+0]? =some (.int .i64 S.feats[j].1):=fD _ 3 (fun _=>rfl) S.feats j 0 hjl Tu;refine OR<|Ge O follows [0,1,2,3,4,5,6,7,8] Tt ?_;iterate 5 refine D1 O O ?_
         first|refine D2 O O Tv ?_|refine D1 O O ?_
         iterate 3 refine D1 O O ?_
         refine⟨Tt,?_⟩;refine Gc O O (fun hc243=>?_) (fun hc243=>?_)
         ·exact Z1 O O<|Gt O<|⟨_,_,O,O,hfin 9 Tu (by rw[hfe,dw Ts,hkd,dw hkind,AT (by rw[PQ];exact .inr (Qy.2 ⟨S.feats[j],gy hjk hjl,hc243⟩))])⟩
         ·exact OR<|Z3 O O O O<|⟨(j+1),OU (aS O) (aO O) O O,⟨Ts,fr hjl hno hc243⟩,Ts⟩
        ·rw[show j=f by omega]at hno;refine Gx O<|Gr O ?_;iterate 5 refine A1 O ?_
         refine Gc O O (fun hc248=>?_) (fun hc248=>?_)
         ·exact Z1 O O<|Gt O<|⟨_,_,O,O,hfin 9 Tu (by rw[hfe,dw Ts,hkd,dw hkind,AT (by rw[PQ];exact .inl hc248)])⟩
         ·exact OR<|Z2 O O O<|⟨(f+1),OU (aS O) (aO O) O O,⟨Ts,by rw[cR hs,hfe,dw Ts,hkd,dw hkind,dw (by rw[hno,hc248];decide)]⟩,Ts⟩
     ·have hF:bG (jf S) S.feats.length=0:=by rw[show S.feats.length=f by omega];exact hs
      have hcl:=nk hlim hA hRS hF;refine Gx O<|Z4 O O O O O ?_;apply O2 6 253 259 [254,255,256,257,258] O TE
      ·intro hb3;iterate 6 refine A1 O ?_
       exact OW TD O O O
      ·intro hb3;iterate 6 refine A1 O ?_
       exact OW TD O O O
      refine Gc O O (fun hc259=>?_) (fun hc259=>?_)
      ·exact Z1 O O<|Gt O<|⟨_,_,O,O,ag (PV.int .i64) (by rw[hcl,AT (by simpa using hc259)])⟩
      ·have hn:¬ (S.label< -1\/(S.attrs.length:Int)<=S.label):=by simpa using hc259
       refine OR ?_;have hlv:0<=S.label->∃(a:Nat),S.label=(a:Int)/\a<S.attrs.length/\(aB S.attrs)[a*2+1]? =some (.int .i64 (S.attrs.getD S.label.toNat default).2):=fun h=>by obtain⟨a,ha⟩:=Bb h;have hal:a<S.attrs.length:=Ts;refine⟨a,ha,hal,?_⟩;rw[ha];simp only[Pz,List.getD,By hal];exact fD _ 2 (fun _=>rfl) S.attrs a 1 hal Tu
       refine Z4 O O O O O ?_;apply O3 9 263 272 [264,265,266,267,268,269,270,271] O TE
       ·intro hb3;obtain⟨a,ha,hal,hk2⟩:=hlv (Q8 hb3);have hane:=gB hal;iterate 4 refine A1 O ?_
        refine Rg 268 O O O (ae a underlying26 kT O O ha hal hane)<|A1 O ?_;first|refine A2 O Tv ?_|refine A1 O ?_
        exact Y2 O O<|OW TD O O O
       ·intro hb3;iterate 9 refine A1 O ?_
        exact OW TD O O O
       refine Gc O O (fun hc272=>?_) (fun hc272=>?_)
       ·exact Z1 O O<|Gt O<|⟨_,_,O,O,ag (PV.int .i64) (by rw[hcl,dw hn,AT (by simpa using hc272)])⟩
       ·exact OR<|Z1 O O<|Gt O<|⟨_,_,O,O,ag (PV.int .i64) (by rw[hcl,dw hn,dw (by rintro⟨h1,h2⟩;rw[Pn (show S.label>=0 from h1),Tc,bne_eq_false_iff_eq]at hc272;exact h2 hc272)])⟩
end
def upF(P:List Int):Nat->Int->Option (List Int)
 |0,x=>if x<0 then some []else none
 |k+1,x=>if x<0 then some []else(upF P k (P.getD x.toNat 0)).map (x:: ·)
def abv(P:List Int)(v:Int):Option (List Int):=upF P P.length (P.getD v.toNat 0)
def bP(P:List Int)(v:Int):List Int:=(abv P v).getD []
def hiB(P:List Int)(a b:Int):Bool:=decide (a∈bP P b)
def cH(P:List Int)(l:List Int):Bool:=l.all fun a=>l.all fun b=>a==b||hiB P a b||hiB P b a
def lW(S:Sch)(P:List Int):Int:=
 if bp S≠0 then bp S
 else if P.length≠S.attrs.length then 5
 else if(P.any fun p=>decide (p< -1)||decide ((P.length:Int)<=p))=true then 2
 else if((List.range P.length).all fun v=>(abv P v).isSome)=false then 13
 else if(S.rels.all fun r=>cH P r.2)=false then 13 else 0
def dD(P:List Int)(v:Int):List Int:=((List.range P.length).map Int.ofNat).filter fun a=>a==v||hiB P v a
def fa(S:Sch)(a b:Int):Bool:=S.rels.any fun r=>decide (a∈r.2)&&decide (b∈r.2)
def JB(S:Sch)(P:List Int)(v:Int):List Int:=(bP P v).filter fun a=>(dD P v).any fun b=>fa S a b
theorem fA{P:List Int}{k:Nat}{x:Int}(h:x<0):upF P k x=some []:=by
 cases k<;>simp[upF,h]
theorem sn{P:List Int}{k a:Nat}(ha:a<P.length):upF P (k+1) (a:Int)=(upF P k P[a]).map ((a:Int):: ·):=by
 have h:¬ ((a:Int)<0):=Ts;simp[upF,List.getD,ha,h]
theorem yz{P:List Int}{x:Int}(h:0<=x):upF P 0 x=none:=by
 simp[upF];omega
theorem CQ{P:List Int}:∀{k:Nat}{x:Int}{l:List Int},upF P k x=some l->l.length<=k
 | 0,x,l,h=>by
   simp only[upF]at h;split at h
   ·cases h;simp
   ·cases h
 | k+1,x,l,h=>by
   simp only[upF]at h;split at h
   ·cases h;simp
   ·cases e:upF P k (P.getD x.toNat 0)with
    |none=>rw[e]at h;cases h
    |some l'=>rw[e]at h;cases h;simp;exact CQ e
theorem iI(P:List Int)(v:Int):(bP P v).length<=P.length:=by
 unfold bP;cases h:abv P v with
 |none=>simp
 |some l=>exact CQ h
section
open Mk
abbrev lR(P:List Int):PV:= .agg [ai P]
theorem O9(L:List Int):(L.map (PV.int .i64)).take (L.length*1)=L.map (PV.int .i64):=aX Tw
theorem qk(P:List Int)(v:Nat)(hv:v<P.length)(hP:∀p∈P,p<P.length)(hn:P.length<=1000000):FnP prog 160 [lR P,.int .i64 v] (· = .tup [ai (bP P v),.bool (abv P v).isSome]):=by
 refine FnP.of func160 O ntmps160 Tw fun m0 w0 F R0=>?_
 have hv0:=aQ hv;have hne:=aE hv;have hab:abv P v=upF P P.length P[v]:=by simp[abv,List.getD,hv]
 refine Z3 O O O O<|Z1 O O<|OT (OZ 6 1 1 3 O O)<|Z4 O O O O O ?_;first|refine A2 O Tv ?_|refine A1 O ?_
 refine A1 O ?_;refine Gl O (st:=fun TC:List Int×Int=>mkS [(2,.ptr 0 0),(6,.gsl 1 1 TC.1.length),(7,pIi TC.2)] [(0,.mix 32 [.pv (ai P)]),(1,.gro 3 (aF TC.1))] 2)
  (I:=fun TC=>TC.1.length<=P.length/\TC.2<P.length/\abv P v=(upF P (P.length-TC.1.length) TC.2).map (TC.1++ ·)) (μ:=fun TC=>P.length-TC.1.length) (x0:=([],P[v])) (OU (aS O) (aO O) O O) (⟨cd _,hP _ (ar hv),by rw[hab];simp⟩) ?_
 rintro⟨L,x⟩ ⟨hl,hx,hu⟩;try simp only at hl hx hu ⊢
 refine Z2 O O O ?_;refine Gp O O (fun hc14=>?_) (fun hc14=>?_)
 ·obtain⟨a,rfl⟩:=Bb hc14;have ha:a<P.length:=Ts;have hva:=aQ ha;have hsl:(aF L).length=L.length*1:=Tw;refine OR<|Gr O ?_;iterate 6 refine A1 O ?_
  refine Gc O O (fun hc25=>?_) (fun hc25=>?_)
  ·have hle:L.length=P.length:=by have:=ibT hc25;omega
   have hno:abv P v=none:=by rw[hu,hle,SO,yz Ts];rfl
   exact OT (St.lK [])<|Z2 O O O<|OT (St.lK [4])<|Gt O<|⟨_,_,O,O,by unfold bP;rw[hno];rfl⟩
  ·have hlt:L.length<P.length:=by have:=ibF hc25;omega
   refine OR<|Gr O ?_;iterate 5 refine A1 O ?_
   refine Z4 O O O O O ?_;first|refine A2 O Tv ?_|refine A1 O ?_
   exact A1 O<|⟨(L++[(a:Int)],P[a]),OV [0,3] ⟨O,by simp;rfl,O,TB⟩ ⟨O,ag (fun c=>some (Ob.gro 3 c)) (eI L a).symm,TB⟩ O O Tu O,⟨Tx,hP _ (ar ha),by rw[hu,show P.length-L.length=P.length-(L++[(a:Int)]).length+1 by simp;omega,sn ha,Option.map_map];congr 1;funext l;simp⟩,Tx⟩
 ·exact Gx O<|OT (OX 1 O O)<|Z3 O O O O<|Gt O<|⟨_,_,O,O,by rw[show abv P v=some L by rw[hu,fA Ts];simp];unfold bP;rw[show abv P v=some L by rw[hu,fA Ts];simp];simp[O9];rfl⟩
theorem nQ(P:List Int)(a b:Int)(hb0:0<=b)(hb:b<P.length)(hP:∀p∈P,p<P.length)(hn:P.length<=1000000):FnP prog 251 [lR P,.int .i64 a,.int .i64 b] (· = .bool (hiB P a b)):=by
 obtain⟨v,rfl⟩:=Bb hb0;refine FnP.of func251 O ntmps251 Tw fun m0 w0 F R0=>?_
 have hl:=iI P v;refine Z2 O O O<|Z2 O O O<|Rs 12 O O (aa call160 (qk P v Ts hP hn) O) ?_;iterate 5 refine A1 O ?_
 exact Z2 O O O<|Rs 17 O O (aa call321 (r4 (bP P v) a Ts) O)<|A1 O<|Gt O<|⟨_,_,O,O,O⟩
abbrev NQ(r:ByteArray×List Int):PV:= .agg [.str r.1,ai r.2]
theorem j0{α:Type}{l:List α}{p:α->Bool}{k:Nat}(hk:k<l.length)(h:(l.take k).all p=true)(hn:p l[k]=true):(l.take (k+1)).all p=true:=by
 rw[bC hk];simp only[SI,h,RB,hn,To,Sf]
theorem mY{α:Type}{l:List α}{p:α->Bool}{k:Nat}(hk:k<l.length)(h:p l[k]=false):l.all p=false:=by
 rw[RV];exact⟨_,ar hk,by rw[h];decide⟩
theorem Bp(a b:Int)(p q:Bool):((a !=b&& !p)&& !q)= !(a==b||p||q):=by
 rw[bne];cases (a==b)<;>cases p<;>cases q<;>rfl
theorem AH(P:List Int)(r:ByteArray×List Int)(hr:∀a∈r.2,0<=a/\a<P.length)(hl:r.2.length<=1000000)(hP:∀p∈P,p<P.length)(hn:P.length<=1000000):FnP prog 163 [lR P,NQ r] (· = .bool (cH P r.2)):=by
 refine FnP.of func163 O ntmps163 Tw fun m0 w0 F R0=>?_
 refine Z3 O O O O<|Z4 O O O O O ?_;refine Gl O (st:=fun TC:Nat=>mkS [(2,.ptr 0 0),(3,.ptr 1 0),(10,.pv (ai r.2)),(11,pIi r.2.length),(12,pIi TC)] [(0,.mix 32 [.pv (ai P)]),(1,.mix 74 [.pv (.str r.1),.pv (ai r.2)])] 2)
  (I:=fun TC=>TC<=r.2.length/\((r.2.take TC).all fun a=>r.2.all fun b=>a==b||hiB P a b||hiB P b a)=true) (μ:=fun TC=>r.2.length-TC) (x0:=(0)) (OU (aS O) (aO O) O O) (⟨cd _,O⟩) ?_
 rintro k ⟨hk,hall⟩;refine Z1 O O ?_;refine Gp O O (fun hc13=>?_) (fun hc13=>?_)
 ·have hlt:k<r.2.length:=Ts;have hva:=aQ hlt;have hne:=aE hlt;have hka:=hr _ (ar hlt);refine OR<|Z1 O O ?_;first|refine A2 O Tv ?_|refine A1 O ?_
  refine A1 O<|Z4 O O O O O ?_;refine Gl O (st:=fun x_1:Nat=>mkS [(2,.ptr 0 0),(3,.ptr 1 0),(6,.pv (.int .i64 r.2[k])),(10,.pv (ai r.2)),(11,pIi r.2.length),(12,pIi k),(17,.pv (ai r.2)),(18,pIi r.2.length),(19,pIi x_1)] [(0,.mix 32 [.pv (ai P)]),(1,.mix 74 [.pv (.str r.1),.pv (ai r.2)])] 2)
   (I:=fun x_1=>x_1<=r.2.length/\((r.2.take x_1).all fun b=>r.2[k]==b||hiB P r.2[k] b||hiB P b r.2[k])=true) (μ:=fun x_1=>r.2.length-x_1) (x0:=(0)) (OU (aS O) (aO O) O O) (⟨cd _,O⟩) ?_
  rintro j ⟨hj,hall2⟩;refine Z1 O O ?_;refine Gp O O (fun hc20=>?_) (fun hc20=>?_)
  ·have hlt2:j<r.2.length:=Ts;have hvb:=aQ hlt2;have hja:=hr _ (ar hlt2);refine OR<|Z1 O O ?_;first|refine A2 O Tv ?_|refine A1 O ?_
   refine A1 O<|Z4 O O O O O ?_;apply O3 6 26 32 [27,28,29,30,31] O TE
   ·intro hb3;exact Y3 O O O<|Rg 30 O O O (aa call251 (nQ P r.2[k] r.2[j] hja.1 hja.2 hP hn) O)<|Y2 O O<|OW TD O O O
   ·intro hb3;iterate 6 refine A1 O ?_
    exact OW TD O O O
   refine A1 O ?_;apply O3 6 33 39 [34,35,36,37,38] O TE
   ·intro hb10;exact Y3 O O O<|Rg 37 O O O (aa call251 (nQ P r.2[j] r.2[k] hka.1 hka.2 hP hn) O)<|Y2 O O<|OW TD O O O
   ·intro hb10;iterate 6 refine A1 O ?_
    exact OW TD O O O
   refine Gc O O (fun hc39=>?_) (fun hc39=>?_)
   ·rw[Bp,Rm]at hc39;exact Z1 O O<|Gt O<|⟨_,_,O,O,ag PV.bool (by unfold cH;rw[mY hlt (mY hlt2 hc39)])⟩
   ·rw[Bp,Bool.not_eq_false']at hc39;exact OR<|Z2 O O O<|⟨(j+1),OU (aS O) (aO O) O O,⟨Ts,j0 hlt2 hall2 hc39⟩,Ts⟩
  ·rw[aX Ts]at hall2;exact Gx O<|Z2 O O O<|⟨(k+1),OU (aS O) (aO O) O O,⟨Ts,j0 hlt hall hall2⟩,Ts⟩
 ·rw[aX Ts]at hall;exact Gx O<|Z1 O O<|Gt O<|⟨_,_,O,O,ag PV.bool (by unfold cH;rw[hall])⟩
theorem wx(P:List Int)(r:ByteArray×List Int)(hr:∀a∈r.2,0<=a/\a<P.length)(hl:r.2.length<=1000000)(hP:∀p∈P,p<P.length)(hn:P.length<=1000000):FnP prog 162 [NQ r,.rp [ai P] 0] (· = .bool (!cH P r.2)):=by
 refine FnP.of func162 O ntmps162 Tw fun m0 w0 F R0=>?_
 refine Z2 O O O<|Gr O ?_;first|refine A1 O ?_|refine A3 O Tv ?_
 exact A1 O<|Rs 6 O O (aa call163 (AH P r hr hl hP hn) O)<|Y2 O O<|Gt O<|⟨_,_,O,O,O⟩
theorem Bu(l:List (ByteArray×List Int))(g:FuncId)(caps:List PV)(p:ByteArray×List Int->Bool)(hl:l.length<=1000000)(hc:cu prog g)(hg:∀f∈l,FnP prog g ([]++[NQ f]++caps) (· = .bool (p f))):
  FnP prog 250 [.sl none l.length (aJ l),.fn (.func g) [] caps] (fun v=>∃i:Int,v= .int .i64 i/\decide (0<=i)=l.any p):=by
 refine FnP.of func250 O ntmps250 Tw fun m0 w0 F R0=>?_
 refine Z1 O O<|Z3 O O O O ?_;refine Gl O (st:=fun TC:Nat=>mkS [(0,.pv (.sl none l.length (aJ l))),(1,.pv (.fn (.func g) [] caps)),(7,pIi l.length),(8,pIi TC)] [] 0)
  (I:=fun TC=>TC<=l.length/\(l.take TC).any p=false) (μ:=fun TC=>l.length-TC) (x0:=(0)) (OU (aS O) trivial O O) (⟨cd _,O⟩) ?_
 rintro k ⟨hk,hno⟩;refine Z1 O O ?_;refine Gp O O (fun hc9=>?_) (fun hc9=>?_)
 ·have hlt:k<l.length:=Ts;have hrow:=dJ hlt;have hne:=fY hlt;have hgk:=hg _ (ar hlt);refine OR<|Z2 O O O<|Z4 O O O O O<|Rs 15 O O (aR ⟨_,underlying74,O⟩ JV O hrow O)<|Rs 16 O O (gE hc O hgk O) ?_;refine Gc O O (fun hc16=>?_) (fun hc16=>?_)
  ·exact Z2 O O O<|Gt O<|⟨_,_,O,O,_,O,by rw[pJ hlt hc16];exact Pn Ts⟩
  ·exact OR<|Z2 O O O<|⟨(k+1),OU (aS O) trivial O O,⟨Ts,fr hlt hno hc16⟩,Ts⟩
 ·exact Gx O<|Z1 O O<|Gt O<|⟨_,_,O,O,_,O,by rw[aX Ts]at hno;rw[hno];rfl⟩
theorem o5(l:List (ByteArray×List Int))(g:FuncId)(caps:List PV)(p:ByteArray×List Int->Bool)(hl:l.length<=1000000)(hc:cu prog g)(hg:∀f∈l,FnP prog g ([]++[NQ f]++caps) (· = .bool (p f))):
  FnP prog 161 [.sl none l.length (aJ l),.fn (.func g) [] caps] (· = .bool (l.any p)):=by
 refine FnP.of func161 O ntmps161 Tw fun m0 w0 F R0=>?_
 refine Z1 O O<|Z2 O O O ?_;refine RL.call O (jz call250 (Bu l g caps p hl hc hg) O ?_);rintro _ ⟨i,rfl,hi⟩;exact Y2 O O<|Gt O<|⟨_,_,O,O,ag PV.bool hi⟩
structure Valid(S:Sch):Prop where
 n1:1<=S.attrs.length
 n2:S.attrs.length<=12
 r1:1<=S.rels.length
 r2:S.rels.length<=6
 ne:∀r∈S.rels,r.2≠[]
 rng:∀r∈S.rels,∀a∈r.2,0<=a/\a<S.attrs.length
 asc:∀r∈S.rels,FL r.2=true
 use:∀a,a<S.attrs.length->∃r∈S.rels,(a:Int)∈r.2
theorem gH{S:Sch}(h:bp S=0):Valid S:=by
 unfold bp at h;split at h
 ·cases h
 ·rename_i hlim;split at h
  ·rename_i h1;exact absurd h h1
  ·split at h
   ·rename_i h1;exact absurd h h1
   ·rename_i _ hr;have hr:fE S=0:=PT hr;unfold fE at hr;split at hr
    ·rename_i h1;exact absurd hr h1
    ·rename_i hs;have hs:bG (ue S) S.rels.length=0:=PT hs;split at hr
     ·cases hr
     ·rename_i hu;have hrel:∀r∈S.rels,r.2≠[]/\(r.2.all fun a=>decide (0<=a)&&decide (a<S.attrs.length))=true/\FL r.2=true:=by
       intro r hr;obtain⟨i,hi,rfl⟩:=Q0 hr;have he:=iJ.1 hs i hi;unfold ue at he;rw[show S.rels.getD i default=S.rels[i] by simp[List.getD,hi]]at he;split at he
       ·rename_i h1;exact absurd he h1
       ·split at he
        ·cases he
        ·split at he
         ·cases he
         ·split at he
          ·cases he
          ·rename_i h1 h2 h3;exact⟨h1,by simpa using h2,by simpa using h3⟩
      refine⟨Ts,Ts,Ts,Ts,fun r hr=>(hrel r hr).1,fun r hr a ha=>?_,fun r hr=>(hrel r hr).2.2,fun a ha=>?_⟩
      ·have:=IN.1 (hrel r hr).2.1 a ha;simpa using this
      ·have hu:((List.range S.attrs.length).all fun a=>rG S a)=true:=by simpa using hu
       have:=IN.1 hu a (P0.2 ha);unfold rG at this;obtain⟨r,hr,hm⟩:=Qy.1 this;exact⟨r,hr,by simpa[inB]using hm⟩
theorem eB(S:Sch)(hS:SB S)(P:List Int)(hn:P.length<=1000000):FnP prog 72 [eZ S,lR P] (· = .int .i64 (lW S P)):=by
 refine FnP.of func72 O ntmps72 Tw fun m0 w0 F R0=>?_
 have hb:=hS.a;refine Z3 O O O O<|Z1 O O<|Rs 12 O O (aa call159 (qz S hS) O)<|A1 O<|Z2 O O O ?_;refine Gc O O (fun hc14=>?_) (fun hc14=>?_)
 ·exact Z2 O O O<|Gt O<|⟨_,_,O,O,ag (PV.int .i64) (by unfold lW;rw[AT (inT hc14)])⟩
 ·have h0:bp S=0:=inF hc14;have hra:=(gH h0).rng;refine OR<|Gr O ?_;iterate 7 refine A1 O ?_
  refine Gc O O (fun hc22=>?_) (fun hc22=>?_)
  ·have hne0:¬P.length=S.attrs.length:=by have:=inT hc22;omega
   exact Z1 O O<|Gt O<|⟨_,_,O,O,ag (PV.int .i64) (by unfold lW;rw[dw (fun h=>h h0),AT hne0])⟩
  ·have heq:P.length=S.attrs.length:=by have:=inF hc22;omega
   refine OR<|Z4 O O O O O ?_;refine Gl O (st:=fun TC:Nat=>mkS [(2,.ptr 0 0),(3,.ptr 1 0),(24,.pv (ai P)),(25,pIi P.length),(26,pIi TC)] [(0,.mix 30 (sCc S)),(1,.mix 32 [.pv (ai P)])] 2)
    (I:=fun TC=>TC<=P.length/\((P.take TC).any fun p=>decide (p< -1)||decide ((P.length:Int)<=p))=false) (μ:=fun TC=>P.length-TC) (x0:=(0)) (OU (aS O) (aO O) O O) (⟨cd _,O⟩) ?_
   rintro k ⟨hk,hany⟩;refine Z1 O O ?_;refine Gp O O (fun hc27=>?_) (fun hc27=>?_)
   ·have hlt:k<P.length:=Ts;have hva:=aQ hlt;have hne:=aE hlt;refine OR<|Z1 O O ?_;first|refine A2 O Tv ?_|refine A1 O ?_
    refine A1 O<|Z3 O O O O ?_;apply O2 6 32 38 [33,34,35,36,37] O TE
    ·intro hb2;iterate 6 refine A1 O ?_
     exact OW TD O O O
    ·intro hb2;iterate 6 refine A1 O ?_
     exact OW TD O O O
    refine Gc O O (fun hc38=>?_) (fun hc38=>?_)
    ·exact Z1 O O<|Gt O<|⟨_,_,O,O,ag (PV.int .i64) (by unfold lW;rw[dw (fun h=>h h0),dw (fun h=>h heq),AT (pJ hlt hc38)])⟩
    ·exact OR<|Z2 O O O<|⟨(k+1),OU (aS O) (aO O) O O,⟨Ts,fr hlt hany hc38⟩,Ts⟩
   ·rw[aX Ts]at hany;have hP:∀p∈P,p<P.length:=fun p hp=>by have:=S9.1 hany p hp;simp at this;omega
    refine Gx O<|Z4 O O O O O ?_;refine Gl O (st:=fun x_1:Nat=>mkS [(2,.ptr 0 0),(3,.ptr 1 0),(42,pIi P.length),(43,pIi x_1)] [(0,.mix 30 (sCc S)),(1,.mix 32 [.pv (ai P)])] 2)
     (I:=fun x_1=>x_1<=P.length/\((List.range x_1).all fun v=>(abv P v).isSome)=true) (μ:=fun x_1=>P.length-x_1) (x0:=(0)) (OU (aS O) (aO O) O O) (⟨cd _,O⟩) ?_
    rintro q ⟨hq,hall⟩;refine Z1 O O ?_;refine Gp O O (fun hc44=>?_) (fun hc44=>?_)
    ·have hlt:q<P.length:=Ts;refine OR<|Z2 O O O<|Z2 O O O<|Rs 49 O O (aa call160 (qk P q hlt hP hn) O) ?_;iterate 5 refine A1 O ?_
     refine Z2 O O O ?_;refine Gc O O (fun hc53=>?_) (fun hc53=>?_)
     ·have hno:((List.range P.length).all fun v=>(abv P v).isSome)=false:=RV.2 ⟨q,P0.2 hlt,by simpa using hc53⟩;exact Z1 O O<|Gt O<|⟨_,_,O,O,ag (PV.int .i64) (by unfold lW;rw[dw (fun h=>h h0),dw (fun h=>h heq),dw (by rw[hany];decide),AT hno])⟩
     ·exact OR<|Z2 O O O<|⟨(q+1),OU (aS O) (aO O) O O,⟨Ts,by rw[SL,SI,hall];simpa using hc53⟩,Ts⟩
    ·obtain rfl:q=P.length:=Ts;refine Gx O<|OT (St.iB 1 O O) ?_;have hal:∀r∈S.rels,FnP prog 162 ([]++[NQ r]++[.rp [ai P] 0]) (· = .bool (!cH P r.2)):=fun r hr=>wx P r (by rw[heq];exact hra r hr) (hS.rl r hr) hP hn
     refine Z3 O O O O<|Rs 58 O O (aa call161 (o5 S.rels 162 [.rp [ai P] 0] (fun r=> !cH P r.2) hS.r call162 hal) O) ?_;refine Gc O O (fun hc58=>?_) (fun hc58=>?_)
     ·have hno:(S.rels.all fun r=>cH P r.2)=false:=by rw[List.any_eq_not_all_not]at hc58;simpa using hc58
      exact Z1 O O<|Gt O<|⟨_,_,O,O,ag (PV.int .i64) (by unfold lW;rw[dw (fun h=>h h0),dw (fun h=>h heq),dw (by rw[hany];decide),dw (by rw[hall];decide),AT hno])⟩
     ·have hno:(S.rels.all fun r=>cH P r.2)=true:=by rw[List.any_eq_not_all_not]at hc58;simpa using hc58
      exact OR<|Z1 O O<|Gt O<|⟨_,_,O,O,ag (PV.int .i64) (by unfold lW;rw[dw (fun h=>h h0),dw (fun h=>h heq),dw (by rw[hany];decide),dw (by rw[hall];decide),dw (by rw[hno];decide)])⟩
end
section
open Go.RowKit Go.MapKept
def bj:List PV->List PV->Option Bool
 |[],[]=>some true
 | .int k a::xs,.int k' b::bs=>bif kEq k k' then(bj xs bs).map fun r=>(a==b)&&r else none
 | .str a::xs,.str b::bs=>(bj xs bs).map fun r=>(a==b)&&r
 | .bool a::xs,.bool b::bs=>(bj xs bs).map fun r=>(a==b)&&r
 |_,_=>none
def keq:PV->PV->Option Bool
 | .int k a,.int k' b=>bif kEq k k' then some (a==b)else none
 | .str a,.str b=>some (a==b)
 | .bool a,.bool b=>some (a==b)
 | .agg a,.agg b=>bj a b
 |_,_=>none
def cc(k:PV):List PV->Nat->Option (Option Nat)
 |[],_=>some none
 | x::l,i=>match keq k x with
   |some true=>some (some i)
   |some false=>cc k l (i+1)
   |none=>none
def Hy:TypeDesc->PV->Bool
 | .int k,.int k' _=>kEq k' k
 | .string,.str _=>true
 | .bool,.bool _=>true
 |_,_=>false
section
variable {w:World}{R:Nat->Prop}
theorem xe(k:IntKind):kEq k k=true:=by cases k<;>rfl
theorem Eg{d:TypeDesc}{k x:PV}{u y:Value}(hd:Hy d k=true)(hk:RelP w R k u)(hx:RelP w R x y){b:Bool}(h:keq k x=some b):Instr.sameNow d u y=some b:=by
 cases k<;>cases d<;>simp only[Hy,Qk]at hd<;>cases x<;>simp only[keq,reduceCtorEq]at h<;>simp only[RelP]at hk hx<;>subst hk hx
 ·replace h:=aU h;have:=dL h.1;subst this;simpa[Instr.sameNow]using h.2
 ·simpa[Instr.sameNow]using h
 ·simpa[Instr.sameNow]using h
theorem nr{d:TypeDesc}{k:PV}{u:Value}(hd:Hy d k=true)(hk:RelP w R k u):∀{ks:List PV}{es:List MapEntry}{i:Nat}{r:Option Nat},RelPL w R ks (es.map (·.key))->cc k ks i=some r->
  match r with
  |none=>Instr.findNow d u es i=some none
  |some j=>∃q e,j=i+q/\es[q]? =some e/\Instr.findNow d u es i=some (some (j,e.val))
 |[],[],i,r,_,h=>by simp only[cc,Pe]at h;subst h;rfl
 |[],_::_,_,_,hr,_=>by simp[RelPL]at hr
 |x::ks,[],_,_,hr,_=>by simp[RelPL]at hr
 | x::ks,e::es,i,r,hr,h=>by
   simp only[bL,RelPL,Rr]at hr;obtain⟨y,ys,⟨rfl,rfl⟩,h1,h2⟩:=hr;simp only[cc]at h;split at h
   ·rename_i hb;cases h;have:=Eg hd hk h1 hb;exact⟨0,e,O,O,by simp[Instr.findNow,this]⟩
   ·rename_i hb;have hs:=Eg hd hk h1 hb;have ih:=nr hd hk h2 h;cases r with
    |none=>simpa[Instr.findNow,hs]using ih
    | some j=>
      obtain⟨q,e',hj,he,hf⟩:=ih;exact⟨q+1,e',Ts,by simpa using he,by simpa[Instr.findNow,hs]using hf⟩
   ·cases h
theorem pA{d:TypeDesc}{k:PV}{u:Value}(hd:Hy d k=true)(hk:RelP w R k u):IsKey d u:=by
 cases k<;>cases d<;>simp only[Hy,Qk]at hd<;>simp only[RelP]at hk<;>subst hk<;>first|exact dL hd|trivial
theorem mj{k:PV}:∀{ks:List PV}{i j:Nat},cc k ks i=some (some j)->∃q x,j=i+q/\ks[q]? =some x/\keq k x=some true
 |[],_,_,h=>by simp[cc]at h
 | x::ks,i,j,h=>by
   simp only[cc]at h;split at h
   ·rename_i hb;cases h;exact⟨0,x,O,O,hb⟩
   ·obtain⟨q,y,e,h1,h2⟩:=mj h;exact⟨q+1,y,Ts,by simpa using h1,h2⟩
   ·cases h
theorem gK{a b:ByteArray}(h:(a==b)=true):a=b:=by
 have:(a.data==b.data)=true:=h;exact ByteArray.ext (eq_of_beq this)
theorem fO(a:ByteArray):(a==a)=true:=by
 have:(a.data==a.data)=true:=Qz a.data;exact this
theorem pq:∀{a b:List PV}{us vs:List Value},bj a b=some true->RelPL w R a us->RelPL w R b vs->us=vs/\∀n,((vs.zip us).all fun(x,y)=>Instr.sameBits n x y)=true
 | [],[],us,vs,_,h1,h2=>by
   simp only[RelPL]at h1 h2;subst h1 h2;exact⟨O,fun _=>rfl⟩
 |[],_::_,_,_,h,_,_=>by simp[bj]at h
 |a::xs,[],_,_,h,_,_=>by cases a<;>simp[bj]at h
 | a::xs,b::bs,us,vs,h,h1,h2=>by
   simp only[RelPL]at h1 h2;obtain⟨u,us',rfl,ha,has⟩:=h1;obtain⟨v,vs',rfl,hb,hbs⟩:=h2;have fin:∀r:Bool,(bj xs bs).map (fun q=>r&&q)=some true->r=true/\bj xs bs=some true:=fun r e=>by
    cases hc:bj xs bs with
    |none=>rw[hc]at e;cases e
    |some q=>rw[hc]at e;simp at e;exact⟨e.1,by rw[e.2]⟩
   have key:u=v/\(∀n,Instr.sameBits n v u=true)/\bj xs bs=some true:=by
    cases a<;>cases b<;>simp only[bj,reduceCtorEq]at h
    ·simp only[RelP]at ha hb;subst ha hb;rename_i k a k' b;cases hk:kEq k k' with
     |false=>rw[hk]at h;cases h
     | true=>
       rw[hk]at h;obtain⟨e1,e2⟩:=fin _ h;have:=dL hk;have e3:a=b:=by simpa using e1
       subst this e3;exact⟨O,fun n=>by cases n<;>simp[Instr.sameBits],e2⟩
    ·simp only[RelP]at ha hb;subst ha hb;obtain⟨e1,e2⟩:=fin _ h;have e3:=eq_of_beq e1;subst e3;exact⟨O,fun n=>by cases n<;>simp[Instr.sameBits],e2⟩
    ·simp only[RelP]at ha hb;subst ha hb;obtain⟨e1,e2⟩:=fin _ h;have e3:=gK e1;subst e3;exact⟨O,fun n=>by cases n<;>exact fO _,e2⟩
   obtain⟨rfl,hs,hc⟩:=key;obtain⟨rfl,hr⟩:=pq hc has hbs;exact⟨O,fun n=>by simp only[List.zip_cons_cons,RB,hs n,hr n,Bool.and_self]⟩
theorem y9{k x:PV}{u y:Value}(h:keq k x=some true)(hk:RelP w R k u)(hx:RelP w R x y):u=y/\Instr.sameBits 10000 y u=true:=by
 cases k<;>cases x<;>simp only[keq,reduceCtorEq,Pe]at h
 case agg.agg a b=>
  simp only[RelP]at hk hx;obtain⟨us,rfl,h1⟩:=hk;obtain⟨vs,rfl,h2⟩:=hx;obtain⟨rfl,h3⟩:=pq h h1 h2;refine⟨O,?_⟩;show(us.toArray.size==us.toArray.size&&(us.toArray.toList.zip us.toArray.toList).all fun(x,y)=>Instr.sameBits 9999 x y)=true;rw[Qz,Tc];exact h3 9999
 all_goals simp only[RelP]at hk hx
 all_goals subst hk hx
 ·replace h:=aU h;have h1:=dL h.1;have h2:=h.2;simp only[Pe,Rk]at h2;subst h1 h2;simp[Instr.sameBits]
 ·simp at h;subst h;simp[Instr.sameBits]
 ·have:=gK h;subst this;exact⟨O,by show(_==_)=true;exact fO _⟩
end
def vW(ks:List PV):Prop:=ks.Pairwise fun a b=>keq a b=some false
theorem uA{a b:ByteArray}:(a==b)=(b==a):=by
 cases h:a==b with
 |true=>rw[gK h,fO]
 | false=>cases h2:b==a with
   |false=>rfl
   |true=>rw[gK h2,fO]at h;cases h
theorem yg(a b:IntKind):kEq a b=kEq b a:=by
 cases h:kEq a b with
 |true=>rw[dL h,xe]
 | false=>cases h2:kEq b a with
   |false=>rfl
   |true=>rw[dL h2,xe]at h;cases h
theorem s0:∀a b:List PV,bj a b=bj b a
 |[],[]=>rfl
 |[],b::_=>by cases b<;>rfl
 |a::_,[]=>by cases a<;>rfl
 | a::xs,b::bs=>by
   cases a<;>cases b<;>simp only[bj]<;>rw[s0 xs bs]
   ·rename_i k a k' b;rw[yg k k',show(a==b)=(b==a)from BEq.comm]
   ·rename_i a b;rw[show(a==b)=(b==a)from BEq.comm]
   ·rw[uA]
theorem D5(a b:PV):keq a b=keq b a:=by
 cases a<;>cases b<;>simp only[keq]
 ·rename_i k a k' b;rw[yg k k',show(a==b)=(b==a)from BEq.comm]
 ·rename_i a b;rw[show(a==b)=(b==a)from BEq.comm]
 ·rw[uA]
 ·exact s0 _ _
theorem kD:∀{a b:List PV},bj a b=some true->a=b
 |[],[],_=>rfl
 |[],b::_,h=>by cases b<;>simp[bj]at h
 |a::_,[],h=>by cases a<;>simp[bj]at h
 | a::xs,b::bs,h=>by
   have fin:∀r:Bool,(bj xs bs).map (fun q=>r&&q)=some true->r=true/\xs=bs:=fun r e=>by
    cases hc:bj xs bs with
    |none=>rw[hc]at e;cases e
    |some q=>rw[hc]at e;simp at e;exact⟨e.1,kD (by rw[hc,e.2])⟩
   cases a<;>cases b<;>simp only[bj,reduceCtorEq]at h
   ·rename_i k a k' b;cases hk:kEq k k' with
    |false=>rw[hk]at h;cases h
    | true=>
      rw[hk]at h;obtain⟨e1,rfl⟩:=fin _ h;rw[dL hk,show a=b by simpa using e1]
   ·obtain⟨e1,rfl⟩:=fin _ h;rw[eq_of_beq e1]
   ·obtain⟨e1,rfl⟩:=fin _ h;rw[gK e1]
theorem wV{a b:PV}(h:keq a b=some true):a=b:=by
 cases a<;>cases b<;>simp only[keq,reduceCtorEq]at h
 ·rename_i k a k' b;cases hk:kEq k k' with
  |false=>rw[hk]at h;cases h
  |true=>rw[hk]at h;rw[dL hk,show a=b by simpa using h]
 ·have e:=eq_of_beq (Ru h);rw[e]
 ·have e:=gK (Ru h);rw[e]
 ·rw[kD h]
theorem iP{k:PV}:∀{ks:List PV}{i:Nat},cc k ks i=some none↔∀x∈ks,keq k x=some false
 |[],i=>by simp[cc]
 | x::ks,i=>by
   simp only[cc];constructor
   ·intro h;split at h
    ·cases h
    ·rename_i hb;intro y hy;rcases AS.1 hy with rfl|hy
     ·exact hb
     ·exact iP.1 h y hy
    ·cases h
   ·intro h;rw[h x Tw];exact iP.2 fun y hy=>h y (by simp[hy])
theorem uO{k:PV}:∀{ks:List PV}{i j:Nat},(∀q x,q<j->ks[q]? =some x->keq k x=some false)->(∃x,ks[j]? =some x/\keq k x=some true)->cc k ks i=some (some (i+j))
 |[],_,_,_,h=>by obtain⟨x,h,_⟩:=h;simp at h
 | x::ks,i,0,_,h=>by
   obtain⟨y,h1,h2⟩:=h;simp only[List.getElem?_cons_zero,Pe]at h1;subst h1;simp[cc,h2]
 | x::ks,i,j+1,h0,h=>by
   obtain⟨y,h1,h2⟩:=h;have e:=h0 0 x Ts O;have ih:=uO (ks:=ks) (i:=i+1) (j:=j) (fun q z hq hz=>h0 (q+1) z Ts (by simpa using hz)) ⟨y,by simpa using h1,h2⟩;simp only[cc,e,ih];rw[show i+1+j=i+(j+1) by omega]
def jM(n:Nat)(σ:St)(x:Operand)(ks vs:List PV):Prop:=
 (∃id,σ.ev n x= .map id/\σ.ob id=some (.mp ks vs))\/(σ.ev n x= .pv (.mp ks vs)/\vW ks)\/(σ.ev n x= .pv .nilmap/\ks=[]/\vs=[])
section
variable {C:Ctx}{n:Nat}{σ:St}{a:Act}{w:World}{m:Gm}{R:Nat->Prop}{x y z:Operand}{dst:Option Tmp}{ty t kt et:TypeId}{pos:String}{after:Array Edge}{gd:Option (Nat×Bool)}{ks vs:List PV}
theorem zJ{ps qs:List PV}{es:List MapEntry}(h1:RelPL w R ps (es.map (·.key)))(h2:RelPL w R qs (es.map (·.val))):∀{es':List MapEntry},es.Perm es'->∃ps' qs',RelPL w R ps' (es'.map (·.key))/\RelPL w R qs' (es'.map (·.val))/\(ps'.zip qs').Perm (ps.zip qs):=by
 intro es' hp;induction hp generalizing ps qs with
 |nil=>exact⟨ps,qs,h1,h2,PY _⟩
 | cons e _ ih=>
   cases ps with
   |nil=>simp[RelPL]at h1
   | cons p ps=>
     cases qs with
     |nil=>simp[RelPL]at h2
     | cons q qs=>
       simp only[bL,RelPL,Rr]at h1 h2;obtain⟨_,_,⟨rfl,rfl⟩,a1,a2⟩:=h1;obtain⟨_,_,⟨rfl,rfl⟩,b1,b2⟩:=h2;obtain⟨ps',qs',c1,c2,c3⟩:=ih a2 b2;exact⟨p::ps',q::qs',RelPL.cons a1 c1,RelPL.cons b1 c2,by simp only[List.zip_cons_cons];exact List.Perm.cons (p,q) c3⟩
 | swap e e' l=>
   cases ps with
   |nil=>simp[RelPL]at h1
   | cons p ps=>
     cases ps with
     |nil=>simp[RelPL]at h1
     | cons p' ps=>
       cases qs with
       |nil=>simp[RelPL]at h2
       | cons q qs=>
         cases qs with
         |nil=>simp[RelPL]at h2
         | cons q' qs=>
           simp only[bL,RelPL,Rr]at h1 h2;obtain⟨_,_,⟨rfl,rfl⟩,a1,_,_,⟨rfl,rfl⟩,a2,a3⟩:=h1;obtain⟨_,_,⟨rfl,rfl⟩,b1,_,_,⟨rfl,rfl⟩,b2,b3⟩:=h2;exact⟨p'::p::ps,q'::q::qs,RelPL.cons a2 (RelPL.cons a1 a3),RelPL.cons b2 (RelPL.cons b1 b3),by simp only[List.zip_cons_cons];exact List.Perm.swap _ _ _⟩
 | trans _ _ ih1 ih2=>
   obtain⟨p1,q1,a1,a2,a3⟩:=ih1 h1 h2;obtain⟨p2,q2,b1,b2,b3⟩:=ih2 a1 a2;exact⟨p2,q2,b1,b2,b3.trans a3⟩
def nI(vs:List PV):Option Nat->Option (Option PV)
 |none=>some none
 |some j=>(vs[j]?).map some
theorem zi{key:PV}{ps qs:List PV}{r:Option PV}(hl:ps.length=qs.length)(hl':ks.length=vs.length)(hd:vW ks)(hp:(ps.zip qs).Perm (ks.zip vs)){f:Option Nat}(hf:cc key ks 0=some f)(hr:nI vs f=some r):
  ∃f',cc key ps 0=some f'/\nI qs f'=some r:=by
 have hk:∀x,x∈ps↔x∈ks:=fun x=>by
  have e1:(ps.zip qs).map (·.1)=ps:=Th (Qp hl);have e2:(ks.zip vs).map (·.1)=ks:=Th (Qp hl');rw[<-e1,<-e2];exact(hp.map _).mem_iff
 cases f with
 | none=>
   exact⟨none,iP.2 fun x hx=>iP.1 hf x ((hk x).1 hx),hr⟩
 | some j=>
   obtain⟨q,x,hj,hx,hkx⟩:=mj hf;simp only[PJ]at hj;subst hj;have e:=wV hkx;subst e;simp only[nI]at hr;cases hv:vs[j]? with
   |none=>rw[hv]at hr;cases hr
   | some v=>
     rw[hv]at hr;simp only[Ra,Pe]at hr;subst hr;have hm:(key,v)∈ps.zip qs:=hp.mem_iff.2 (List.mem_iff_getElem?.2 ⟨j,by rw[List.getElem?_zip_eq_some];exact⟨hx,hv⟩⟩);obtain⟨i,hi⟩:=List.mem_iff_getElem?.1 hm;rw[List.getElem?_zip_eq_some]at hi;have hd':vW ps:=by
      have e1:(ps.zip qs).map (·.1)=ps:=Th (Qp hl);have e2:(ks.zip vs).map (·.1)=ks:=Th (Qp hl');have hp2:ps.Perm ks:=by rw[<-e1,<-e2];exact hp.map _
      exact(hp2.pairwise_iff (fun{a b} h=>by rw[D5];exact h)).2 hd
     refine⟨some i,?_,by simp only[nI];rw[hi.2];rfl⟩;have:=uO (k:=key) (ks:=ps) (i:=0) (j:=i) (fun q z hq hz=>?_) ⟨key,hi.1,hkx⟩
     ·rw[this,PJ]
     ·obtain⟨h1,rfl⟩:=Pf.1 hz;obtain⟨h2,h3⟩:=Pf.1 hi.1;have:=P6.1 hd' q i h1 h2 hq;rw[h3,D5]at this;exact this
theorem jM.at(hw:SW C n σ a w m R)(h:jM n σ x ks vs):(∃b es clock ps qs,a.eval x= .map (some b)/\w.heap[b]? =some (.map es clock)/\RelPL w R ps (es.toList.map (·.key))/\RelPL w R qs (es.toList.map (·.val))/\ks.length=ps.length/\
  ∀{key:PV}{f:Option Nat}{r:Option PV},cc key ks 0=some f->nI vs f=some r->∃f',cc key ps 0=some f'/\nI qs f'=some r)\/(a.eval x= .map none/\ks=[]/\vs=[]):=by
 rcases h with⟨id,hx,ho⟩|⟨hx,hd⟩|⟨hx,h1,h2⟩
 ·obtain⟨b,N,hm,hr⟩:=hw.live ho;have:=hw.ev x;rw[hx]at this;simp only[Rel]at this;obtain⟨es,clock,q1,q2,q3,_⟩:=hr;exact .inl ⟨b,es,clock,ks,vs,this.2 b N hm,q1,q2,q3,O,fun{key f r} h1 h2=>⟨f,h1,h2⟩⟩
 ·have:=hw.pv hx;simp only[RelP]at this;obtain⟨b,e,_,es,clock,l,q1,q2,q3,q4,q5⟩:=this;obtain⟨ps,qs,c1,c2,c3⟩:=zJ q2 q3 q5;have l1:=q2.length;have l2:=q3.length;have l3:=c1.length;have l4:=c2.length;have l5:=q5.length_eq;simp only[Pg]at l1 l2 l3 l4;exact .inl ⟨b,es,clock,ps,qs,e,q1,c1,c2,Ts,fun{key f r} h1 h2=>zi Ts Ts hd c3 h1 h2⟩
 ·have:=hw.pv hx;simp only[RelP]at this;exact .inr ⟨this,h1,h2⟩
theorem run_map{P:Program}{w:World}{r:Nat}{es:Array MapEntry}{clock:Nat}(hb:w.heap[r]? =some (.map es clock)):(getObj r).run P w= .ok (.map es clock) w:=by
 simp[getObj,Sem.run,hb]
theorem dW{P:Program}{w:World}{r:Nat}{es:Array MapEntry}{clock:Nat}(o:Obj)(hb:w.heap[r]? =some (.map es clock)):(setObj r o).run P w= .ok () { w with heap:=w.heap.setIfInBounds r o }:=by
 simp[setObj,Sem.run,hb]
def iC(k:PV)(ks vs:List PV):Option (Option PV):=
 match cc k ks 0 with
 |some none=>some none
 |some (some j)=>(vs[j]?).map some
 |none=>none
theorem pS{k:PV}{ks vs:List PV}{r:Option PV}(h:iC k ks vs=some r):∃f,cc k ks 0=some f/\nI vs f=some r:=by
 unfold iC at h;split at h
 ·rename_i hf;exact⟨none,hf,h⟩
 ·rename_i j hf;exact⟨some j,hf,h⟩
 ·cases h
theorem RelPL.at{ps:List PV}{us:List Value}(h:RelPL w R ps us){i:Nat}{p:PV}{u:Value}(hp:ps[i]? =some p)(hu:us[i]? =some u):RelP w R p u:=by
 obtain⟨u',h1,h2⟩:=h.get hp;rw[hu]at h1;cases h1;exact h2
theorem yj(hw:SW C n σ a w m R){d:TypeDesc}{key zp:PV}{zv:Value}{r:Option PV}(ht:C.P.underlying t=some (.map kt et))(hk:C.P.underlying kt=some d)(hd:Hy d key=true)(hx:jM n σ x ks vs)(hy:σ.ev n y= .pv key)(hz:(C.P.info? et).map (·.zero)=some (some zv))(hzp:ofC zv=zp)(hl:iC key ks vs=some r)(ok:Bool):
  ∃u,RelP w R (r.getD zp) u/\(Instr.lookup t (a.eval x) (a.eval y) ok).run C.P w= .ok (if ok then .tuple #[u,.bool r.isSome]else u) w:=by
 have hkey:=hw.pv hy;have hzr:(zeroValue et).run C.P w= .ok zv w:=by
  cases hq:C.P.info? et with
  |none=>simp[hq]at hz
  |some i=>simp[hq]at hz;simp[zeroValue,typeInfo,hq,hz]
 have hzrel:RelP w R zp zv:=hzp▸wb w R zv;have hIs:=pA hd hkey;rcases hx.at hw with⟨b,es,clock,ps,qs,e,hb,q2,q3,_,hsw⟩|⟨e,rfl,rfl⟩
 ·obtain⟨f,hf,hr⟩:=pS hl;obtain⟨f',hf',hr'⟩:=hsw hf hr;cases f' with
  | none=>
    simp only[nI,Pe]at hr';subst hr';have:=nr hd hkey q2 hf';simp only at this;refine⟨zv,hzrel,?_⟩;simp[Instr.lookup,e,run_underlying ht,run_map hb,run_checkKey hk hIs,run_findKey hk this,hzr,Result.andThen]
  | some j=>
    obtain⟨q,e',hj,he,hfn⟩:=nr hd hkey q2 hf';simp only[PJ]at hj;subst hj;simp only[nI]at hr';cases hv:qs[j]? with
    |none=>rw[hv]at hr';cases hr'
    | some p=>
      rw[hv]at hr';simp at hr';subst hr';refine⟨e'.val,RelPL.at q3 hv (by simp[he]),?_⟩;simp[Instr.lookup,e,run_underlying ht,run_map hb,run_checkKey hk hIs,run_findKey hk hfn,Result.andThen]
 ·simp only[iC,cc,Pe]at hl;subst hl;refine⟨zv,hzrel,?_⟩;have hf:Instr.findNow d (a.eval y) (#[]:Array MapEntry).toList 0=some none:=rfl;simp[Instr.lookup,e,run_underlying ht,run_checkKey hk hIs,run_findKey hk hf,hzr,Result.andThen]
theorem ta{d:TypeDesc}{key zp p:PV}{zv:Value}{r:Option PV}{b:Bool}(ht:C.P.underlying t=some (.map kt et))(hk:C.P.underlying kt=some d)(hx:jM n σ x ks vs)(hy:σ.ev n y= .pv key)(hd:Hy d key=true)(hz:(C.P.info? et).map (·.zero)=some (some zv))(hzp:ofC zv=zp)(hl:iC key ks vs=some r)(hp:r.getD zp=p)(hb:r.isSome=b):
  XJ C n ⟨dst,.lookup t x y true,ty,pos,after,gd⟩ σ ⟨.pv (.tup [p,.bool b]),[],[]⟩:=
 .val fun a w m R hw=>by
  obtain⟨u,hr,hrun⟩:=yj hw ht hk hd hx hy hz hzp hl true;subst hp hb;refine⟨_,by simp only[execOp,Sem.run_bind,hrun,Result.andThen_ok];rfl,?_⟩;simp only[Rel,RelP];exact⟨[u,.bool r.isSome],O,RelPL.cons hr (RelPL.cons (by simp only[RelP]) RelPL.nil)⟩
theorem kW{d:TypeDesc}{key zp p:PV}{zv:Value}{r:Option PV}(ht:C.P.underlying t=some (.map kt et))(hk:C.P.underlying kt=some d)(hx:jM n σ x ks vs)(hy:σ.ev n y= .pv key)(hd:Hy d key=true)(hz:(C.P.info? et).map (·.zero)=some (some zv))(hzp:ofC zv=zp)(hl:iC key ks vs=some r)(hp:r.getD zp=p):
  XJ C n ⟨dst,.lookup t x y false,ty,pos,after,gd⟩ σ ⟨.pv p,[],[]⟩:=
 .val fun a w m R hw=>by
  obtain⟨u,hr,hrun⟩:=yj hw ht hk hd hx hy hz hzp hl false;subst hp;exact⟨u,by simp only[execOp,Sem.run_bind,hrun,Result.andThen_ok];rfl,by simpa only[Rel]using hr⟩
theorem nC(ht:C.P.underlying t=some (.map kt et))(hx:jM n σ x ks vs):
  XJ C n ⟨dst,.call { callee:= .builtin .len,args:= #[x],argTypes:= #[t] },ty,pos,after,gd⟩ σ ⟨pIi ks.length,[],[]⟩:=
 .val fun a w m R hw=>by
  rcases hx.at hw with⟨b,es,clock,ps,qs,e,hb,q2,q3,hlk,_⟩|⟨e,rfl,rfl⟩
  ·have hl:=q2.length;simp only[Pg]at hl;rw[<-hlk]at hl;exact⟨.int .i64 es.size,by simp[execOp,resolve,invoke,builtin,Builtin.len_,e,run_underlying ht,run_map hb,goInt,Result.andThen],by simp only[Rel,RelP];simp at hl;rw[hl]⟩
  ·exact⟨.int .i64 0,by simp[execOp,resolve,invoke,builtin,Builtin.len_,e,run_underlying ht,goInt],by simp only[Rel,RelP];rfl⟩
theorem SW.JO(h:SW C n σ a w m R){id:Nat}(hid:σ.av id=true)(obj:Obj)(N:Nat)(o:Ob)
  (ho:∀(w':World)(m':Gm)(av':Av),(∀b,R b->R b/\w'.heap[b]? =w.heap[b]?)->w'.heap[w.heap.size]? =some obj->kE w' m' av' R w.heap.size N o) (hre:o.real=true:=by rfl):
  SW C n ⟨σ.sl,obL [(id,some o)] σ.ob,avL [id] σ.av⟩ a (w.alloc obj) (upd m id (some (w.heap.size,N))) R:=by
 have hR:∀b,R b->R b/\(w.alloc obj).heap[b]? =w.heap[b]? :=fun b hb=>⟨hb,Below.heap_alloc w _ b (h.hr.rsz b hb)⟩
 have hne:∀i,σ.av i=false->i≠id:=fun i hi e=>by rw[e,hid]at hi;cases hi
 have hm:∀i x,σ.av i=false->upd m id (some (w.heap.size,N)) i=some x->m i=some x:=fun i x hi e=>by rwa [aM _ _ (hne i hi)]at e
 have ha:∀i,σ.av i=false->avL [id] σ.av i=false:=fun i hi=>by
  simp only[avL];cases Nat.beq i id<;>simp[hi]
 have hsz:(w.alloc obj).heap.size=w.heap.size+1:=Tw;have obe:∀i,i≠id->obL [(id,some o)] σ.ob i=σ.ob i:=fun i hi=>by
  have:Nat.beq i id=false:=by cases hb:Nat.beq i id;rfl;exact absurd (aI hb) hi
  simp[obL,this]
 have obs:obL [(id,some o)] σ.ob id=some o:=by simp[obL]
 refine h.world ⟨?_,?_,?_,?_,?_,?_,h.hr.rfr,h.hr.r0,?_,?_,fun i hi=>ha i (h.hr.res i hi)⟩ hR hm ha
 ·intro i;by_cases e:i=id
  ·subst e;rw[ay,obs];exact hre.symm
  ·rw[aM _ _ e,obe i e];exact h.hr.dom i
 ·intro i hi;simp only[avL]at hi;cases hb:Nat.beq i id with
  |true=>rw[hb]at hi;simp at hi
  | false=>
    rw[hb]at hi;rw[obe i (fun e=>by subst e;simp at hb)];exact h.hr.free i (by simpa using hi)
 ·intro i o' b N h1 h2;by_cases e:i=id
  ·subst e;rw[obs]at h1;rw[ay]at h2;cases h1;cases h2;exact ho _ _ _ hR (heap_alloc_new w _)
  ·rw[obe i e]at h1;rw[aM _ _ e]at h2;exact(h.hr.obj i o' b N h1 h2).mono hR hm ha (Below.heap_alloc w _ b (h.hr.own i b N h2).1)
 ·intro i j b N N' h1 h2;by_cases e1:i=id<;>by_cases e2:j=id
  ·rw[e1,e2]
  ·subst e1;rw[ay]at h1;rw[aM _ _ e2]at h2;cases h1;have:=(h.hr.own j _ _ h2).1;omega
  ·subst e2;rw[ay]at h2;rw[aM _ _ e1]at h1;cases h2;have:=(h.hr.own i _ _ h1).1;omega
  ·rw[aM _ _ e1]at h1;rw[aM _ _ e2]at h2;exact h.hr.inj i j b N N' h1 h2
 ·intro i b N h1;by_cases e:i=id
  ·subst e;rw[ay]at h1;cases h1;exact⟨Ts,fun hb=>by have:=h.hr.rsz _ hb;omega,.inr h.hr.frame.size⟩
  ·rw[aM _ _ e]at h1;obtain⟨h2,h3,h4⟩:=h.hr.own i b N h1;exact⟨Ts,h3,h4⟩
 ·intro b hb;have:=h.hr.rsz b hb;omega
 ·refine⟨h.hr.frame.os,h.hr.frame.tape,h.hr.frame.output,?_,?_⟩
  ·have:=h.hr.frame.size;omega
  ·intro k hk hF;rw[Below.heap_alloc w _ k (by have:=h.hr.frame.size;omega)];exact h.hr.frame.block k hk hF
 ·intro i x hi e;have hne':i≠id:=fun e'=>by subst e';rw[h.hr.res i hi]at hid;cases hid
  rw[aM _ _ hne']at e;exact h.hr.keep i x hi e
theorem SW.turn(h:SW C n σ a w m R){id b N:Nat}(hm0:m id=some (b,N))(w':World)(hs:w'.heap.size=w.heap.size)(hoth:∀k,k≠b->w'.heap[k]? =w.heap[k]?)(e1:w'.os=w.os)(e2:w'.tape=w.tape)(e3:w'.output=w.output)(o:Ob)
  (ho:(∀b,R b->R b/\w'.heap[b]? =w.heap[b]?)->kE w' m σ.av R b N o) (hre:o.real=true:=by rfl):
  SW C n ⟨σ.sl,obL [(id,some o)] σ.ob,avL [] σ.av⟩ a w' m R:=by
 have own:=h.hr.own id b N hm0;have hR:∀k,R k->R k/\w'.heap[k]? =w.heap[k]? :=fun k hk=>⟨hk,hoth k (fun e=>own.2.1 (e▸hk))⟩
 have obe:∀i,i≠id->obL [(id,some o)] σ.ob i=σ.ob i:=fun i hi=>by
  have:Nat.beq i id=false:=by cases hb:Nat.beq i id;rfl;exact absurd (aI hb) hi
  simp[obL,this]
 have obs:obL [(id,some o)] σ.ob id=some o:=by simp[obL]
 have hm:∀i x,σ.av i=false->m i=some x->m i=some x:=fun _ _ _ e=>e
 have ha:∀i,σ.av i=false->avL [] σ.av i=false:=fun _ hi=>hi
 refine h.world ⟨?_,?_,?_,h.hr.inj,?_,?_,h.hr.rfr,h.hr.r0,?_,h.hr.keep,h.hr.res⟩ hR hm ha
 ·intro i;by_cases e:i=id
  ·subst e;rw[hm0,obs];exact hre.symm
  ·rw[obe i e];exact h.hr.dom i
 ·intro i hi;have e:i≠id:=fun e=>by
   subst e;have:=h.hr.dom i;rw[h.hr.free i hi,hm0]at this;cases this
  rw[obe i e];exact h.hr.free i hi
 ·intro i o' b' N' h1 h2;by_cases e:i=id
  ·subst e;rw[obs]at h1;rw[hm0]at h2;cases h1;cases h2;exact ho hR
  ·rw[obe i e]at h1;exact(h.hr.obj i o' b' N' h1 h2).mono hR hm ha (hoth b' (fun e'=>e (h.hr.inj i id b N' N (e'▸h2) hm0)))
 ·intro i b' N' h1;obtain⟨h2,h3,h4⟩:=h.hr.own i b' N' h1;exact⟨Ts,h3,h4⟩
 ·intro b' hb';have:=h.hr.rsz b' hb';omega
 ·refine⟨e1.trans h.hr.frame.os,e2.trans h.hr.frame.tape,e3.trans h.hr.frame.output,?_,?_⟩
  ·have:=h.hr.frame.size;omega
  ·intro k hk hF;rw[hoth k (fun e=>by subst e;rcases own.2.2 with h'|h';exact hF h';omega)];exact h.hr.frame.block k hk hF
theorem dX(id:Nat)(hid:σ.av id=true):XJ C n ⟨dst,.makeMap t none,ty,pos,after,gd⟩ σ ⟨.map id,[(id,some (.mp [] []))],[id]⟩:=by
 rintro a w Q ⟨m,R,hw⟩;unfold Oper.wp;have hrun:(execOp a.eval ⟨dst,.makeMap t none,ty,pos,after,gd⟩).run C.P w= .ok (.value (.map (some w.heap.size))) (w.alloc (.map #[] 0)):=by
  simp only[execOp,Option.map_none,Sem.run_bind,run_makeMap,Result.andThen_ok];rfl
 rw[hrun];refine⟨_,O,upd m id (some (w.heap.size,0)),R,?_⟩;rw[O1];refine SW.put (hw.JO hid (.map #[] 0) 0 (.mp [] []) ?_) dst ?_
 ·intro w' m' av' hR hb;exact⟨#[],0,hb,RelPL.nil,RelPL.nil,by simp[cQ]⟩
 ·simp only[Rel];refine⟨by simp[avL],fun b N e=>?_⟩;rw[ay]at e;cases e;rfl
def lV(k:PV)(ks:List PV):List PV:=match cc k ks 0 with
 |some (some j)=>ks.set j k
 |_=>ks++[k]
def kZ(k v:PV)(ks vs:List PV):List PV:=match cc k ks 0 with
 |some (some j)=>vs.set j v
 |_=>vs++[v]
theorem fm{d:TypeDesc}{key v:PV}{id:Nat}{r:Option Nat}{ks' vs':List PV}(ht:C.P.underlying t=some (.map kt et))(hk:C.P.underlying kt=some d)(hx:σ.ev n x= .map id)(ho:σ.ob id=some (.mp ks vs))(hy:σ.ev n y= .pv key)(hz:σ.ev n z= .pv v)(hd:Hy d key=true)(hf:cc key ks 0=some r)
  (hks:lV key ks=ks') (hvs:kZ key v ks vs=vs'):XJ C n ⟨none,.mapUpdate t x y z,ty,pos,after,gd⟩ σ ⟨.pv .any,[(id,some (.mp ks' vs'))],[]⟩:=by
 rintro a w Q ⟨m,R,hw⟩;obtain⟨b,N,hm,es,clock,hb,q2,q3,q4⟩:=hw.live ho;have hxv:=hw.ev x;rw[hx]at hxv;simp only[Rel]at hxv;have hx:=hxv.2 b N hm;have hkey:=hw.pv hy;have hval:=hw.pv hz;have hIs:=pA hd hkey;have hlt:b<w.heap.size:=(Pc.1 hb).1;have fin:∀(es':Array MapEntry)(clock':Nat),(Instr.mapUpdate t (a.eval x) (a.eval y) (a.eval z)).run C.P w= .ok () { w with heap:=w.heap.setIfInBounds b (.map es' clock') }->
   RelPL w R ks' (es'.toList.map (·.key))->RelPL w R vs' (es'.toList.map (·.val))->cQ es'.toList clock'->Oper.wp C.P ⟨none,.mapUpdate t x y z,ty,pos,after,gd⟩ a w (fun a' w'=>∃σ',σ'=σ.app none ⟨.pv .any,[(id,some (.mp ks' vs'))],[]⟩/\SJ C n σ' a' w') Q:=by
  intro es' clock' hrun h1 h2 h3;unfold Oper.wp;have hrun':(execOp a.eval ⟨none,.mapUpdate t x y z,ty,pos,after,gd⟩).run C.P w= .ok .skip { w with heap:=w.heap.setIfInBounds b (.map es' clock') }:=by
   simp only[execOp,Sem.run_bind,hrun,Result.andThen_ok,Sem.run_pure]
  rw[hrun'];refine⟨_,O,m,R,hw.turn hm { w with heap:=w.heap.setIfInBounds b (.map es' clock') } Tw (fun k hk=>by simp only;rw[Q2 (fun e=>hk e.symm)]) O O O (.mp ks' vs') fun hR=>?_⟩;exact⟨es',clock',by simp only;rw[Ry];simp[hlt],h1.mono hR,h2.mono hR,h3⟩
 have hl:=q2.length;have hl2:=q3.length;simp only[Pg]at hl hl2;cases r with
 | none=>
   have hfn:=nr hd hkey q2 hf;simp only at hfn;refine fin (es.push ⟨a.eval y,a.eval z,clock⟩) (clock+1) ?_ ?_ ?_ ?_
   ·simp[Instr.mapUpdate,hx,run_underlying ht,run_map hb,run_checkKey hk hIs,run_findKey hk hfn,dW _ hb,Result.andThen]
   ·rw[<-hks];simp only[lV,hf,S6,PD,bL,Qh];exact q2.append (RelPL.cons hkey RelPL.nil)
   ·rw[<-hvs];simp only[kZ,hf,S6,PD,bL,Qh];exact q3.append (RelPL.cons hval RelPL.nil)
   ·simp only[cQ,S6,PD,bL,Qh];refine⟨Sg.2 ⟨q4.1,Tw,fun x hx y hy e=>?_⟩,fun e he=>?_⟩
    ·obtain⟨e',he',rfl⟩:=IT.1 hx;have:=q4.2 e' he';simp at hy;omega
    ·rcases Pq.1 he with h|h
     ·exact Nat.lt_succ_of_lt (q4.2 e h)
     ·simp at h;subst h;exact Nat.lt_succ_self _
 | some j=>
   obtain⟨q,e',hj,he,hfn⟩:=nr hd hkey q2 hf;obtain⟨q',x',hj',hx',hkq⟩:=mj hf;simp only[PJ]at hj hj';subst hj';subst hj;have hrel:=RelPL.at q2 hx' (by simp[he]:(es.toList.map (·.key))[j]? =some e'.key);have hsame:=y9 hkq hkey hrel;have hjl:j<es.size:=(Pf.1 he).1 |> fun h=>by simpa using h
   have hek:es[j]? =some e':=by simpa using he
   have hge:es[j]=e':=by have:=Array.getElem?_eq_getElem hjl;rw[hek]at this;exact(Ru this).symm
   have hmod:(es.modify j fun e=>{ e with key:=a.eval y,val:=a.eval z }).toList=es.toList.set j ⟨a.eval y,a.eval z,e'.born⟩:=by
    apply SF;intro i;rw[SY,RG,Sq];by_cases e:j=i
    ·subst e;simp[hjl,hge]
    ·simp[e]
   refine fin (es.modify j fun e=>{ e with key:=a.eval y,val:=a.eval z }) clock ?_ ?_ ?_ ?_
   ·simp[Instr.mapUpdate,hx,run_underlying ht,run_map hb,run_checkKey hk hIs,run_findKey hk hfn,dW _ hb,Result.andThen,Instr.keyThatStays,hek,hsame.2]
   ·rw[hmod,<-hks];simp only[lV,hf,Qi];exact q2.set j hkey
   ·rw[hmod,<-hvs];simp only[kZ,hf,Qi];exact q3.set j hval
   ·rw[hmod];have hborn:(es.toList.set j ⟨a.eval y,a.eval z,e'.born⟩).map (·.born)=es.toList.map (·.born):=by
     rw[Qi];apply SF;intro i;rw[Sq];by_cases e:j=i
     ·subst e;simp[hjl,hge]
     ·simp[e]
    refine⟨by rw[hborn];exact q4.1,fun e hm=>?_⟩;have:e.born∈es.toList.map (·.born):=by rw[<-hborn];exact IT.2 ⟨e,hm,O⟩
    obtain⟨e2,h2,h3⟩:=IT.1 this;rw[<-h3];exact q4.2 e2 h2
def RO(ids:List Nat)(base k':Nat)(Q:V->(Nat->Option Ob)->Prop)(s:OS):Prop:=∃v ob',Q v ob'/\s=⟨v.ren (dH ids base),wrO ids base k' ob',nwO base k'⟩
theorem Ie(ids:List Nat)(base k':Nat)(ob':Nat->Option Ob):(wrO ids base k' ob').map (·.1)=ids++nwO base k':=by
 have h:∀(l:List Nat)(j:Nat),(l.zipIdx j).map (fun p=>p.1)=l:=by
  intro l;induction l with
  |nil=>intro j;rfl
  |cons x l ih=>intro j;rw[Ti,bL,ih]
 unfold wrO nwO;rw[PD,Q3,Q3];exact congr (ag _ (h ids 0)) O
theorem relO{f:FuncId}{xs:Array Operand}{ts:Array TypeId}{args:List V}{os:List (Nat×Ob)}{k':Nat}{Q:V->(Nat->Option Ob)->Prop}(ids:List Nat)(base:Nat)(hc:cu C.P f)(hf:FnO C.P f ids.length k' args os Q)(hargs:xs.toList.map (σ.ev n)=V.renL (dH ids base) args)
  (ha:V.allL (okR ids.length 0) args=true) (hos:os.map (·.1)=(List.range ids.length).map (big+ ·)) (hob:os.all (fun p=>p.2.all (okR ids.length 0))=true) (hobs:ff σ (dH ids base) os) (hnd:ids.Nodup) (hav:(nwO base k').all σ.av=true):
  OJ C n ⟨dst,.call { callee:= .value (.func f),args:=xs,argTypes:=ts },ty,pos,after,gd⟩ (fun τ'=>∃s,RO ids base k' Q s/\s.wr.map (·.1)=ids++nwO base k'/\s.nw=nwO base k'/\τ'=σ.app dst s) σ:=
 bM ids base hc hargs ha hos hob hobs hnd hav hf fun v ob' h=>⟨_,⟨v,ob',h,O⟩,Ie _ _ _ _,O,O⟩
end
end
section
section
variable {C:Ctx}{n:Nat}{σ:St}{dst:Option Tmp}{ty t t':TypeId}{pos:String}{after:Array Edge}{gd:Option (Nat×Bool)}{x y:Operand}
theorem wE{e:TypeId}{z:Value}{size bytes j:Nat}{news:List PV}(id':Nat)(he:ElemIs C.P t e z size bytes)(hs:σ.ev n x= .pv nS)
  (hsrc:nM n σ y j news) (hl:news.length=j*size) (hlf:∀c∈news,c.leaf=true) (hb:j<=1000000000) (hid:σ.av id'=true):
  XJ C n ⟨dst,.call { callee:= .builtin .append,args:= #[x,y],argTypes:= #[t,t] },ty,pos,after,gd⟩ σ ⟨.gsl id' size j,[(id',some (.gro e news))],[id']⟩:=by
 rintro a w Q ⟨m,R,hw⟩;have hx:=hw.pv hs;simp only[RelP]at hx;obtain⟨A0,c0,hev,_,_,hn,hc0,_⟩:=hx;have hA0:A0=none:=by cases A0;rfl;have:=hn true O;simp at this
 subst hA0;rw[hc0 trivial]at hev;obtain⟨A,c2,us,hev2,hr2,hrow⟩:=hsrc.row hw;rcases Qj j with rfl|hj
 ·obtain rfl:news=[]:=PF (by simpa using hl);obtain⟨i,hi,_⟩:=info_parts he.info;have hrun:(Builtin.append_ #[t,t] ty #[.slice none 0 0,.slice A 0 c2]).run C.P w= .ok (.slice none 0 0) w:=by
   cases A<;>simp[Builtin.append_,run_underlying he.u,sizeOf,typeInfo,hi,Builtin.lenOf,Builtin.firstCells,loadCells,loadCellsFrom]
  unfold Oper.wp execOp;simp only[resolve,invoke,builtin,Sem.run_bind,Sem.run_pure,Result.andThen_ok,Sy,bL,Qh,hev,hev2,hrun];obtain⟨h,hmn⟩:=hw.gro0 hid e;refine⟨_,O,m,R,?_⟩;rw[O1];exact SW.put h dst<|vG (by simp only[RelP];exact⟨none,0,O,BY _,by simp[maxLen],(fun _ e=>by cases e;rfl),(fun _=>rfl),fun e=>absurd O e⟩) hmn (by simp[avL])
 ·have hnl:0<news.length:=by rw[hl];exact Tk hj he.pos
  have hne:news≠[]:=Qe.1 hnl;refine oy x y t O 0 e z size bytes he.u he.info he.zs he.pos he.by_ _ 0 j c2 A _ us hev hev2 (World.ownsRow_nil w 0 e size) hrow (by rw[hr2.length,hl]) (da hr2 hlf) Ts (cd _) ?_;intro A' c' w' hown' hgr hat
  simp only[PJ,Qa]at hown' hat ⊢;rcases hown'.2 with⟨hv,h0⟩|⟨g,cap,cur,hv,_,hg,hkc',hcm',hcs',htk⟩
  ·omega
  ·simp only[Value.slice.injEq]at hv;obtain⟨rfl, -,rfl⟩:=hv;have gge:w.heap.size<=g:=by
    rcases hat with h|⟨g',h,hle⟩
    ·simp[Value.ownBlock]at h
    ·simp only[Value.ownBlock,Pe]at h;subst h;exact hle
   refine⟨_,O,upd m id' (some (g,cur.size)),R,?_⟩;rw[O1];refine SW.put (hw.fresh hid hg hgr (fun q hq=>by simp[Value.ownBlock]at hq) (fun h=>by have:=hw.hr.rsz _ h;omega) (fun i b N hi e=>by have:=(hw.hr.own i b N hi).1;omega) (.inr (by have:=hw.hr.frame.size;omega)) (.gro e news) ?_ (cL hne)) dst ?_
   ·intro m' av' hR _ _;refine⟨cur,hg,O,?_,?_⟩
    ·rw[hcs',<-hr2.length,hown'.1];exact Qs _ hkc'
    ·rw[<-hr2.length,hown'.1,htk];exact hr2.mono hR
   ·simp only[Rel];refine⟨by simp[avL],_,c',O,hkc',hcm',fun h=>by omega,fun _ b N e=>?_⟩;rw[ay]at e;cases e;exact⟨O,hcs'⟩
end
end

section
section
variable {C:Ctx}{n:Nat}{σ:St}{dst:Option Tmp}{ty:TypeId}{pos:String}{after:Array Edge}{gd:Option (Nat×Bool)}{x y:Operand}
theorem sC{T e:TypeId}{id s k:Nat}{kh:IntKind}{ih:Int}{o:Ob}(h:Nat)(hT:C.P.underlying T=some (.slice e))(hs:bQ C.P e s)(hx:σ.ev n x= .osl id s k)(ho:σ.ob id=some o)(hy:σ.ev n y= .pv (.int kh ih))(hi:ih=(h:Int))(h2:h<=k)(hre:o.real=true:=by rfl):
  XJ C n ⟨dst,.slice T x none (some y) none,ty,pos,after,gd⟩ σ ⟨.osl id s h,[],[]⟩:=
 .val fun a w m R hw=>by
  obtain⟨b,N,c,he,hkc,hcm,hN,hm,hor⟩:=hw.osl hx ho hre;have e2:a.eval y= .int kh h:=by rw[hw.int hy,hi]
  have hlc:h<=c:=Ts;have hav:σ.av id=false:=by
   cases hv:σ.av id with
   |false=>rfl
   |true=>have:=hw.hr.free id hv;rw[ho]at this;cases this
  refine⟨.slice (some ⟨b,0,none⟩) h c,?_,?_⟩
  ·by_cases hc0:c=0
   ·subst hc0;have:h=0:=Ts;subst this;simp[execOp,he,e2,Instr.sliceAt,Instr.slice,Instr.sliceBounds,Instr.sliceBound,asIntOf,run_underlying hT,hs.run]
   ·simp[execOp,he,e2,Instr.sliceAt,Instr.slice,Instr.sliceBounds,Instr.sliceBound,asIntOf,run_underlying hT,hs.run,hlc,Addr.add_lit,hc0]
  ·simp only[Rel];refine⟨hav,fun b' N' e=>?_⟩;rw[hm]at e;cases e;exact⟨c,O,hlc,hcm,hN⟩
end
end

section
section
variable {C:Ctx}{n:Nat}{σ:St}{dst:Option Tmp}{ty:TypeId}{ts:Array TypeId}{pos:String}{after:Array Edge}{gd:Option (Nat×Bool)}
theorem uB {f:FuncId} {xs:Array Operand} {args:List V} {os:List (Nat×Ob)} {k':Nat} {Q:V->(Nat->Option Ob)->Prop} {K:St->Prop} (ids:List Nat) (base:Nat) (hc:cu C.P f) (hf:FnO C.P f ids.length k' args os Q) (hargs:xs.toList.map (σ.ev n)=V.renL (dH ids base) args)
  (ha:V.allL (okR ids.length 0) args=true) (hos:os.map (·.1)=(List.range ids.length).map (big+ ·)) (hob:os.all (fun p=>p.2.all (okR ids.length 0))=true) (hobs:ff σ (dH ids base) os)
  (hnd:ids.Nodup) (hav:(nwO base k').all σ.av=true)
  (hk:∀v ob',Q v ob'->K (σ.app dst ⟨v.ren (dH ids base),wrO ids base k' ob',nwO base k'⟩)):
  OJ C n ⟨dst,.call { callee:= .value (.func f),args:=xs,argTypes:=ts },ty,pos,after,gd⟩ K σ:=bM ids base hc hargs ha hos hob hobs hnd hav hf hk
end
end
section
open Mk
def vo(l:List Int):List Int:=l.mergeSort (fun a b=>decide (a<=b))
theorem ln(l:List Int):(vo l).Perm l:=Td l _
theorem uM(l:List Int):(vo l).Pairwise (· <= ·):=by
 have:=SE (le:=fun a b:Int=>decide (a<=b)) (by intro a b c;simp;omega) (by intro a b;simp;omega) l;exact this.imp Tw
theorem BR{l r:List Int}(hp:l.Perm r)(hl:l.Pairwise (· <= ·))(hr:r.Pairwise (· <= ·)):l=r:=
 hp.eq_of_pairwise (fun a b _ _ h1 h2=>Int.le_antisymm h1 h2) hl hr
theorem rB{l r:List Int}(hp:l.Perm r)(hl:l.Pairwise (· <= ·)):l=vo r:=BR (hp.trans (ln r).symm) hl (uM r)
abbrev LH(l:List Int):Ob:= .cells 3 (aF l)
end
section
open Mk
def isB(S:Sch)(P:List Int)(v:Int):Bool:=((lW S P==0)&&decide (v>=0))&&decide (v<P.length)
theorem Ks{S:Sch}{P:List Int}{v:Int}:isB S P v=true↔lW S P=0/\0<=v/\v<P.length:=by
 unfold isB;simp[and_assoc]
theorem Mh(S:Sch)(hS:SB S)(P:List Int)(hn:P.length<=1000000)(v:Int):FnP prog 164 [eZ S,lR P,.int .i64 v] (· = .bool (isB S P v)):=by
 refine FnP.of func164 O ntmps164 Tw fun m0 w0 F R0=>?_
 refine Z3 O O O O<|Z2 O O O<|Rs 9 O O (aa call72 (eB S hS P hn) O)<|Y2 O O ?_;apply O3 3 11 14 [12,13] O TE
 ·intro hb4;exact Y3 O O O<|OW TD O O O
 ·intro hb4;exact Y3 O O O<|OW TD O O O
 refine A1 O ?_;apply O3 6 15 21 [16,17,18,19,20] O TE
 ·intro hb8;iterate 6 refine A1 O ?_
  exact OW TD O O O
 ·intro hb8;iterate 6 refine A1 O ?_
  exact OW TD O O O
 exact A1 O<|Gt O<|⟨_,_,O,O,O⟩
structure OrdOk(S:Sch)(P:List Int):Prop where
 val:Valid S
 len:P.length=S.attrs.length
 rng:∀p∈P, -1<=p/\p<P.length
 up:∀v,v<P.length->(abv P (v:Int)).isSome=true
 rt:∀r∈S.rels,cH P r.2=true
theorem gU{S:Sch}{P:List Int}:lW S P=0↔bp S=0/\OrdOk S P:=by
 unfold lW;constructor
 ·intro h;split at h
  ·rename_i h1;exact absurd h h1
  ·rename_i h0;have h0:bp S=0:=PT h0;split at h
   ·cases h
   ·rename_i h1;split at h
    ·cases h
    ·rename_i h2;split at h
     ·cases h
     ·rename_i h3;split at h
      ·cases h
      ·rename_i h4;have h1:P.length=S.attrs.length:=PT h1;have h2:(P.any fun p=>decide (p< -1)||decide ((P.length:Int)<=p))=false:=by simpa using h2
       have h3:((List.range P.length).all fun v=>(abv P v).isSome)=true:=by rw[Bool.not_eq_false]at h3;exact h3
       have h4:(S.rels.all fun r=>cH P r.2)=true:=by simpa using h4
       refine⟨h0,gH h0,h1,fun p hp=>?_,fun v hv=>IN.1 h3 v (P0.2 hv),fun r hr=>IN.1 h4 r hr⟩;have:=S9.1 h2 p hp;simp at this;omega
 ·rintro⟨h0,h⟩;rw[dw (fun e=>e h0),dw (fun e=>e h.len),dw,dw,dw]
  ·rw[IN.2 fun r hr=>h.rt r hr];decide
  ·rw[IN.2 fun v hv=>h.up v (P0.1 hv)];decide
  ·rw[Qy];rintro⟨p,hp,h2⟩;have:=h.rng p hp;simp at h2;omega
theorem oH(p:Int->Bool)(k:Nat):(upZ (k+1)).filter p=(upZ k).filter p++(if p k=true then [(k:Int)]else []):=by
 rw[xw,Sw]
 congr 1
 by_cases h:p k=true<;>simp[h]
def fh(S:Sch)(P:List Int)(v:Int):List Int:=vo (JB S P v)
end
section
open Mk
def aA(P:List Int)(v:Int):List Int:=(upZ P.length).filter fun a=>P.getD a.toNat 0==v
def badB(S:Sch)(P:List Int)(v:Int):Bool:=(v != -1&& !isB S P v)||(lW S P !=0)
theorem qp(S:Sch)(hS:SB S)(P:List Int)(hn:P.length<=1000000)(v:Int):FnP prog 74 [eZ S,lR P,.int .i64 v] (· =ai (if badB S P v=true then []else aA P v)):=by
 refine FnP.of func74 O ntmps74 Tw fun m0 w0 F R0=>?_
 refine Z3 O O O O<|Z3 O O O O ?_;apply O3 6 12 18 [13,14,15,16,17] O TE
 ·intro hb2;exact Y3 O O O<|Rg 16 O O O (aa call164 (Mh S hS P hn v) O)<|Y2 O O<|OW TD O O O
 ·intro hb2;iterate 6 refine A1 O ?_
  exact OW TD O O O
 refine A1 O ?_;apply O2 5 19 24 [20,21,22,23] O TE
 ·intro hb9;iterate 5 refine A1 O ?_
  exact OW TD O O O
 ·intro hb9;exact Y2 O O<|Rg 22 O O O (aa call72 (eB S hS P hn) O)<|Y2 O O<|OW TD O O O
 refine Gc O O (fun hc24=>?_) (fun hc24=>?_)
 ·exact Z1 O O<|OT (St.lK [6])<|Gt O<|⟨_,_,O,O,by unfold badB;rw[AT hc24];rfl⟩
 ·refine OR<|Z1 O O<|OT (OZ 7 2 1 3 O O)<|Z4 O O O O O ?_;refine Gl O (st:=fun TC:Nat×List Int=>mkS [(2,pIi v),(7,.gsl 2 1 TC.2.length),(26,.pv (ai P)),(27,pIi P.length),(28,pIi TC.1)] [(2,.gro 3 (aF TC.2))] 3)
   (I:=fun TC=>TC.1<=P.length/\TC.2=(upZ TC.1).filter (fun a=>P.getD a.toNat 0==v)) (μ:=fun TC=>P.length-TC.1) (x0:=(0,[])) (OU (aS O) (aO O) O O) (⟨cd _,O⟩) ?_
  rintro⟨k,L⟩ ⟨hk,hL⟩;try simp only at hk hL ⊢
  refine Z1 O O ?_;refine Gp O O (fun hc29=>?_) (fun hc29=>?_)
  ·have hlt:k<P.length:=Ts;have hva:=aQ hlt;have hne:=aE hlt;have hLl:L.length<=k:=by rw[hL];exact IS (Re _ _) (by rw[aW];exact BY _)
   have hsl:(aF L).length=L.length*1:=Tw;have hfs:=oH (fun a=>P.getD a.toNat 0==v) k;have hgd:P.getD (k:Int).toNat 0=P[k]:=by simp[List.getD,hlt]
   rw[hgd]at hfs;refine OR<|Z2 O O O ?_;first|refine A2 O Tv ?_|refine A1 O ?_
   refine Y2 O O<|Z3 O O O O ?_;refine Gc O O (fun hc35=>?_) (fun hc35=>?_)
   ·rw[AT hc35,<-hL]at hfs;refine Gr O ?_;iterate 5 refine A1 O ?_
    exact Z2 O O O<|⟨(k+1,L++[(k:Int)]),OV [0,1,4] ⟨O,by simp;rfl,O,O,O,TB⟩ ⟨ag (fun c=>some (Ob.gro 3 c)) (eI L k).symm,TB⟩ O O Tu O,⟨Tz,hfs.symm⟩,Tz⟩
   ·rw[dw (by rw[hc35];decide),<-hL,PZ]at hfs;exact OR<|Z2 O O O<|⟨(k+1,L),OU (aS O) (aO O) O O,⟨Tz,hfs.symm⟩,Tz⟩
  ·exact Gx O<|OT (OX 2 O O)<|Z2 O O O<|Gt O<|⟨_,_,O,O,by unfold badB;rw[dw (by rw[hc24];decide),show aA P v=L by rw[hL,show k=P.length by omega];rfl];simp[O9];rfl⟩
def qn(P:List Int)(h a:Int):Int:=if hiB P h a=true then a else h
def iy(P:List Int)(l:List Int):Int:=l.foldl (qn P) (l.getD 0 0)
def zm(S:Sch)(P:List Int)(r:Int):Bool:=((lW S P !=0)||decide (r<0))||decide (r>=S.rels.length)
def jB(P:List Int):Nat->Int->List Int
 |0,_=>[]
 |f+1,v=>(upZ P.length).flatMap fun a=>if P.getD a.toNat 0=v then a::jB P f a else []

end
end Go.Proofs.YtoplpepiabedhaaGreatDoor
