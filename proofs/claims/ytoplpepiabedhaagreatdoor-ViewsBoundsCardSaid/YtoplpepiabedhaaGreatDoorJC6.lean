/- Lemmas. No condition. -/
import Derived.MapKept
import Derived.Carry
import Derived.Laws.RangeString
import Derived.Test.YtoplpepiabedhaaGreatDoorJC5
set_option maxRecDepth 100000
set_option maxHeartbeats 4000000
open Go.RowKit Go.Proofs.Tryz
open Option renaming some→Sh,none→Sl
open Bool renaming true→Sm,false→S1
namespace Go.Proofs.YtoplpepiabedhaaGreatDoor
variable{k n a q j clock id:Nat}{U:List Bool}{p:Nat->Bool}{b:Bool}{l P:List Int}{α:Type}{S:Sch}{e T:TypeId}{x:Int}{d:TypeDesc}{u y zv:Value}{ps qs:List PV}{es:Array MapEntry}{key zp:PV}{r:Option PV}{f:FuncId}{xs:Array Operand}{Q:V->(Nat->Option Ob)->Prop}
section
open Mk
theorem dK{l:List (ByteArray×List Int)}(h:k<l.length):((aM l).drop (k*2)).take 2=[.str l[k].1,aj l[k].2]:=cC _ 2 (λ_=>rfl) l k h
theorem gF{l:List (ByteArray×List Int)}(h:k<l.length):aM l≠[]:=λe=>by have:=uB l;rw[e]at this;simp at this;omega
def dW(n:Nat)(U:List Bool)(p:Nat->Bool):Prop:=U.length=n/\∀a,a<n->U[a]? =Sh (p a)
theorem dW.zero(n:Nat):dW n (List.replicate n S1) (λ_=>S1):=⟨Vj,λa ha=>by simp[ha]⟩
theorem dW.set(h:dW n U p)(A:a<n):dW n (U.set a Sm) (λb=>p b||(b==a)):=by
 refine⟨by simp[h.1],λb hb=>?_⟩;by_cases e:b=a
 .subst e;simp[h.1,hb]
 .rw[Tl (λs=>e s.symm),h.2 b hb];simp[e]
theorem dW.congr{q:Nat->Bool}(h:dW n U p)(e:∀a,a<n->p a=q a):dW n U q:=⟨h.1,λa ha=>by rw[h.2 a ha,e a ha]⟩
theorem dW.mem(h:dW n U p):decide (S1∈U)= !((List.range n).all p):=by
 rw[RJ];simp only[Rt,TB,Uj,Si];constructor
 .intro hm;obtain⟨a,ha,e⟩:=Sp hm;refine⟨a,by rw[<-h.1];exact ha,?_⟩;have:=h.2 a (by rw[<-h.1];exact ha);rw[Hj ha,e]at this;simpa using this.symm
 .rintro⟨a,ha,e⟩;have:=h.2 a ha;have s:p a=S1:=by simpa using e
  rw[s]at this;exact SC this
theorem uF(U:List Bool)(a:Nat):(cj U).set a (.bool Sm)=cj (U.set a Sm):=by simp[SH]
theorem vE(s:q<l.length)(A:l[q]=(j:Int)):((b||inB (l.take q) a)||(a==j))=(b||inB (l.take (q+1)) a):=by
 rw[bX s,Bool.or_assoc]
 congr 1
 rw[RJ];simp[inB,A];exact or_congr Iff.rfl ⟨λh=>by rw[h],λh=>by omega⟩
theorem An(s:q<l.length)(h:∀a∈l.take q,0<=a/\a<(n:Int))(A:0<=l[q]/\l[q]<n):∀a∈l.take (q+1),0<=a/\a<(n:Int):=by
 rw[bX s];intro a ha;rcases Rx.1 ha with h1|h1
 .exact h a h1
 .rw[Rn.1 h1];exact A
theorem AV{p:Nat}(A:p<l.length)(B:1<=p)(h:∀i,i+1<p->i+1<l.length->l.getD i 0<l.getD (i+1) 0)(D:l[p-1]'Vf<l[p]):∀i,i+1<p+1->i+1<l.length->l.getD i 0<l.getD (i+1) 0:=by
 intro i h1 h2;by_cases e:i+1=p
 .have e2:i=p-1:=Vf;subst e2;have s:p-1+1=p:=Vf;simp only[s,List.getD,Hj A,Hj (show p-1<l.length by omega)];exact D
 .exact h i Vf h2
theorem yH{rs:List (ByteArray×List Int)}(s:k<rs.length)(A:rs[k].2.length<=q):(((rs.take k).any λr=>inB r.2 a)||inB (rs[k].2.take q) a)=((rs.take (k+1)).any λr=>inB r.2 a):=by
 rw[bX s,aQ A];simp only[List.any_append,List.any_cons,List.any_nil,Tk]
theorem p6(S:Sch)(hS:SB S):FnP prog 248 [eS S] (· = .int .i64 (fR S)):=by
 refine FnP.of func248 O ntmps248 Vj λm0 w0 F R0=>?_
 have hb:=hS.a;have X:=hS.r;refine Z2 O<|Z1 O<|Q4 (Ra 3 1 1 9 O O)<|Gr O ?_;iterate 5 refine A1 O ?_
 refine Z4 O<|Gl O (st:=λVn:Nat×List ByteArray×List Bool=>mkS [(3,.gsl 1 1 Vn.2.1.length),(4,.osl 2 1 S.attrs.length),(16,.pv (.sl Sl S.rels.length (aM S.rels))),(17,pIi S.rels.length),(18,pIi Vn.1)] [(1,.gro 9 (bD Vn.2.1)),(2,.cells 4 (cj Vn.2.2))] 3)
  (I:=λVn=>Vn.1<=S.rels.length/\Vn.2.1=(S.rels.map (·.1)).take Vn.1/\dW S.attrs.length Vn.2.2 (λa=>(S.rels.take Vn.1).any λr=>inB r.2 a)/\bO (ue S) Vn.1=0) (μ:=λVn=>S.rels.length-Vn.1) (x0:=(0,[],List.replicate S.attrs.length S1)) (Q5 (aS O) ⟨O,ag (λc=>Sh (Ob.cells 4 c)) ((cB (.bool S1) (S.attrs.length*1)).trans Vj),Vm⟩ O O) (⟨cd _,O,dW.zero _,O⟩) ?_
 rintro⟨k,L,U⟩ ⟨hk,hL,hU,hs⟩;try simp only at hk hL hU hs ⊢
 refine Z1 O<|Gp O (λac=>?_) (λac=>?_)
 .have hlt:k<S.rels.length:=Vf;have Y:=dK hlt;have ao:=gF hlt;have al:L.length=k:=by rw[hL];simp;omega
  have Z:L++[S.rels[k].1]=(S.rels.map (·.1)).take (k+1):=by rw[bX (by simpa using hlt),hL];simp
  have aa:=qy (L++[S.rels[k].1]) k Vk Vk (by simp only[<-al];simp;exact hS.rn _ (au _));rw[qF,Z,qT Vf]at aa;have G:=rW S k hlt;have am:S.rels.getD k default=S.rels[k]:=by simp[List.getD,hlt]
  have ap:(bD L).length=L.length*1:=Vj;have aq:=hS.rl _ (au hlt);have ar:=hU.1;refine Q3<|Z2 O<|Rs O (aU ⟨_,underlying74,O⟩ E6 O Y O)<|Y3 O<|Gr O ?_;iterate 6 refine A1 O ?_
  refine Z2 O<|Rs O (ta call317 aa O O)<|A1 O<|Z2 O<|Gc O (λA=>?_) (λA=>?_)
  .refine Z2 O<|Gt O ?_;exact⟨_,_,O,O,ag (PV.int .i64) (by have e:ue S k=eX (S.rels.map (·.1)) k:=(by unfold ue;rw[AT (inT A)]);unfold fR;rw[fJ hs (by rw[e];exact inT A) hlt,AT (by rw[e];exact inT A),e])⟩
  .have hn0:eX (S.rels.map (·.1)) k=0:=inF A;have G:ue S k=if S.rels[k].2=[]then 7 else if(S.rels[k].2.all λa=>decide (0<=a)&&decide (a<S.attrs.length))=S1 then 2 else if CD S.rels[k].2=S1 then 10 else 0:=by unfold ue;rw[dt (by simp[hn0]),am]
   have H:∀e:Int,e≠0->ue S k=e->PV.int .i64 e= .int .i64 (fR S):=λe h0 h1=>ag (PV.int .i64) (by unfold fR;rw[fJ hs (by rw[h1];exact h0) hlt,AT (by rw[h1];exact h0),h1])
   refine Q3<|Z4 O<|Gc O (λD=>?_) (λD=>?_)
   .exact Z1 O<|Gt O<|⟨_,_,O,O,H 7 Vh (by rw[G,AT (by have:=ibT D;apply RU;omega)])⟩
   .have hl0:¬S.rels[k].2=[]:=λe=>by rw[e]at D;simp at D
    refine Q3<|Z4 O<|Gl O (st:=λs:Nat×List Bool=>mkS [(3,.gsl 5 1 (L.length+1)),(4,.osl 2 1 S.attrs.length),(6,.ptr 3 0),(16,.pv (.sl Sl S.rels.length (aM S.rels))),(17,pIi S.rels.length),(18,pIi k),(39,.pv (aj S.rels[k].2)),(40,.pv (.int .i64 S.rels[k].2.length)),(41,pIi s.1)] [(2,.cells 4 (cj s.2)),(3,.mix 74 [.pv (.str S.rels[k].1),.pv (aj S.rels[k].2)]),(5,.gro 9 (bD L++[.str S.rels[k].1]))] 6)
     (I:=λs=>s.1<=S.rels[k].2.length/\dW S.attrs.length s.2 (λa=>((S.rels.take k).any λr=>inB r.2 a)||inB (S.rels[k].2.take s.1) a)/\∀a∈S.rels[k].2.take s.1,0<=a/\a<S.attrs.length) (μ:=λs=>S.rels[k].2.length-s.1) (x0:=(0,U)) (Q5 (aS O) (aO O) O O) (⟨cd _,hU.congr (λa _=>by simp[inB]),Vj⟩) ?_
    rintro⟨q,U2⟩ ⟨hq,hU2,hr⟩;try simp only at hq hU2 hr ⊢
    refine Z1 O<|Gp O (λad=>?_) (λad=>?_)
    .have hql:q<S.rels[k].2.length:=Vf;have hv:=aX hql;have M:=aD hql;have an:=hU2.1;refine Q3<|Z1 O ?_;first|refine A2 O Vi ?_|refine A1 O ?_
     refine A1 O<|Z3 O ?_;apply Re 5 47 52 [48,49,50,51] O Vp
     .intro X;iterate 5 refine A1 O ?_
      exact Q7 Vo O O O
     .intro X;iterate 5 refine A1 O ?_
      exact Q7 Vo O O O
     refine Gc O (λJ=>?_) (λJ=>?_)
     .exact Z1 O<|Gt O<|⟨_,_,O,O,H 2 Vh (by rw[G,dt hl0,AT (K7 hql (by simp at J;omega))])⟩
     .have hx:0<=S.rels[k].2[q]/\S.rels[k].2[q]<S.attrs.length:=by simp only[R7,S8]at J;omega
      obtain⟨j,hj⟩:=Rm hx.1;exact Q3<|Z2 O<|Rs O (ak j underlying215 sz4 O O O hj Vf)<|A1 O<|Z2 O<|⟨(q+1,U2.set j Sm),Q5 (aS O) ⟨by show Sh (Ob.cells _ _)=_;rw[<-uF];simp,O,O,Vm⟩ O O,⟨Vl,(hU2.set (a:=j) Vf).congr (λa _=>vE hql hj),An hql hr hx⟩,Vl⟩
    .have hrng:(S.rels[k].2.all λa=>decide (0<=a)&&decide (a<S.attrs.length))=Sm:=xi (λa ha=>hr a (by rw[aQ Vf];exact ha));refine Gx O<|Z1 O<|Gl O (st:=λE:Nat=>mkS [(3,.gsl 5 1 (L.length+1)),(4,.osl 2 1 S.attrs.length),(6,.ptr 3 0),(10,pIi E),(16,.pv (.sl Sl S.rels.length (aM S.rels))),(17,pIi S.rels.length),(18,pIi k)] [(2,.cells 4 (cj U2)),(3,.mix 74 [.pv (.str S.rels[k].1),.pv (aj S.rels[k].2)]),(5,.gro 9 (bD L++[.str S.rels[k].1]))] 6)
      (I:=λE=>1<=E/\∀i,i+1<E->i+1<S.rels[k].2.length->S.rels[k].2.getD i 0<S.rels[k].2.getD (i+1) 0) (μ:=λE=>S.rels[k].2.length-E) (x0:=(1)) (Q5 (aS O) (aO O) O O) (⟨BY _,λi hi=>by omega⟩) ?_
     rintro p ⟨hp1,hasc⟩;refine Gr O ?_;iterate 5 refine A1 O ?_
     refine Gp O (λaf=>?_) (λaf=>?_)
     .have hpl:p<S.rels[k].2.length:=Vf;have ab:p-1<S.rels[k].2.length:=Vf;have hv:=aX hpl;have hv1:=aX ab;have M:=aD hpl;refine Q3<|RW 12 O ?_;iterate 4 refine D1 O ?_
      first|refine D2 O O Vi ?_|refine D1 O ?_
      iterate 4 refine D1 O ?_
      refine Ds [] O (λτ h=>ae (p-1) underlying22 sz3 (Ee h 0 O O) (Ee h 1 O O) Vf Vf M) O Vg ?_;first|refine D2 O O Vi ?_|refine D1 O ?_
      refine D1 O ?_;refine⟨Vg,?_⟩;refine Gp O (λW=>?_) (λW=>?_)
      .exact Z1 O<|Gt O<|⟨_,_,O,O,H 10 Vh (by rw[G,dt hl0,dt (by rw[hrng];decide),AT (LF hp1 hpl W)])⟩
      .exact Q3<|Z3 O<|⟨(p+1),Q5 (aS O) (aO O) O O,⟨Vf,AV hpl hp1 hasc Vf⟩,Vf⟩
     .exact Gx O<|Z2 O<|⟨(k+1,L++[S.rels[k].1],U2),Q6 [0,5,2] ⟨by simp;rfl,O,O,O,O,Vm⟩ ⟨ag (λc=>Sh (Ob.gro 9 c)) (vk L S.rels[k].1).symm,O,Vm⟩ O O Vh O,⟨Vl,Z,hU2.congr (λa _=>yH hlt Vf),by simp only;rw[dh hs,G,dt hl0,dt (by rw[hrng];decide),dt (by rw[wT (λi hi=>hasc i Vf hi)];decide)]⟩,Vl⟩
 .have hfull:((List.range S.attrs.length).all λa=>(S.rels.take k).any λr=>inB r.2 a)=((List.range S.attrs.length).all λa=>sn S a):=by rw[aQ Vf];rfl
  refine Gx O<|Z1 O<|Rs O (ta call318 (p9 U S1 (by have:=hU.1;omega)) (by rw[kO,hU.1];rfl) O) ?_;refine Gc O (λB=>?_) (λB=>?_)
  .exact Z1 O<|Gt O<|⟨_,_,O,O,ag (PV.int .i64) (by unfold fR;rw[show S.rels.length=k by omega,dt (by simp[hs]),AT (by rw[<-hfull];rw[hU.mem]at B;simpa using B)])⟩
  .exact Q3<|Z1 O<|Gt O<|⟨_,_,O,O,ag (PV.int .i64) (by unfold fR;rw[show S.rels.length=k by omega,dt (by simp[hs]),dt (by rw[<-hfull];rw[hU.mem]at B;simpa using B)])⟩
end
section
open Mk
abbrev xc(f:Int×Int×Int):List PV:=[.int .i64 f.1,.int .i64 f.2.1,.int .i64 f.2.2]
theorem kE{l:List (Int×Int×Int)}(h:k<l.length):((aH l).drop (k*3)).take 3=xc l[k]:=cC _ 3 (λ_=>rfl) l k h
theorem oF{l:List (Int×Int×Int)}(h:k<l.length):aH l≠[]:=λe=>by have:=gg l;rw[e]at this;simp at this;omega
theorem fK{l:List α}{p:α->Bool}(s:k<l.length)(h:(l.take k).any p=S1)(A:p l[k]=S1):(l.take (k+1)).any p=S1:=by
 rw[bX s];simp only[List.any_append,h,List.any_cons,A,List.any_nil,Tk]
theorem qK{l:List α}{p:α->Bool}(s:k<l.length)(h:p l[k]=Sm):l.any p=Sm:=SR.2 ⟨_,au s,h⟩
theorem ED(l:List (Int×Int×Int))(g:FuncId)(caps:List PV)(p:Int×Int×Int->Bool)(H:l.length<=1000000)(hc:cu prog g)(G:∀f∈l,FnP prog g ([]++[.agg (xc f)]++caps) (· = .bool (p f))):
  FnP prog 200 [.sl Sl l.length (aH l),.fn (.func g) [] caps] (λv=>∃i:Int,v= .int .i64 i/\decide (0<=i)=l.any p):=by
 refine FnP.of func200 O ntmps200 Vj λm0 w0 F R0=>?_
 refine Z1 O<|Z3 O<|Gl O (st:=λVn:Nat=>mkS [(0,.pv (.sl Sl l.length (aH l))),(1,.pv (.fn (.func g) [] caps)),(7,pIi l.length),(8,pIi Vn)] [] 0)
  (I:=λVn=>Vn<=l.length/\(l.take Vn).any p=S1) (μ:=λVn=>l.length-Vn) (x0:=(0)) (Q5 (aS O) trivial O O) (⟨cd _,O⟩) ?_
 rintro k ⟨hk,hno⟩;refine Z1 O<|Gp O (λD=>?_) (λD=>?_)
 .have hlt:k<l.length:=Vf;have A:=kE hlt;have E:=oF hlt;have B:=G _ (au hlt);refine Q3<|Z2 O<|Z4 O<|Rs O (aU ⟨_,underlying164,O⟩ yb O A O)<|Rs O (fH hc O B O)<|Gc O (λs=>?_) (λs=>?_)
  .exact Z2 O<|Gt O<|⟨_,_,O,O,_,O,by rw[qK hlt s];exact Ru Vf⟩
  .exact Q3<|Z2 O<|⟨(k+1),Q5 (aS O) trivial O O,⟨Vf,fK hlt hno s⟩,Vf⟩
 .exact Gx O<|Z1 O<|Gt O<|⟨_,_,O,O,_,O,by rw[aQ Vf]at hno;rw[hno];rfl⟩
theorem pU(l:List (Int×Int×Int))(g:FuncId)(caps:List PV)(p:Int×Int×Int->Bool)(s:l.length<=1000000)(hc:cu prog g)(A:∀f∈l,FnP prog g ([]++[.agg (xc f)]++caps) (· = .bool (p f))):
  FnP prog 319 [.sl Sl l.length (aH l),.fn (.func g) [] caps] (· = .bool (l.any p)):=by
 refine FnP.of func319 O ntmps319 Vj λm0 w0 F R0=>?_
 refine Z1 O<|Z2 O<|RL.call O (eW call200 (ED l g caps p s hc A) O ?_);rintro _ ⟨i,rfl,hi⟩;exact Y2 O<|Gt O<|⟨_,_,O,O,ag PV.bool hi⟩
theorem B4(f:Int×Int×Int)(c:List PV)(a:Int)(hc:c[0]? =Sh (.int .i64 a)):FnP prog 320 [.agg (xc f),.rp c 0] (· = .bool (f.1==a)):=by
 refine FnP.of func320 O ntmps320 Vj λm0 w0 F R0=>?_
 refine Z2 O<|Z3 O ?_;first|refine A1 O ?_|refine A2 O Vi ?_
 exact Y2 O<|Gt O<|⟨_,_,O,O,O⟩
theorem Bf(l:List (Int×Int×Int))(k:Nat)(s:k<=l.length):PV.sl Sl k ((aH l).take (k*3))= .sl Sl (l.take k).length (aH (l.take k)):=by
 have e:(aH l).take (k*3)=aH (l.take k):=by
  conv=>lhs;rw[<-Sb k l]
  have:aH (l.take k++l.drop k)=aH (l.take k)++aH (l.drop k):=by unfold aH;rw[Sc]
  rw[this,List.take_append_of_le_length (by rw[gg];simp;omega),aQ (by rw[gg];simp;omega)]
 rw[e];simp;omega
abbrev sCc(S:Sch):List V:=[.pv (.sl Sl S.attrs.length (aG S.attrs)),.pv (.sl Sl S.rels.length (aM S.rels)),.pv (.sl Sl S.feats.length (aH S.feats)),pIi S.label]
theorem rS(S:Sch)(hS:SB S):FnP prog 249 [eS S] (· = .int .i64 (bO (jM S) S.feats.length)):=by
 refine FnP.of func249 O ntmps249 Vj λm0 w0 F R0=>?_
 have hb:=hS.a;have J:=hS.f;have X:=gg S.feats;refine Z2 O<|Z4 O<|Gl O (st:=λVn:Nat=>mkS [(1,.ptr 0 0),(9,.pv (.sl Sl S.feats.length (aH S.feats))),(10,pIi S.feats.length),(11,pIi Vn)] [(0,.mix 30 (sCc S))] 1)
  (I:=λVn=>Vn<=S.feats.length/\bO (jM S) Vn=0) (μ:=λVn=>S.feats.length-Vn) (x0:=(0)) (Q5 (aS O) (aO O) O O) (⟨cd _,O⟩) ?_
 rintro k ⟨hk,hs⟩;refine Z1 O<|Gp O (λW=>?_) (λW=>?_)
 .have hlt:k<S.feats.length:=Vf;have L:=kE hlt;have Y:=oF hlt;have E:=od S k hlt;have A:∀e:Int,e≠0->jM S k=e->PV.int .i64 e= .int .i64 (bO (jM S) S.feats.length):=λe h0 h1=>ag (PV.int .i64) (by rw[fJ hs (by rw[h1];exact h0) hlt,h1])
  refine Q3<|Z2 O<|Rs O (aU ⟨_,underlying164,O⟩ yb O L O)<|Y3 O<|Z4 O ?_;apply Re 7 19 26 [20,21,22,23,24,25] O Vp
  .intro hb3;iterate 7 refine A1 O ?_
   exact Q7 Vo O O O
  .intro hb3;iterate 7 refine A1 O ?_
   exact Q7 Vo O O O
  refine Gc O (λB=>?_) (λB=>?_)
  .exact Z1 O<|Gt O<|⟨_,_,O,O,A 2 Vh (by rw[E,AT (by simpa using B)])⟩
  .have hx:0<=S.feats[k].1/\S.feats[k].1<S.attrs.length:=by simp only[R7,S8]at B;omega
   obtain⟨a,ha⟩:=Rm hx.1;have G:a<S.attrs.length:=Vf;have Z:(aG S.attrs)[a*2+1]? =Sh (.int .i64 S.attrs[a].2):=gW _ 2 (λ_=>rfl) S.attrs a 1 G Vh;have M:=iu G;have H:(S.attrs.getD S.feats[k].1.toNat default).2=S.attrs[a].2:=by rw[ha];simp[List.getD,G]
   refine Q3<|Z4 O<|Rs O (ae a underlying26 lZ O O ha G M)<|A1 O ?_;first|refine A2 O Vi ?_|refine A1 O ?_
   refine A1 O<|Z4 O ?_;apply Rf 3 37 40 [38,39] O Vp
   .intro hb3;exact Y3 O<|Q7 Vo O O O
   .intro hb3;exact Y3 O<|Q7 Vo O O O
   refine A1 O ?_;apply Rf 9 41 50 [42,43,44,45,46,47,48,49] O Vp
   .intro hb7;iterate 4 refine A1 O ?_
    apply Re 4 45 49 [46,47,48] O Vp
    .intro hb11;iterate 4 refine A1 O ?_
     exact Q7 Vo O O O
    .intro hb11;iterate 4 refine A1 O ?_
     exact Q7 Vo O O O
    exact A1 O<|Q7 Vo O O O
   .intro hb7;iterate 9 refine A1 O ?_
    exact Q7 Vo O O O
   refine A1 O<|Z4 O ?_;apply Rf 3 54 57 [55,56] O Vp
   .intro hb3;exact Y3 O<|Q7 Vo O O O
   .intro hb3;exact Y3 O<|Q7 Vo O O O
   refine A1 O ?_;apply Rf 4 58 62 [59,60,61] O Vp
   .intro hb7;iterate 4 refine A1 O ?_
    exact Q7 Vo O O O
   .intro hb7;iterate 4 refine A1 O ?_
    exact Q7 Vo O O O
   refine A1 O<|Z3 O ?_;apply Rf 3 65 68 [66,67] O Vp
   .intro J;exact Y3 O<|Q7 Vo O O O
   .intro J;exact Y3 O<|Q7 Vo O O O
   refine Gc O (λs=>?_) (λs=>?_)
   .exact Z1 O<|Gt O<|⟨_,_,O,O,A 7 Vh (by rw[E,dt Vf,H,AT (by rw[R7];rw[sh,TB,TB]at s;exact s)])⟩
   .refine Q3<|Q4 (St.fG 1 O O)<|Gr O ?_;iterate 6 refine A1 O ?_
    apply Re 7 74 81 [75,76,77,78,79,80] O Vp
    .intro hb5;iterate 7 refine A1 O ?_
     exact Q7 Vo O O O
    .intro hb5;exact Y3 O<|Rg O (XJ.cast (v':= .pv (.sl Sl (S.feats.take k).length (aH (S.feats.take k)))) (di k underlying28 yb O O O Vf X) (by rw[Bf _ _ hk]))<|A1 O<|Rg O (aa call319 (pU (S.feats.take k) 320 [.rp (xc S.feats[k]) 0] (λg=>g.1==S.feats[k].1) Vk call320 (λf _=>B4 f _ _ O)) O)<|A1 O<|Q7 Vo O O O
    refine Gc O (λD=>?_) (λD=>?_)
    .exact Z1 O<|Gt O<|⟨_,_,O,O,A 9 Vh (by rw[E,dt Vf,H,dt (by intro h;rw[R7]at h;rw[h.1,h.2]at s;cases s),AT D])⟩
    .exact Q3<|Z2 O<|⟨(k+1),Q5 (aS O) (aO O) O O,⟨Vf,by rw[dh hs,E,dt Vf,H,dt (by intro h;rw[R7]at h;rw[h.1,h.2]at s;cases s),dt (by rw[D];decide)]⟩,Vf⟩
 .exact Gx O<|Z1 O<|Gt O<|⟨_,_,O,O,ag (PV.int .i64) (by rw[show S.feats.length=k by omega,hs])⟩
end
section
open Mk
theorem zB(S:Sch):((((((S.attrs.length:Int)==0)||decide ((12:Int)<S.attrs.length))||((S.rels.length:Int)==0))||decide ((6:Int)<S.rels.length))||decide ((8:Int)<S.feats.length))=Sm↔S.attrs.length=0\/12<S.attrs.length\/S.rels.length=0\/6<S.rels.length\/8<S.feats.length:=by
 simp only[Sg,S0,Rt];omega
def GB(S:Sch):Nat->Int
 |0=>bO (fU S) S.attrs.length
 |1=>fR S
 |_=>bO (jM S) S.feats.length
def MY:Nat->FuncId
 |0=>247
 |1=>248
 |_=>249
theorem Bh(S:Sch)(hS:SB S)(k:Nat):FnP prog (MY k) [eS S] (· = .int .i64 (GB S k)):=by
 match k with
 |0=>exact pP S hS
 |1=>exact p6 S hS
 |k+2=>exact rS S hS
theorem KM(k:Nat):cu prog (MY k):=by
 match k with
 |0=>exact call247
 |1=>exact call248
 |k+2=>exact call249
theorem IK(k:Nat)(s:k<3):([.fn (.func 247) [] [],.fn (.func 248) [] [],.fn (.func 249) [] []]:List PV)[k*1]? =Sh (.fn (.func (MY k)) [] []):=by
 match k,s with
 |0,_=>rfl
 |1,_=>rfl
 |2,_=>rfl
theorem Ir(s:¬ (S.attrs.length=0\/12<S.attrs.length\/S.rels.length=0\/6<S.rels.length\/8<S.feats.length))(E:k<3)(B:∀j,j<k->GB S j=0)(h:¬GB S k=0):GB S k=bz S:=by
 unfold bz;rw[dt s];match k,E with
 |0,_=>rw[AT (show bO (fU S) S.attrs.length≠0 from h)];rfl
 |1,_=>have A:=B 0 Vf;rw[dt (λe=>e A),AT (show fR S≠0 from h)];rfl
 |2,_=>have A:=B 0 Vf;have D:=B 1 Vf;rw[dt (λe=>e A),dt (λe=>e D),AT (show bO (jM S) S.feats.length≠0 from h)];rfl
theorem sD(S:Sch)(hS:SB S):FnP prog 159 [eS S] (· = .int .i64 (bz S)):=by
 refine FnP.of func159 O ntmps159 Vj λm0 w0 F R0=>?_
 have X:=hS.a;refine Z2 O<|Gr O ?_;iterate 5 refine A1 O ?_
 apply Re 5 10 15 [11,12,13,14] O Vp
 .intro hb4;iterate 5 refine A1 O ?_
  exact Q7 Vo O O O
 .intro hb4;iterate 5 refine A1 O ?_
  exact Q7 Vo O O O
 refine A1 O ?_;apply Re 5 16 21 [17,18,19,20] O Vp
 .intro hb10;iterate 5 refine A1 O ?_
  exact Q7 Vo O O O
 .intro hb10;iterate 5 refine A1 O ?_
  exact Q7 Vo O O O
 refine A1 O ?_;apply Re 5 22 27 [23,24,25,26] O Vp
 .intro hb16;iterate 5 refine A1 O ?_
  exact Q7 Vo O O O
 .intro hb16;iterate 5 refine A1 O ?_
  exact Q7 Vo O O O
 refine A1 O ?_;apply Re 5 28 33 [29,30,31,32] O Vp
 .intro hb22;iterate 5 refine A1 O ?_
  exact Q7 Vo O O O
 .intro hb22;iterate 5 refine A1 O ?_
  exact Q7 Vo O O O
 refine Gc O (λs=>?_) (λs=>?_)
 .exact Z1 O<|Gt O<|⟨_,_,O,O,ag (PV.int .i64) (by unfold bz;rw[AT ((zB S).1 s)])⟩
 .have hlim:¬ (S.attrs.length=0\/12<S.attrs.length\/S.rels.length=0\/6<S.rels.length\/8<S.feats.length):=λh=>by rw[(zB S).2 h]at s;cases s
  refine Q3<|Gr O<|Rs O (ar Sl Vj el364 O Vh Vh O O)<|Y2 O<|Gl O (st:=λVn:Nat=>mkS [(1,.ptr 0 0),(34,.pv (.sl Sl 3 [.fn (.func 247) [] [],.fn (.func 248) [] [],.fn (.func 249) [] []])),(35,pIi 3),(36,pIi Vn)] [(0,.mix 30 (sCc S))] 1)
   (I:=λVn=>Vn<=3/\∀j,j<Vn->GB S j=0) (μ:=λVn=>3-Vn) (x0:=(0)) (Q5 (aS O) (aO O) O O) (⟨Vf,λj hj=>absurd hj (Tu _)⟩) ?_
  rintro k ⟨hk,hz⟩;refine Z1 O<|Gp O (λJ=>?_) (λJ=>?_)
  .have hlt:k<3:=Vf;have Y:=IK k hlt;refine Q3<|Gr O<|Rs O (ae k underlying364 sz167 O O O hlt Vj) ?_;first|refine A2 O Vi ?_|refine A1 O ?_
   refine A1 O<|Z2 O<|Rs O (fH (KM k) O (Bh S hS k) O)<|A1 O<|Z2 O ?_;refine Gc O (λD=>?_) (λD=>?_)
   .exact Z2 O<|Gt O<|⟨_,_,O,O,ag (PV.int .i64) (Ir hlim hlt hz (inT D))⟩
   .exact Q3<|Z2 O<|⟨(k+1),Q5 (aS O) (aO O) O O,⟨Vf,λj hj=>by rcases SP.1 hj with h|rfl;exact hz j h;exact inF D⟩,Vf⟩
  .have h0:=hz 0 Vf;have L:=hz 1 Vf;have M:=hz 2 Vf;have G:=pE hlim h0 L M;refine Gx O<|Z4 O ?_;apply Re 7 51 58 [52,53,54,55,56,57] O Vp
   .intro hb3;iterate 7 refine A1 O ?_
    exact Q7 Vo O O O
   .intro hb3;iterate 7 refine A1 O ?_
    exact Q7 Vo O O O
   refine A1 O<|Gc O (λE=>?_) (λE=>?_)
   .exact Z1 O<|Gt O<|⟨_,_,O,O,ag (PV.int .i64) (by rw[G,AT (by simpa using E)])⟩
   .have hn:¬ (S.label< -1\/(S.attrs.length:Int)<=S.label):=by simpa using E
    have W:0<=S.label->∃(a:Nat),S.label=(a:Int)/\a<S.attrs.length/\(aG S.attrs)[a*2+1]? =Sh (.int .i64 (S.attrs.getD S.label.toNat default).2):=λh=>by obtain⟨a,ha⟩:=Rm h;have B:a<S.attrs.length:=Vf;refine⟨a,ha,B,?_⟩;rw[ha];simp only[RH,List.getD,Hj B];exact gW _ 2 (λ_=>rfl) S.attrs a 1 B Vh
    refine Z4 O ?_;apply Rf 9 63 72 [64,65,66,67,68,69,70,71] O Vp
    .intro hb3;obtain⟨a,ha,B,hk2⟩:=W (Tm hb3);have H:=iu B;iterate 4 refine A1 O ?_
     refine Rg O (ae a underlying26 lZ O O ha B H)<|A1 O ?_;first|refine A2 O Vi ?_|refine A1 O ?_
     exact Y2 O<|Q7 Vo O O O
    .intro hb3;iterate 9 refine A1 O ?_
     exact Q7 Vo O O O
    refine A1 O<|Gc O (λA=>?_) (λA=>?_)
    .exact Z1 O<|Gt O<|⟨_,_,O,O,ag (PV.int .i64) (by rw[G,dt hn,AT (by simpa using A)])⟩
    .exact Q3<|Z1 O<|Gt O<|⟨_,_,O,O,ag (PV.int .i64) (by rw[G,dt hn,dt (by rintro⟨L,M⟩;rw[Ru (show S.label>=0 from L),UM,bne_eq_false_iff_eq]at A;exact M A)])⟩
end
section
open Mk
theorem LN[DecidableEq α]{l:List α}{x:α}(h:¬x∈l):hasB l x=S1:=by unfold hasB;exact Rv h
theorem GZ[DecidableEq α]{l:List α}{x:α}(h:x∈l):hasB l x=Sm:=by unfold hasB;exact Ru h
theorem ie{l:List α}(s:j<k)(A:j<l.length):l[j]∈l.take k:=Tg.2 ⟨j,Vf,O⟩
theorem M1(s:¬ (S.attrs.length=0\/12<S.attrs.length\/S.rels.length=0\/6<S.rels.length\/8<S.feats.length)){e:Int}(A:e≠0):
  (bO (fU S) S.attrs.length=e->bz S=e)/\(bO (fU S) S.attrs.length=0->fR S=e->bz S=e)/\(bO (fU S) S.attrs.length=0->fR S=0->bO (jM S) S.feats.length=e->bz S=e):=by
 unfold bz;rw[dt s];refine⟨λh=>?_,λh1 h2=>?_,λh1 h2 h3=>?_⟩
 .rw[AT (by rw[h];exact A),h]
 .rw[dt (λe=>e h1),AT (by rw[h2];exact A),h2]
 .rw[dt (λe=>e h1),dt (λe=>e h2),AT (by rw[h3];exact A),h3]
theorem G7(S:Sch)(hS:SB S):FnP prog 83 [eS S] (· = .int .i64 (bz S)):=by
 refine FnP.of func83 O ntmps83 Vj λm0 w0 F R0=>?_
 have hb:=hS.a;have aR:=hS.r;have B:=hS.f;refine Z2 O<|Gr O ?_;iterate 5 refine A1 O ?_
 apply Re 5 24 29 [25,26,27,28] O Vp
 .intro hb4;iterate 5 refine A1 O ?_
  exact Q7 Vo O O O
 .intro hb4;iterate 5 refine A1 O ?_
  exact Q7 Vo O O O
 refine A1 O ?_;apply Re 5 30 35 [31,32,33,34] O Vp
 .intro hb10;iterate 5 refine A1 O ?_
  exact Q7 Vo O O O
 .intro hb10;iterate 5 refine A1 O ?_
  exact Q7 Vo O O O
 refine A1 O ?_;apply Re 5 36 41 [37,38,39,40] O Vp
 .intro hb16;iterate 5 refine A1 O ?_
  exact Q7 Vo O O O
 .intro hb16;iterate 5 refine A1 O ?_
  exact Q7 Vo O O O
 refine A1 O ?_;apply Re 5 42 47 [43,44,45,46] O Vp
 .intro hb22;iterate 5 refine A1 O ?_
  exact Q7 Vo O O O
 .intro hb22;iterate 5 refine A1 O ?_
  exact Q7 Vo O O O
 refine Gc O (λam=>?_) (λam=>?_)
 .exact Z1 O<|Gt O<|⟨_,_,O,O,ag (PV.int .i64) (by unfold bz;rw[AT ((zB S).1 am)])⟩
 .have hlim:¬ (S.attrs.length=0\/12<S.attrs.length\/S.rels.length=0\/6<S.rels.length\/8<S.feats.length):=λh=>by rw[(zB S).2 h]at am;cases am
  have af:=fun{e:Int}(h:e≠0)=>M1 (S:=S) hlim h
  refine Q3<|Z4 O<|Gl O (st:=λVn:Nat=>mkS [(1,.ptr 0 0),(49,.pv (.sl Sl S.attrs.length (aG S.attrs))),(50,pIi S.attrs.length),(51,pIi Vn)] [(0,.mix 30 (sCc S))] 1)
   (I:=λVn=>Vn<=S.attrs.length/\bO (fU S) Vn=0) (μ:=λVn=>S.attrs.length-Vn) (x0:=(0)) (Q5 (aS O) (aO O) O O) (⟨cd _,O⟩) ?_
  rintro k ⟨hk,hs⟩;refine Z1 O<|Gp O (λhc52=>?_) (λhc52=>?_)
  .have hlt:k<S.attrs.length:=Vf;have L:=ln hlt;have hne:=iu hlt;have aT:=yo S k hlt;have s:∀e:Int,e≠0->fU S k=e->PV.int .i64 e= .int .i64 (bz S):=λe h0 h1=>ag (PV.int .i64) (((af h0).1 (by rw[fJ hs (by rw[h1];exact h0) hlt,h1])).symm)
   refine Q3<|Z2 O<|Rs O (aU ⟨_,underlying162,O⟩ lZ O L O)<|Y3 O<|Z2 O<|Rs O (aa call172 (qJ S.attrs[k].1 (hS.an _ (au hlt))) O)<|A1 O<|Gc O (λaE=>?_) (λaE=>?_)
   .exact Z1 O<|Gt O<|⟨_,_,O,O,s 14 Vh (by rw[aT,AT (by simpa using aE)])⟩
   .have hw:¬gL S.attrs[k].1=S1:=by simpa using aE
    refine Q3<|Z1 O<|Gl O (st:=λap:Nat=>mkS [(1,.ptr 0 0),(3,pIi k),(4,.ptr 1 0),(5,pIi ap),(49,.pv (.sl Sl S.attrs.length (aG S.attrs))),(50,pIi S.attrs.length),(51,pIi k)] [(0,.mix 30 (sCc S)),(1,.mix 162 [.pv (.str S.attrs[k].1),.pv (.int .i64 S.attrs[k].2)])] 2)
     (I:=λap=>ap<=k/\¬S.attrs[k].1∈(S.attrs.map (·.1)).take ap) (μ:=λap=>k-ap) (x0:=(0)) (Q5 (aS O) (aO O) O O) (⟨cd _,Vj⟩) ?_
    rintro j ⟨hj,hno⟩;refine Z3 O<|Gp O (λhc62=>?_) (λhc62=>?_)
    .have hjk:j<k:=Vf;have D:j<S.attrs.length:=Vf;have hnm:(aG S.attrs)[j*2+0]? =Sh (.str S.attrs[j].1):=gW _ 2 (λ_=>rfl) S.attrs j 0 D Vh;have aA:j<(S.attrs.map (·.1)).length:=by simpa using D
     have aB:(S.attrs.map (·.1))[j]=S.attrs[j].1:=Vj;refine Q3<|RW 9 O ?_;iterate 5 refine D1 O ?_
     first|refine D2 O O Vi ?_|refine D1 O ?_
     iterate 3 refine D1 O ?_
     refine⟨Vg,?_⟩;refine Gc O (λaJ=>?_) (λaJ=>?_)
     .exact Z1 O<|Gt O<|⟨_,_,O,O,s 9 Vh (by rw[aT,dt hw,AT (GZ (by rw[<-baT aJ,<-aB];exact ie hjk aA))])⟩
     .exact Q3<|Z3 O<|⟨(j+1),Q5 (aS O) (aO O) O O,⟨Vf,fP aA hno (by rw[aB];exact baF aJ)⟩,Vf⟩
    .have hno2:¬hasB ((S.attrs.map (·.1)).take k) S.attrs[k].1=Sm:=by rw[show j=k by omega]at hno;rw[LN hno];decide
     refine Gx O<|Z4 O ?_;apply Re 4 77 81 [78,79,80] O Vp
     .intro B;iterate 4 refine A1 O ?_
      exact Q7 Vo O O O
     .intro B;iterate 4 refine A1 O ?_
      exact Q7 Vo O O O
     refine Gc O (λaK=>?_) (λaK=>?_)
     .exact Z1 O<|Gt O<|⟨_,_,O,O,s 7 Vh (by rw[aT,dt hw,dt hno2,AT (by simp at aK;omega)])⟩
     .exact Q3<|Z2 O<|⟨(k+1),Q5 (aS O) (aO O) O O,⟨Vf,by rw[dh hs,aT,dt hw,dt hno2,dt (by simp at aK;omega)]⟩,Vf⟩
  .have hA:bO (fU S) S.attrs.length=0:=by rw[show S.attrs.length=k by omega];exact hs
   refine Gx O<|Gr O ?_;iterate 5 refine A1 O ?_
   refine Z4 O<|Gl O (st:=λE:Nat×List Bool=>mkS [(1,.ptr 0 0),(6,.osl 1 1 S.attrs.length),(88,.pv (.sl Sl S.rels.length (aM S.rels))),(89,pIi S.rels.length),(90,pIi E.1)] [(0,.mix 30 (sCc S)),(1,.cells 4 (cj E.2))] 2)
    (I:=λE=>E.1<=S.rels.length/\dW S.attrs.length E.2 (λa=>(S.rels.take E.1).any λx=>inB x.2 a)/\bO (ue S) E.1=0) (μ:=λE=>S.rels.length-E.1) (x0:=(0,List.replicate S.attrs.length S1)) (Q5 (aS O) ⟨O,ag (λc=>Sh (Ob.cells 4 c)) ((cB (.bool S1) (S.attrs.length*1)).trans Vj),Vm⟩ O O) (⟨cd _,dW.zero _,O⟩) ?_
   rintro⟨ri,U⟩ ⟨hk,hU,hs⟩;try simp only at hk hU hs ⊢
   refine Z1 O<|Gp O (λhc91=>?_) (λhc91=>?_)
   .have hlt:ri<S.rels.length:=Vf;have L:=dK hlt;have hne:=gF hlt;have ao:=rW S ri hlt;have hul:=hU.1;have hll:=hS.rl _ (au hlt);have s:∀e:Int,e≠0->ue S ri=e->PV.int .i64 e= .int .i64 (bz S):=λe h0 h1=>ag (PV.int .i64) (((af h0).2.1 hA (by unfold fR;rw[fJ hs (by rw[h1];exact h0) hlt,AT (by rw[h1];exact h0),h1])).symm)
    refine Q3<|Z2 O<|Rs O (aU ⟨_,underlying74,O⟩ E6 O L O)<|Y3 O<|Z2 O<|Rs O (aa call172 (qJ S.rels[ri].1 (hS.rn _ (au hlt))) O)<|A1 O<|Gc O (λaL=>?_) (λaL=>?_)
    .exact Z1 O<|Gt O<|⟨_,_,O,O,s 14 Vh (by rw[ao,AT (by simpa using aL)])⟩
    .have hw:¬gL S.rels[ri].1=S1:=by simpa using aL
     refine Q3<|Z1 O<|Gl O (st:=λaq:Nat=>mkS [(1,.ptr 0 0),(6,.osl 1 1 S.attrs.length),(7,pIi ri),(8,.ptr 2 0),(9,pIi aq),(88,.pv (.sl Sl S.rels.length (aM S.rels))),(89,pIi S.rels.length),(90,pIi ri)] [(0,.mix 30 (sCc S)),(1,.cells 4 (cj U)),(2,.mix 74 [.pv (.str S.rels[ri].1),.pv (aj S.rels[ri].2)])] 3)
      (I:=λaq=>aq<=ri/\¬S.rels[ri].1∈(S.rels.map (·.1)).take aq) (μ:=λaq=>ri-aq) (x0:=(0)) (Q5 (aS O) (aO O) O O) (⟨cd _,Vj⟩) ?_
     rintro j ⟨hj,hno⟩;refine Z3 O<|Gp O (λa0=>?_) (λa0=>?_)
     .have hjk:j<ri:=Vf;have D:j<S.rels.length:=Vf;have hnm:(aM S.rels)[j*2+0]? =Sh (.str S.rels[j].1):=gW _ 2 (λ_=>rfl) S.rels j 0 D Vh;have aA:j<(S.rels.map (·.1)).length:=by simpa using D
      have aB:(S.rels.map (·.1))[j]=S.rels[j].1:=Vj;refine Q3<|RW 9 O ?_;iterate 5 refine D1 O ?_
      first|refine D2 O O Vi ?_|refine D1 O ?_
      iterate 3 refine D1 O ?_
      refine⟨Vg,?_⟩;refine Gc O (λM=>?_) (λM=>?_)
      .exact Z1 O<|Gt O<|⟨_,_,O,O,s 9 Vh (by rw[ao,dt hw,AT (GZ (by rw[<-baT M,<-aB];exact ie hjk aA))])⟩
      .exact Q3<|Z3 O<|⟨(j+1),Q5 (aS O) (aO O) O O,⟨Vf,fP aA hno (by rw[aB];exact baF M)⟩,Vf⟩
     .have hno2:¬hasB ((S.rels.map (·.1)).take ri) S.rels[ri].1=Sm:=by rw[show j=ri by omega]at hno;rw[LN hno];decide
      refine Gx O<|Z4 O<|Gc O (λG=>?_) (λG=>?_)
      .exact Z1 O<|Gt O<|⟨_,_,O,O,s 7 Vh (by rw[ao,dt hw,dt hno2,AT (by have:=ibT G;apply RU;omega)])⟩
      .have hl0:¬S.rels[ri].2=[]:=λe=>by rw[e]at G;simp at G
       refine Q3<|Z4 O<|Gl O (st:=λH:Nat×List Bool=>mkS [(1,.ptr 0 0),(6,.osl 1 1 S.attrs.length),(8,.ptr 2 0),(88,.pv (.sl Sl S.rels.length (aM S.rels))),(89,pIi S.rels.length),(90,pIi ri),(118,.pv (aj S.rels[ri].2)),(119,.pv (.int .i64 S.rels[ri].2.length)),(120,pIi H.1)] [(0,.mix 30 (sCc S)),(1,.cells 4 (cj H.2)),(2,.mix 74 [.pv (.str S.rels[ri].1),.pv (aj S.rels[ri].2)])] 3)
        (I:=λH=>H.1<=S.rels[ri].2.length/\dW S.attrs.length H.2 (λa=>((S.rels.take ri).any λx=>inB x.2 a)||inB (S.rels[ri].2.take H.1) a)/\∀a∈S.rels[ri].2.take H.1,0<=a/\a<S.attrs.length) (μ:=λH=>S.rels[ri].2.length-H.1) (x0:=(0,U)) (Q5 (aS O) (aO O) O O) (⟨cd _,hU.congr (λa _=>by simp[inB]),Vj⟩) ?_
       rintro⟨q,U2⟩ ⟨hq,hU2,hr⟩;try simp only at hq hU2 hr ⊢
       refine Z1 O<|Gp O (λa1=>?_) (λa1=>?_)
       .have hql:q<S.rels[ri].2.length:=Vf;have hv:=aX hql;have aW:=aD hql;have hul2:=hU2.1;refine Q3<|Z1 O ?_;first|refine A2 O Vi ?_|refine A1 O ?_
        refine A1 O<|Z3 O ?_;apply Re 5 126 131 [127,128,129,130] O Vp
        .intro aR;iterate 5 refine A1 O ?_
         exact Q7 Vo O O O
        .intro aR;iterate 5 refine A1 O ?_
         exact Q7 Vo O O O
        refine Gc O (λW=>?_) (λW=>?_)
        .exact Z1 O<|Gt O<|⟨_,_,O,O,s 2 Vh (by rw[ao,dt hw,dt hno2,dt hl0,AT (K7 hql (by simp at W;omega))])⟩
        .have hx:0<=S.rels[ri].2[q]/\S.rels[ri].2[q]<S.attrs.length:=by simp at W;omega
         obtain⟨j,hj⟩:=Rm hx.1;exact Q3<|Z2 O<|Rs O (ak j underlying215 sz4 O O O hj Vf)<|A1 O<|Z2 O<|⟨(q+1,U2.set j Sm),Q5 (aS O) ⟨O,by show Sh (Ob.cells _ _)=_;rw[<-uF];simp,O,Vm⟩ O O,⟨Vl,(hU2.set (a:=j) Vf).congr (λa _=>vE hql hj),An hql hr hx⟩,Vl⟩
       .have hrng:(S.rels[ri].2.all λa=>decide (0<=a)&&decide (a<S.attrs.length))=Sm:=xi (λa ha=>hr a (by rw[aQ Vf];exact ha));refine Gx O<|Z1 O<|Gl O (st:=λar:Nat=>mkS [(1,.ptr 0 0),(6,.osl 1 1 S.attrs.length),(8,.ptr 2 0),(12,pIi ar),(88,.pv (.sl Sl S.rels.length (aM S.rels))),(89,pIi S.rels.length),(90,pIi ri)] [(0,.mix 30 (sCc S)),(1,.cells 4 (cj U2)),(2,.mix 74 [.pv (.str S.rels[ri].1),.pv (aj S.rels[ri].2)])] 3)
         (I:=λar=>1<=ar/\∀i,i+1<ar->i+1<S.rels[ri].2.length->S.rels[ri].2.getD i 0<S.rels[ri].2.getD (i+1) 0) (μ:=λar=>S.rels[ri].2.length-ar) (x0:=(1)) (Q5 (aS O) (aO O) O O) (⟨BY _,λi hi=>by omega⟩) ?_
        rintro p ⟨hp1,hasc⟩;refine Gr O ?_;iterate 5 refine A1 O ?_
        refine Gp O (λa2=>?_) (λa2=>?_)
        .have hpl:p<S.rels[ri].2.length:=Vf;have hpl1:p-1<S.rels[ri].2.length:=Vf;have hv:=aX hpl;have hv1:=aX hpl1;have aW:=aD hpl;refine Q3<|RW 12 O ?_;iterate 4 refine D1 O ?_
         first|refine D2 O O Vi ?_|refine D1 O ?_
         iterate 4 refine D1 O ?_
         refine Ds [] O (λτ h=>ae (p-1) underlying22 sz3 (Ee h 0 O O) (Ee h 1 O O) Vf Vf aW) O Vg ?_;first|refine D2 O O Vi ?_|refine D1 O ?_
         refine D1 O ?_;refine⟨Vg,?_⟩;refine Gp O (λaP=>?_) (λaP=>?_)
         .exact Z1 O<|Gt O<|⟨_,_,O,O,s 10 Vh (by rw[ao,dt hw,dt hno2,dt hl0,dt (by rw[hrng];decide),AT (LF hp1 hpl aP)])⟩
         .exact Q3<|Z3 O<|⟨(p+1),Q5 (aS O) (aO O) O O,⟨Vf,AV hpl hp1 hasc Vf⟩,Vf⟩
        .exact Gx O<|Z2 O<|⟨(ri+1,U2),Q5 (aS O) (aO O) O O,⟨Vl,hU2.congr (λa _=>yH hlt Vf),by simp only;rw[dh hs,ao,dt hw,dt hno2,dt hl0,dt (by rw[hrng];decide),dt (by rw[wT (λi hi=>hasc i Vf hi)];decide)]⟩,Vl⟩
   .have hR:bO (ue S) S.rels.length=0:=by rw[show S.rels.length=ri by omega];exact hs
    have hU3:dW S.attrs.length U (sn S):=by rw[aQ Vf]at hU;exact hU
    have hul:=hU3.1;refine Gx O<|Z3 O<|Gl O (st:=λax:Nat=>mkS [(1,.ptr 0 0),(6,.osl 1 1 S.attrs.length),(156,.osl 1 1 S.attrs.length),(157,pIi S.attrs.length),(158,pIi ax)] [(0,.mix 30 (sCc S)),(1,.cells 4 (cj U))] 2)
     (I:=λax=>ax<=S.attrs.length/\∀b,b<ax->sn S b=Sm) (μ:=λax=>S.attrs.length-ax) (x0:=(0)) (Q5 (aS O) (aO O) O O) (⟨cd _,λb hb=>absurd hb (Tu _)⟩) ?_
    rintro a ⟨ha,hus⟩;refine Z1 O<|Gp O (λa3=>?_) (λa3=>?_)
    .have A:a<S.attrs.length:=Vf;have hua:=hU3.2 a A;have hva:(cj U)[a*1]? =Sh (.bool (sn S a)):=by rw[R6,TD,hua];rfl
     refine Q3<|Z1 O ?_;first|refine A2 O Vi ?_|refine A1 O ?_
     refine A1 O<|Z2 O<|Gc O (λX=>?_) (λX=>?_)
     .exact Z1 O<|Gt O<|⟨_,_,O,O,ag (PV.int .i64) (((af Vh).2.1 hA (by unfold fR;rw[dt (λe=>e hR),AT (Uj.2 ⟨a,Si.2 A,by simpa using X⟩)])).symm)⟩
     .exact Q3<|Z2 O<|⟨(a+1),Q5 (aS O) (aO O) O O,⟨Vf,λb hb=>by rcases SP.1 hb with h|rfl;exact hus b h;simpa using X⟩,Vf⟩
    .have hRS:fR S=0:=vV hR (Ri.2 λb hb=>hus b (by have:=Si.1 hb;omega));refine Gx O<|Z4 O<|Gl O (st:=λay:Nat=>mkS [(1,.ptr 0 0),(6,.osl 1 1 S.attrs.length),(166,.pv (.sl Sl S.feats.length (aH S.feats))),(167,pIi S.feats.length),(168,pIi ay)] [(0,.mix 30 (sCc S)),(1,.cells 4 (cj U))] 2)
      (I:=λay=>ay<=S.feats.length/\bO (jM S) ay=0) (μ:=λay=>S.feats.length-ay) (x0:=(0)) (Q5 (aS O) (aO O) O O) (⟨cd _,O⟩) ?_
     rintro f ⟨hk,hs⟩;refine Z1 O<|Gp O (λa4=>?_) (λa4=>?_)
     .have hlt:f<S.feats.length:=Vf;have L:=kE hlt;have hne:=oF hlt;have aC:=od S f hlt;have s:∀e:Int,e≠0->jM S f=e->PV.int .i64 e= .int .i64 (bz S):=λe h0 h1=>ag (PV.int .i64) (((af h0).2.2 hA hRS (by rw[fJ hs (by rw[h1];exact h0) hlt,h1])).symm)
      refine Q3<|Z2 O<|Rs O (aU ⟨_,underlying164,O⟩ yb O L O)<|Y3 O<|Z4 O ?_;apply Re 6 176 182 [177,178,179,180,181] O Vp
      .intro B;iterate 6 refine A1 O ?_
       exact Q7 Vo O O O
      .intro B;iterate 6 refine A1 O ?_
       exact Q7 Vo O O O
      refine Gc O (λY=>?_) (λY=>?_)
      .exact Z1 O<|Gt O<|⟨_,_,O,O,s 2 Vh (by rw[aC,AT (by simp at Y;omega)])⟩
      .have hx:0<=S.feats[f].1/\S.feats[f].1<S.attrs.length:=by simp at Y;omega
       obtain⟨a,ha⟩:=Rm hx.1;have A:a<S.attrs.length:=Vf;have hk2:(aG S.attrs)[a*2+1]? =Sh (.int .i64 S.attrs[a].2):=gW _ 2 (λ_=>rfl) S.attrs a 1 A Vh;have al:=iu A;have aV:(S.attrs.getD S.feats[f].1.toNat default).2=S.attrs[a].2:=by rw[ha];simp[List.getD,A]
       refine Q3<|Z4 O ?_;apply Rf 9 186 195 [187,188,189,190,191,192,193,194] O Vp
       .intro B;iterate 4 refine A1 O ?_
        apply Re 4 190 194 [191,192,193] O Vp
        .intro hb7;iterate 4 refine A1 O ?_
         exact Q7 Vo O O O
        .intro hb7;iterate 4 refine A1 O ?_
         exact Q7 Vo O O O
        exact A1 O<|Q7 Vo O O O
       .intro B;iterate 9 refine A1 O ?_
        exact Q7 Vo O O O
       refine A1 O ?_;apply Rf 9 196 205 [197,198,199,200,201,202,203,204] O Vp
       .intro hb13;iterate 4 refine A1 O ?_
        refine Rg O (ae a underlying26 lZ O O ha A al)<|A1 O ?_;first|refine A2 O Vi ?_|refine A1 O ?_
        exact Y2 O<|Q7 Vo O O O
       .intro hb13;iterate 9 refine A1 O ?_
        exact Q7 Vo O O O
       refine A1 O<|Z4 O ?_;apply Rf 4 209 213 [210,211,212] O Vp
       .intro B;iterate 4 refine A1 O ?_
        exact Q7 Vo O O O
       .intro B;iterate 4 refine A1 O ?_
        exact Q7 Vo O O O
       refine A1 O ?_;apply Rf 9 214 223 [215,216,217,218,219,220,221,222] O Vp
       .intro hb8;iterate 4 refine A1 O ?_
        refine Rg O (ae a underlying26 lZ O O ha A al)<|A1 O ?_;first|refine A2 O Vi ?_|refine A1 O ?_
        exact Y2 O<|Q7 Vo O O O
       .intro hb8;iterate 9 refine A1 O ?_
        exact Q7 Vo O O O
       refine A1 O<|Z3 O ?_;apply Rf 3 226 229 [227,228] O Vp
       .intro aR;exact Y3 O<|Q7 Vo O O O
       .intro aR;exact Y3 O<|Q7 Vo O O O
       refine Gc O (λZ=>?_) (λZ=>?_)
       .exact Z1 O<|Gt O<|⟨_,_,O,O,s 7 Vh (by rw[aC,dt Vf,aV,AT (by revert Z;generalize (S.feats[f].2.1==1)=b1;generalize (S.feats[f].2.2==0)=b2;generalize (S.feats[f].2.2==1)=b3;generalize (S.attrs[a].2==2)=b4;generalize (S.feats[f].2.1==2)=b5;generalize (S.attrs[a].2==3)=b6;cases b1<;>cases b2<;>cases b3<;>cases b4<;>cases b5<;>cases b6<;>decide)])⟩
       .have hkind:¬ ((S.feats[f].2.1==1&&S.attrs[a].2==2&&(S.feats[f].2.2==0||S.feats[f].2.2==1))||(S.feats[f].2.1==2&&S.attrs[a].2==3&&S.feats[f].2.2==0))=S1:=by revert Z;generalize (S.feats[f].2.1==1)=b1;generalize (S.feats[f].2.2==0)=b2;generalize (S.feats[f].2.2==1)=b3;generalize (S.attrs[a].2==2)=b4;generalize (S.feats[f].2.1==2)=b5;generalize (S.attrs[a].2==3)=b6;cases b1<;>cases b2<;>cases b3<;>cases b4<;>cases b5<;>cases b6<;>decide
        refine Q3<|Z1 O<|Gl O (st:=λaz:Nat=>mkS [(1,.ptr 0 0),(6,.osl 1 1 S.attrs.length),(15,pIi f),(16,.ptr 2 0),(19,pIi az),(166,.pv (.sl Sl S.feats.length (aH S.feats))),(167,pIi S.feats.length),(168,pIi f)] [(0,.mix 30 (sCc S)),(1,.cells 4 (cj U)),(2,.mix 164 [.pv (.int .i64 S.feats[f].1),.pv (.int .i64 S.feats[f].2.1),.pv (.int .i64 S.feats[f].2.2)])] 3)
         (I:=λaz=>az<=f/\((S.feats.take az).any λg=>g.1==S.feats[f].1)=S1) (μ:=λaz=>f-az) (x0:=(0)) (Q5 (aS O) (aO O) O O) (⟨cd _,O⟩) ?_
        rintro j ⟨hj,hno⟩;refine Z3 O<|Gp O (λa5=>?_) (λa5=>?_)
        .have hjk:j<f:=Vf;have D:j<S.feats.length:=Vf;have hnm:(aH S.feats)[j*3+0]? =Sh (.int .i64 S.feats[j].1):=gW _ 3 (λ_=>rfl) S.feats j 0 D Vh;refine Q3<|RW 9 O ?_;iterate 5 refine D1 O ?_
         first|refine D2 O O Vi ?_|refine D1 O ?_
         iterate 3 refine D1 O ?_
         refine⟨Vg,?_⟩;refine Gc O (λab=>?_) (λab=>?_)
         .exact Z1 O<|Gt O<|⟨_,_,O,O,s 9 Vh (by rw[aC,dt Vf,aV,dt hkind,AT (by rw[Sg];exact .inr (SR.2 ⟨S.feats[j],ie hjk D,ab⟩))])⟩
         .exact Q3<|Z3 O<|⟨(j+1),Q5 (aS O) (aO O) O O,⟨Vf,fK D hno ab⟩,Vf⟩
        .rw[show j=f by omega]at hno;refine Gx O<|Gr O ?_;iterate 5 refine A1 O ?_
         refine Gc O (λac=>?_) (λac=>?_)
         .exact Z1 O<|Gt O<|⟨_,_,O,O,s 9 Vh (by rw[aC,dt Vf,aV,dt hkind,AT (by rw[Sg];exact .inl ac)])⟩
         .exact Q3<|Z2 O<|⟨(f+1),Q5 (aS O) (aO O) O O,⟨Vf,by rw[dh hs,aC,dt Vf,aV,dt hkind,dt (by rw[hno,ac];decide)]⟩,Vf⟩
     .have hF:bO (jM S) S.feats.length=0:=by rw[show S.feats.length=f by omega];exact hs
      have aZ:=pE hlim hA hRS hF;refine Gx O<|Z4 O ?_;apply Re 6 253 259 [254,255,256,257,258] O Vp
      .intro B;iterate 6 refine A1 O ?_
       exact Q7 Vo O O O
      .intro B;iterate 6 refine A1 O ?_
       exact Q7 Vo O O O
      refine Gc O (λad=>?_) (λad=>?_)
      .exact Z1 O<|Gt O<|⟨_,_,O,O,ag (PV.int .i64) (by rw[aZ,AT (by simpa using ad)])⟩
      .have hn:¬ (S.label< -1\/(S.attrs.length:Int)<=S.label):=by simpa using ad
       refine Q3 ?_;have hlv:0<=S.label->∃(a:Nat),S.label=(a:Int)/\a<S.attrs.length/\(aG S.attrs)[a*2+1]? =Sh (.int .i64 (S.attrs.getD S.label.toNat default).2):=λh=>by obtain⟨a,ha⟩:=Rm h;have A:a<S.attrs.length:=Vf;refine⟨a,ha,A,?_⟩;rw[ha];simp only[RH,List.getD,Hj A];exact gW _ 2 (λ_=>rfl) S.attrs a 1 A Vh
       refine Z4 O ?_;apply Rf 9 263 272 [264,265,266,267,268,269,270,271] O Vp
       .intro B;obtain⟨a,ha,A,hk2⟩:=hlv (Tm B);have al:=iu A;iterate 4 refine A1 O ?_
        refine Rg O (ae a underlying26 lZ O O ha A al)<|A1 O ?_;first|refine A2 O Vi ?_|refine A1 O ?_
        exact Y2 O<|Q7 Vo O O O
       .intro B;iterate 9 refine A1 O ?_
        exact Q7 Vo O O O
       refine Gc O (λJ=>?_) (λJ=>?_)
       .exact Z1 O<|Gt O<|⟨_,_,O,O,ag (PV.int .i64) (by rw[aZ,dt hn,AT (by simpa using J)])⟩
       .exact Q3<|Z1 O<|Gt O<|⟨_,_,O,O,ag (PV.int .i64) (by rw[aZ,dt hn,dt (by rintro⟨h1,h2⟩;rw[Ru (show S.label>=0 from h1),UM,bne_eq_false_iff_eq]at J;exact h2 J)])⟩
end
def upF(P:List Int):Nat->Int->Option (List Int)
 |0,x=>if x<0 then Sh []else Sl
 |k+1,x=>if x<0 then Sh []else(upF P k (P.getD x.toNat 0)).map (x:: ·)
def abv(P:List Int)(v:Int):Option (List Int):=upF P P.length (P.getD v.toNat 0)
def cq(P:List Int)(v:Int):List Int:=(abv P v).getD []
def hiB(P:List Int)(a b:Int):Bool:=decide (a∈cq P b)
def er(P:List Int)(l:List Int):Bool:=l.all λa=>l.all λb=>a==b||hiB P a b||hiB P b a
def Cf(S:Sch)(P:List Int):Int:=
 if bz S≠0 then bz S
 else if P.length≠S.attrs.length then 5
 else if(P.any λp=>decide (p< -1)||decide ((P.length:Int)<=p))=Sm then 2
 else if((List.range P.length).all λv=>(abv P v).isSome)=S1 then 13
 else if(S.rels.all λr=>er P r.2)=S1 then 13 else 0
def mL(P:List Int)(v:Int):List Int:=((List.range P.length).map Int.ofNat).filter λa=>a==v||hiB P v a
def fk(S:Sch)(a b:Int):Bool:=S.rels.any λr=>decide (a∈r.2)&&decide (b∈r.2)
def Ks(S:Sch)(P:List Int)(v:Int):List Int:=(cq P v).filter λa=>(mL P v).any λb=>fk S a b
theorem ph(h:x<0):upF P k x=Sh []:=by
 cases k<;>simp[upF,h]
theorem xA(s:a<P.length):upF P (k+1) (a:Int)=(upF P k P[a]).map ((a:Int):: ·):=by
 have h:¬ ((a:Int)<0):=Vf;simp[upF,List.getD,s,h]
theorem Kf(h:0<=x):upF P 0 x=Sl:=by
 simp[upF];omega
theorem DV:∀{k:Nat}{x:Int}{l:List Int},upF P k x=Sh l->l.length<=k
 | 0,x,l,h=>by
   simp only[upF]at h;split at h
   .cases h;simp
   .cases h
 | k+1,x,l,h=>by
   simp only[upF]at h;split at h
   .cases h;simp
   .cases e:upF P k (P.getD x.toNat 0)with
    |none=>rw[e]at h;cases h
    |some l'=>rw[e]at h;cases h;simp;exact DV e
theorem sk(P:List Int)(v:Int):(cq P v).length<=P.length:=by
 unfold cq;cases h:abv P v with
 |none=>simp
 |some l=>exact DV h
section
open Mk
abbrev og(P:List Int):PV:= .agg [aj P]
theorem LA(L:List Int):(L.map (PV.int .i64)).take (L.length*1)=L.map (PV.int .i64):=aQ Vj
theorem ru(P:List Int)(v:Nat)(B:v<P.length)(H:∀p∈P,p<P.length)(Y:P.length<=1000000):FnP prog 160 [og P,.int .i64 v] (· = .tup [aj (cq P v),.bool (abv P v).isSome]):=by
 refine FnP.of func160 O ntmps160 Vj λm0 w0 F R0=>?_
 have J:=aX B;have M:=aD B;have D:abv P v=upF P P.length P[v]:=by simp[abv,List.getD,B]
 refine Z3 O<|Z1 O<|Q4 (Ra 6 1 1 3 O O)<|Z4 O ?_;first|refine A2 O Vi ?_|refine A1 O ?_
 refine A1 O<|Gl O (st:=λVn:List Int×Int=>mkS [(2,.ptr 0 0),(6,.gsl 1 1 Vn.1.length),(7,pIi Vn.2)] [(0,.mix 32 [.pv (aj P)]),(1,.gro 3 (aE Vn.1))] 2)
  (I:=λVn=>Vn.1.length<=P.length/\Vn.2<P.length/\abv P v=(upF P (P.length-Vn.1.length) Vn.2).map (Vn.1++ ·)) (μ:=λVn=>P.length-Vn.1.length) (x0:=([],P[v])) (Q5 (aS O) (aO O) O O) (⟨cd _,H _ (au B),by rw[D];simp⟩) ?_
 rintro⟨L,x⟩ ⟨hl,hx,hu⟩;try simp only at hl hx hu ⊢
 refine Z2 O<|Gp O (λA=>?_) (λA=>?_)
 .obtain⟨a,rfl⟩:=Rm A;have E:a<P.length:=Vf;have W:=aX E;have X:(aE L).length=L.length*1:=Vj;refine Q3<|Gr O ?_;iterate 6 refine A1 O ?_
  refine Gc O (λs=>?_) (λs=>?_)
  .have hle:L.length=P.length:=by have:=ibT s;omega
   have G:abv P v=Sl:=by rw[hu,hle,Ux,Kf Vf];rfl
   exact Q4 (St.qq [])<|Z2 O<|Q4 (St.qq [4])<|Gt O<|⟨_,_,O,O,by unfold cq;rw[G];rfl⟩
  .have hlt:L.length<P.length:=by have:=ibF s;omega
   refine Q3<|Gr O ?_;iterate 5 refine A1 O ?_
   refine Z4 O ?_;first|refine A2 O Vi ?_|refine A1 O ?_
   exact A1 O<|⟨(L++[(a:Int)],P[a]),Q6 [0,3] ⟨O,by simp;rfl,O,Vm⟩ ⟨O,ag (λc=>Sh (Ob.gro 3 c)) (jc L a).symm,Vm⟩ O O Vh O,⟨Vk,H _ (au E),by rw[hu,show P.length-L.length=P.length-(L++[(a:Int)]).length+1 by simp;omega,xA E,Option.map_map];congr 1;funext l;simp⟩,Vk⟩
 .exact Gx O<|Q4 (Q8 1 O O)<|Z3 O<|Gt O<|⟨_,_,O,O,by rw[show abv P v=Sh L by rw[hu,ph Vf];simp];unfold cq;rw[show abv P v=Sh L by rw[hu,ph Vf];simp];simp[LA];rfl⟩
theorem oU(P:List Int)(a b:Int)(s:0<=b)(E:b<P.length)(A:∀p∈P,p<P.length)(B:P.length<=1000000):FnP prog 251 [og P,.int .i64 a,.int .i64 b] (· = .bool (hiB P a b)):=by
 obtain⟨v,rfl⟩:=Rm s;refine FnP.of func251 O ntmps251 Vj λm0 w0 F R0=>?_
 have D:=sk P v;refine Z2 O<|Z2 O<|Rs O (aa call160 (ru P v Vf A B) O) ?_;iterate 5 refine A1 O ?_
 exact Z2 O<|Rs O (aa call321 (tB (cq P v) a Vf) O)<|A1 O<|Gt O<|⟨_,_,O,O,O⟩
abbrev PW(r:ByteArray×List Int):PV:= .agg [.str r.1,aj r.2]
theorem AP{l:List α}{p:α->Bool}(s:k<l.length)(h:(l.take k).all p=Sm)(A:p l[k]=Sm):(l.take (k+1)).all p=Sm:=by
 rw[bX s];simp only[US,h,TG,A,Vd,Ue]
theorem DP{l:List α}{p:α->Bool}(s:k<l.length)(h:p l[k]=S1):l.all p=S1:=by
 rw[Uj];exact⟨_,au s,by rw[h];decide⟩
theorem Ff(a b:Int)(p q:Bool):((a !=b&& !p)&& !q)= !(a==b||p||q):=by
 rw[bne];cases (a==b)<;>cases p<;>cases q<;>rfl
theorem Be(P:List Int)(r:ByteArray×List Int)(H:∀a∈r.2,0<=a/\a<P.length)(Y:r.2.length<=1000000)(J:∀p∈P,p<P.length)(L:P.length<=1000000):FnP prog 163 [og P,PW r] (· = .bool (er P r.2)):=by
 refine FnP.of func163 O ntmps163 Vj λm0 w0 F R0=>?_
 refine Z3 O<|Z4 O<|Gl O (st:=λVn:Nat=>mkS [(2,.ptr 0 0),(3,.ptr 1 0),(10,.pv (aj r.2)),(11,pIi r.2.length),(12,pIi Vn)] [(0,.mix 32 [.pv (aj P)]),(1,.mix 74 [.pv (.str r.1),.pv (aj r.2)])] 2)
  (I:=λVn=>Vn<=r.2.length/\((r.2.take Vn).all λa=>r.2.all λb=>a==b||hiB P a b||hiB P b a)=Sm) (μ:=λVn=>r.2.length-Vn) (x0:=(0)) (Q5 (aS O) (aO O) O O) (⟨cd _,O⟩) ?_
 rintro k ⟨hk,hall⟩;refine Z1 O<|Gp O (λE=>?_) (λE=>?_)
 .have hlt:k<r.2.length:=Vf;have M:=aX hlt;have W:=aD hlt;have B:=H _ (au hlt);refine Q3<|Z1 O ?_;first|refine A2 O Vi ?_|refine A1 O ?_
  refine A1 O<|Z4 O<|Gl O (st:=λA:Nat=>mkS [(2,.ptr 0 0),(3,.ptr 1 0),(6,.pv (.int .i64 r.2[k])),(10,.pv (aj r.2)),(11,pIi r.2.length),(12,pIi k),(17,.pv (aj r.2)),(18,pIi r.2.length),(19,pIi A)] [(0,.mix 32 [.pv (aj P)]),(1,.mix 74 [.pv (.str r.1),.pv (aj r.2)])] 2)
   (I:=λA=>A<=r.2.length/\((r.2.take A).all λb=>r.2[k]==b||hiB P r.2[k] b||hiB P b r.2[k])=Sm) (μ:=λA=>r.2.length-A) (x0:=(0)) (Q5 (aS O) (aO O) O O) (⟨cd _,O⟩) ?_
  rintro j ⟨hj,hall2⟩;refine Z1 O<|Gp O (λG=>?_) (λG=>?_)
  .have hlt2:j<r.2.length:=Vf;have X:=aX hlt2;have D:=H _ (au hlt2);refine Q3<|Z1 O ?_;first|refine A2 O Vi ?_|refine A1 O ?_
   refine A1 O<|Z4 O ?_;apply Rf 6 26 32 [27,28,29,30,31] O Vp
   .intro hb3;exact Y3 O<|Rg O (aa call251 (oU P r.2[k] r.2[j] D.1 D.2 J L) O)<|Y2 O<|Q7 Vo O O O
   .intro hb3;iterate 6 refine A1 O ?_
    exact Q7 Vo O O O
   refine A1 O ?_;apply Rf 6 33 39 [34,35,36,37,38] O Vp
   .intro hb10;exact Y3 O<|Rg O (aa call251 (oU P r.2[j] r.2[k] B.1 B.2 J L) O)<|Y2 O<|Q7 Vo O O O
   .intro hb10;iterate 6 refine A1 O ?_
    exact Q7 Vo O O O
   refine Gc O (λs=>?_) (λs=>?_)
   .rw[Ff,TB]at s;exact Z1 O<|Gt O<|⟨_,_,O,O,ag PV.bool (by unfold er;rw[DP hlt (DP hlt2 s)])⟩
   .rw[Ff,Bool.not_eq_false']at s;exact Q3<|Z2 O<|⟨(j+1),Q5 (aS O) (aO O) O O,⟨Vf,AP hlt2 hall2 s⟩,Vf⟩
  .rw[aQ Vf]at hall2;exact Gx O<|Z2 O<|⟨(k+1),Q5 (aS O) (aO O) O O,⟨Vf,AP hlt hall hall2⟩,Vf⟩
 .rw[aQ Vf]at hall;exact Gx O<|Z1 O<|Gt O<|⟨_,_,O,O,ag PV.bool (by unfold er;rw[hall])⟩
theorem xS(P:List Int)(r:ByteArray×List Int)(s:∀a∈r.2,0<=a/\a<P.length)(A:r.2.length<=1000000)(B:∀p∈P,p<P.length)(D:P.length<=1000000):FnP prog 162 [PW r,.rp [aj P] 0] (· = .bool (!er P r.2)):=by
 refine FnP.of func162 O ntmps162 Vj λm0 w0 F R0=>?_
 refine Z2 O<|Gr O ?_;first|refine A1 O ?_|refine A3 O Vi ?_
 exact A1 O<|Rs O (aa call163 (Be P r s A B D) O)<|Y2 O<|Gt O<|⟨_,_,O,O,O⟩
theorem Ej(l:List (ByteArray×List Int))(g:FuncId)(caps:List PV)(p:ByteArray×List Int->Bool)(H:l.length<=1000000)(hc:cu prog g)(G:∀f∈l,FnP prog g ([]++[PW f]++caps) (· = .bool (p f))):
  FnP prog 250 [.sl Sl l.length (aM l),.fn (.func g) [] caps] (λv=>∃i:Int,v= .int .i64 i/\decide (0<=i)=l.any p):=by
 refine FnP.of func250 O ntmps250 Vj λm0 w0 F R0=>?_
 refine Z1 O<|Z3 O<|Gl O (st:=λVn:Nat=>mkS [(0,.pv (.sl Sl l.length (aM l))),(1,.pv (.fn (.func g) [] caps)),(7,pIi l.length),(8,pIi Vn)] [] 0)
  (I:=λVn=>Vn<=l.length/\(l.take Vn).any p=S1) (μ:=λVn=>l.length-Vn) (x0:=(0)) (Q5 (aS O) trivial O O) (⟨cd _,O⟩) ?_
 rintro k ⟨hk,hno⟩;refine Z1 O<|Gp O (λD=>?_) (λD=>?_)
 .have hlt:k<l.length:=Vf;have A:=dK hlt;have E:=gF hlt;have B:=G _ (au hlt);refine Q3<|Z2 O<|Z4 O<|Rs O (aU ⟨_,underlying74,O⟩ E6 O A O)<|Rs O (fH hc O B O)<|Gc O (λs=>?_) (λs=>?_)
  .exact Z2 O<|Gt O<|⟨_,_,O,O,_,O,by rw[qK hlt s];exact Ru Vf⟩
  .exact Q3<|Z2 O<|⟨(k+1),Q5 (aS O) trivial O O,⟨Vf,fK hlt hno s⟩,Vf⟩
 .exact Gx O<|Z1 O<|Gt O<|⟨_,_,O,O,_,O,by rw[aQ Vf]at hno;rw[hno];rfl⟩
theorem qg(l:List (ByteArray×List Int))(g:FuncId)(caps:List PV)(p:ByteArray×List Int->Bool)(s:l.length<=1000000)(hc:cu prog g)(A:∀f∈l,FnP prog g ([]++[PW f]++caps) (· = .bool (p f))):
  FnP prog 161 [.sl Sl l.length (aM l),.fn (.func g) [] caps] (· = .bool (l.any p)):=by
 refine FnP.of func161 O ntmps161 Vj λm0 w0 F R0=>?_
 refine Z1 O<|Z2 O<|RL.call O (eW call250 (Ej l g caps p s hc A) O ?_);rintro _ ⟨i,rfl,hi⟩;exact Y2 O<|Gt O<|⟨_,_,O,O,ag PV.bool hi⟩
structure Valid(S:Sch):Prop where
 n1:1<=S.attrs.length
 n2:S.attrs.length<=12
 r1:1<=S.rels.length
 r2:S.rels.length<=6
 ne:∀r∈S.rels,r.2≠[]
 rng:∀r∈S.rels,∀a∈r.2,0<=a/\a<S.attrs.length
 asc:∀r∈S.rels,CD r.2=Sm
 use:∀a,a<S.attrs.length->∃r∈S.rels,(a:Int)∈r.2
theorem jd(h:bz S=0):Valid S:=by
 unfold bz at h;split at h
 .cases h
 .rename_i hlim;split at h
  .rename_i h1;exact absurd h h1
  .split at h
   .rename_i h1;exact absurd h h1
   .rename_i _ s;have s:fR S=0:=RZ s;unfold fR at s;split at s
    .rename_i h1;exact absurd s h1
    .rename_i D;have D:bO (ue S) S.rels.length=0:=RZ D;split at s
     .cases s
     .rename_i hu;have A:∀r∈S.rels,r.2≠[]/\(r.2.all λa=>decide (0<=a)&&decide (a<S.attrs.length))=Sm/\CD r.2=Sm:=by
       intro r s;obtain⟨i,hi,rfl⟩:=Sp s;have B:=jA.1 D i hi;unfold ue at B;rw[show S.rels.getD i default=S.rels[i] by simp[List.getD,hi]]at B;split at B
       .rename_i h1;exact absurd B h1
       .split at B
        .cases B
        .split at B
         .cases B
         .split at B
          .cases B
          .rename_i h1 h2 h3;exact⟨h1,by simpa using h2,by simpa using h3⟩
      refine⟨Vf,Vf,Vf,Vf,λr s=>(A r s).1,λr s a ha=>?_,λr s=>(A r s).2.2,λa ha=>?_⟩
      .have:=Ri.1 (A r s).2.1 a ha;simpa using this
      .have hu:((List.range S.attrs.length).all λa=>sn S a)=Sm:=by simpa using hu
       have:=Ri.1 hu a (Si.2 ha);unfold sn at this;obtain⟨r,s,hm⟩:=SR.1 this;exact⟨r,s,by simpa[inB]using hm⟩
theorem ff(S:Sch)(hS:SB S)(P:List Int)(X:P.length<=1000000):FnP prog 72 [eS S,og P] (· = .int .i64 (Cf S P)):=by
 refine FnP.of func72 O ntmps72 Vj λm0 w0 F R0=>?_
 have hb:=hS.a;refine Z3 O<|Z1 O<|Rs O (aa call159 (sD S hS) O)<|A1 O<|Z2 O<|Gc O (λB=>?_) (λB=>?_)
 .exact Z2 O<|Gt O<|⟨_,_,O,O,ag (PV.int .i64) (by unfold Cf;rw[AT (inT B)])⟩
 .have h0:bz S=0:=inF B;have L:=(jd h0).rng;refine Q3<|Gr O ?_;iterate 7 refine A1 O ?_
  refine Gc O (λD=>?_) (λD=>?_)
  .have hne0:¬P.length=S.attrs.length:=by have:=inT D;omega
   exact Z1 O<|Gt O<|⟨_,_,O,O,ag (PV.int .i64) (by unfold Cf;rw[dt (λh=>h h0),AT hne0])⟩
  .have heq:P.length=S.attrs.length:=by have:=inF D;omega
   refine Q3<|Z4 O<|Gl O (st:=λVn:Nat=>mkS [(2,.ptr 0 0),(3,.ptr 1 0),(24,.pv (aj P)),(25,pIi P.length),(26,pIi Vn)] [(0,.mix 30 (sCc S)),(1,.mix 32 [.pv (aj P)])] 2)
    (I:=λVn=>Vn<=P.length/\((P.take Vn).any λp=>decide (p< -1)||decide ((P.length:Int)<=p))=S1) (μ:=λVn=>P.length-Vn) (x0:=(0)) (Q5 (aS O) (aO O) O O) (⟨cd _,O⟩) ?_
   rintro k ⟨hk,hany⟩;refine Z1 O<|Gp O (λH=>?_) (λH=>?_)
   .have hlt:k<P.length:=Vf;have Y:=aX hlt;have Z:=aD hlt;refine Q3<|Z1 O ?_;first|refine A2 O Vi ?_|refine A1 O ?_
    refine A1 O<|Z3 O ?_;apply Re 6 32 38 [33,34,35,36,37] O Vp
    .intro hb2;iterate 6 refine A1 O ?_
     exact Q7 Vo O O O
    .intro hb2;iterate 6 refine A1 O ?_
     exact Q7 Vo O O O
    refine Gc O (λE=>?_) (λE=>?_)
    .exact Z1 O<|Gt O<|⟨_,_,O,O,ag (PV.int .i64) (by unfold Cf;rw[dt (λh=>h h0),dt (λh=>h heq),AT (qK hlt E)])⟩
    .exact Q3<|Z2 O<|⟨(k+1),Q5 (aS O) (aO O) O O,⟨Vf,fK hlt hany E⟩,Vf⟩
   .rw[aQ Vf]at hany;have W:∀p∈P,p<P.length:=λp hp=>by have:=List.any_eq_false.1 hany p hp;simp at this;omega
    refine Gx O<|Z4 O<|Gl O (st:=λA:Nat=>mkS [(2,.ptr 0 0),(3,.ptr 1 0),(42,pIi P.length),(43,pIi A)] [(0,.mix 30 (sCc S)),(1,.mix 32 [.pv (aj P)])] 2)
     (I:=λA=>A<=P.length/\((List.range A).all λv=>(abv P v).isSome)=Sm) (μ:=λA=>P.length-A) (x0:=(0)) (Q5 (aS O) (aO O) O O) (⟨cd _,O⟩) ?_
    rintro q ⟨hq,hall⟩;refine Z1 O<|Gp O (λJ=>?_) (λJ=>?_)
    .have hlt:q<P.length:=Vf;refine Q3<|Z2 O<|Z2 O<|Rs O (aa call160 (ru P q hlt W X) O) ?_;iterate 5 refine A1 O ?_
     refine Z2 O<|Gc O (λG=>?_) (λG=>?_)
     .have hno:((List.range P.length).all λv=>(abv P v).isSome)=S1:=Uj.2 ⟨q,Si.2 hlt,by simpa using G⟩;exact Z1 O<|Gt O<|⟨_,_,O,O,ag (PV.int .i64) (by unfold Cf;rw[dt (λh=>h h0),dt (λh=>h heq),dt (by rw[hany];decide),AT hno])⟩
     .exact Q3<|Z2 O<|⟨(q+1),Q5 (aS O) (aO O) O O,⟨Vf,by rw[UJ,US,hall];simpa using G⟩,Vf⟩
    .obtain rfl:q=P.length:=Vf;refine Gx O<|Q4 (St.fG 1 O O) ?_;have M:∀r∈S.rels,FnP prog 162 ([]++[PW r]++[.rp [aj P] 0]) (· = .bool (!er P r.2)):=λr hr=>xS P r (by rw[heq];exact L r hr) (hS.rl r hr) W X
     refine Z3 O<|Rs O (aa call161 (qg S.rels 162 [.rp [aj P] 0] (λr=> !er P r.2) hS.r call162 M) O)<|Gc O (λs=>?_) (λs=>?_)
     .have hno:(S.rels.all λr=>er P r.2)=S1:=by rw[List.any_eq_not_all_not]at s;simpa using s
      exact Z1 O<|Gt O<|⟨_,_,O,O,ag (PV.int .i64) (by unfold Cf;rw[dt (λh=>h h0),dt (λh=>h heq),dt (by rw[hany];decide),dt (by rw[hall];decide),AT hno])⟩
     .have hno:(S.rels.all λr=>er P r.2)=Sm:=by rw[List.any_eq_not_all_not]at s;simpa using s
      exact Q3<|Z1 O<|Gt O<|⟨_,_,O,O,ag (PV.int .i64) (by unfold Cf;rw[dt (λh=>h h0),dt (λh=>h heq),dt (by rw[hany];decide),dt (by rw[hall];decide),dt (by rw[hno];decide)])⟩
end
section
open Go.RowKit Go.MapKept
def bp:List PV->List PV->Option Bool
 |[],[]=>Sh Sm
 | .int k a::xs,.int k' b::bs=>bif kEq k k' then(bp xs bs).map λr=>(a==b)&&r else Sl
 | .str a::xs,.str b::bs=>(bp xs bs).map λr=>(a==b)&&r
 | .bool a::xs,.bool b::bs=>(bp xs bs).map λr=>(a==b)&&r
 |_,_=>Sl
def keq:PV->PV->Option Bool
 | .int k a,.int k' b=>bif kEq k k' then Sh (a==b)else Sl
 | .str a,.str b=>Sh (a==b)
 | .bool a,.bool b=>Sh (a==b)
 | .agg a,.agg b=>bp a b
 |_,_=>Sl
def b8(k:PV):List PV->Nat->Option (Option Nat)
 |[],_=>Sh Sl
 | x::l,i=>match keq k x with
   |some Sm=>Sh (Sh i)
   |some S1=>b8 k l (i+1)
   |none=>Sl
def HO:TypeDesc->PV->Bool
 | .int k,.int k' _=>kEq k' k
 | .string,.str _=>Sm
 | .bool,.bool _=>Sm
 |_,_=>S1
section
variable {w:World}{R:Nat->Prop}
theorem yN(k:IntKind):kEq k k=Sm:=by cases k<;>rfl
theorem Eb{k x:PV}(B:HO d k=Sm)(s:RelP w R k u)(A:RelP w R x y)(h:keq k x=Sh b):Instr.sameNow d u y=Sh b:=by
 cases k<;>cases d<;>simp only[HO,Sz]at B<;>cases x<;>simp only[keq,reduceCtorEq]at h<;>simp only[RelP]at s A<;>subst s A
 .replace h:=aV h;have:=eu h.1;subst this;simpa[Instr.sameNow]using h.2
 .simpa[Instr.sameNow]using h
 .simpa[Instr.sameNow]using h
theorem n5{k:PV}(s:HO d k=Sm)(A:RelP w R k u):∀{ks:List PV}{es:List MapEntry}{i:Nat}{r:Option Nat},RelPL w R ks (es.map (·.key))->b8 k ks i=Sh r->
  match r with
  |none=>Instr.findNow d u es i=Sh Sl
  |some j=>∃q e,j=i+q/\es[q]? =Sh e/\Instr.findNow d u es i=Sh (Sh (j,e.val))
 |[],[],i,r,_,h=>by simp only[b8,Rq]at h;subst h;rfl
 |[],_::_,_,_,hr,_=>by simp[RelPL]at hr
 |x::ks,[],_,_,hr,_=>by simp[RelPL]at hr
 | x::ks,e::es,i,r,hr,h=>by
   simp only[bP,RelPL,Tz]at hr;obtain⟨y,ys,⟨rfl,rfl⟩,h1,h2⟩:=hr;simp only[b8]at h;split at h
   .rename_i hb;cases h;have:=Eb s A h1 hb;exact⟨0,e,O,O,by simp[Instr.findNow,this]⟩
   .rename_i hb;have B:=Eb s A h1 hb;have ih:=n5 s A h2 h;cases r with
    |none=>simpa[Instr.findNow,B]using ih
    | some j=>
      obtain⟨q,e',hj,he,hf⟩:=ih;exact⟨q+1,e',Vf,by simpa using he,by simpa[Instr.findNow,B]using hf⟩
   .cases h
theorem qG{k:PV}(s:HO d k=Sm)(A:RelP w R k u):IsKey d u:=by
 cases k<;>cases d<;>simp only[HO,Sz]at s<;>simp only[RelP]at A<;>subst A<;>first|exact eu s|trivial
theorem mW{k:PV}:∀{ks:List PV}{i j:Nat},b8 k ks i=Sh (Sh j)->∃q x,j=i+q/\ks[q]? =Sh x/\keq k x=Sh Sm
 |[],_,_,h=>by simp[b8]at h
 | x::ks,i,j,h=>by
   simp only[b8]at h;split at h
   .rename_i hb;cases h;exact⟨0,x,O,O,hb⟩
   .obtain⟨q,y,e,h1,h2⟩:=mW h;exact⟨q+1,y,Vf,by simpa using h1,h2⟩
   .cases h
theorem gZ{a b:ByteArray}(h:(a==b)=Sm):a=b:=by
 have:(a.data==b.data)=Sm:=h;exact ByteArray.ext (eq_of_beq this)
theorem gP(a:ByteArray):(a==a)=Sm:=by
 have:(a.data==a.data)=Sm:=S9 a.data;exact this
theorem qQ:∀{a b:List PV}{us vs:List Value},bp a b=Sh Sm->RelPL w R a us->RelPL w R b vs->us=vs/\∀n,((vs.zip us).all fun(x,y)=>Instr.sameBits n x y)=Sm
 | [],[],us,vs,_,h1,h2=>by
   simp only[RelPL]at h1 h2;subst h1 h2;exact⟨O,λ_=>rfl⟩
 |[],_::_,_,_,h,_,_=>by simp[bp]at h
 |a::xs,[],_,_,h,_,_=>by cases a<;>simp[bp]at h
 | a::xs,b::bs,us,vs,h,h1,h2=>by
   simp only[RelPL]at h1 h2;obtain⟨u,us',rfl,ha,has⟩:=h1;obtain⟨v,vs',rfl,hb,hbs⟩:=h2;have s:∀r:Bool,(bp xs bs).map (λq=>r&&q)=Sh Sm->r=Sm/\bp xs bs=Sh Sm:=λr e=>by
    cases hc:bp xs bs with
    |none=>rw[hc]at e;cases e
    |some q=>rw[hc]at e;simp at e;exact⟨e.1,by rw[e.2]⟩
   have B:u=v/\(∀n,Instr.sameBits n v u=Sm)/\bp xs bs=Sh Sm:=by
    cases a<;>cases b<;>simp only[bp,reduceCtorEq]at h
    .simp only[RelP]at ha hb;subst ha hb;rename_i k a k' b;cases hk:kEq k k' with
     |false=>rw[hk]at h;cases h
     | true=>
       rw[hk]at h;obtain⟨e1,e2⟩:=s _ h;have:=eu hk;have A:a=b:=by simpa using e1
       subst this A;exact⟨O,λn=>by cases n<;>simp[Instr.sameBits],e2⟩
    .simp only[RelP]at ha hb;subst ha hb;obtain⟨e1,e2⟩:=s _ h;have A:=eq_of_beq e1;subst A;exact⟨O,λn=>by cases n<;>simp[Instr.sameBits],e2⟩
    .simp only[RelP]at ha hb;subst ha hb;obtain⟨e1,e2⟩:=s _ h;have A:=gZ e1;subst A;exact⟨O,λn=>by cases n<;>exact gP _,e2⟩
   obtain⟨rfl,hs,hc⟩:=B;obtain⟨rfl,hr⟩:=qQ hc has hbs;exact⟨O,λn=>by simp only[List.zip_cons_cons,TG,hs n,hr n,Bool.and_self]⟩
theorem zO{k x:PV}(h:keq k x=Sh Sm)(A:RelP w R k u)(B:RelP w R x y):u=y/\Instr.sameBits 10000 y u=Sm:=by
 cases k<;>cases x<;>simp only[keq,reduceCtorEq,Rq]at h
 case agg.agg a b=>
  simp only[RelP]at A B;obtain⟨us,rfl,D⟩:=A;obtain⟨vs,rfl,s⟩:=B;obtain⟨rfl,h3⟩:=qQ h D s;refine⟨O,?_⟩;show(us.toArray.size==us.toArray.size&&(us.toArray.toList.zip us.toArray.toList).all fun(x,y)=>Instr.sameBits 9999 x y)=Sm;rw[S9,UM];exact h3 9999
 all_goals simp only[RelP]at A B
 all_goals subst A B
 .replace h:=aV h;have D:=eu h.1;have s:=h.2;simp only[Rq,S0]at s;subst D s;simp[Instr.sameBits]
 .simp at h;subst h;simp[Instr.sameBits]
 .have:=gZ h;subst this;exact⟨O,by show(_==_)=Sm;exact gP _⟩
end
def sX(ks:List PV):Prop:=ks.Pairwise λa b=>keq a b=Sh S1
theorem uu{a b:ByteArray}:(a==b)=(b==a):=by
 cases h:a==b with
 |true=>rw[gZ h,gP]
 | false=>cases h2:b==a with
   |false=>rfl
   |true=>rw[gZ h2,gP]at h;cases h
theorem yE(a b:IntKind):kEq a b=kEq b a:=by
 cases h:kEq a b with
 |true=>rw[eu h,yN]
 | false=>cases h2:kEq b a with
   |false=>rfl
   |true=>rw[eu h2,yN]at h;cases h
theorem tF:∀a b:List PV,bp a b=bp b a
 |[],[]=>rfl
 |[],b::_=>by cases b<;>rfl
 |a::_,[]=>by cases a<;>rfl
 | a::xs,b::bs=>by
   cases a<;>cases b<;>simp only[bp]<;>rw[tF xs bs]
   .rename_i k a k' b;rw[yE k k',show(a==b)=(b==a)from BEq.comm]
   .rename_i a b;rw[show(a==b)=(b==a)from BEq.comm]
   .rw[uu]
theorem FU(a b:PV):keq a b=keq b a:=by
 cases a<;>cases b<;>simp only[keq]
 .rename_i k a k' b;rw[yE k k',show(a==b)=(b==a)from BEq.comm]
 .rename_i a b;rw[show(a==b)=(b==a)from BEq.comm]
 .rw[uu]
 .exact tF _ _
theorem kz:∀{a b:List PV},bp a b=Sh Sm->a=b
 |[],[],_=>rfl
 |[],b::_,h=>by cases b<;>simp[bp]at h
 |a::_,[],h=>by cases a<;>simp[bp]at h
 | a::xs,b::bs,h=>by
   have fin:∀r:Bool,(bp xs bs).map (λq=>r&&q)=Sh Sm->r=Sm/\xs=bs:=λr e=>by
    cases hc:bp xs bs with
    |none=>rw[hc]at e;cases e
    |some q=>rw[hc]at e;simp at e;exact⟨e.1,kz (by rw[hc,e.2])⟩
   cases a<;>cases b<;>simp only[bp,reduceCtorEq]at h
   .rename_i k a k' b;cases hk:kEq k k' with
    |false=>rw[hk]at h;cases h
    | true=>
      rw[hk]at h;obtain⟨e1,rfl⟩:=fin _ h;rw[eu hk,show a=b by simpa using e1]
   .obtain⟨e1,rfl⟩:=fin _ h;rw[eq_of_beq e1]
   .obtain⟨e1,rfl⟩:=fin _ h;rw[gZ e1]
theorem wZ{a b:PV}(h:keq a b=Sh Sm):a=b:=by
 cases a<;>cases b<;>simp only[keq,reduceCtorEq]at h
 .rename_i k a k' b;cases hk:kEq k k' with
  |false=>rw[hk]at h;cases h
  |true=>rw[hk]at h;rw[eu hk,show a=b by simpa using h]
 .have e:=eq_of_beq (TF h);rw[e]
 .have e:=gZ (TF h);rw[e]
 .rw[kz h]
theorem je{k:PV}:∀{ks:List PV}{i:Nat},b8 k ks i=Sh Sl↔∀x∈ks,keq k x=Sh S1
 |[],i=>by simp[b8]
 | x::ks,i=>by
   simp only[b8];constructor
   .intro h;split at h
    .cases h
    .rename_i hb;intro y hy;rcases AS.1 hy with rfl|hy
     .exact hb
     .exact je.1 h y hy
    .cases h
   .intro h;rw[h x Vj];exact je.2 λy hy=>h y (by simp[hy])
theorem vS{k:PV}:∀{ks:List PV}{i j:Nat},(∀q x,q<j->ks[q]? =Sh x->keq k x=Sh S1)->(∃x,ks[j]? =Sh x/\keq k x=Sh Sm)->b8 k ks i=Sh (Sh (i+j))
 |[],_,_,_,h=>by obtain⟨x,h,_⟩:=h;simp at h
 | x::ks,i,0,_,h=>by
   obtain⟨y,h1,h2⟩:=h;simp only[List.getElem?_cons_zero,Rq]at h1;subst h1;simp[b8,h2]
 | x::ks,i,j+1,h0,h=>by
   obtain⟨y,h1,h2⟩:=h;have e:=h0 0 x Vf O;have ih:=vS (ks:=ks) (i:=i+1) (j:=j) (λq z hq hz=>h0 (q+1) z Vf (by simpa using hz)) ⟨y,by simpa using h1,h2⟩;simp only[b8,e,ih];rw[show i+1+j=i+(j+1) by omega]
def kJ(n:Nat)(σ:St)(x:Operand)(ks vs:List PV):Prop:=
 (∃id,σ.ev n x= .map id/\σ.ob id=Sh (.mp ks vs))\/(σ.ev n x= .pv (.mp ks vs)/\sX ks)\/(σ.ev n x= .pv .nilmap/\ks=[]/\vs=[])
section
variable {C:Ctx}{n:Nat}{σ:St}{a:Act}{w:World}{m:Gm}{R:Nat->Prop}{x y z:Operand}{dst:Option Tmp}{ty t kt et:TypeId}{pos:String}{after:Array Edge}{gd:Option (Nat×Bool)}{ks vs:List PV}
theorem Cs{es:List MapEntry}(s:RelPL w R ps (es.map (·.key)))(A:RelPL w R qs (es.map (·.val))):∀{es':List MapEntry},es.Perm es'->∃ps' qs',RelPL w R ps' (es'.map (·.key))/\RelPL w R qs' (es'.map (·.val))/\(ps'.zip qs').Perm (ps.zip qs):=by
 intro es' hp;induction hp generalizing ps qs with
 |nil=>exact⟨ps,qs,s,A,RY _⟩
 | cons e _ ih=>
   cases ps with
   |nil=>simp[RelPL]at s
   | cons p ps=>
     cases qs with
     |nil=>simp[RelPL]at A
     | cons q qs=>
       simp only[bP,RelPL,Tz]at s A;obtain⟨_,_,⟨rfl,rfl⟩,a1,a2⟩:=s;obtain⟨_,_,⟨rfl,rfl⟩,b1,b2⟩:=A;obtain⟨ps',qs',c1,c2,c3⟩:=ih a2 b2;exact⟨p::ps',q::qs',RelPL.cons a1 c1,RelPL.cons b1 c2,by simp only[List.zip_cons_cons];exact List.Perm.cons (p,q) c3⟩
 | swap e e' l=>
   cases ps with
   |nil=>simp[RelPL]at s
   | cons p ps=>
     cases ps with
     |nil=>simp[RelPL]at s
     | cons p' ps=>
       cases qs with
       |nil=>simp[RelPL]at A
       | cons q qs=>
         cases qs with
         |nil=>simp[RelPL]at A
         | cons q' qs=>
           simp only[bP,RelPL,Tz]at s A;obtain⟨_,_,⟨rfl,rfl⟩,a1,_,_,⟨rfl,rfl⟩,a2,a3⟩:=s;obtain⟨_,_,⟨rfl,rfl⟩,b1,_,_,⟨rfl,rfl⟩,b2,b3⟩:=A;exact⟨p'::p::ps,q'::q::qs,RelPL.cons a2 (RelPL.cons a1 a3),RelPL.cons b2 (RelPL.cons b1 b3),by simp only[List.zip_cons_cons];exact List.Perm.swap _ _ _⟩
 | trans _ _ ih1 ih2=>
   obtain⟨p1,q1,a1,a2,a3⟩:=ih1 s A;obtain⟨p2,q2,b1,b2,b3⟩:=ih2 a1 a2;exact⟨p2,q2,b1,b2,b3.trans a3⟩
def oS(vs:List PV):Option Nat->Option (Option PV)
 |none=>Sh Sl
 |some j=>(vs[j]?).map Sh
theorem B8(I:ps.length=qs.length)(A:ks.length=vs.length)(W:sX ks)(H:(ps.zip qs).Perm (ks.zip vs)){f:Option Nat}(J:b8 key ks 0=Sh f)(s:oS vs f=Sh r):
  ∃f',b8 key ps 0=Sh f'/\oS qs f'=Sh r:=by
 have L:∀x,x∈ps↔x∈ks:=λx=>by
  have B:(ps.zip qs).map (·.1)=ps:=U5 (SQ I);have D:(ks.zip vs).map (·.1)=ks:=U5 (SQ A);rw[<-B,<-D];exact(H.map _).mem_iff
 cases f with
 | none=>
   exact⟨Sl,je.2 λx hx=>je.1 J x ((L x).1 hx),s⟩
 | some j=>
   obtain⟨q,x,hj,hx,hkx⟩:=mW J;simp only[RV]at hj;subst hj;have e:=wZ hkx;subst e;simp only[oS]at s;cases hv:vs[j]? with
   |none=>rw[hv]at s;cases s
   | some v=>
     rw[hv]at s;simp only[Tt,Rq]at s;subst s;have M:(key,v)∈ps.zip qs:=H.mem_iff.2 (List.mem_iff_getElem?.2 ⟨j,by rw[List.getElem?_zip_eq_some];exact⟨hx,hv⟩⟩);obtain⟨i,hi⟩:=List.mem_iff_getElem?.1 M;rw[List.getElem?_zip_eq_some]at hi;have E:sX ps:=by
      have B:(ps.zip qs).map (·.1)=ps:=U5 (SQ I);have D:(ks.zip vs).map (·.1)=ks:=U5 (SQ A);have G:ps.Perm ks:=by rw[<-B,<-D];exact H.map _
      exact(G.pairwise_iff (fun{a b} h=>by rw[FU];exact h)).2 W
     refine⟨Sh i,?_,by simp only[oS];rw[hi.2];rfl⟩;have:=vS (k:=key) (ks:=ps) (i:=0) (j:=i) (λq z hq hz=>?_) ⟨key,hi.1,hkx⟩
     .rw[this,RV]
     .obtain⟨h1,rfl⟩:=Rp.1 hz;obtain⟨h2,h3⟩:=Rp.1 hi.1;have:=Sv.1 E q i h1 h2 hq;rw[h3,FU]at this;exact this
theorem kJ.at(s:SW C n σ a w m R)(h:kJ n σ x ks vs):(∃b es clock ps qs,a.eval x= .map (Sh b)/\w.heap[b]? =Sh (.map es clock)/\RelPL w R ps (es.toList.map (·.key))/\RelPL w R qs (es.toList.map (·.val))/\ks.length=ps.length/\
  ∀{key:PV}{f:Option Nat}{r:Option PV},b8 key ks 0=Sh f->oS vs f=Sh r->∃f',b8 key ps 0=Sh f'/\oS qs f'=Sh r)\/(a.eval x= .map Sl/\ks=[]/\vs=[]):=by
 rcases h with⟨id,hx,ho⟩|⟨hx,hd⟩|⟨hx,h1,h2⟩
 .obtain⟨b,N,hm,hr⟩:=s.live ho;have:=s.ev x;rw[hx]at this;simp only[Rel]at this;obtain⟨es,clock,q1,q2,q3,_⟩:=hr;exact .inl ⟨b,es,clock,ks,vs,this.2 b N hm,q1,q2,q3,O,fun{key f r} h1 h2=>⟨f,h1,h2⟩⟩
 .have:=s.pv hx;simp only[RelP]at this;obtain⟨b,e,_,es,clock,l,q1,q2,q3,q4,q5⟩:=this;obtain⟨ps,qs,c1,c2,c3⟩:=Cs q2 q3 q5;have l1:=q2.length;have l2:=q3.length;have A:=c1.length;have B:=c2.length;have D:=q5.length_eq;simp only[OF]at l1 l2 A B;exact .inl ⟨b,es,clock,ps,qs,e,q1,c1,c2,Vf,fun{key f r} h1 h2=>B8 Vf Vf hd c3 h1 h2⟩
 .have:=s.pv hx;simp only[RelP]at this;exact .inr ⟨this,h1,h2⟩
theorem run_map{P:Program}{w:World}{r:Nat}(s:w.heap[r]? =Sh (.map es clock)):(getObj r).run P w= .ok (.map es clock) w:=by
 simp[getObj,Sem.run,s]
theorem eK{P:Program}{w:World}{r:Nat}(o:Obj)(s:w.heap[r]? =Sh (.map es clock)):(setObj r o).run P w= .ok () { w with heap:=w.heap.setIfInBounds r o }:=by
 simp[setObj,Sem.run,s]
def gy(k:PV)(ks vs:List PV):Option (Option PV):=
 match b8 k ks 0 with
 |some Sl=>Sh Sl
 |some (Sh j)=>(vs[j]?).map Sh
 |none=>Sl
theorem qk{k:PV}{ks vs:List PV}(h:gy k ks vs=Sh r):∃f,b8 k ks 0=Sh f/\oS vs f=Sh r:=by
 unfold gy at h;split at h
 .rename_i hf;exact⟨Sl,hf,h⟩
 .rename_i j hf;exact⟨Sh j,hf,h⟩
 .cases h
theorem RelPL.at{us:List Value}(h:RelPL w R ps us){i:Nat}{p:PV}(s:ps[i]? =Sh p)(A:us[i]? =Sh u):RelP w R p u:=by
 obtain⟨u',h1,h2⟩:=h.get s;rw[A]at h1;cases h1;exact h2
theorem ym(W:SW C n σ a w m R)(H:C.P.underlying t=Sh (.map kt et))(D:C.P.underlying kt=Sh d)(I:HO d key=Sm)(X:kJ n σ x ks vs)(Y:σ.ev n y= .pv key)(J:(C.P.info? et).map (·.zero)=Sh (Sh zv))(L:ofC zv=zp)(M:gy key ks vs=Sh r)(ok:Bool):
  ∃u,RelP w R (r.getD zp) u/\(Instr.lookup t (a.eval x) (a.eval y) ok).run C.P w= .ok (if ok then .tuple #[u,.bool r.isSome]else u) w:=by
 have s:=W.pv Y;have E:(zeroValue et).run C.P w= .ok zv w:=by
  cases hq:C.P.info? et with
  |none=>simp[hq]at J
  |some i=>simp[hq]at J;simp[zeroValue,typeInfo,hq,J]
 have A:RelP w R zp zv:=L▸xV w R zv;have B:=qG I s;rcases X.at W with⟨b,es,clock,ps,qs,e,hb,q2,q3,_,hsw⟩|⟨e,rfl,rfl⟩
 .obtain⟨f,G,hr⟩:=qk M;obtain⟨f',hf',hr'⟩:=hsw G hr;cases f' with
  | none=>
    simp only[oS,Rq]at hr';subst hr';have:=n5 I s q2 hf';simp only at this;refine⟨zv,A,?_⟩;simp[Instr.lookup,e,run_underlying H,run_map hb,run_checkKey D B,run_findKey D this,E,Result.andThen]
  | some j=>
    obtain⟨q,e',hj,he,hfn⟩:=n5 I s q2 hf';simp only[RV]at hj;subst hj;simp only[oS]at hr';cases hv:qs[j]? with
    |none=>rw[hv]at hr';cases hr'
    | some p=>
      rw[hv]at hr';simp at hr';subst hr';refine⟨e'.val,RelPL.at q3 hv (by simp[he]),?_⟩;simp[Instr.lookup,e,run_underlying H,run_map hb,run_checkKey D B,run_findKey D hfn,Result.andThen]
 .simp only[gy,b8,Rq]at M;subst M;refine⟨zv,A,?_⟩;have G:Instr.findNow d (a.eval y) (#[]:Array MapEntry).toList 0=Sh Sl:=rfl;simp[Instr.lookup,e,run_underlying H,run_checkKey D B,run_findKey D G,E,Result.andThen]
theorem uJ{p:PV}(A:C.P.underlying t=Sh (.map kt et))(B:C.P.underlying kt=Sh d)(D:kJ n σ x ks vs)(E:σ.ev n y= .pv key)(G:HO d key=Sm)(H:(C.P.info? et).map (·.zero)=Sh (Sh zv))(s:ofC zv=zp)(I:gy key ks vs=Sh r)(J:r.getD zp=p)(L:r.isSome=b):
  XJ C n ⟨dst,.lookup t x y Sm,ty,pos,after,gd⟩ σ ⟨.pv (.tup [p,.bool b]),[],[]⟩:=
 .val λa w m R hw=>by
  obtain⟨u,hr,hrun⟩:=ym hw A B G D E H s I Sm;subst J L;refine⟨_,by simp only[execOp,Sem.run_bind,hrun,Result.andThen_ok];rfl,?_⟩;simp only[Rel,RelP];exact⟨[u,.bool r.isSome],O,RelPL.cons hr (RelPL.cons (by simp only[RelP]) RelPL.nil)⟩
theorem gM{p:PV}(A:C.P.underlying t=Sh (.map kt et))(B:C.P.underlying kt=Sh d)(D:kJ n σ x ks vs)(E:σ.ev n y= .pv key)(G:HO d key=Sm)(H:(C.P.info? et).map (·.zero)=Sh (Sh zv))(s:ofC zv=zp)(I:gy key ks vs=Sh r)(J:r.getD zp=p):
  XJ C n ⟨dst,.lookup t x y S1,ty,pos,after,gd⟩ σ ⟨.pv p,[],[]⟩:=
 .val λa w m R hw=>by
  obtain⟨u,hr,hrun⟩:=ym hw A B G D E H s I S1;subst J;exact⟨u,by simp only[execOp,Sem.run_bind,hrun,Result.andThen_ok];rfl,by simpa only[Rel]using hr⟩
theorem ov(s:C.P.underlying t=Sh (.map kt et))(A:kJ n σ x ks vs):
  XJ C n ⟨dst,.call { callee:= .builtin .len,args:= #[x],argTypes:= #[t] },ty,pos,after,gd⟩ σ ⟨pIi ks.length,[],[]⟩:=
 .val λa w m R hw=>by
  rcases A.at hw with⟨b,es,clock,ps,qs,e,hb,q2,q3,hlk,_⟩|⟨e,rfl,rfl⟩
  .have hl:=q2.length;simp only[OF]at hl;rw[<-hlk]at hl;exact⟨.int .i64 es.size,by simp[execOp,resolve,invoke,builtin,Builtin.len_,e,run_underlying s,run_map hb,goInt,Result.andThen],by simp only[Rel,RelP];simp at hl;rw[hl]⟩
  .exact⟨.int .i64 0,by simp[execOp,resolve,invoke,builtin,Builtin.len_,e,run_underlying s,goInt],by simp only[Rel,RelP];rfl⟩
theorem SW.K8(h:SW C n σ a w m R)(B:σ.av id=Sm)(obj:Obj)(N:Nat)(o:Ob)
  (X:∀(w':World)(m':Gm)(av':Av),(∀b,R b->R b/\w'.heap[b]? =w.heap[b]?)->w'.heap[w.heap.size]? =Sh obj->lz w' m' av' R w.heap.size N o) (J:o.real=Sm:=by rfl):
  SW C n ⟨σ.sl,obL [(id,Sh o)] σ.ob,avL [id] σ.av⟩ a (w.alloc obj) (upd m id (Sh (w.heap.size,N))) R:=by
 have G:∀b,R b->R b/\(w.alloc obj).heap[b]? =w.heap[b]? :=λb s=>⟨s,Below.heap_alloc w _ b (h.hr.rsz b s)⟩
 have H:∀i,σ.av i=S1->i≠id:=λi hi e=>by rw[e,B]at hi;cases hi
 have L:∀i x,σ.av i=S1->upd m id (Sh (w.heap.size,N)) i=Sh x->m i=Sh x:=λi x hi e=>by rwa [aR _ _ (H i hi)]at e
 have I:∀i,σ.av i=S1->avL [id] σ.av i=S1:=λi hi=>by
  simp only[avL];cases Nat.beq i id<;>simp[hi]
 have M:(w.alloc obj).heap.size=w.heap.size+1:=Vj;have A:∀i,i≠id->obL [(id,Sh o)] σ.ob i=σ.ob i:=λi hi=>by
  have:Nat.beq i id=S1:=by cases s:Nat.beq i id;rfl;exact absurd (aJ s) hi
  simp[obL,this]
 have D:obL [(id,Sh o)] σ.ob id=Sh o:=by simp[obL]
 refine h.world ⟨?_,?_,?_,?_,?_,?_,h.hr.rfr,h.hr.r0,?_,?_,λi hi=>I i (h.hr.res i hi)⟩ G L I
 .intro i;by_cases e:i=id
  .subst e;rw[aA,D];exact J.symm
  .rw[aR _ _ e,A i e];exact h.hr.dom i
 .intro i hi;simp only[avL]at hi;cases s:Nat.beq i id with
  |true=>rw[s]at hi;simp at hi
  | false=>
    rw[s]at hi;rw[A i (λe=>by subst e;simp at s)];exact h.hr.free i (by simpa using hi)
 .intro i o' b N h1 h2;by_cases e:i=id
  .subst e;rw[D]at h1;rw[aA]at h2;cases h1;cases h2;exact X _ _ _ G (heap_alloc_new w _)
  .rw[A i e]at h1;rw[aR _ _ e]at h2;exact(h.hr.obj i o' b N h1 h2).mono G L I (Below.heap_alloc w _ b (h.hr.own i b N h2).1)
 .intro i j b N N' h1 h2;by_cases e1:i=id<;>by_cases e2:j=id
  .rw[e1,e2]
  .subst e1;rw[aA]at h1;rw[aR _ _ e2]at h2;cases h1;have:=(h.hr.own j _ _ h2).1;omega
  .subst e2;rw[aA]at h2;rw[aR _ _ e1]at h1;cases h2;have:=(h.hr.own i _ _ h1).1;omega
  .rw[aR _ _ e1]at h1;rw[aR _ _ e2]at h2;exact h.hr.inj i j b N N' h1 h2
 .intro i b N h1;by_cases e:i=id
  .subst e;rw[aA]at h1;cases h1;exact⟨Vf,λs=>by have:=h.hr.rsz _ s;omega,.inr h.hr.frame.size⟩
  .rw[aR _ _ e]at h1;obtain⟨h2,h3,h4⟩:=h.hr.own i b N h1;exact⟨Vf,h3,h4⟩
 .intro b s;have:=h.hr.rsz b s;omega
 .refine⟨h.hr.frame.os,h.hr.frame.tape,h.hr.frame.output,?_,?_⟩
  .have:=h.hr.frame.size;omega
  .intro k hk hF;rw[Below.heap_alloc w _ k (by have:=h.hr.frame.size;omega)];exact h.hr.frame.block k hk hF
 .intro i x hi e;have E:i≠id:=λW=>by subst W;rw[h.hr.res i hi]at B;cases B
  rw[aR _ _ E]at e;exact h.hr.keep i x hi e
theorem SW.turn(h:SW C n σ a w m R){b N:Nat}(s:m id=Sh (b,N))(w':World)(W:w'.heap.size=w.heap.size)(A:∀k,k≠b->w'.heap[k]? =w.heap[k]?)(e1:w'.os=w.os)(e2:w'.tape=w.tape)(e3:w'.output=w.output)(o:Ob)
  (M:(∀b,R b->R b/\w'.heap[b]? =w.heap[b]?)->lz w' m σ.av R b N o) (H:o.real=Sm:=by rfl):
  SW C n ⟨σ.sl,obL [(id,Sh o)] σ.ob,avL [] σ.av⟩ a w' m R:=by
 have D:=h.hr.own id b N s;have G:∀k,R k->R k/\w'.heap[k]? =w.heap[k]? :=λk hk=>⟨hk,A k (λe=>D.2.1 (e▸hk))⟩
 have B:∀i,i≠id->obL [(id,Sh o)] σ.ob i=σ.ob i:=λi hi=>by
  have:Nat.beq i id=S1:=by cases hb:Nat.beq i id;rfl;exact absurd (aJ hb) hi
  simp[obL,this]
 have E:obL [(id,Sh o)] σ.ob id=Sh o:=by simp[obL]
 have I:∀i x,σ.av i=S1->m i=Sh x->m i=Sh x:=λ_ _ _ e=>e
 have J:∀i,σ.av i=S1->avL [] σ.av i=S1:=λ_ hi=>hi
 refine h.world ⟨?_,?_,?_,h.hr.inj,?_,?_,h.hr.rfr,h.hr.r0,?_,h.hr.keep,h.hr.res⟩ G I J
 .intro i;by_cases e:i=id
  .subst e;rw[s,E];exact H.symm
  .rw[B i e];exact h.hr.dom i
 .intro i hi;have e:i≠id:=λe=>by
   subst e;have:=h.hr.dom i;rw[h.hr.free i hi,s]at this;cases this
  rw[B i e];exact h.hr.free i hi
 .intro i o' b' N' h1 h2;by_cases e:i=id
  .subst e;rw[E]at h1;rw[s]at h2;cases h1;cases h2;exact M G
  .rw[B i e]at h1;exact(h.hr.obj i o' b' N' h1 h2).mono G I J (A b' (λL=>e (h.hr.inj i id b N' N (L▸h2) s)))
 .intro i b' N' h1;obtain⟨h2,h3,h4⟩:=h.hr.own i b' N' h1;exact⟨Vf,h3,h4⟩
 .intro b' hb';have:=h.hr.rsz b' hb';omega
 .refine⟨e1.trans h.hr.frame.os,e2.trans h.hr.frame.tape,e3.trans h.hr.frame.output,?_,?_⟩
  .have:=h.hr.frame.size;omega
  .intro k hk hF;rw[A k (λe=>by subst e;rcases D.2.2 with h'|h';exact hF h';omega)];exact h.hr.frame.block k hk hF
theorem cL(id:Nat)(A:σ.av id=Sm):XJ C n ⟨dst,.makeMap t Sl,ty,pos,after,gd⟩ σ ⟨.map id,[(id,Sh (.mp [] []))],[id]⟩:=by
 rintro a w Q ⟨m,R,hw⟩;unfold Oper.wp;have s:(execOp a.eval ⟨dst,.makeMap t Sl,ty,pos,after,gd⟩).run C.P w= .ok (.value (.map (Sh w.heap.size))) (w.alloc (.map #[] 0)):=by
  simp only[execOp,Option.map_none,Sem.run_bind,run_makeMap,Result.andThen_ok];rfl
 rw[s];refine⟨_,O,upd m id (Sh (w.heap.size,0)),R,?_⟩;rw[Rc];refine SW.put (hw.K8 A (.map #[] 0) 0 (.mp [] []) ?_) dst ?_
 .intro w' m' av' hR hb;exact⟨#[],0,hb,RelPL.nil,RelPL.nil,by simp[db]⟩
 .simp only[Rel];refine⟨by simp[avL],λb N e=>?_⟩;rw[aA]at e;cases e;rfl
def kN(k:PV)(ks:List PV):List PV:=match b8 k ks 0 with
 |some (Sh j)=>ks.set j k
 |_=>ks++[k]
def jS(k v:PV)(ks vs:List PV):List PV:=match b8 k ks 0 with
 |some (Sh j)=>vs.set j v
 |_=>vs++[v]
theorem cH{v:PV}{r:Option Nat}{ks' vs':List PV}(ht:C.P.underlying t=Sh (.map kt et))(W:C.P.underlying kt=Sh d)(M:σ.ev n x= .map id)(ho:σ.ob id=Sh (.mp ks vs))(hy:σ.ev n y= .pv key)(hz:σ.ev n z= .pv v)(hd:HO d key=Sm)(L:b8 key ks 0=Sh r)
  (ac:kN key ks=ks') (ad:jS key v ks vs=vs'):XJ C n ⟨Sl,.mapUpdate t x y z,ty,pos,after,gd⟩ σ ⟨.pv .any,[(id,Sh (.mp ks' vs'))],[]⟩:=by
 rintro a w Q ⟨m,R,hw⟩;obtain⟨b,N,hm,es,clock,hb,q2,q3,q4⟩:=hw.live ho;have G:=hw.ev x;rw[M]at G;simp only[Rel]at G;have M:=G.2 b N hm;have s:=hw.pv hy;have E:=hw.pv hz;have X:=qG hd s;have ae:b<w.heap.size:=(Ro.1 hb).1;have Y:∀(es':Array MapEntry)(clock':Nat),(Instr.mapUpdate t (a.eval x) (a.eval y) (a.eval z)).run C.P w= .ok () { w with heap:=w.heap.setIfInBounds b (.map es' clock') }->
   RelPL w R ks' (es'.toList.map (·.key))->RelPL w R vs' (es'.toList.map (·.val))->db es'.toList clock'->Oper.wp C.P ⟨Sl,.mapUpdate t x y z,ty,pos,after,gd⟩ a w (λa' w'=>∃σ',σ'=σ.app Sl ⟨.pv .any,[(id,Sh (.mp ks' vs'))],[]⟩/\SJ C n σ' a' w') Q:=by
  intro es' clock' hrun h1 h2 h3;unfold Oper.wp;have H:(execOp a.eval ⟨Sl,.mapUpdate t x y z,ty,pos,after,gd⟩).run C.P w= .ok .skip { w with heap:=w.heap.setIfInBounds b (.map es' clock') }:=by
   simp only[execOp,Sem.run_bind,hrun,Result.andThen_ok,Sem.run_pure]
  rw[H];refine⟨_,O,m,R,hw.turn hm { w with heap:=w.heap.setIfInBounds b (.map es' clock') } Vj (λk W=>by simp only;rw[Th (λe=>W e.symm)]) O O O (.mp ks' vs') λhR=>?_⟩;exact⟨es',clock',by simp only;rw[TE];simp[ae],h1.mono hR,h2.mono hR,h3⟩
 have hl:=q2.length;have af:=q3.length;simp only[OF]at hl af;cases r with
 | none=>
   have D:=n5 hd s q2 L;simp only at D;refine Y (es.push ⟨a.eval y,a.eval z,clock⟩) (clock+1) ?_ ?_ ?_ ?_
   .simp[Instr.mapUpdate,M,run_underlying ht,run_map hb,run_checkKey W X,run_findKey W D,eK _ hb,Result.andThen]
   .rw[<-ac];simp only[kN,L,UW,RG,bP,SD];exact q2.append (RelPL.cons s RelPL.nil)
   .rw[<-ad];simp only[jS,L,UW,RG,bP,SD];exact q3.append (RelPL.cons E RelPL.nil)
   .simp only[db,UW,RG,bP,SD];refine⟨Uk.2 ⟨q4.1,Vj,λx M y hy e=>?_⟩,λe he=>?_⟩
    .obtain⟨e',he',rfl⟩:=By.1 M;have:=q4.2 e' he';simp at hy;omega
    .rcases Rx.1 he with h|h
     .exact Nat.lt_succ_of_lt (q4.2 e h)
     .simp at h;subst h;exact Nat.lt_succ_self _
 | some j=>
   obtain⟨q,e',hj,he,D⟩:=n5 hd s q2 L;obtain⟨q',x',hj',hx',hkq⟩:=mW L;simp only[RV]at hj hj';subst hj';subst hj;have Z:=RelPL.at q2 hx' (by simp[he]:(es.toList.map (·.key))[j]? =Sh e'.key);have I:=zO hkq s Z;have J:j<es.size:=(Rp.1 he).1 |> λh=>by simpa using h
   have aa:es[j]? =Sh e':=by simpa using he
   have ab:es[j]=e':=by have:=Array.getElem?_eq_getElem J;rw[aa]at this;exact(TF this).symm
   have A:(es.modify j λe=>{ e with key:=a.eval y,val:=a.eval z }).toList=es.toList.set j ⟨a.eval y,a.eval z,e'.born⟩:=by
    apply UI;intro i;rw[UR,TQ,TU];by_cases e:j=i
    .subst e;simp[J,ab]
    .simp[e]
   refine Y (es.modify j λe=>{ e with key:=a.eval y,val:=a.eval z }) clock ?_ ?_ ?_ ?_
   .simp[Instr.mapUpdate,M,run_underlying ht,run_map hb,run_checkKey W X,run_findKey W D,eK _ hb,Result.andThen,Instr.keyThatStays,aa,I.2]
   .rw[A,<-ac];simp only[kN,L,SH];exact q2.set j s
   .rw[A,<-ad];simp only[jS,L,SH];exact q3.set j E
   .rw[A];have B:(es.toList.set j ⟨a.eval y,a.eval z,e'.born⟩).map (·.born)=es.toList.map (·.born):=by
     rw[SH];apply UI;intro i;rw[TU];by_cases e:j=i
     .subst e;simp[J,ab]
     .simp[e]
    refine⟨by rw[B];exact q4.1,λe hm=>?_⟩;have:e.born∈es.toList.map (·.born):=by rw[<-B];exact By.2 ⟨e,hm,O⟩
    obtain⟨e2,h2,h3⟩:=By.1 this;rw[<-h3];exact q4.2 e2 h2
def RO(ids:List Nat)(base k':Nat)(Q:V->(Nat->Option Ob)->Prop)(s:OS):Prop:=∃v ob',Q v ob'/\s=⟨v.ren (dV ids base),wrO ids base k' ob',nwO base k'⟩
theorem Jh(ids:List Nat)(base k':Nat)(ob':Nat->Option Ob):(wrO ids base k' ob').map (·.1)=ids++nwO base k':=by
 have h:∀(l:List Nat)(j:Nat),(l.zipIdx j).map (λp=>p.1)=l:=by
  intro l;induction l with
  |nil=>intro j;rfl
  |cons x l ih=>intro j;rw[U1,bP,ih]
 unfold wrO nwO;rw[RG,Ta,Ta];exact congr (ag _ (h ids 0)) O
theorem relO{ts:Array TypeId}{args:List V}{os:List (Nat×Ob)}{k':Nat}(ids:List Nat)(base:Nat)(hc:cu C.P f)(H:FnO C.P f ids.length k' args os Q)(A:xs.toList.map (σ.ev n)=V.renL (dV ids base) args)
  (I:V.allL (okR ids.length 0) args=Sm) (hos:os.map (·.1)=(List.range ids.length).map (big+ ·)) (D:os.all (λp=>p.2.all (okR ids.length 0))=Sm) (B:fO σ (dV ids base) os) (E:ids.Nodup) (G:(nwO base k').all σ.av=Sm):
  OJ C n ⟨dst,.call { callee:= .value (.func f),args:=xs,argTypes:=ts },ty,pos,after,gd⟩ (λτ'=>∃s,RO ids base k' Q s/\s.wr.map (·.1)=ids++nwO base k'/\s.nw=nwO base k'/\τ'=σ.app dst s) σ:=
 bM ids base hc A I hos D B E G H λv ob' h=>⟨_,⟨v,ob',h,O⟩,Jh _ _ _ _,O,O⟩
end
end
section
section
variable {C:Ctx}{n:Nat}{σ:St}{dst:Option Tmp}{ty t t':TypeId}{pos:String}{after:Array Edge}{gd:Option (Nat×Bool)}{x y:Operand}
theorem wS{z:Value}{size bytes:Nat}{news:List PV}(id':Nat)(s:ElemIs C.P t e z size bytes)(W:σ.ev n x= .pv nS)
  (D:nP n σ y j news) (I:news.length=j*size) (J:∀c∈news,c.leaf=Sm) (X:j<=1000000000) (E:σ.av id'=Sm):
  XJ C n ⟨dst,.call { callee:= .builtin .append,args:= #[x,y],argTypes:= #[t,t] },ty,pos,after,gd⟩ σ ⟨.gsl id' size j,[(id',Sh (.gro e news))],[id']⟩:=by
 rintro a w Q ⟨m,R,hw⟩;have L:=hw.pv W;simp only[RelP]at L;obtain⟨A0,c0,hev,_,_,hn,hc0,_⟩:=L;have G:A0=Sl:=by cases A0;rfl;have:=hn Sm O;simp at this
 subst G;rw[hc0 trivial]at hev;obtain⟨A,c2,us,hev2,hr2,hrow⟩:=D.row hw;rcases SY j with rfl|hj
 .obtain rfl:news=[]:=RU (by simpa using I);obtain⟨i,hi,_⟩:=info_parts s.info;have B:(Builtin.append_ #[t,t] ty #[.slice Sl 0 0,.slice A 0 c2]).run C.P w= .ok (.slice Sl 0 0) w:=by
   cases A<;>simp[Builtin.append_,run_underlying s.u,sizeOf,typeInfo,hi,Builtin.lenOf,Builtin.firstCells,loadCells,loadCellsFrom]
  unfold Oper.wp execOp;simp only[resolve,invoke,builtin,Sem.run_bind,Sem.run_pure,Result.andThen_ok,Ur,bP,SD,hev,hev2,B];obtain⟨h,hmn⟩:=hw.gro0 E e;refine⟨_,O,m,R,?_⟩;rw[Rc];exact SW.put h dst<|xr (by simp only[RelP];exact⟨Sl,0,O,BY _,by simp[maxLen],(λ_ e=>by cases e;rfl),(λ_=>rfl),λe=>absurd O e⟩) hmn (by simp[avL])
 .have hnl:0<news.length:=by rw[I];exact U6 hj s.pos
  have H:news≠[]:=SS.1 hnl;refine nN x y t O 0 e z size bytes s.u s.info s.zs s.pos s.by_ _ 0 j c2 A _ us hev hev2 (World.ownsRow_nil w 0 e size) hrow (by rw[hr2.length,I]) (dN hr2 J) Vf (cd _) ?_;intro A' c' w' hown' hgr hat
  simp only[RV,Sr]at hown' hat ⊢;rcases hown'.2 with⟨hv,h0⟩|⟨g,cap,cur,hv,_,hg,hkc',hcm',hcs',htk⟩
  .omega
  .simp only[Value.slice.injEq]at hv;obtain⟨rfl, -,rfl⟩:=hv;have M:w.heap.size<=g:=by
    rcases hat with h|⟨g',h,hle⟩
    .simp[Value.ownBlock]at h
    .simp only[Value.ownBlock,Rq]at h;subst h;exact hle
   refine⟨_,O,upd m id' (Sh (g,cur.size)),R,?_⟩;rw[Rc];refine SW.put (hw.fresh E hg hgr (λq hq=>by simp[Value.ownBlock]at hq) (λh=>by have:=hw.hr.rsz _ h;omega) (λi b N hi e=>by have:=(hw.hr.own i b N hi).1;omega) (.inr (by have:=hw.hr.frame.size;omega)) (.gro e news) ?_ (cZ H)) dst ?_
   .intro m' av' hR _ _;refine⟨cur,hg,O,?_,?_⟩
    .rw[hcs',<-hr2.length,hown'.1];exact SV _ hkc'
    .rw[<-hr2.length,hown'.1,htk];exact hr2.mono hR
   .simp only[Rel];refine⟨by simp[avL],_,c',O,hkc',hcm',λh=>by omega,λ_ b N e=>?_⟩;rw[aA]at e;cases e;exact⟨O,hcs'⟩
end
end

section
section
variable {C:Ctx}{n:Nat}{σ:St}{dst:Option Tmp}{ty:TypeId}{pos:String}{after:Array Edge}{gd:Option (Nat×Bool)}{x y:Operand}
theorem pC{s:Nat}{kh:IntKind}{ih:Int}{o:Ob}(h:Nat)(G:C.P.underlying T=Sh (.slice e))(H:bN C.P e s)(J:σ.ev n x= .osl id s k)(I:σ.ob id=Sh o)(L:σ.ev n y= .pv (.int kh ih))(M:ih=(h:Int))(W:h<=k)(D:o.real=Sm:=by rfl):
  XJ C n ⟨dst,.slice T x Sl (Sh y) Sl,ty,pos,after,gd⟩ σ ⟨.osl id s h,[],[]⟩:=
 .val λa w m R hw=>by
  obtain⟨b,N,c,he,hkc,hcm,hN,hm,hor⟩:=hw.osl J I D;have E:a.eval y= .int kh h:=by rw[hw.int L,M]
  have A:h<=c:=Vf;have B:σ.av id=S1:=by
   cases hv:σ.av id with
   |false=>rfl
   |true=>have:=hw.hr.free id hv;rw[I]at this;cases this
  refine⟨.slice (Sh ⟨b,0,Sl⟩) h c,?_,?_⟩
  .by_cases hc0:c=0
   .subst hc0;have:h=0:=Vf;subst this;simp[execOp,he,E,Instr.sliceAt,Instr.slice,Instr.sliceBounds,Instr.sliceBound,asIntOf,run_underlying G,H.run]
   .simp[execOp,he,E,Instr.sliceAt,Instr.slice,Instr.sliceBounds,Instr.sliceBound,asIntOf,run_underlying G,H.run,A,Addr.add_lit,hc0]
  .simp only[Rel];refine⟨B,λb' N' e=>?_⟩;rw[hm]at e;cases e;exact⟨c,O,A,hcm,hN⟩
def St.cutO(σ:St)(id:Nat)(T:TypeId)(cs:List PV):St:=⟨σ.sl,obL [(id,Sh (.cells T cs))] σ.ob,σ.av⟩
theorem St.N1{cs vs:List PV}(id j:Nat)(D:σ.ob id=Sh (.cells T cs))(E:cs.take j=vs):σ.le (σ.cutO id T vs):=by
 subst E;rintro C n a w ⟨m,R,hw⟩;have A:∀i,i≠id->obL [(id,Sh (.cells T (cs.take j)))] σ.ob i=σ.ob i:=λi hi=>by
  have:Nat.beq i id=S1:=by cases hb:Nat.beq i id;rfl;exact absurd (aJ hb) hi
  simp[obL,this]
 have B:obL [(id,Sh (.cells T (cs.take j)))] σ.ob id=Sh (.cells T (cs.take j)):=by simp[obL]
 refine⟨m,R,⟨?_,?_,?_,hw.hr.inj,hw.hr.own,hw.hr.rsz,hw.hr.rfr,hw.hr.r0,hw.hr.frame,hw.hr.keep,hw.hr.res⟩,hw.df,hw.sz,hw.sl⟩
 .intro i;show(m i).isSome=bI (obL _ σ.ob i);by_cases e:i=id
  .subst e;rw[B,hw.hr.dom,D];rfl
  .rw[A i e];exact hw.hr.dom i
 .intro i hi;show obL _ σ.ob i=Sl;by_cases e:i=id
  .subst e;have:=hw.hr.free i hi;rw[D]at this;cases this
  .rw[A i e];exact hw.hr.free i hi
 .intro i o b N h1 h2;by_cases e:i=id
  .subst e;have s:obL [(i,Sh (.cells T (cs.take j)))] σ.ob i=Sh o:=h1;rw[B]at s;cases s;obtain⟨arr,q1,q2,q3,q4⟩:=hw.hr.obj i _ b N D h2;refine⟨arr,q1,q2,Vk,?_⟩;have:=q4.take j;rw[List.take_take]at this;rw[Rr];exact this
  .have s:obL [(id,Sh (.cells T (cs.take j)))] σ.ob i=Sh o:=h1;rw[A i e]at s;exact hw.hr.obj i o b N s h2
end
end

section
section
variable {C:Ctx}{n:Nat}{σ:St}{dst:Option Tmp}{ty:TypeId}{ts:Array TypeId}{pos:String}{after:Array Edge}{gd:Option (Nat×Bool)}
theorem tE   {args:List V} {os:List (Nat×Ob)} {k':Nat}  {K:St->Prop} (ids:List Nat) (base:Nat) (hc:cu C.P f) (G:FnO C.P f ids.length k' args os Q) (s:xs.toList.map (σ.ev n)=V.renL (dV ids base) args)
  (H:V.allL (okR ids.length 0) args=Sm) (hos:os.map (·.1)=(List.range ids.length).map (big+ ·)) (B:os.all (λp=>p.2.all (okR ids.length 0))=Sm) (A:fO σ (dV ids base) os)
  (D:ids.Nodup) (E:(nwO base k').all σ.av=Sm)
  (I:∀v ob',Q v ob'->K (σ.app dst ⟨v.ren (dV ids base),wrO ids base k' ob',nwO base k'⟩)):
  OJ C n ⟨dst,.call { callee:= .value (.func f),args:=xs,argTypes:=ts },ty,pos,after,gd⟩ K σ:=bM ids base hc s H hos B A D E G I
end
end
section
open Mk
def xT(l:List Int):List Int:=l.mergeSort (λa b=>decide (a<=b))
theorem jG(l:List Int):(xT l).Perm l:=UY l _
theorem ub(l:List Int):(xT l).Pairwise (· <= ·):=by
 have:=Uz (le:=λa b:Int=>decide (a<=b)) (by intro a b c;simp;omega) (by intro a b;simp;omega) l;exact this.imp Vj
theorem Fw{r:List Int}(s:l.Perm r)(A:l.Pairwise (· <= ·))(B:r.Pairwise (· <= ·)):l=r:=
 s.eq_of_pairwise (λa b _ _ h1 h2=>Int.le_antisymm h1 h2) A B
theorem rG{r:List Int}(s:l.Perm r)(A:l.Pairwise (· <= ·)):l=xT r:=Fw (s.trans (jG r).symm) A (ub r)
abbrev Mc(l:List Int):Ob:= .cells 3 (aE l)
end
section
open Mk
def isB(S:Sch)(P:List Int)(v:Int):Bool:=((Cf S P==0)&&decide (v>=0))&&decide (v<P.length)
theorem Od(S:Sch)(hS:SB S)(P:List Int)(s:P.length<=1000000)(v:Int):FnP prog 164 [eS S,og P,.int .i64 v] (· = .bool (isB S P v)):=by
 refine FnP.of func164 O ntmps164 Vj λm0 w0 F R0=>?_
 refine Z3 O<|Z2 O<|Rs O (aa call72 (ff S hS P s) O)<|Y2 O ?_;apply Rf 3 11 14 [12,13] O Vp
 .intro hb4;exact Y3 O<|Q7 Vo O O O
 .intro hb4;exact Y3 O<|Q7 Vo O O O
 refine A1 O ?_;apply Rf 6 15 21 [16,17,18,19,20] O Vp
 .intro hb8;iterate 6 refine A1 O ?_
  exact Q7 Vo O O O
 .intro hb8;iterate 6 refine A1 O ?_
  exact Q7 Vo O O O
 exact A1 O<|Gt O<|⟨_,_,O,O,O⟩
structure OrdOk(S:Sch)(P:List Int):Prop where
 val:Valid S
 len:P.length=S.attrs.length
 rng:∀p∈P, -1<=p/\p<P.length
 up:∀v,v<P.length->(abv P (v:Int)).isSome=Sm
 rt:∀r∈S.rels,er P r.2=Sm
theorem oL:Cf S P=0↔bz S=0/\OrdOk S P:=by
 unfold Cf;constructor
 .intro h;split at h
  .rename_i A;exact absurd h A
  .rename_i s;have s:bz S=0:=RZ s;split at h
   .cases h
   .rename_i A;split at h
    .cases h
    .rename_i B;split at h
     .cases h
     .rename_i D;split at h
      .cases h
      .rename_i E;have A:P.length=S.attrs.length:=RZ A;have B:(P.any λp=>decide (p< -1)||decide ((P.length:Int)<=p))=S1:=by simpa using B
       have D:((List.range P.length).all λv=>(abv P v).isSome)=Sm:=by rw[Bool.not_eq_false]at D;exact D
       have E:(S.rels.all λr=>er P r.2)=Sm:=by simpa using E
       refine⟨s,jd s,A,λp hp=>?_,λv hv=>Ri.1 D v (Si.2 hv),λr hr=>Ri.1 E r hr⟩;have:=List.any_eq_false.1 B p hp;simp at this;omega
 .rintro⟨s,h⟩;rw[dt (λe=>e s),dt (λe=>e h.len),dt,dt,dt]
  .rw[Ri.2 λr hr=>h.rt r hr];decide
  .rw[Ri.2 λv hv=>h.up v (Si.1 hv)];decide
  .rw[SR];rintro⟨p,hp,B⟩;have:=h.rng p hp;simp at B;omega
theorem wN(p:Int->Bool)(k:Nat):(upZ (k+1)).filter p=(upZ k).filter p++(if p k=Sm then [(k:Int)]else []):=by
 rw[zu,TY]
 congr 1
 by_cases h:p k=Sm<;>simp[h]
theorem GG(l:List Int)(g:FuncId)(caps:List PV)(p:Int->Bool)(H:l.length<=1000000)(hc:cu prog g)(E:∀f∈l,FnP prog g ([]++[.int .i64 f]++caps) (· = .bool (p f))):
  FnP prog 277 [aj l,.fn (.func g) [] caps] (λv=>∃i:Int,v= .int .i64 i/\decide (0<=i)=l.any p):=by
 refine FnP.of func277 O ntmps277 Vj λm0 w0 F R0=>?_
 refine Z1 O<|Z3 O<|Gl O (st:=λVn:Nat=>mkS [(0,.pv (aj l)),(1,.pv (.fn (.func g) [] caps)),(7,pIi l.length),(8,pIi Vn)] [] 0)
  (I:=λVn=>Vn<=l.length/\(l.take Vn).any p=S1) (μ:=λVn=>l.length-Vn) (x0:=(0)) (Q5 (aS O) trivial O O) (⟨cd _,O⟩) ?_
 rintro k ⟨hk,hno⟩;refine Z1 O<|Gp O (λB=>?_) (λB=>?_)
 .have hlt:k<l.length:=Vf;have G:=aX hlt;have D:=aD hlt;have A:=E _ (au hlt);refine Q3<|Z2 O<|Z4 O ?_;first|refine A2 O Vi ?_|refine A1 O ?_
  refine Rs O (fH hc O A O)<|Gc O (λs=>?_) (λs=>?_)
  .exact Z2 O<|Gt O<|⟨_,_,O,O,_,O,by rw[qK hlt s];exact Ru Vf⟩
  .exact Q3<|Z2 O<|⟨(k+1),Q5 (aS O) trivial O O,⟨Vf,fK hlt hno s⟩,Vf⟩
 .exact Gx O<|Z1 O<|Gt O<|⟨_,_,O,O,_,O,by rw[aQ Vf]at hno;rw[hno];rfl⟩
theorem p7(l:List Int)(g:FuncId)(caps:List PV)(p:Int->Bool)(s:l.length<=1000000)(hc:cu prog g)(A:∀f∈l,FnP prog g ([]++[.int .i64 f]++caps) (· = .bool (p f))):
  FnP prog 186 [aj l,.fn (.func g) [] caps] (· = .bool (l.any p)):=by
 refine FnP.of func186 O ntmps186 Vj λm0 w0 F R0=>?_
 refine Z1 O<|Z2 O<|RL.call O (eW call277 (GG l g caps p s hc A) O ?_);rintro _ ⟨i,rfl,hi⟩;exact Y2 O<|Gt O<|⟨_,_,O,O,ag PV.bool hi⟩
def cE(S:Sch)(P:List Int)(v:Int):List Int:=xT (Ks S P v)
end
section
open Mk
def aB(P:List Int)(v:Int):List Int:=(upZ P.length).filter λa=>P.getD a.toNat 0==v
def badB(S:Sch)(P:List Int)(v:Int):Bool:=(v != -1&& !isB S P v)||(Cf S P !=0)
theorem tA(S:Sch)(hS:SB S)(P:List Int)(G:P.length<=1000000)(v:Int):FnP prog 74 [eS S,og P,.int .i64 v] (· =aj (if badB S P v=Sm then []else aB P v)):=by
 refine FnP.of func74 O ntmps74 Vj λm0 w0 F R0=>?_
 refine Z3 O<|Z3 O ?_;apply Rf 6 12 18 [13,14,15,16,17] O Vp
 .intro hb2;exact Y3 O<|Rg O (aa call164 (Od S hS P G v) O)<|Y2 O<|Q7 Vo O O O
 .intro hb2;iterate 6 refine A1 O ?_
  exact Q7 Vo O O O
 refine A1 O ?_;apply Re 5 19 24 [20,21,22,23] O Vp
 .intro hb9;iterate 5 refine A1 O ?_
  exact Q7 Vo O O O
 .intro hb9;exact Y2 O<|Rg O (aa call72 (ff S hS P G) O)<|Y2 O<|Q7 Vo O O O
 refine Gc O (λA=>?_) (λA=>?_)
 .exact Z1 O<|Q4 (St.qq [6])<|Gt O<|⟨_,_,O,O,by unfold badB;rw[AT A];rfl⟩
 .refine Q3<|Z1 O<|Q4 (Ra 7 2 1 3 O O)<|Z4 O ?_;refine Gl O (st:=λVn:Nat×List Int=>mkS [(2,pIi v),(7,.gsl 2 1 Vn.2.length),(26,.pv (aj P)),(27,pIi P.length),(28,pIi Vn.1)] [(2,.gro 3 (aE Vn.2))] 3)
   (I:=λVn=>Vn.1<=P.length/\Vn.2=(upZ Vn.1).filter (λa=>P.getD a.toNat 0==v)) (μ:=λVn=>P.length-Vn.1) (x0:=(0,[])) (Q5 (aS O) (aO O) O O) (⟨cd _,O⟩) ?_
  rintro⟨k,L⟩ ⟨hk,hL⟩;try simp only at hk hL ⊢
  refine Z1 O<|Gp O (λD=>?_) (λD=>?_)
  .have hlt:k<P.length:=Vf;have H:=aX hlt;have J:=aD hlt;have M:L.length<=k:=by rw[hL];exact IT (Te _ _) (by rw[a6];exact BY _)
   have W:(aE L).length=L.length*1:=Vj;have s:=wN (λa=>P.getD a.toNat 0==v) k;have E:P.getD (k:Int).toNat 0=P[k]:=by simp[List.getD,hlt]
   rw[E]at s;refine Q3<|Z2 O ?_;first|refine A2 O Vi ?_|refine A1 O ?_
   refine Y2 O<|Z3 O<|Gc O (λB=>?_) (λB=>?_)
   .rw[AT B,<-hL]at s;refine Gr O ?_;iterate 5 refine A1 O ?_
    exact Z2 O<|⟨(k+1,L++[(k:Int)]),Q6 [0,1,4] ⟨O,by simp;rfl,O,O,O,Vm⟩ ⟨ag (λc=>Sh (Ob.gro 3 c)) (jc L k).symm,Vm⟩ O O Vh O,⟨Vl,s.symm⟩,Vl⟩
   .rw[dt (by rw[B];decide),<-hL,Sk]at s;exact Q3<|Z2 O<|⟨(k+1,L),Q5 (aS O) (aO O) O O,⟨Vl,s.symm⟩,Vl⟩
  .exact Gx O<|Q4 (Q8 2 O O)<|Z2 O<|Gt O<|⟨_,_,O,O,by unfold badB;rw[dt (by rw[A];decide),show aB P v=L by rw[hL,show k=P.length by omega];rfl];simp[LA];rfl⟩
def sC(P:List Int)(h a:Int):Int:=if hiB P h a=Sm then a else h
def jL(P:List Int)(l:List Int):Int:=l.foldl (sC P) (l.getD 0 0)
def ki(P:List Int):Nat->Int->List Int
 |0,_=>[]
 |f+1,v=>(upZ P.length).flatMap λa=>if P.getD a.toNat 0=v then a::ki P f a else []

end
end Go.Proofs.YtoplpepiabedhaaGreatDoor
