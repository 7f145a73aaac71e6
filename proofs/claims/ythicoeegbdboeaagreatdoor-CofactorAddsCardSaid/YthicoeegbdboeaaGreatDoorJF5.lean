/- Lemmas. No condition. -/
import Derived.MapKept
import Derived.Carry
import Derived.Laws.RangeString
import Derived.Test.YthicoeegbdboeaaGreatDoorJF4
set_option maxRecDepth 100000
set_option maxHeartbeats 4000000
open Go.RowKit Go.Proofs.Tryz
open Option renaming some→WB,none→WC
open Bool renaming true→YK,false→YL
namespace Go.Proofs.YthicoeegbdboeaaGreatDoor
variable{k n a q j clock id:Nat}{U:List Bool}{p:Nat->Bool}{b:Bool}{l P:cP}{α:Type}{S:ZN}{s:er}{e T:TypeId}{x:Int}{d:TypeDesc}{u y zv:Value}{ps qs cs:na}{es:Array MapEntry}{key zp:PV}{r:Option PV}{f:FuncId}{xs:Array Operand}{Q:V->(Nat->va)->Prop}
section
open Mk
theorem eT{l:List (er×cP)}(h:k<l.length):((aZ l).drop (k*2)).take 2=[.str l[k].1,al l[k].2]:=eZ _ 2 (λ_=>rfl) l k h
theorem iq{l:List (er×cP)}(h:k<l.length):aZ l≠[]:=λe=>by have:=zd l;rw[e]at this;simp at this;omega
def fj(n:Nat)(U:List Bool)(p:Nat->Bool):Prop:=U.length=n/\∀a,a<n->U[a]? =WB (p a)
theorem fj.zero(n:Nat):fj n (List.replicate n YL) (λ_=>YL):=⟨Zm,λa ha=>by simp[ha]⟩
theorem fj.set(h:fj n U p)(D:a<n):fj n (U.set a YK) (λb=>p b||(b==a)):=by
 refine⟨by simp[h.1],λb hb=>?_⟩;by_cases e:b=a
 .subst e;simp[h.1,hb]
 rw[Xs (λB=>e B.symm),h.2 b hb];simp[e]
theorem fj.congr{q:Nat->Bool}(h:fj n U p)(e:∀a,a<n->p a=q a):fj n U q:=⟨h.1,λa ha=>by rw[h.2 a ha,e a ha]⟩
theorem fj.mem(h:fj n U p):decide (YL∈U)= !((List.range n).all p):=by
 rw[V0];simp only[VJ,XF,X6,Wi];constructor
 .intro hm;obtain⟨a,ha,e⟩:=Xp hm;refine⟨a,by rw[<-h.1];exact ha,?_⟩;have:=h.2 a (by rw[<-h.1];exact ha);rw[AT ha,e]at this;simpa using this.symm
 rintro⟨a,ha,e⟩;have:=h.2 a ha;have B:p a=YL:=by simpa using e
 rw[B]at this;exact W8 this
theorem zL(U:List Bool)(a:Nat):(a8 U).set a (.bool YK)=a8 (U.set a YK):=by simp[Wp]
theorem yD(B:q<l.length)(D:l[q]=(j:Int)):((b||inB (l.take q) a)||(a==j))=(b||inB (l.take (q+1)) a):=by
 rw[bP B,Bool.or_assoc]
 congr 1
 rw[V0];simp[inB,D];exact or_congr Iff.rfl ⟨λh=>by rw[h],λh=>by omega⟩
theorem CN(B:q<l.length)(h:∀a∈l.take q,0<=a/\a<(n:Int))(D:0<=l[q]/\l[q]<n):∀a∈l.take (q+1),0<=a/\a<(n:Int):=by
 rw[bP B];intro a ha;rcases We.1 ha with h1|h1
 .exact h a h1
 rw[VH.1 h1];exact D
theorem Dc{p:Nat}(D:p<l.length)(B:1<=p)(h:∀i,i+1<p->i+1<l.length->l.getD i 0<l.getD (i+1) 0)(E:l[p-1]'Zi<l[p]):∀i,i+1<p+1->i+1<l.length->l.getD i 0<l.getD (i+1) 0:=by grind
theorem Ec{rs:List (er×cP)}(B:k<rs.length)(D:rs[k].2.length<=q):(((rs.take k).any λr=>inB r.2 a)||inB (rs[k].2.take q) a)=((rs.take (k+1)).any λr=>inB r.2 a):=by rw[bP B,aG D];simp only[List.any_append,List.any_cons,List.any_nil,Xu]
theorem s8(S:ZN)(hS:SB S):ZK prog 135 [fp S] (· = ZU (ib S)):=by
 refine ZC func135 O ntmps135 λ_ _ _ _=>?_
 have hb:=hS.a;have aa:=hS.r;refine Z2 O<|Z1 O<|Vm (Vs 3 1 1 9 O O)<|Gr O<|Ar 5 O<|Z4 O<|Gz O (st:=λZq:Nat×hC×List Bool=>([(3,WB (.bz 1 1 Zq.2.1.length)),(4,WC),(16,WC),(17,WC),(18,WB (ZI Zq.1))],[(1,WB (.bD 9 (bj Zq.2.1))),(2,WB (.cells 4 (a8 Zq.2.2)))])) 3
  (I:=λZq=>Zq.1<=S.aU.length/\Zq.2.1=(S.aU.map (·.1)).take Zq.1/\fj S.aj.length Zq.2.2 (λa=>(S.aU.take Zq.1).any λr=>inB r.2 a)/\bQ (zl S) Zq.1=0) (μ:=λZq=>S.aU.length-Zq.1) (x0:=(0,[],List.replicate S.aj.length YL)) (Vn (aS O) ⟨O,ah (λc=>WB (Ob.cells 4 c)) ((ct (.bool YL) (S.aj.length*1)).trans Zm),Zp⟩ O O) (⟨sh _,O,fj.zero _,O⟩) ?_
 rintro⟨k,L,U⟩ ⟨hk,hL,hU,hs⟩;try simp only at hk hL hU hs ⊢
 refine Z1 O<|Gp O (λam=>?_) (λam=>?_)
 .have hlt:k<S.aU.length:=Zi;have ab:=eT hlt;have ax:=iq hlt;have ap:L.length=k:=by rw[hL];simp;omega
  have ac:L++[S.aU[k].1]=(S.aU.map (·.1)).take (k+1):=by rw[bP (by simpa using hlt),hL];simp
  have ad:=ur (L++[S.aU[k].1]) k Zn Zn (by simp only[<-ap];simp;exact hS.rn _ (ak _));rw[uB,ac,tz Zi]at ad;have M:=wG S k hlt;have ar:S.aU.getD k default=S.aU[k]:=by simp[List.getD,hlt]
  have ay:(bj L).length=L.length*1:=Zm;have az:=hS.rl _ (ak hlt);have aA:=hU.1;refine Vl<|Z2 O<|Rs O (aD ⟨_,underlying58,O⟩ O1 O ab O)<|Y3 O<|Gr O<|Ar 6 O<|Z2 O<|Rs O (vH call184 ad O O)<|A1 O<|Z2 O<|Gc O (λD=>?_) (λD=>?_)
  .refine Z2 O<|Gt O ?_;exact⟨_,_,O,O,ah (PV.int .i64) (by have e:zl S k=fU (S.aU.map (·.1)) k:=(by unfold zl;rw[IT (inT D)]);unfold ib;rw[gK hs (by rw[e];exact inT D) hlt,IT (by rw[e];exact inT D),e])⟩
  have hn0:fU (S.aU.map (·.1)) k=0:=inF D;have M:zl S k=if S.aU[k].2=[]then 7 else if(S.aU[k].2.all λa=>decide (0<=a)&&decide (a<S.aj.length))=YL then 2 else if LY S.aU[k].2=YL then 10 else 0:=by unfold zl;rw[AS (by simp[hn0]),ar]
  have W:∀e:Int,e≠0->zl S k=e->PV.int .i64 e= .int .i64 (ib S):=λe h0 h1=>ah (PV.int .i64) (by unfold ib;rw[gK hs (by rw[h1];exact h0) hlt,IT (by rw[h1];exact h0),h1])
  refine Vl<|Z4 O<|Gc O (λG=>?_) (λG=>?_)
  .exact Z1 O<|YR O<|W 7 Zk (by rw[M,IT (by have:=ibT G;apply Wl;omega)])
  have hl0:¬S.aU[k].2=[]:=λe=>by rw[e]at G;simp at G
  refine Vl<|Z4 O<|Gz O (st:=λB:Nat×List Bool=>([(3,WC),(4,WC),(6,WC),(16,WC),(17,WC),(18,WC),(39,WC),(40,WC),(41,WB (ZI B.1))],[(2,WB (.cells 4 (a8 B.2))),(3,WC),(5,WC)])) 6
   (I:=λB=>B.1<=S.aU[k].2.length/\fj S.aj.length B.2 (λa=>((S.aU.take k).any λr=>inB r.2 a)||inB (S.aU[k].2.take B.1) a)/\∀a∈S.aU[k].2.take B.1,0<=a/\a<S.aj.length) (μ:=λB=>S.aU[k].2.length-B.1) (x0:=(0,U)) (YS O) (⟨sh _,hU.congr (λa _=>by simp[inB]),Zm⟩) ?_
  rintro⟨q,U2⟩ ⟨hq,hU2,hr⟩;try simp only at hq hU2 hr ⊢
  refine Z1 O<|Gp O (λan=>?_) (λan=>?_)
  .have hql:q<S.aU[k].2.length:=Zi;have hv:=bo hql;have Y:=aU hql;have au:=hU2.1;refine Vl<|Z1 O<|A2 O Zl ?_;refine A1 O<|Z3 O ?_;apply Vv 5 47 52 [48,49,50,51] O Zs
   .intro aa;exact Ar 5 O<|Vp Zr O O O
   .intro aa;exact Ar 5 O<|Vp Zr O O O
   refine Gc O (λX=>?_) (λX=>?_)
   .exact Z1 O<|YR O<|W 2 Zk (by rw[M,AS hl0,IT (P3 hql (by simp at X;omega))])
   have hx:0<=S.aU[k].2[q]/\S.aU[k].2[q]<S.aj.length:=by simp only[V8,Xf]at X;omega
   obtain⟨j,hj⟩:=VG hx.1;exact Vl<|Z2 O<|Rs O (ag j aaw sz4 O O O hj Zi)<|A1 O<|Z2 O<|⟨(q+1,U2.set j YK),Vn (aS O) ⟨by show WB (Ob.cells _ _)=_;rw[<-zL];simp,O,O,Zp⟩ O O,⟨Zo,(hU2.set (a:=j) Zi).congr (λa _=>yD hql hj),CN hql hr hx⟩,Zo⟩
  have hrng:(S.aU[k].2.all λa=>decide (0<=a)&&decide (a<S.aj.length))=YK:=Bf (λa ha=>hr a (by rw[aG Zi];exact ha));refine Gx O<|Z1 O<|Gz O (st:=λH:Nat=>([(3,WC),(4,WC),(6,WC),(10,WB (ZI H)),(16,WC),(17,WC),(18,WC)],[(2,WC),(3,WC),(5,WC)])) 6
   (I:=λH=>1<=H/\∀i,i+1<H->i+1<S.aU[k].2.length->S.aU[k].2.getD i 0<S.aU[k].2.getD (i+1) 0) (μ:=λH=>S.aU[k].2.length-H) (x0:=1) (YS O) (⟨BY _,λi hi=>by omega⟩) ?_
  rintro p ⟨hp1,hasc⟩;refine Gr O<|Ar 5 O<|Gp O (λao=>?_) (λao=>?_)
  .have hpl:p<S.aU[k].2.length:=Zi;have af:p-1<S.aU[k].2.length:=Zi;have hv:=bo hpl;have hv1:=bo af;have Y:=aU hpl;refine Vl<|VC 12 O<|Dr 4 O<|D2 O O Zl ?_;refine Dr 4 O<|YM O (λτ h=>ai (p-1) aal sz3 (Ee h 0 O) (Ee h 1 O) Zi Zi Y)<|D2 O O Zl ?_;refine D1 O O ⟨Zj,Gp O (λZ=>?_) (λZ=>?_)⟩
   .exact Z1 O<|YR O<|W 10 Zk (by rw[M,AS hl0,AS (by rw[hrng];decide),IT (P6 hp1 hpl Z)])
   exact Vl<|Z3 O<|⟨(p+1),YS O,⟨Zi,Dc hpl hp1 hasc Zi⟩,Zi⟩
  exact Gx O<|Z2 O<|⟨(k+1,L++[S.aU[k].1],U2),Vo [0,5,2] ⟨by simp;rfl,O,O,O,O,Zp⟩ ⟨ah (λc=>WB (Ob.bD 9 c)) (xu L S.aU[k].1).symm,O,Zp⟩ O O Zk O,⟨Zo,ac,hU2.congr (λa _=>Ec hlt Zi),by simp only;rw[dH hs,M,AS hl0,AS (by rw[hrng];decide),AS (by rw[A5 (λi hi=>hasc i Zi hi)];decide)]⟩,Zo⟩
 have hfull:((List.range S.aj.length).all λa=>(S.aU.take k).any λr=>inB r.2 a)=((List.range S.aj.length).all λa=>vE S a):=by rw[aG Zi];rfl
 refine Gx O<|Z1 O<|Rs O (vH call185 (tg U YL (by have:=hU.1;omega)) (by rw[nI,hU.1];rfl) O) ?_;refine Gc O (λE=>?_) (λE=>?_)
 .exact Z1 O<|YR O<|ah (PV.int .i64) (by unfold ib;rw[show S.aU.length=k by omega,AS (by simp[hs]),IT (by rw[<-hfull];rw[hU.mem]at E;simpa using E)])
 exact Vl<|Z1 O<|YR O<|ah (PV.int .i64) (by unfold ib;rw[show S.aU.length=k by omega,AS (by simp[hs]),AS (by rw[<-hfull];rw[hU.mem]at E;simpa using E)])
abbrev BW(f:Int×Int×Int):na:=[.int .i64 f.1,.int .i64 f.2.1,.int .i64 f.2.2]
theorem kW{l:List (Int×Int×Int)}(h:k<l.length):((aK l).drop (k*3)).take 3=BW l[k]:=eZ _ 3 (λ_=>rfl) l k h
theorem oD{l:List (Int×Int×Int)}(h:k<l.length):aK l≠[]:=λe=>by have:=kH l;rw[e]at this;simp at this;omega
theorem fM{l:List α}{p:α->Bool}(B:k<l.length)(h:(l.take k).any p=YL)(D:p l[k]=YL):(l.take (k+1)).any p=YL:=by rw[bP B];simp only[List.any_append,h,List.any_cons,D,List.any_nil,Xu]
theorem sW{l:List α}{p:α->Bool}(B:k<l.length)(h:p l[k]=YK):l.any p=YK:=Wv.2 ⟨_,ak B,h⟩
theorem JK(l:List (Int×Int×Int))(g:FuncId)(caps:na)(p:Int×Int×Int->Bool)(hl:l.length<=1000000)(hc:bS prog g)(L:∀f∈l,ZK prog g ([]++[.agg (BW f)]++caps) (· = .bool (p f))):
  ZK prog 105 [.sl WC l.length (aK l),.fn (.func g) [] caps] (λv=>∃i:Int,v= ZU i/\decide (0<=i)=l.any p):=by
 refine ZC func105 O ntmps105 λ_ _ _ _=>?_
 refine Z1 O<|Z3 O<|Gz O (st:=λZq:Nat=>((ZZ Zq),[])) 0
  (I:=λZq=>Zq<=l.length/\(l.take Zq).any p=YL) (μ:=λZq=>l.length-Zq) (x0:=0) (Vn (aS O) trivial O O) (⟨sh _,O⟩) ?_
 rintro k ⟨hk,hno⟩;refine Z1 O<|Gp O (λG=>?_) (λG=>?_)
 .have hlt:k<l.length:=Zi;have D:=kW hlt;have H:=oD hlt;have E:=L _ (ak hlt);refine Vl<|Z2 O<|Z4 O<|Rs O (aD ⟨_,underlying60,O⟩ KS O D O)<|Rs O (bX hc O E O)<|Gc O (λB=>?_) (λB=>?_)
  .exact Z2 O<|YR O ⟨_,O,by rw[sW hlt B];exact VK Zi⟩
  exact Vl<|Z2 O<|⟨(k+1),Vn (aS O) trivial O O,⟨Zi,fM hlt hno B⟩,Zi⟩
 exact Gx O<|Z1 O<|YR O ⟨_,O,by rw[aG Zi]at hno;rw[hno];rfl⟩
theorem tj(l:List (Int×Int×Int))(g:FuncId)(caps:na)(p:Int×Int×Int->Bool)(hl:l.length<=1000000)(hc:bS prog g)(B:∀f∈l,ZK prog g ([]++[.agg (BW f)]++caps) (· = .bool (p f))):
  ZK prog 186 [.sl WC l.length (aK l),.fn (.func g) [] caps] (· = .bool (l.any p)):=by
 refine ZC func186 O ntmps186 λ_ _ _ _=>?_
 refine Z1 O<|Z2 O<|RL.call O (cT call105 (JK l g caps p hl hc B) O ?_);rintro _ ⟨i,rfl,hi⟩;exact Y2 O<|YR O<|ah PV.bool hi
theorem FJ(f:Int×Int×Int)(c:na)(a:Int)(hc:c[0]? =WB (.int .i64 a)):ZK prog 187 [.agg (BW f),.rp c 0] (· = .bool (f.1==a)):=by
 refine ZC func187 O ntmps187 λ_ _ _ _=>?_
 refine Z2 O<|Z3 O<|A2 O Zl ?_;exact Y2 O<|YR O O
theorem E1(l:List (Int×Int×Int))(k:Nat)(B:k<=l.length):PV.sl WC k ((aK l).take (k*3))= .sl WC (l.take k).length (aK (l.take k)):=by
 have e:(aK l).take (k*3)=aK (l.take k):=by grind[WV,aK,kH,aG]
 rw[e];simp;omega
abbrev sCc(S:ZN):nR:=[.pv (.sl WC S.aj.length (aR S.aj)),.pv (.sl WC S.aU.length (aZ S.aU)),.pv (.sl WC S.bo.length (aK S.bo)),ZI S.label]
theorem wg(S:ZN)(hS:SB S):ZK prog 136 [fp S] (· = ZU (bQ (lh S) S.bo.length)):=by
 refine ZC func136 O ntmps136 λ_ _ _ _=>?_
 have hb:=hS.a;have W:=hS.f;have ab:=kH S.bo;refine Z2 O<|Z4 O<|Gz O (st:=λZq:Nat=>([(1,WC),(9,WC),(10,WC),(11,WB (ZI Zq))],[(0,WC)])) 1
  (I:=λZq=>Zq<=S.bo.length/\bQ (lh S) Zq=0) (μ:=λZq=>S.bo.length-Zq) (x0:=0) (YS O) (⟨sh _,O⟩) ?_
 rintro k ⟨hk,hs⟩;refine Z1 O<|Gp O (λZ=>?_) (λZ=>?_)
 .have hlt:k<S.bo.length:=Zi;have X:=kW hlt;have ac:=oD hlt;have H:=sD S k hlt;have D:∀e:Int,e≠0->lh S k=e->PV.int .i64 e= .int .i64 (bQ (lh S) S.bo.length):=λe h0 h1=>ah (PV.int .i64) (by rw[gK hs (by rw[h1];exact h0) hlt,h1])
  refine Vl<|Z2 O<|Rs O (aD ⟨_,underlying60,O⟩ KS O X O)<|Y3 O<|Z4 O ?_;apply Vv 7 19 26 [20,21,22,23,24,25] O Zs
  .intro hb3;exact Ar 7 O<|Vp Zr O O O
  .intro hb3;exact Ar 7 O<|Vp Zr O O O
  refine Gc O (λE=>?_) (λE=>?_)
  .exact Z1 O<|YR O<|D 2 Zk (by rw[H,IT (by simpa using E)])
  have hx:0<=S.bo[k].1/\S.bo[k].1<S.aj.length:=by simp only[V8,Xf]at E;omega
  obtain⟨a,ha⟩:=VG hx.1;have L:a<S.aj.length:=Zi;have ad:(aR S.aj)[a*2+1]? =WB (.int .i64 S.aj[a].2):=jk _ 2 (λ_=>rfl) S.aj a 1 L Zk;have Y:=jO L;have M:(S.aj.getD S.bo[k].1.toNat default).2=S.aj[a].2:=by rw[ha];simp[List.getD,L]
  refine Vl<|Z4 O<|Rs O (ai a underlying26 Hg O O ha L Y)<|A1 O<|A2 O Zl ?_;refine A1 O<|Z4 O ?_;apply Vx 3 37 40 [38,39] O Zs
  .intro hb3;exact Y3 O<|Vp Zr O O O
  .intro hb3;exact Y3 O<|Vp Zr O O O
  refine A1 O ?_;apply Vx 9 41 50 [42,43,44,45,46,47,48,49] O Zs
  .intro hb7;refine Ar 4 O ?_;apply Vv 4 45 49 [46,47,48] O Zs
   .intro hb11;exact Ar 4 O<|Vp Zr O O O
   .intro hb11;exact Ar 4 O<|Vp Zr O O O
   exact A1 O<|Vp Zr O O O
  .intro hb7;exact Ar 9 O<|Vp Zr O O O
  refine A1 O<|Z4 O ?_;apply Vx 3 54 57 [55,56] O Zs
  .intro hb3;exact Y3 O<|Vp Zr O O O
  .intro hb3;exact Y3 O<|Vp Zr O O O
  refine A1 O ?_;apply Vx 4 58 62 [59,60,61] O Zs
  .intro hb7;exact Ar 4 O<|Vp Zr O O O
  .intro hb7;exact Ar 4 O<|Vp Zr O O O
  refine A1 O<|Z3 O ?_;apply Vx 3 65 68 [66,67] O Zs
  .intro W;exact Y3 O<|Vp Zr O O O
  .intro W;exact Y3 O<|Vp Zr O O O
  refine Gc O (λB=>?_) (λB=>?_)
  .exact Z1 O<|YR O<|D 7 Zk (by rw[H,AS Zi,M,IT (by rw[V8];rw[aJ,XF,XF]at B;exact B)])
  refine Vl<|Vm (St.gR 1 O O)<|Gr O<|Ar 6 O ?_;apply Vv 7 74 81 [75,76,77,78,79,80] O Zs
  .intro hb5;exact Ar 7 O<|Vp Zr O O O
  .intro hb5;exact Y3 O<|Rg O (XJ.cast (v':= .pv (.sl WC (S.bo.take k).length (aK (S.bo.take k)))) (dL k underlying28 KS O O O Zi ab) (by rw[E1 _ _ hk]))<|A1 O<|Rg O (aa call186 (tj (S.bo.take k) 187 [.rp (BW S.bo[k]) 0] (λg=>g.1==S.bo[k].1) Zn call187 (λf _=>FJ f _ _ O)) O)<|A1 O<|Vp Zr O O O
  refine Gc O (λG=>?_) (λG=>?_)
  .exact Z1 O<|YR O<|D 9 Zk (by rw[H,AS Zi,M,AS (by intro h;rw[V8]at h;rw[h.1,h.2]at B;cases B),IT G])
  exact Vl<|Z2 O<|⟨(k+1),YS O,⟨Zi,by rw[dH hs,H,AS Zi,M,AS (by intro h;rw[V8]at h;rw[h.1,h.2]at B;cases B),AS (by rw[G];decide)]⟩,Zi⟩
 exact Gx O<|Z1 O<|YR O<|ah (PV.int .i64) (by rw[show S.bo.length=k by omega,hs])
theorem D5(S:ZN):((((((S.aj.length:Int)==0)||decide ((12:Int)<S.aj.length))||((S.aU.length:Int)==0))||decide ((6:Int)<S.aU.length))||decide ((8:Int)<S.bo.length))=YK↔S.aj.length=0\/12<S.aj.length\/S.aU.length=0\/6<S.aU.length\/8<S.bo.length:=by simp only[Wr,Xk,VJ];omega
def Ju(S:ZN):Nat->Int
 |0=>bQ (hZ S) S.aj.length
 |1=>ib S
 |_=>bQ (lh S) S.bo.length
def Q6:Nat->FuncId
 |0=>134
 |1=>135
 |_=>136
theorem ED(S:ZN)(hS:SB S)(k:Nat):ZK prog (Q6 k) [fp S] (· = .int .i64 (Ju S k)):=by
 match k with
 |0=>exact sg S hS
 |1=>exact s8 S hS
 |k+2=>exact wg S hS
theorem NY(k:Nat):bS prog (Q6 k):=by
 match k with
 |0=>exact call134
 |1=>exact call135
 |k+2=>exact call136
theorem NP(k:Nat)(B:k<3):([.fn (.func 134) [] [],.fn (.func 135) [] [],.fn (.func 136) [] []]:na)[k*1]? =WB (.fn (.func (Q6 k)) [] []):=by
 match k,B with
 |0,_=>rfl
 |1,_=>rfl
 |2,_=>rfl
theorem L8(B:¬ (S.aj.length=0\/12<S.aj.length\/S.aU.length=0\/6<S.aU.length\/8<S.bo.length))(H:k<3)(E:∀j,j<k->Ju S j=0)(h:¬Ju S k=0):Ju S k=bF S:=by
 unfold bF;rw[AS B];match k,H with
 |0,_=>rw[IT (show bQ (hZ S) S.aj.length≠0 from h)];rfl
 |1,_=>have D:=E 0 Zi;rw[AS (λe=>e D),IT (show ib S≠0 from h)];rfl
 |2,_=>have D:=E 0 Zi;have G:=E 1 Zi;rw[AS (λe=>e D),AS (λe=>e G),IT (show bQ (lh S) S.bo.length≠0 from h)];rfl
theorem mH(S:ZN)(hS:SB S):ZK prog 77 [fp S] (· = ZU (bF S)):=by
 refine ZC func77 O ntmps77 λ_ _ _ _=>?_
 have hb:=hS.a;refine Z2 O<|Gr O<|Ar 5 O ?_;apply Vv 5 10 15 [11,12,13,14] O Zs
 .intro hb4;exact Ar 5 O<|Vp Zr O O O
 .intro hb4;exact Ar 5 O<|Vp Zr O O O
 refine A1 O ?_;apply Vv 5 16 21 [17,18,19,20] O Zs
 .intro hb10;exact Ar 5 O<|Vp Zr O O O
 .intro hb10;exact Ar 5 O<|Vp Zr O O O
 refine A1 O ?_;apply Vv 5 22 27 [23,24,25,26] O Zs
 .intro hb16;exact Ar 5 O<|Vp Zr O O O
 .intro hb16;exact Ar 5 O<|Vp Zr O O O
 refine A1 O ?_;apply Vv 5 28 33 [29,30,31,32] O Zs
 .intro hb22;exact Ar 5 O<|Vp Zr O O O
 .intro hb22;exact Ar 5 O<|Vp Zr O O O
 refine Gc O (λB=>?_) (λB=>?_)
 .exact Z1 O<|YR O<|ah (PV.int .i64) (by unfold bF;rw[IT ((D5 S).1 B)])
 have hlim:¬ (S.aj.length=0\/12<S.aj.length\/S.aU.length=0\/6<S.aU.length\/8<S.bo.length):=λh=>by rw[(D5 S).2 h]at B;cases B
 refine Vl<|Gr O<|Rs O (ax WC Zm el233 O Zk Zk O O)<|Y2 O<|Gz O (st:=λZq:Nat=>([(1,WC),(34,WC),(35,WC),(36,WB (ZI Zq))],[(0,WC)])) 1
  (I:=λZq=>Zq<=3/\∀j,j<Zq->Ju S j=0) (μ:=λZq=>3-Zq) (x0:=0) (YS O) (⟨Zi,λj hj=>absurd hj (W9 _)⟩) ?_
 rintro k ⟨hk,hz⟩;refine Z1 O<|Gp O (λW=>?_) (λW=>?_)
 .have hlt:k<3:=Zi;have hv:=NP k hlt;refine Vl<|Gr O<|Rs O (ai k underlying233 sz173 O O O hlt Zm)<|A2 O Zl ?_;refine A1 O<|Z2 O<|Rs O (bX (NY k) O (ED S hS k) O)<|A1 O<|Z2 O ?_;refine Gc O (λG=>?_) (λG=>?_)
  .exact Z2 O<|YR O<|ah (PV.int .i64) (L8 hlim hlt hz (inT G))
  exact Vl<|Z2 O<|⟨(k+1),YS O,⟨Zi,λj hj=>by rcases V3.1 hj with h|rfl;exact hz j h;exact inF G⟩,Zi⟩
 have h0:=hz 0 Zi;have X:=hz 1 Zi;have Y:=hz 2 Zi;have L:=sY hlim h0 X Y;refine Gx O<|Z4 O ?_;apply Vv 7 51 58 [52,53,54,55,56,57] O Zs
 .intro hb3;exact Ar 7 O<|Vp Zr O O O
 .intro hb3;exact Ar 7 O<|Vp Zr O O O
 refine A1 O<|Gc O (λH=>?_) (λH=>?_)
 .exact Z1 O<|YR O<|ah (PV.int .i64) (by rw[L,IT (by simpa using H)])
 have hn:¬ (S.label< -1\/(S.aj.length:Int)<=S.label):=by simpa using H
 have Z:0<=S.label->∃(a:Nat),S.label=(a:Int)/\a<S.aj.length/\(aR S.aj)[a*2+1]? =WB (.int .i64 (S.aj.getD S.label.toNat default).2):=λh=>by obtain⟨a,ha⟩:=VG h;have E:a<S.aj.length:=Zi;refine⟨a,ha,E,?_⟩;rw[ha];simp only[Wh,List.getD,AT E];exact jk _ 2 (λ_=>rfl) S.aj a 1 E Zk
 refine Z4 O ?_;apply Vx 9 63 72 [64,65,66,67,68,69,70,71] O Zs
 .intro hb3;obtain⟨a,ha,E,hk2⟩:=Z (Xh hb3);have M:=jO E;refine Ar 4 O<|Rg O (ai a underlying26 Hg O O ha E M)<|A1 O<|A2 O Zl ?_;exact Y2 O<|Vp Zr O O O
 .intro hb3;exact Ar 9 O<|Vp Zr O O O
 refine A1 O<|Gc O (λD=>?_) (λD=>?_)
 .exact Z1 O<|YR O<|ah (PV.int .i64) (by rw[L,AS hn,IT (by simpa using D)])
 exact Vl<|Z1 O<|YR O<|ah (PV.int .i64) (by rw[L,AS hn,AS (by rintro⟨X,Y⟩;rw[VK (show S.label>=0 from X),Yb,bne_eq_false_iff_eq]at D;exact Y D)])
theorem gq(s:er)(k:Nat)(h:k<s.size):s.data.toList.getD k 0=s[k]'h:=by rw[VO,AT (by simpa using h)];rfl
def qU(c:UInt8):Bool:= !(((decide ((c.toNat:Int)>=97)&&decide ((c.toNat:Int)<=122))||(decide ((c.toNat:Int)>=48)&&decide ((c.toNat:Int)<=57)))||((c.toNat:Int)==45))
theorem zQ(k:Nat)(H:0<k)(c:UInt8):qU c= !tm k c.toNat:=by
 unfold qU tm;generalize c.toNat=n;have B:decide (k≠0)=YK:=VK Zi;have D:((n:Int)==45)=(n==45):=by grind
 have E:(decide ((n:Int)>=97)&&decide ((n:Int)<=122))=decide (97<=n/\n<=122):=by
  rw[V0];simp;omega
 have G:(decide ((n:Int)>=48)&&decide ((n:Int)<=57))=decide (48<=n/\n<=57):=by
  rw[V0];simp;omega
 rw[B,D,E,G];cases decide (97<=n/\n<=122)<;>cases (n==45)<;>cases decide (48<=n/\n<=57)<;>rfl
theorem Ns(s:er)(h:s.size=0\/12<s.size):fJ s=YL:=by
 unfold fJ;rw[vg];have:s.data.toList.length=s.size:=Wg;rw[this];rcases h with h|h
 .grind
 grind
theorem Th(n:Nat):tm 0 n=decide (97<=n/\n<=122):=by unfold tm;simp
def Ef(s:er):Bool:=((((s.size:Int)==0)||decide ((s.size:Int)>12))||decide (((s.data.toList.getD 0 0).toNat:Int)<97))||decide (((s.data.toList.getD 0 0).toNat:Int)>122)
theorem RX(h:Ef s=YK):fJ s=YL:=by
 unfold Ef at h;simp only[Wr,Xk,VJ]at h;by_cases hl:s.size=0\/12<s.size
 .exact Ns s hl
 refine AX s 0 Zi ?_;rw[Th];exact VL Zi
theorem O9(h:Ef s=YL):(1<=s.size/\s.size<=12)/\tm 0 (s.data.toList.getD 0 0).toNat=YK:=by grind[Ef,V8,Th]
theorem R9(D:tm 0 (s.data.toList.getD 0 0).toNat=YK)(B:k<s.size)(hc:qU (s[k]'B)=YK):fJ s=YL:=by grind[gq,WG,Th,qU,AX,zQ]
theorem OA(D:tm 0 (s.data.toList.getD 0 0).toNat=YK)(B:k<s.size)(hc:qU (s[k]'B)=YL):tm k (s.data.toList.getD k 0).toNat=YK:=by grind[WG,gq,zQ]
theorem oQ(s:er)(hs:s.size<=9223372036854775807):ZK prog 126 [.str s] (· = .bool (fJ s)):=by
 refine ZC func126 O ntmps126 λ_ _ _ _=>?_
 have M:s.data.toList.length=s.size:=Wg;refine Z1 O ?_;have E:((s.size:Int)==0||decide ((s.size:Int)>12))=YL->0<s.size:=λh=>by simp only[V8,Xo,Xf]at h;omega
 refine Z4 O ?_;apply Vv 4 7 11 [8,9,10] O Zs
 .intro hb3;exact Ar 4 O<|Vp Zr O O O
 .intro hb3;exact Ar 4 O<|Vp Zr O O O
 refine A1 O ?_;apply Vv 4 12 16 [13,14,15] O Zs
 .intro hb8;exact Ar 4 O<|Vp Zr O O O
 .intro hb8;have H:=E hb8;exact A1 O<|Rg O (bp 0 aam O O O H)<|Rg O ((aY O O O).cast (v':= .pv (.bool (decide (((s.data.toList.getD 0 0).toNat:Int)<97)))) (by rw[gq s 0 H]))<|A1 O<|Vp Zr O O O
 refine A1 O ?_;apply Vv 4 17 21 [18,19,20] O Zs
 .intro hb13;exact Ar 4 O<|Vp Zr O O O
 .intro hb13;have H:=E (by rw[V8]at hb13;exact hb13.1);exact A1 O<|Rg O (bp 0 aam O O O H)<|Rg O ((aY O O O).cast (v':= .pv (.bool (decide (((s.data.toList.getD 0 0).toNat:Int)>122)))) (by rw[gq s 0 H]))<|A1 O<|Vp Zr O O O
 refine Gc O (λB=>?_) (λB=>?_)
 .exact Z1 O<|YR O<|ah PV.bool (RX B).symm
 obtain⟨hsz2,hok0⟩:=O9 B;refine Vl<|Z1 O<|Gz O (st:=λZq:Nat=>([(0,WC),(3,WB (ZI Zq))],[])) 0
  (I:=λZq=>Zq<=s.size/\∀j,j<Zq->tm j (s.data.toList.getD j 0).toNat=YK) (μ:=λZq=>s.size-Zq) (x0:=0) (Vn (aS O) trivial O O) (⟨sh _,λj hj=>absurd hj (W9 _)⟩) ?_
 rintro k ⟨hk,hall⟩;refine Z4 O<|Gp O (λL=>?_) (λL=>?_)
 .have hlt:k<s.size:=Zi;have W:=gq s k hlt;refine Vl<|Z2 O<|Rs O (bp k aam O O O hlt)<|Y2 O ?_;apply Vx 5 32 37 [33,34,35,36] O Zs
  .intro hb4;exact Y2 O<|Rg O (bp k aam O O O hlt)<|Y2 O<|Vp Zr O O O
  .intro hb4;exact Ar 5 O<|Vp Zr O O O
  refine A1 O ?_;apply Vv 11 38 49 [39,40,41,42,43,44,45,46,47,48] O Zs
  .intro hb10;exact Ar 11 O<|Vp Zr O O O
  .intro hb10;refine Y2 O<|Rg O (bp k aam O O O hlt)<|Y2 O ?_;apply Vx 5 43 48 [44,45,46,47] O Zs
   .intro hb15;exact Y2 O<|Rg O (bp k aam O O O hlt)<|Y2 O<|Vp Zr O O O
   .intro hb15;exact Ar 5 O<|Vp Zr O O O
   exact A1 O<|Vp Zr O O O
  refine A1 O ?_;apply Vv 5 50 55 [51,52,53,54] O Zs
  .intro hb22;exact Ar 5 O<|Vp Zr O O O
  .intro hb22;exact Y2 O<|Rg O (bp k aam O O O hlt)<|Y2 O<|Vp Zr O O O
  refine A1 O<|Gc O (λD=>?_) (λD=>?_)
  .have hc:qU (s[k]'hlt)=YK:=D;exact Z1 O<|YR O<|ah PV.bool (R9 hok0 hlt hc).symm
  have hc:qU (s[k]'hlt)=YL:=D;have G:=OA hok0 hlt hc;exact Vl<|Z3 O<|⟨(k+1),Vn (aS O) trivial O O,⟨Zi,λj hj=>by rcases V3.1 hj with h|rfl;exact hall j h;exact G⟩,Zi⟩
 exact Gx O<|Z1 O<|YR O<|ah PV.bool (by rw[DD s (λj hj=>hall j Zi),VK hsz2.1,VK hsz2.2];rfl)
theorem Qd[DecidableEq α]{l:List α}{x:α}(h:¬x∈l):hasB l x=YL:=by unfold hasB;exact VL h
theorem Hx[DecidableEq α]{l:List α}{x:α}(h:x∈l):hasB l x=YK:=by unfold hasB;exact VK h
theorem je{l:List α}(B:j<k)(hl:j<l.length):l[j]∈l.take k:=XQ.2 ⟨j,Zi,O⟩
theorem To  (B:¬ (S.aj.length=0\/12<S.aj.length\/S.aU.length=0\/6<S.aU.length\/8<S.bo.length)) {e:Int} (D:e≠0):
  (bQ (hZ S) S.aj.length=e->bF S=e)/\(bQ (hZ S) S.aj.length=0->ib S=e->bF S=e)/\(bQ (hZ S) S.aj.length=0->ib S=0->bQ (lh S) S.bo.length=e->bF S=e):=by grind[bF]
theorem Ls(S:ZN)(hS:SB S):ZK prog 85 [fp S] (· = ZU (bF S)):=by
 refine ZC func85 O ntmps85 λ_ _ _ _=>?_
 have hb:=hS.a;have a2:=hS.r;have E:=hS.f;refine Z2 O<|Gr O<|Ar 5 O ?_;apply Vv 5 24 29 [25,26,27,28] O Zs
 .intro hb4;exact Ar 5 O<|Vp Zr O O O
 .intro hb4;exact Ar 5 O<|Vp Zr O O O
 refine A1 O ?_;apply Vv 5 30 35 [31,32,33,34] O Zs
 .intro hb10;exact Ar 5 O<|Vp Zr O O O
 .intro hb10;exact Ar 5 O<|Vp Zr O O O
 refine A1 O ?_;apply Vv 5 36 41 [37,38,39,40] O Zs
 .intro hb16;exact Ar 5 O<|Vp Zr O O O
 .intro hb16;exact Ar 5 O<|Vp Zr O O O
 refine A1 O ?_;apply Vv 5 42 47 [43,44,45,46] O Zs
 .intro hb22;exact Ar 5 O<|Vp Zr O O O
 .intro hb22;exact Ar 5 O<|Vp Zr O O O
 refine Gc O (λau=>?_) (λau=>?_)
 .exact Z1 O<|YR O<|ah (PV.int .i64) (by unfold bF;rw[IT ((D5 S).1 au)])
 have hlim:¬ (S.aj.length=0\/12<S.aj.length\/S.aU.length=0\/6<S.aU.length\/8<S.bo.length):=λh=>by rw[(D5 S).2 h]at au;cases au
 have ap:=fun{e:Int}(h:e≠0)=>To (S:=S) hlim h
 refine Vl<|Z4 O<|Gz O (st:=λZq:Nat=>([(1,WC),(49,WC),(50,WC),(51,WB (ZI Zq))],[(0,WC)])) 1
  (I:=λZq=>Zq<=S.aj.length/\bQ (hZ S) Zq=0) (μ:=λZq=>S.aj.length-Zq) (x0:=0) (YS O) (⟨sh _,O⟩) ?_
 rintro k ⟨hk,hs⟩;refine Z1 O<|Gp O (λhc52=>?_) (λhc52=>?_)
 .have hlt:k<S.aj.length:=Zi;have X:=qu hlt;have hne:=jO hlt;have a3:=D4 S k hlt;have B:∀e:Int,e≠0->hZ S k=e->PV.int .i64 e= .int .i64 (bF S):=λe h0 h1=>ah (PV.int .i64) (((ap h0).1 (by rw[gK hs (by rw[h1];exact h0) hlt,h1])).symm)
  refine Vl<|Z2 O<|Rs O (aD ⟨_,underlying56,O⟩ Hg O X O)<|Y3 O<|Z2 O<|Rs O (aa call126 (oQ S.aj[k].1 (hS.an _ (ak hlt))) O)<|A1 O<|Gc O (λaW=>?_) (λaW=>?_)
  .exact Z1 O<|YR O<|B 14 Zk (by rw[a3,IT (by simpa using aW)])
  have hw:¬fJ S.aj[k].1=YL:=by simpa using aW
  refine Vl<|Z1 O<|Gz O (st:=λay:Nat=>([(1,WC),(3,WC),(4,WC),(5,WB (ZI ay)),(49,WC),(50,WC),(51,WC)],[(0,WC),(1,WC)])) 2
   (I:=λay=>ay<=k/\¬S.aj[k].1∈(S.aj.map (·.1)).take ay) (μ:=λay=>k-ay) (x0:=0) (YS O) (⟨sh _,Zm⟩) ?_
  rintro j ⟨hj,hno⟩;refine Z3 O<|Gp O (λhc62=>?_) (λhc62=>?_)
  .have hjk:j<k:=Zi;have G:j<S.aj.length:=Zi;have hnm:(aR S.aj)[j*2+0]? =WB (.str S.aj[j].1):=jk _ 2 (λ_=>rfl) S.aj j 0 G Zk;have aN:j<(S.aj.map (·.1)).length:=by simpa using G
   have aP:(S.aj.map (·.1))[j]=S.aj[j].1:=Zm;refine Vl<|VC 9 O<|Dr 5 O<|D2 O O Zl ?_;refine Dr 3 O ⟨Zj,Gc O (λaX=>?_) (λaX=>?_)⟩
   .exact Z1 O<|YR O<|B 9 Zk (by rw[a3,AS hw,IT (Hx (by rw[<-baT aX,<-aP];exact je hjk aN))])
   exact Vl<|Z3 O<|⟨(j+1),YS O,⟨Zi,gY aN hno (by rw[aP];exact baF aX)⟩,Zi⟩
  have hno2:¬hasB ((S.aj.map (·.1)).take k) S.aj[k].1=YK:=by rw[show j=k by omega]at hno;rw[Qd hno];decide
  refine Gx O<|Z4 O ?_;apply Vv 4 77 81 [78,79,80] O Zs
  .intro E;exact Ar 4 O<|Vp Zr O O O
  .intro E;exact Ar 4 O<|Vp Zr O O O
  refine Gc O (λaY=>?_) (λaY=>?_)
  .exact Z1 O<|YR O<|B 7 Zk (by rw[a3,AS hw,AS hno2,IT (by simp at aY;omega)])
  exact Vl<|Z2 O<|⟨(k+1),YS O,⟨Zi,by rw[dH hs,a3,AS hw,AS hno2,AS (by simp at aY;omega)]⟩,Zi⟩
 have hA:bQ (hZ S) S.aj.length=0:=by rw[show S.aj.length=k by omega];exact hs
 refine Gx O<|Gr O<|Ar 5 O<|Z4 O<|Gz O (st:=λH:Nat×List Bool=>([(1,WC),(6,WC),(88,WC),(89,WC),(90,WB (ZI H.1))],[(0,WC),(1,WB (.cells 4 (a8 H.2)))])) 2
  (I:=λH=>H.1<=S.aU.length/\fj S.aj.length H.2 (λa=>(S.aU.take H.1).any λx=>inB x.2 a)/\bQ (zl S) H.1=0) (μ:=λH=>S.aU.length-H.1) (x0:=(0,List.replicate S.aj.length YL)) (Vn (aS O) ⟨O,ah (λc=>WB (Ob.cells 4 c)) ((ct (.bool YL) (S.aj.length*1)).trans Zm),Zp⟩ O O) (⟨sh _,fj.zero _,O⟩) ?_
 rintro⟨ri,U⟩ ⟨hk,hU,hs⟩;try simp only at hk hU hs ⊢
 refine Z1 O<|Gp O (λhc91=>?_) (λhc91=>?_)
 .have hlt:ri<S.aU.length:=Zi;have X:=eT hlt;have hne:=iq hlt;have ax:=wG S ri hlt;have hul:=hU.1;have hll:=hS.rl _ (ak hlt);have B:∀e:Int,e≠0->zl S ri=e->PV.int .i64 e= .int .i64 (bF S):=λe h0 h1=>ah (PV.int .i64) (((ap h0).2.1 hA (by unfold ib;rw[gK hs (by rw[h1];exact h0) hlt,IT (by rw[h1];exact h0),h1])).symm)
  refine Vl<|Z2 O<|Rs O (aD ⟨_,underlying58,O⟩ O1 O X O)<|Y3 O<|Z2 O<|Rs O (aa call126 (oQ S.aU[ri].1 (hS.rn _ (ak hlt))) O)<|A1 O<|Gc O (λa0=>?_) (λa0=>?_)
  .exact Z1 O<|YR O<|B 14 Zk (by rw[ax,IT (by simpa using a0)])
  have hw:¬fJ S.aU[ri].1=YL:=by simpa using a0
  refine Vl<|Z1 O<|Gz O (st:=λaz:Nat=>([(1,WC),(6,WC),(7,WC),(8,WC),(9,WB (ZI az)),(88,WC),(89,WC),(90,WC)],[(0,WC),(1,WC),(2,WC)])) 3
   (I:=λaz=>az<=ri/\¬S.aU[ri].1∈(S.aU.map (·.1)).take az) (μ:=λaz=>ri-az) (x0:=0) (YS O) (⟨sh _,Zm⟩) ?_
  rintro j ⟨hj,hno⟩;refine Z3 O<|Gp O (λa7=>?_) (λa7=>?_)
  .have hjk:j<ri:=Zi;have G:j<S.aU.length:=Zi;have hnm:(aZ S.aU)[j*2+0]? =WB (.str S.aU[j].1):=jk _ 2 (λ_=>rfl) S.aU j 0 G Zk;have aN:j<(S.aU.map (·.1)).length:=by simpa using G
   have aP:(S.aU.map (·.1))[j]=S.aU[j].1:=Zm;refine Vl<|VC 9 O<|Dr 5 O<|D2 O O Zl ?_;refine Dr 3 O ⟨Zj,Gc O (λY=>?_) (λY=>?_)⟩
   .exact Z1 O<|YR O<|B 9 Zk (by rw[ax,AS hw,IT (Hx (by rw[<-baT Y,<-aP];exact je hjk aN))])
   exact Vl<|Z3 O<|⟨(j+1),YS O,⟨Zi,gY aN hno (by rw[aP];exact baF Y)⟩,Zi⟩
  have hno2:¬hasB ((S.aU.map (·.1)).take ri) S.aU[ri].1=YK:=by rw[show j=ri by omega]at hno;rw[Qd hno];decide
  refine Gx O<|Z4 O<|Gc O (λL=>?_) (λL=>?_)
  .exact Z1 O<|YR O<|B 7 Zk (by rw[ax,AS hw,AS hno2,IT (by have:=ibT L;apply Wl;omega)])
  have hl0:¬S.aU[ri].2=[]:=λe=>by rw[e]at L;simp at L
  refine Vl<|Z4 O<|Gz O (st:=λM:Nat×List Bool=>([(1,WC),(6,WC),(8,WC),(88,WC),(89,WC),(90,WC),(118,WC),(119,WC),(120,WB (ZI M.1))],[(0,WC),(1,WB (.cells 4 (a8 M.2))),(2,WC)])) 3
   (I:=λM=>M.1<=S.aU[ri].2.length/\fj S.aj.length M.2 (λa=>((S.aU.take ri).any λx=>inB x.2 a)||inB (S.aU[ri].2.take M.1) a)/\∀a∈S.aU[ri].2.take M.1,0<=a/\a<S.aj.length) (μ:=λM=>S.aU[ri].2.length-M.1) (x0:=(0,U)) (YS O) (⟨sh _,hU.congr (λa _=>by simp[inB]),Zm⟩) ?_
  rintro⟨q,U2⟩ ⟨hq,hU2,hr⟩;try simp only at hq hU2 hr ⊢
  refine Z1 O<|Gp O (λa9=>?_) (λa9=>?_)
  .have hql:q<S.aU[ri].2.length:=Zi;have hv:=bo hql;have a5:=aU hql;have hul2:=hU2.1;refine Vl<|Z1 O<|A2 O Zl ?_;refine A1 O<|Z3 O ?_;apply Vv 5 126 131 [127,128,129,130] O Zs
   .intro a2;exact Ar 5 O<|Vp Zr O O O
   .intro a2;exact Ar 5 O<|Vp Zr O O O
   refine Gc O (λZ=>?_) (λZ=>?_)
   .exact Z1 O<|YR O<|B 2 Zk (by rw[ax,AS hw,AS hno2,AS hl0,IT (P3 hql (by simp at Z;omega))])
   have hx:0<=S.aU[ri].2[q]/\S.aU[ri].2[q]<S.aj.length:=by simp at Z;omega
   obtain⟨j,hj⟩:=VG hx.1;exact Vl<|Z2 O<|Rs O (ag j aaw sz4 O O O hj Zi)<|A1 O<|Z2 O<|⟨(q+1,U2.set j YK),Vn (aS O) ⟨O,by show WB (Ob.cells _ _)=_;rw[<-zL];simp,O,Zp⟩ O O,⟨Zo,(hU2.set (a:=j) Zi).congr (λa _=>yD hql hj),CN hql hr hx⟩,Zo⟩
  have hrng:(S.aU[ri].2.all λa=>decide (0<=a)&&decide (a<S.aj.length))=YK:=Bf (λa ha=>hr a (by rw[aG Zi];exact ha));refine Gx O<|Z1 O<|Gz O (st:=λaA:Nat=>([(1,WC),(6,WC),(8,WC),(12,WB (ZI aA)),(88,WC),(89,WC),(90,WC)],[(0,WC),(1,WC),(2,WC)])) 3
   (I:=λaA=>1<=aA/\∀i,i+1<aA->i+1<S.aU[ri].2.length->S.aU[ri].2.getD i 0<S.aU[ri].2.getD (i+1) 0) (μ:=λaA=>S.aU[ri].2.length-aA) (x0:=1) (YS O) (⟨BY _,λi hi=>by omega⟩) ?_
  rintro p ⟨hp1,hasc⟩;refine Gr O<|Ar 5 O<|Gp O (λba=>?_) (λba=>?_)
  .have hpl:p<S.aU[ri].2.length:=Zi;have hpl1:p-1<S.aU[ri].2.length:=Zi;have hv:=bo hpl;have hv1:=bo hpl1;have a5:=aU hpl;refine Vl<|VC 12 O<|Dr 4 O<|D2 O O Zl ?_;refine Dr 4 O<|YM O (λτ h=>ai (p-1) aal sz3 (Ee h 0 O) (Ee h 1 O) Zi Zi a5)<|D2 O O Zl ?_;refine D1 O O ⟨Zj,Gp O (λa1=>?_) (λa1=>?_)⟩
   .exact Z1 O<|YR O<|B 10 Zk (by rw[ax,AS hw,AS hno2,AS hl0,AS (by rw[hrng];decide),IT (P6 hp1 hpl a1)])
   exact Vl<|Z3 O<|⟨(p+1),YS O,⟨Zi,Dc hpl hp1 hasc Zi⟩,Zi⟩
  exact Gx O<|Z2 O<|⟨(ri+1,U2),YS O,⟨Zo,hU2.congr (λa _=>Ec hlt Zi),by simp only;rw[dH hs,ax,AS hw,AS hno2,AS hl0,AS (by rw[hrng];decide),AS (by rw[A5 (λi hi=>hasc i Zi hi)];decide)]⟩,Zo⟩
 have hR:bQ (zl S) S.aU.length=0:=by rw[show S.aU.length=ri by omega];exact hs
 have hU3:fj S.aj.length U (vE S):=by rw[aG Zi]at hU;exact hU
 have hul:=hU3.1;refine Gx O<|Z3 O<|Gz O (st:=λaC:Nat=>([(1,WC),(6,WC),(156,WC),(157,WC),(158,WB (ZI aC))],[(0,WC),(1,WC)])) 2
  (I:=λaC=>aC<=S.aj.length/\∀b,b<aC->vE S b=YK) (μ:=λaC=>S.aj.length-aC) (x0:=0) (YS O) (⟨sh _,λb hb=>absurd hb (W9 _)⟩) ?_
 rintro a ⟨ha,hus⟩;refine Z1 O<|Gp O (λbb=>?_) (λbb=>?_)
 .have D:a<S.aj.length:=Zi;have hua:=hU3.2 a D;have hva:(a8 U)[a*1]? =WB (.bool (vE S a)):=by rw[VY,Xw,hua];rfl
  refine Vl<|Z1 O<|A2 O Zl ?_;refine A1 O<|Z2 O ?_;refine Gc O (λab=>?_) (λab=>?_)
  .exact Z1 O<|YR O<|ah (PV.int .i64) (((ap Zk).2.1 hA (by unfold ib;rw[AS (λe=>e hR),IT (X6.2 ⟨a,Wi.2 D,by simpa using ab⟩)])).symm)
  exact Vl<|Z2 O<|⟨(a+1),YS O,⟨Zi,λb hb=>by rcases V3.1 hb with h|rfl;exact hus b h;simpa using ab⟩,Zi⟩
 have hRS:ib S=0:=yh hR (IN.2 λb hb=>hus b (by have:=Wi.1 hb;omega));refine Gx O<|Z4 O<|Gz O (st:=λaE:Nat=>([(1,WC),(6,WC),(166,WC),(167,WC),(168,WB (ZI aE))],[(0,WC),(1,WC)])) 2
  (I:=λaE=>aE<=S.bo.length/\bQ (lh S) aE=0) (μ:=λaE=>S.bo.length-aE) (x0:=0) (YS O) (⟨sh _,O⟩) ?_
 rintro f ⟨hk,hs⟩;refine Z1 O<|Gp O (λbc=>?_) (λbc=>?_)
 .have hlt:f<S.bo.length:=Zi;have X:=kW hlt;have hne:=oD hlt;have aT:=sD S f hlt;have B:∀e:Int,e≠0->lh S f=e->PV.int .i64 e= .int .i64 (bF S):=λe h0 h1=>ah (PV.int .i64) (((ap h0).2.2 hA hRS (by rw[gK hs (by rw[h1];exact h0) hlt,h1])).symm)
  refine Vl<|Z2 O<|Rs O (aD ⟨_,underlying60,O⟩ KS O X O)<|Y3 O<|Z4 O ?_;apply Vv 6 176 182 [177,178,179,180,181] O Zs
  .intro E;exact Ar 6 O<|Vp Zr O O O
  .intro E;exact Ar 6 O<|Vp Zr O O O
  refine Gc O (λac=>?_) (λac=>?_)
  .exact Z1 O<|YR O<|B 2 Zk (by rw[aT,IT (by simp at ac;omega)])
  have hx:0<=S.bo[f].1/\S.bo[f].1<S.aj.length:=by simp at ac;omega
  obtain⟨a,ha⟩:=VG hx.1;have D:a<S.aj.length:=Zi;have hk2:(aR S.aj)[a*2+1]? =WB (.int .i64 S.aj[a].2):=jk _ 2 (λ_=>rfl) S.aj a 1 D Zk;have ar:=jO D;have a4:(S.aj.getD S.bo[f].1.toNat default).2=S.aj[a].2:=by rw[ha];simp[List.getD,D]
  refine Vl<|Z4 O ?_;apply Vx 9 186 195 [187,188,189,190,191,192,193,194] O Zs
  .intro E;refine Ar 4 O ?_;apply Vv 4 190 194 [191,192,193] O Zs
   .intro hb7;exact Ar 4 O<|Vp Zr O O O
   .intro hb7;exact Ar 4 O<|Vp Zr O O O
   exact A1 O<|Vp Zr O O O
  .intro E;exact Ar 9 O<|Vp Zr O O O
  refine A1 O ?_;apply Vx 9 196 205 [197,198,199,200,201,202,203,204] O Zs
  .intro hb13;refine Ar 4 O<|Rg O (ai a underlying26 Hg O O ha D ar)<|A1 O<|A2 O Zl ?_;exact Y2 O<|Vp Zr O O O
  .intro hb13;exact Ar 9 O<|Vp Zr O O O
  refine A1 O<|Z4 O ?_;apply Vx 4 209 213 [210,211,212] O Zs
  .intro E;exact Ar 4 O<|Vp Zr O O O
  .intro E;exact Ar 4 O<|Vp Zr O O O
  refine A1 O ?_;apply Vx 9 214 223 [215,216,217,218,219,220,221,222] O Zs
  .intro hb8;refine Ar 4 O<|Rg O (ai a underlying26 Hg O O ha D ar)<|A1 O<|A2 O Zl ?_;exact Y2 O<|Vp Zr O O O
  .intro hb8;exact Ar 9 O<|Vp Zr O O O
  refine A1 O<|Z3 O ?_;apply Vx 3 226 229 [227,228] O Zs
  .intro a2;exact Y3 O<|Vp Zr O O O
  .intro a2;exact Y3 O<|Vp Zr O O O
  refine Gc O (λad=>?_) (λad=>?_)
  .exact Z1 O<|YR O<|B 7 Zk (by rw[aT,AS Zi,a4,IT (by revert ad;generalize (S.bo[f].2.1==1)=b1;generalize (S.bo[f].2.2==0)=b2;generalize (S.bo[f].2.2==1)=b3;generalize (S.aj[a].2==2)=b4;generalize (S.bo[f].2.1==2)=b5;generalize (S.aj[a].2==3)=b6;cases b1<;>cases b2<;>cases b3<;>cases b4<;>cases b5<;>cases b6<;>decide)])
  have hkind:¬ ((S.bo[f].2.1==1&&S.aj[a].2==2&&(S.bo[f].2.2==0||S.bo[f].2.2==1))||(S.bo[f].2.1==2&&S.aj[a].2==3&&S.bo[f].2.2==0))=YL:=by revert ad;generalize (S.bo[f].2.1==1)=b1;generalize (S.bo[f].2.2==0)=b2;generalize (S.bo[f].2.2==1)=b3;generalize (S.aj[a].2==2)=b4;generalize (S.bo[f].2.1==2)=b5;generalize (S.aj[a].2==3)=b6;cases b1<;>cases b2<;>cases b3<;>cases b4<;>cases b5<;>cases b6<;>decide
  refine Vl<|Z1 O<|Gz O (st:=λaI:Nat=>([(1,WC),(6,WC),(15,WC),(16,WC),(19,WB (ZI aI)),(166,WC),(167,WC),(168,WC)],[(0,WC),(1,WC),(2,WC)])) 3
   (I:=λaI=>aI<=f/\((S.bo.take aI).any λg=>g.1==S.bo[f].1)=YL) (μ:=λaI=>f-aI) (x0:=0) (YS O) (⟨sh _,O⟩) ?_
  rintro j ⟨hj,hno⟩;refine Z3 O<|Gp O (λbd=>?_) (λbd=>?_)
  .have hjk:j<f:=Zi;have G:j<S.bo.length:=Zi;have hnm:(aK S.bo)[j*3+0]? =WB (.int .i64 S.bo[j].1):=jk _ 3 (λ_=>rfl) S.bo j 0 G Zk;refine Vl<|VC 9 O<|Dr 5 O<|D2 O O Zl ?_;refine Dr 3 O ⟨Zj,Gc O (λaf=>?_) (λaf=>?_)⟩
   .exact Z1 O<|YR O<|B 9 Zk (by rw[aT,AS Zi,a4,AS hkind,IT (by rw[Wr];exact .inr (Wv.2 ⟨S.bo[j],je hjk G,af⟩))])
   exact Vl<|Z3 O<|⟨(j+1),YS O,⟨Zi,fM G hno af⟩,Zi⟩
  rw[show j=f by omega]at hno;refine Gx O<|Gr O<|Ar 5 O<|Gc O (λam=>?_) (λam=>?_)
  .exact Z1 O<|YR O<|B 9 Zk (by rw[aT,AS Zi,a4,AS hkind,IT (by rw[Wr];exact .inl am)])
  exact Vl<|Z2 O<|⟨(f+1),YS O,⟨Zi,by rw[dH hs,aT,AS Zi,a4,AS hkind,AS (by rw[hno,am];decide)]⟩,Zi⟩
 have hF:bQ (lh S) S.bo.length=0:=by rw[show S.bo.length=f by omega];exact hs
 have a6:=sY hlim hA hRS hF;refine Gx O<|Z4 O ?_;apply Vv 6 253 259 [254,255,256,257,258] O Zs
 .intro E;exact Ar 6 O<|Vp Zr O O O
 .intro E;exact Ar 6 O<|Vp Zr O O O
 refine Gc O (λao=>?_) (λao=>?_)
 .exact Z1 O<|YR O<|ah (PV.int .i64) (by rw[a6,IT (by simpa using ao)])
 have hn:¬ (S.label< -1\/(S.aj.length:Int)<=S.label):=by simpa using ao
 refine Vl ?_;have hlv:0<=S.label->∃(a:Nat),S.label=(a:Int)/\a<S.aj.length/\(aR S.aj)[a*2+1]? =WB (.int .i64 (S.aj.getD S.label.toNat default).2):=λh=>by obtain⟨a,ha⟩:=VG h;have D:a<S.aj.length:=Zi;refine⟨a,ha,D,?_⟩;rw[ha];simp only[Wh,List.getD,AT D];exact jk _ 2 (λ_=>rfl) S.aj a 1 D Zk
 refine Z4 O ?_;apply Vx 9 263 272 [264,265,266,267,268,269,270,271] O Zs
 .intro E;obtain⟨a,ha,D,hk2⟩:=hlv (Xh E);have ar:=jO D;refine Ar 4 O<|Rg O (ai a underlying26 Hg O O ha D ar)<|A1 O<|A2 O Zl ?_;exact Y2 O<|Vp Zr O O O
 .intro E;exact Ar 9 O<|Vp Zr O O O
 refine Gc O (λW=>?_) (λW=>?_)
 .exact Z1 O<|YR O<|ah (PV.int .i64) (by rw[a6,AS hn,IT (by simpa using W)])
 exact Vl<|Z1 O<|YR O<|ah (PV.int .i64) (by rw[a6,AS hn,AS (by rintro⟨h1,h2⟩;rw[VK (show S.label>=0 from h1),Yb,bne_eq_false_iff_eq]at W;exact h2 W)])
end
def upF(P:cP):Nat->Int->Option cP
 |0,x=>if x<0 then WB []else WC
 |k+1,x=>if x<0 then WB []else(upF P k (P.getD x.toNat 0)).map (x:: ·)
def abv(P:cP)(v:Int):Option cP:=upF P P.length (P.getD v.toNat 0)
def bU(P:cP)(v:Int):cP:=(abv P v).getD []
def hiB(P:cP)(a b:Int):Bool:=decide (a∈bU P b)
def fy(P:cP)(l:cP):Bool:=l.all λa=>l.all λb=>a==b||hiB P a b||hiB P b a
def FK(S:ZN)(P:cP):Int:=
 if bF S≠0 then bF S
 else if P.length≠S.aj.length then 5
 else if(P.any λp=>decide (p< -1)||decide ((P.length:Int)<=p))=YK then 2
 else if((List.range P.length).all λv=>(abv P v).isSome)=YL then 13
 else if(S.aU.all λr=>fy P r.2)=YL then 13 else 0
def j0(P:cP)(v:Int):cP:=((List.range P.length).map Int.ofNat).filter λa=>a==v||hiB P v a
def gF(S:ZN)(a b:Int):Bool:=S.aU.any λr=>decide (a∈r.2)&&decide (b∈r.2)
def TZ(S:ZN)(P:cP)(v:Int):cP:=(bU P v).filter λa=>(j0 P v).any λb=>gF S a b
theorem su(h:x<0):upF P k x=WB []:=by cases k<;>simp[upF,h]
theorem B3(B:a<P.length):upF P (k+1) (a:Int)=(upF P k P[a]).map ((a:Int):: ·):=by have h:¬ ((a:Int)<0):=Zi;simp[upF,List.getD,B,h]
theorem Nl(h:0<=x):upF P 0 x=WC:=by simp[upF];omega
theorem Kd:∀{k:Nat}{x:Int}{l:cP},upF P k x=WB l->l.length<=k
 |0,x,l,h=>by grind[upF]
 | k+1,x,l,h=>by
   simp only[upF]at h;split at h
   .cases h;simp
   cases e:upF P k (P.getD x.toNat 0)with
   |none=>rw[e]at h;cases h
   |some l'=>rw[e]at h;cases h;simp;exact Kd e
theorem vW(P:cP)(v:Int):(bU P v).length<=P.length:=by
 unfold bU;cases h:abv P v with
 |none=>simp
 |some l=>exact Kd h
section
open Mk
abbrev l7(P:cP):PV:= .agg [al P]
theorem UW(L:cP):(L.map (PV.int .i64)).take (L.length*1)=L.map (PV.int .i64):=aG Zm
theorem uG(P:cP)(v:Nat)(E:v<P.length)(W:∀p∈P,p<P.length)(hn:P.length<=1000000):ZK prog 90 [l7 P,ZU v] (· = .bS [al (bU P v),.bool (abv P v).isSome]):=by
 refine ZC func90 O ntmps90 λ_ _ _ _=>?_
 have X:=bo E;have Y:=aU E;have G:abv P v=upF P P.length P[v]:=by simp[abv,List.getD,E]
 refine Z3 O<|Z1 O<|Vm (Vs 6 1 1 3 O O)<|Z4 O<|A2 O Zl ?_;refine A1 O ?_;refine Gz O (st:=λZq:cP×Int=>([(2,WC),(6,WB (.bz 1 1 Zq.1.length)),(7,WB (ZI Zq.2))],[(0,WC),(1,WB (.bD 3 (aI Zq.1)))])) 2
  (I:=λZq=>Zq.1.length<=P.length/\Zq.2<P.length/\abv P v=(upF P (P.length-Zq.1.length) Zq.2).map (Zq.1++ ·)) (μ:=λZq=>P.length-Zq.1.length) (x0:=([],P[v])) (YS O) (⟨sh _,W _ (ak E),by rw[G];simp⟩) ?_
 rintro⟨L,x⟩ ⟨hl,hx,hu⟩;try simp only at hl hx hu ⊢
 refine Z2 O<|Gp O (λD=>?_) (λD=>?_)
 .obtain⟨a,rfl⟩:=VG D;have H:a<P.length:=Zi;have Z:=bo H;have aa:(aI L).length=L.length*1:=Zm;refine Vl<|Gr O<|Ar 6 O<|Gc O (λB=>?_) (λB=>?_)
  .have hle:L.length=P.length:=by have:=ibT B;omega
   have M:abv P v=WC:=by rw[hu,hle,Nat.sub_self,Nl Zi];rfl
   exact Vm (St.rE [])<|Z2 O<|Vm (St.rE [4])<|YR O<|by unfold bU;rw[M];rfl
  have hlt:L.length<P.length:=by have:=ibF B;omega
  refine Vl<|Gr O<|Ar 5 O<|Z4 O<|A2 O Zl ?_;exact A1 O<|⟨(L++[(a:Int)],P[a]),Vo [0,3] ⟨O,by simp;rfl,O,Zp⟩ ⟨O,ah (λc=>WB (Ob.bD 3 c)) (jW L a).symm,Zp⟩ O O Zk O,⟨Zn,W _ (ak H),by rw[hu,show P.length-L.length=P.length-(L++[(a:Int)]).length+1 by simp;omega,B3 H,Option.map_map];congr 1;funext l;simp⟩,Zn⟩
 exact Gx O<|Vm (Vq 1 O O)<|Z3 O<|YR O<|by rw[show abv P v=WB L by rw[hu,su Zi];simp];unfold bU;rw[show abv P v=WB L by rw[hu,su Zi];simp];simp[UW];rfl
theorem rH(P:cP)(a b:Int)(B:0<=b)(G:b<P.length)(D:∀p∈P,p<P.length)(E:P.length<=1000000):ZK prog 154 [l7 P,ZU a,ZU b] (· = .bool (hiB P a b)):=by
 obtain⟨v,rfl⟩:=VG B;refine ZC func154 O ntmps154 λ_ _ _ _=>?_
 have hl:=vW P v;exact Z2 O<|Z2 O<|Rs O (aa call90 (uG P v Zi D E) O)<|Ar 5 O<|Z2 O<|Rs O (aa call205 (mN (bU P v) a Zi) O)<|A1 O<|YR O O
abbrev TS(r:er×cP):PV:= .agg [.str r.1,al r.2]
theorem vu{l:List α}{p:α->Bool}(B:k<l.length)(h:(l.take k).all p=YK)(D:p l[k]=YK):(l.take (k+1)).all p=YK:=by rw[bP B];simp only[List.all_append,h,Xi,D,Yp,XV]
theorem GR{l:List α}{p:α->Bool}(B:k<l.length)(h:p l[k]=YL):l.all p=YL:=by rw[X6];exact⟨_,ak B,by rw[h];decide⟩
theorem Ir(a b:Int)(p q:Bool):((a !=b&& !p)&& !q)= !(a==b||p||q):=by rw[bne];cases (a==b)<;>cases p<;>cases q<;>rfl
theorem E0(P:cP)(r:er×cP)(M:∀a∈r.2,0<=a/\a<P.length)(hl:r.2.length<=1000000)(W:∀p∈P,p<P.length)(X:P.length<=1000000):ZK prog 93 [l7 P,TS r] (· = .bool (fy P r.2)):=by
 refine ZC func93 O ntmps93 λ_ _ _ _=>?_
 refine Z3 O<|Z4 O<|Gz O (st:=λZq:Nat=>([(2,WC),(3,WC),(10,WC),(11,WC),(12,WB (ZI Zq))],[(0,WC),(1,WC)])) 2
  (I:=λZq=>Zq<=r.2.length/\((r.2.take Zq).all λa=>r.2.all λb=>a==b||hiB P a b||hiB P b a)=YK) (μ:=λZq=>r.2.length-Zq) (x0:=0) (YS O) (⟨sh _,O⟩) ?_
 rintro k ⟨hk,hall⟩;refine Z1 O<|Gp O (λH=>?_) (λH=>?_)
 .have hlt:k<r.2.length:=Zi;have Y:=bo hlt;have Z:=aU hlt;have E:=M _ (ak hlt);refine Vl<|Z1 O<|A2 O Zl ?_;refine A1 O<|Z4 O ?_;refine Gz O (st:=λD:Nat=>([(2,WC),(3,WC),(6,WC),(10,WC),(11,WC),(12,WC),(17,WC),(18,WC),(19,WB (ZI D))],[(0,WC),(1,WC)])) 2
   (I:=λD=>D<=r.2.length/\((r.2.take D).all λb=>r.2[k]==b||hiB P r.2[k] b||hiB P b r.2[k])=YK) (μ:=λD=>r.2.length-D) (x0:=0) (YS O) (⟨sh _,O⟩) ?_
  rintro j ⟨hj,hall2⟩;refine Z1 O<|Gp O (λL=>?_) (λL=>?_)
  .have hlt2:j<r.2.length:=Zi;have ab:=bo hlt2;have G:=M _ (ak hlt2);refine Vl<|Z1 O<|A2 O Zl ?_;refine A1 O<|Z4 O ?_;apply Vx 6 26 32 [27,28,29,30,31] O Zs
   .intro hb3;exact Y3 O<|Rg O (aa call154 (rH P r.2[k] r.2[j] G.1 G.2 W X) O)<|Y2 O<|Vp Zr O O O
   .intro hb3;exact Ar 6 O<|Vp Zr O O O
   refine A1 O ?_;apply Vx 6 33 39 [34,35,36,37,38] O Zs
   .intro hb10;exact Y3 O<|Rg O (aa call154 (rH P r.2[j] r.2[k] E.1 E.2 W X) O)<|Y2 O<|Vp Zr O O O
   .intro hb10;exact Ar 6 O<|Vp Zr O O O
   refine Gc O (λB=>?_) (λB=>?_)
   .rw[Ir,XF]at B;exact Z1 O<|YR O<|ah PV.bool (by unfold fy;rw[GR hlt (GR hlt2 B)])
   rw[Ir,Bool.not_eq_false']at B;exact Vl<|Z2 O<|⟨(j+1),YS O,⟨Zi,vu hlt2 hall2 B⟩,Zi⟩
  rw[aG Zi]at hall2;exact Gx O<|Z2 O<|⟨(k+1),YS O,⟨Zi,vu hlt hall hall2⟩,Zi⟩
 rw[aG Zi]at hall;exact Gx O<|Z1 O<|YR O<|ah PV.bool (by unfold fy;rw[hall])
theorem AR(P:cP)(r:er×cP)(B:∀a∈r.2,0<=a/\a<P.length)(hl:r.2.length<=1000000)(D:∀p∈P,p<P.length)(E:P.length<=1000000):ZK prog 92 [TS r,.rp [al P] 0] (· = .bool (!fy P r.2)):=by
 refine ZC func92 O ntmps92 λ_ _ _ _=>?_
 exact Z2 O<|Z2 O<|Rs O (aa call93 (E0 P r B hl D E) O)<|Y2 O<|YR O O
theorem Lw(l:List (er×cP))(g:FuncId)(caps:na)(p:er×cP->Bool)(hl:l.length<=1000000)(hc:bS prog g)(L:∀f∈l,ZK prog g ([]++[TS f]++caps) (· = .bool (p f))):
  ZK prog 153 [.sl WC l.length (aZ l),.fn (.func g) [] caps] (λv=>∃i:Int,v= ZU i/\decide (0<=i)=l.any p):=by
 refine ZC func153 O ntmps153 λ_ _ _ _=>?_
 refine Z1 O<|Z3 O<|Gz O (st:=λZq:Nat=>((ZZ Zq),[])) 0
  (I:=λZq=>Zq<=l.length/\(l.take Zq).any p=YL) (μ:=λZq=>l.length-Zq) (x0:=0) (Vn (aS O) trivial O O) (⟨sh _,O⟩) ?_
 rintro k ⟨hk,hno⟩;refine Z1 O<|Gp O (λG=>?_) (λG=>?_)
 .have hlt:k<l.length:=Zi;have D:=eT hlt;have H:=iq hlt;have E:=L _ (ak hlt);refine Vl<|Z2 O<|Z4 O<|Rs O (aD ⟨_,underlying58,O⟩ O1 O D O)<|Rs O (bX hc O E O)<|Gc O (λB=>?_) (λB=>?_)
  .exact Z2 O<|YR O ⟨_,O,by rw[sW hlt B];exact VK Zi⟩
  exact Vl<|Z2 O<|⟨(k+1),Vn (aS O) trivial O O,⟨Zi,fM hlt hno B⟩,Zi⟩
 exact Gx O<|Z1 O<|YR O ⟨_,O,by rw[aG Zi]at hno;rw[hno];rfl⟩
theorem tw(l:List (er×cP))(g:FuncId)(caps:na)(p:er×cP->Bool)(hl:l.length<=1000000)(hc:bS prog g)(B:∀f∈l,ZK prog g ([]++[TS f]++caps) (· = .bool (p f))):
  ZK prog 91 [.sl WC l.length (aZ l),.fn (.func g) [] caps] (· = .bool (l.any p)):=by
 refine ZC func91 O ntmps91 λ_ _ _ _=>?_
 refine Z1 O<|Z2 O<|RL.call O (cT call153 (Lw l g caps p hl hc B) O ?_);rintro _ ⟨i,rfl,hi⟩;exact Y2 O<|YR O<|ah PV.bool hi
structure Valid(S:ZN):Prop where
 n1:1<=S.aj.length
 n2:S.aj.length<=12
 r1:1<=S.aU.length
 r2:S.aU.length<=6
 ne:∀r∈S.aU,r.2≠[]
 rng:∀r∈S.aU,∀a∈r.2,0<=a/\a<S.aj.length
 asc:∀r∈S.aU,LY r.2=YK
 use:∀a,a<S.aj.length->∃r∈S.aU,(a:Int)∈r.2
theorem ji(h:bF S=0):Valid S:=by
 unfold bF at h;split at h
 .cases h
 rename_i hlim;split at h
 .rename_i h1;exact absurd h h1
 split at h
 .rename_i h1;exact absurd h h1
 rename_i _ B;have B:ib S=0:=V5 B;unfold ib at B;split at B
 .rename_i h1;exact absurd B h1
 rename_i hs;have hs:bQ (zl S) S.aU.length=0:=V5 hs;split at B
 .cases B
 rename_i hu;have D:∀r∈S.aU,r.2≠[]/\(r.2.all λa=>decide (0<=a)&&decide (a<S.aj.length))=YK/\LY r.2=YK:=by
  intro r B;obtain⟨i,hi,rfl⟩:=Xp B;have E:=km.1 hs i hi;unfold zl at E;rw[show S.aU.getD i default=S.aU[i] by simp[List.getD,hi]]at E;split at E
  .rename_i h1;exact absurd E h1
  grind
 refine⟨Zi,Zi,Zi,Zi,λr B=>(D r B).1,λr B a ha=>?_,λr B=>(D r B).2.2,λa ha=>?_⟩
 .grind
 have hu:((List.range S.aj.length).all λa=>vE S a)=YK:=by simpa using hu
 have:=IN.1 hu a (Wi.2 ha);unfold vE at this;obtain⟨r,B,hm⟩:=Wv.1 this;exact⟨r,B,by simpa[inB]using hm⟩
theorem AG(S:ZN)(hS:SB S)(P:cP)(hn:P.length<=1000000):ZK prog 44 [fp S,l7 P] (· = ZU (FK S P)):=by
 refine ZC func44 O ntmps44 λ_ _ _ _=>?_
 have hb:=hS.a;refine Z3 O<|Z1 O<|Rs O (aa call77 (mH S hS) O)<|A1 O<|Z2 O<|Gc O (λE=>?_) (λE=>?_)
 .exact Z2 O<|YR O<|ah (PV.int .i64) (by unfold FK;rw[IT (inT E)])
 have h0:bF S=0:=inF E;have X:=(ji h0).rng;refine Vl<|Gr O<|Ar 7 O<|Gc O (λG=>?_) (λG=>?_)
 .have hne0:¬P.length=S.aj.length:=by have:=inT G;omega
  exact Z1 O<|YR O<|ah (PV.int .i64) (by unfold FK;rw[AS (λh=>h h0),IT hne0])
 have heq:P.length=S.aj.length:=by have:=inF G;omega
 refine Vl<|Z4 O<|Gz O (st:=λZq:Nat=>([(2,WC),(3,WC),(24,WC),(25,WC),(26,WB (ZI Zq))],[(0,WC),(1,WC)])) 2
  (I:=λZq=>Zq<=P.length/\((P.take Zq).any λp=>decide (p< -1)||decide ((P.length:Int)<=p))=YL) (μ:=λZq=>P.length-Zq) (x0:=0) (YS O) (⟨sh _,O⟩) ?_
 rintro k ⟨hk,hany⟩;refine Z1 O<|Gp O (λM=>?_) (λM=>?_)
 .have hlt:k<P.length:=Zi;have hva:=bo hlt;have hne:=aU hlt;refine Vl<|Z1 O<|A2 O Zl ?_;refine A1 O<|Z3 O ?_;apply Vv 6 32 38 [33,34,35,36,37] O Zs
  .intro hb2;exact Ar 6 O<|Vp Zr O O O
  .intro hb2;exact Ar 6 O<|Vp Zr O O O
  refine Gc O (λH=>?_) (λH=>?_)
  .exact Z1 O<|YR O<|ah (PV.int .i64) (by unfold FK;rw[AS (λh=>h h0),AS (λh=>h heq),IT (sW hlt H)])
  exact Vl<|Z2 O<|⟨(k+1),YS O,⟨Zi,fM hlt hany H⟩,Zi⟩
 rw[aG Zi]at hany;have Z:∀p∈P,p<P.length:=λp hp=>by have:=Yr.1 hany p hp;simp at this;omega
 refine Gx O<|Z4 O<|Gz O (st:=λD:Nat=>([(2,WC),(3,WC),(42,WC),(43,WB (ZI D))],[(0,WC),(1,WC)])) 2
  (I:=λD=>D<=P.length/\((List.range D).all λv=>(abv P v).isSome)=YK) (μ:=λD=>P.length-D) (x0:=0) (YS O) (⟨sh _,O⟩) ?_
 rintro q ⟨hq,hall⟩;refine Z1 O<|Gp O (λW=>?_) (λW=>?_)
 .have hlt:q<P.length:=Zi;refine Vl<|Z2 O<|Z2 O<|Rs O (aa call90 (uG P q hlt Z hn) O)<|Ar 5 O<|Z2 O<|Gc O (λL=>?_) (λL=>?_)
  .have hno:((List.range P.length).all λv=>(abv P v).isSome)=YL:=X6.2 ⟨q,Wi.2 hlt,by simpa using L⟩;exact Z1 O<|YR O<|ah (PV.int .i64) (by unfold FK;rw[AS (λh=>h h0),AS (λh=>h heq),AS (by rw[hany];decide),IT hno])
  exact Vl<|Z2 O<|⟨(q+1),YS O,⟨Zi,by rw[XC,List.all_append,hall];simpa using L⟩,Zi⟩
 obtain rfl:q=P.length:=Zi;refine Gx O<|Vm (St.gR 1 O O) ?_;have Y:∀r∈S.aU,ZK prog 92 ([]++[TS r]++[.rp [al P] 0]) (· = .bool (!fy P r.2)):=λr hr=>AR P r (by rw[heq];exact X r hr) (hS.rl r hr) Z hn
 refine Z3 O<|Rs O (aa call91 (tw S.aU 92 [.rp [al P] 0] (λr=> !fy P r.2) hS.r call92 Y) O)<|Gc O (λB=>?_) (λB=>?_)
 .have hno:(S.aU.all λr=>fy P r.2)=YL:=by rw[List.any_eq_not_all_not]at B;simpa using B
  exact Z1 O<|YR O<|ah (PV.int .i64) (by unfold FK;rw[AS (λh=>h h0),AS (λh=>h heq),AS (by rw[hany];decide),AS (by rw[hall];decide),IT hno])
 have hno:(S.aU.all λr=>fy P r.2)=YK:=by rw[List.any_eq_not_all_not]at B;simpa using B
 exact Vl<|Z1 O<|YR O<|ah (PV.int .i64) (by unfold FK;rw[AS (λh=>h h0),AS (λh=>h heq),AS (by rw[hany];decide),AS (by rw[hall];decide),AS (by rw[hno];decide)])
end
section
open Go.RowKit Go.MapKept
def bA:na->na->YO
 |[],[]=>WB YK
 | .int k a::xs,.int k' b::bs=>bif kEq k k' then(bA xs bs).map λr=>(a==b)&&r else WC
 | .str a::xs,.str b::bs=>(bA xs bs).map λr=>(a==b)&&r
 | .bool a::xs,.bool b::bs=>(bA xs bs).map λr=>(a==b)&&r
 |_,_=>WC
def keq:PV->PV->YO
 | .int k a,.int k' b=>bif kEq k k' then WB (a==b)else WC
 | .str a,.str b=>WB (a==b)
 | .bool a,.bool b=>WB (a==b)
 | .agg a,.agg b=>bA a b
 |_,_=>WC
def bZ(k:PV):na->Nat->Option (Option Nat)
 |[],_=>WB WC
 | x::l,i=>match keq k x with
   |some YK=>WB (WB i)
   |some YL=>bZ k l (i+1)
   |none=>WC
def Qk:TypeDesc->PV->Bool
 | .int k,.int k' _=>kEq k' k
 | .string,.str _=>YK
 | .bool,.bool _=>YK
 |_,_=>YL
section
variable {w:World}{R:ew}
theorem C3(k:IntKind):kEq k k=YK:=by cases k<;>rfl
theorem JU{k x:PV}(E:Qk d k=YK)(B:ZH w R k u)(D:ZH w R x y)(h:keq k x=WB b):Instr.sameNow d u y=WB b:=by
 cases k<;>cases d<;>simp only[Qk,Wj]at E<;>cases x<;>simp only[keq,reduceCtorEq]at h<;>simp only[ZH]at B D<;>subst B D
 .replace h:=bd h;have:=fB h.1;subst this;simpa[Instr.sameNow]using h.2
 .simpa[Instr.sameNow]using h
 simpa[Instr.sameNow]using h
theorem sK{k:PV}(B:Qk d k=YK)(D:ZH w R k u):∀{ks:na}{es:List MapEntry}{i:Nat}{r:Option Nat},ZG w R ks (es.map (·.key))->bZ k ks i=WB r->
  match r with
  |none=>Instr.findNow d u es i=WB WC
  |some j=>∃q e,j=i+q/\es[q]? =WB e/\Instr.findNow d u es i=WB (WB (j,e.val))
 |[],[],i,r,_,h=>by simp only[bZ,VM]at h;subst h;rfl
 |[],_::_,_,_,hr,_=>by simp[ZG]at hr
 |x::ks,[],_,_,hr,_=>by simp[ZG]at hr
 | x::ks,e::es,i,r,hr,h=>by
   simp only[ed,ZG,Xd]at hr;obtain⟨y,ys,⟨rfl,rfl⟩,h1,h2⟩:=hr;simp only[bZ]at h;split at h
   .rename_i hb;cases h;have:=JU B D h1 hb;exact⟨0,e,O,O,by simp[Instr.findNow,this]⟩
   .rename_i hb;have hs:=JU B D h1 hb;have ih:=sK B D h2 h;cases r with
    |none=>simpa[Instr.findNow,hs]using ih
    | some j=>
      obtain⟨q,e',hj,he,hf⟩:=ih;exact⟨q+1,e',Zi,by simpa using he,by simpa[Instr.findNow,hs]using hf⟩
   cases h
theorem tY{k:PV}(B:Qk d k=YK)(D:ZH w R k u):IsKey d u:=by cases k<;>cases d<;>simp only[Qk,Wj]at B<;>simp only[ZH]at D<;>subst D<;>first|exact fB B|trivial
theorem qd{k:PV}:∀{ks:na}{i j:Nat},bZ k ks i=WB (WB j)->∃q x,j=i+q/\ks[q]? =WB x/\keq k x=WB YK
 |[],_,_,h=>by simp[bZ]at h
 | x::ks,i,j,h=>by
   simp only[bZ]at h;split at h
   .simp_all
   .obtain⟨q,y,e,h1,h2⟩:=qd h;exact⟨q+1,y,Zi,by simpa using h1,h2⟩
   cases h
theorem gZ{a b:er}(h:(a==b)=YK):a=b:=by have:(a.data==b.data)=YK:=h;exact ByteArray.ext (eq_of_beq this)
theorem iO(a:er):(a==a)=YK:=by have:(a.data==a.data)=YK:=WE a.data;exact this
theorem uv:∀{a b:na}{us vs:e7},bA a b=WB YK->ZG w R a us->ZG w R b vs->us=vs/\∀n,((vs.zip us).all fun(x,y)=>Instr.sameBits n x y)=YK
 | [],[],us,vs,_,h1,h2=>by
   simp only[ZG]at h1 h2;subst h1 h2;exact⟨O,λ_=>rfl⟩
 |[],_::_,_,_,h,_,_=>by simp[bA]at h
 |a::xs,[],_,_,h,_,_=>by cases a<;>simp[bA]at h
 | a::xs,b::bs,us,vs,h,h1,h2=>by
   simp only[ZG]at h1 h2;obtain⟨u,us',rfl,ha,has⟩:=h1;obtain⟨v,vs',rfl,hb,hbs⟩:=h2;have B:∀r:Bool,(bA xs bs).map (λq=>r&&q)=WB YK->r=YK/\bA xs bs=WB YK:=λr e=>by simp_all
   have E:u=v/\(∀n,Instr.sameBits n v u=YK)/\bA xs bs=WB YK:=by
    cases a<;>cases b<;>simp only[bA,reduceCtorEq]at h
    .simp only[ZH]at ha hb;subst ha hb;rename_i k a k' b;cases hk:kEq k k' with
     |false=>rw[hk]at h;cases h
     | true=>
       rw[hk]at h;obtain⟨e1,e2⟩:=B _ h;have:=fB hk;have D:a=b:=by simpa using e1
       subst this D;exact⟨O,λn=>by cases n<;>simp[Instr.sameBits],e2⟩
    .simp only[ZH]at ha hb;subst ha hb;obtain⟨e1,e2⟩:=B _ h;have D:=eq_of_beq e1;subst D;exact⟨O,λn=>by cases n<;>simp[Instr.sameBits],e2⟩
    simp only[ZH]at ha hb;subst ha hb;obtain⟨e1,e2⟩:=B _ h;have D:=gZ e1;subst D;exact⟨O,λn=>by cases n<;>exact iO _,e2⟩
   obtain⟨rfl,hs,hc⟩:=E;obtain⟨rfl,hr⟩:=uv hc has hbs;exact⟨O,λn=>by simp only[X2,Xi,hs n,hr n,Bool.and_self]⟩
theorem Cx{k x:PV}(h:keq k x=WB YK)(D:ZH w R k u)(E:ZH w R x y):u=y/\Instr.sameBits 10000 y u=YK:=by
 cases k<;>cases x<;>simp only[keq,reduceCtorEq,VM]at h
 case agg.agg a b=>
  simp only[ZH]at D E;obtain⟨us,rfl,G⟩:=D;obtain⟨vs,rfl,B⟩:=E;obtain⟨rfl,h3⟩:=uv h G B;refine⟨O,?_⟩;show(us.toArray.size==us.toArray.size&&(us.toArray.toList.zip us.toArray.toList).all fun(x,y)=>Instr.sameBits 9999 x y)=YK;rw[WE,Yb];exact h3 9999
 all_goals simp only[ZH]at D E
 all_goals subst D E
 .replace h:=bd h;have G:=fB h.1;have B:=h.2;simp only[VM,Xk]at B;subst G B;simp[Instr.sameBits]
 .simp at h;subst h;simp[Instr.sameBits]
 have:=gZ h;subst this;exact⟨O,by show(_==_)=YK;exact iO _⟩
end
def GO(ks:na):Prop:=ks.Pairwise λa b=>keq a b=WB YL
theorem ya{a b:er}:(a==b)=(b==a):=by grind[gZ,iO]
theorem Eb(a b:IntKind):kEq a b=kEq b a:=by
 cases h:kEq a b with
 |true=>rw[fB h,C3]
 | false=>cases h2:kEq b a with
   |false=>rfl
   |true=>rw[fB h2,C3]at h;cases h
theorem zz:∀a b:na,bA a b=bA b a
 |[],[]=>rfl
 |[],b::_=>by cases b<;>rfl
 |a::_,[]=>by cases a<;>rfl
 | a::xs,b::bs=>by
   cases a<;>cases b<;>simp only[bA]<;>rw[zz xs bs]
   .grind[Eb]
   .grind
   rw[ya]
theorem JG(a b:PV):keq a b=keq b a:=by
 cases a<;>cases b<;>simp only[keq]
 .grind[Eb]
 .grind
 .rw[ya]
 exact zz _ _
theorem mI:∀{a b:na},bA a b=WB YK->a=b
 |[],[],_=>rfl
 |[],b::_,h=>by cases b<;>simp[bA]at h
 |a::_,[],h=>by cases a<;>simp[bA]at h
 | a::xs,b::bs,h=>by
   have fin:∀r:Bool,(bA xs bs).map (λq=>r&&q)=WB YK->r=YK/\xs=bs:=λr e=>by
    cases hc:bA xs bs with
    |none=>rw[hc]at e;cases e
    |some q=>rw[hc]at e;simp at e;exact⟨e.1,mI (by rw[hc,e.2])⟩
   cases a<;>cases b<;>simp only[bA,reduceCtorEq]at h
   .rename_i k a k' b;cases hk:kEq k k' with
    |false=>rw[hk]at h;cases h
    | true=>
      rw[hk]at h;obtain⟨e1,rfl⟩:=fin _ h;rw[fB hk,show a=b by simpa using e1]
   .grind
   obtain⟨e1,rfl⟩:=fin _ h;rw[gZ e1]
theorem Aw{a b:PV}(h:keq a b=WB YK):a=b:=by
 cases a<;>cases b<;>simp only[keq,reduceCtorEq]at h
 .grind[kEq,fB]
 .grind
 .have e:=gZ (Xl h);rw[e]
 rw[mI h]
theorem kv{k:PV}:∀{ks:na}{i:Nat},bZ k ks i=WB WC↔∀x∈ks,keq k x=WB YL
 |[],i=>by simp[bZ]
 | x::ks,i=>by
   simp only[bZ];constructor
   .intro h;split at h
    .cases h
    .rename_i hb;intro y hy;rcases By.1 hy with rfl|hy
     .exact hb
     exact kv.1 h y hy
    cases h
   .intro h;rw[h x Zm];exact kv.2 λy hy=>h y (by simp[hy])
theorem yU{k:PV}:∀{ks:na}{i j:Nat},(∀q x,q<j->ks[q]? =WB x->keq k x=WB YL)->(∃x,ks[j]? =WB x/\keq k x=WB YK)->bZ k ks i=WB (WB (i+j))
 |[],_,_,_,h=>by obtain⟨x,h,_⟩:=h;simp at h
 | x::ks,i,0,_,h=>by
   obtain⟨y,h1,h2⟩:=h;simp only[List.getElem?_cons_zero,VM]at h1;subst h1;simp[bZ,h2]
 | x::ks,i,j+1,h0,h=>by
   obtain⟨y,h1,h2⟩:=h;have e:=h0 0 x Zi O;have ih:=yU (ks:=ks) (i:=i+1) (j:=j) (λq z hq hz=>h0 (q+1) z Zi (by simpa using hz)) ⟨y,by simpa using h1,h2⟩;simp only[bZ,e,ih];rw[show i+1+j=i+(j+1) by omega]
def pE(n:Nat)(σ:St)(x:Operand)(ks vs:na):Prop:=
 (∃id,σ.ev n x= .map id/\σ.ob id=WB (.mp ks vs))\/(σ.ev n x= .pv (.mp ks vs)/\GO ks)\/(σ.ev n x= .pv .nilmap/\ks=[]/\vs=[])
section
variable {C:Ctx}{n:Nat}{σ:St}{a:Act}{w:World}{m:Gm}{R:ew}{x y z:Operand}{dst:YX}{ty t kt et:TypeId}{pos:String}{after:Y4}{gd:Option (Nat×Bool)}{ks vs:na}
theorem E9{es:List MapEntry}(B:ZG w R ps (es.map (·.key)))(D:ZG w R qs (es.map (·.val))):∀{es':List MapEntry},es.Perm es'->∃ps' qs',ZG w R ps' (es'.map (·.key))/\ZG w R qs' (es'.map (·.val))/\(ps'.zip qs').Perm (ps.zip qs):=by
 intro es' hp;induction hp generalizing ps qs with
 |nil=>exact⟨ps,qs,B,D,WH _⟩
 | cons e _ ih=>
   cases ps with
   |nil=>simp[ZG]at B
   | cons p ps=>
     cases qs with
     |nil=>simp[ZG]at D
     | cons q qs=>
       simp only[ed,ZG,Xd]at B D;obtain⟨_,_,⟨rfl,rfl⟩,a1,a2⟩:=B;obtain⟨_,_,⟨rfl,rfl⟩,b1,b2⟩:=D;obtain⟨ps',qs',c1,c2,c3⟩:=ih a2 b2;exact⟨p::ps',q::qs',ZG.cons a1 c1,ZG.cons b1 c2,by simp only[X2];exact List.Perm.cons (p,q) c3⟩
 | swap e e' l=>
   cases ps with
   |nil=>simp[ZG]at B
   | cons p ps=>
     cases ps with
     |nil=>simp[ZG]at B
     | cons p' ps=>
       cases qs with
       |nil=>simp[ZG]at D
       | cons q qs=>
         cases qs with
         |nil=>simp[ZG]at D
         | cons q' qs=>
           simp only[ed,ZG,Xd]at B D;obtain⟨_,_,⟨rfl,rfl⟩,a1,_,_,⟨rfl,rfl⟩,a2,a3⟩:=B;obtain⟨_,_,⟨rfl,rfl⟩,b1,_,_,⟨rfl,rfl⟩,b2,b3⟩:=D;exact⟨p'::p::ps,q'::q::qs,ZG.cons a2 (ZG.cons a1 a3),ZG.cons b2 (ZG.cons b1 b3),by simp only[X2];exact List.Perm.swap _ _ _⟩
 | trans _ _ ih1 ih2=>
   obtain⟨p1,q1,a1,a2,a3⟩:=ih1 B D;obtain⟨p2,q2,b1,b2,b3⟩:=ih2 a1 a2;exact⟨p2,q2,b1,b2,b3.trans a3⟩
def re(vs:na):Option Nat->Option (Option PV)
 |none=>WB WC
 |some j=>(vs[j]?).map WB
theorem EU(hl:ps.length=qs.length)(D:ks.length=vs.length)(Y:GO ks)(L:(ps.zip qs).Perm (ks.zip vs)){f:Option Nat}(M:bZ key ks 0=WB f)(B:re vs f=WB r):
  ∃f',bZ key ps 0=WB f'/\re qs f'=WB r:=by
 have W:∀x,x∈ps↔x∈ks:=λx=>by
  have E:(ps.zip qs).map (·.1)=ps:=Y8 (Xz hl);have G:(ks.zip vs).map (·.1)=ks:=Y8 (Xz D);rw[<-E,<-G];exact(L.map _).mem_iff
 cases f with
 | none=>
   exact⟨WC,kv.2 λx hx=>kv.1 M x ((W x).1 hx),B⟩
 | some j=>
   obtain⟨q,x,hj,hx,hkx⟩:=qd M;simp only[Wm]at hj;subst hj;have e:=Aw hkx;subst e;simp only[re]at B;cases hv:vs[j]? with
   |none=>rw[hv]at B;cases B
   | some v=>
     rw[hv]at B;simp only[Yf,VM]at B;subst B;have X:(key,v)∈ps.zip qs:=L.mem_iff.2 (List.mem_iff_getElem?.2 ⟨j,by rw[List.getElem?_zip_eq_some];exact⟨hx,hv⟩⟩);obtain⟨i,hi⟩:=List.mem_iff_getElem?.1 X;rw[List.getElem?_zip_eq_some]at hi;have H:GO ps:=by
      have E:(ps.zip qs).map (·.1)=ps:=Y8 (Xz hl);have G:(ks.zip vs).map (·.1)=ks:=Y8 (Xz D);have I:ps.Perm ks:=by rw[<-E,<-G];exact L.map _
      exact(I.pairwise_iff (fun{a b} h=>by rw[JG];exact h)).2 Y
     refine⟨WB i,?_,by simp only[re];rw[hi.2];rfl⟩;have:=yU (k:=key) (ks:=ps) (i:=0) (j:=i) (λq z hq hz=>?_) ⟨key,hi.1,hkx⟩
     .rw[this,Wm]
     obtain⟨h1,rfl⟩:=VR.1 hz;obtain⟨h2,h3⟩:=VR.1 hi.1;have:=Wz.1 H q i h1 h2 hq;rw[h3,JG]at this;exact this
theorem pE.at(B:SW C n σ a w m R)(h:pE n σ x ks vs):(∃b es clock ps qs,a.eval x= .map (WB b)/\w.heap[b]? =WB (.map es clock)/\ZG w R ps (es.toList.map (·.key))/\ZG w R qs (es.toList.map (·.val))/\ks.length=ps.length/\
  ∀{key:PV}{f:Option Nat}{r:Option PV},bZ key ks 0=WB f->re vs f=WB r->∃f',bZ key ps 0=WB f'/\re qs f'=WB r)\/(a.eval x= .map WC/\ks=[]/\vs=[]):=by
 rcases h with⟨id,hx,ho⟩|⟨hx,hd⟩|⟨hx,h1,h2⟩
 .obtain⟨b,N,hm,hr⟩:=B.live ho;have:=B.ev x;rw[hx]at this;simp only[Rel]at this;obtain⟨es,clock,q1,q2,q3,_⟩:=hr;exact .inl ⟨b,es,clock,ks,vs,this.2 b N hm,q1,q2,q3,O,fun{key f r} h1 h2=>⟨f,h1,h2⟩⟩
 .have:=B.pv hx;simp only[ZH]at this;obtain⟨b,e,_,es,clock,l,q1,q2,q3,q4,q5⟩:=this;obtain⟨ps,qs,c1,c2,c3⟩:=E9 q2 q3 q5;have l1:=q2.length;have l2:=q3.length;have D:=c1.length;have E:=c2.length;have G:=q5.length_eq;simp only[IS]at l1 l2 D E;exact .inl ⟨b,es,clock,ps,qs,e,q1,c1,c2,Zi,fun{key f r} h1 h2=>EU Zi Zi hd c3 h1 h2⟩
 have:=B.pv hx;simp only[ZH]at this;exact .inr ⟨this,h1,h2⟩
theorem run_map{P:Program}{w:World}{r:Nat}(B:w.heap[r]? =WB (.map es clock)):(getObj r).run P w= .ok (.map es clock) w:=by simp[getObj,Sem.run,B]
theorem fP{P:Program}{w:World}{r:Nat}(o:Obj)(B:w.heap[r]? =WB (.map es clock)):(setObj r o).run P w= .ok () { w with heap:=w.heap.setIfInBounds r o }:=by simp[setObj,Sem.run,B]
def lP(k:PV)(ks vs:na):Option (Option PV):=
 match bZ k ks 0 with
 |some WC=>WB WC
 |some (WB j)=>(vs[j]?).map WB
 |none=>WC
theorem uN{k:PV}{ks vs:na}(h:lP k ks vs=WB r):∃f,bZ k ks 0=WB f/\re vs f=WB r:=by
 unfold lP at h;split at h
 .rename_i hf;exact⟨WC,hf,h⟩
 .rename_i j hf;exact⟨WB j,hf,h⟩
 cases h
theorem ZG.at{us:e7}(h:ZG w R ps us){i:Nat}{p:PV}(B:ps[i]? =WB p)(D:us[i]? =WB u):ZH w R p u:=by obtain⟨u',h1,h2⟩:=h.get B;rw[D]at h1;cases h1;exact h2
theorem NX(Y:SW C n σ a w m R)(L:C.P.underlying t=WB (.map kt et))(G:C.P.underlying kt=WB d)(M:Qk d key=YK)(Z:pE n σ x ks vs)(hy:σ.ev n y= .pv key)(W:(C.P.info? et).map (·.zero)=WB (WB zv))(X:ofC zv=zp)(hl:lP key ks vs=WB r)(ok:Bool):
  ∃u,ZH w R (r.getD zp) u/\(Instr.lookup t (a.eval x) (a.eval y) ok).run C.P w= .ok (if ok then .tuple #[u,.bool r.isSome]else u) w:=by
 have B:=Y.pv hy;have H:(zeroValue et).run C.P w= .ok zv w:=by
  cases hq:C.P.info? et with
  |none=>simp[hq]at W
  |some i=>simp[hq]at W;simp[zeroValue,typeInfo,hq,W]
 have D:ZH w R zp zv:=X▸Br w R zv;have E:=tY M B;rcases Z.at Y with⟨b,es,clock,ps,qs,e,hb,q2,q3,_,hsw⟩|⟨e,rfl,rfl⟩
 .obtain⟨f,I,hr⟩:=uN hl;obtain⟨f',hf',hr'⟩:=hsw I hr;cases f' with
  | none=>
    simp only[re,VM]at hr';subst hr';have:=sK M B q2 hf';simp only at this;refine⟨zv,D,?_⟩;simp[Instr.lookup,e,run_underlying L,run_map hb,run_checkKey G E,run_findKey G this,H,Result.andThen]
  | some j=>
    obtain⟨q,e',hj,he,hfn⟩:=sK M B q2 hf';simp only[Wm]at hj;subst hj;simp only[re]at hr';cases hv:qs[j]? with
    |none=>rw[hv]at hr';cases hr'
    | some p=>
      rw[hv]at hr';simp at hr';subst hr';refine⟨e'.val,ZG.at q3 hv (by simp[he]),?_⟩;simp[Instr.lookup,e,run_underlying L,run_map hb,run_checkKey G E,run_findKey G hfn,Result.andThen]
 simp only[lP,bZ,VM]at hl;subst hl;refine⟨zv,D,?_⟩;have I:Instr.findNow d (a.eval y) (#[]:Array MapEntry).toList 0=WB WC:=rfl;simp[Instr.lookup,e,run_underlying L,run_checkKey G E,run_findKey G I,H,Result.andThen]
theorem iy{p:PV}(D:C.P.underlying t=WB (.map kt et))(E:C.P.underlying kt=WB d)(G:pE n σ x ks vs)(H:σ.ev n y= .pv key)(I:Qk d key=YK)(L:(C.P.info? et).map (·.zero)=WB (WB zv))(B:ofC zv=zp)(hl:lP key ks vs=WB r)(M:r.getD zp=p)(W:r.isSome=b):
  XJ C n ⟨dst,.lookup t x y YK,ty,pos,after,gd⟩ σ ⟨.pv (.bS [p,.bool b]),[],[]⟩:=
 .val λa w m R hw=>by
  obtain⟨u,hr,hrun⟩:=NX hw D E I G H L B hl YK;subst M W;refine⟨_,by simp only[execOp,Sem.run_bind,hrun,Result.andThen_ok];rfl,?_⟩;simp only[Rel,ZH];exact⟨[u,.bool r.isSome],O,ZG.cons hr (ZG.cons (by simp only[ZH]) ZG.nil)⟩
theorem BI(B:C.P.underlying t=WB (.map kt et))(D:pE n σ x ks vs):
  XJ C n ⟨dst,.call { callee:= .builtin .len,args:= #[x],argTypes:= #[t] },ty,pos,after,gd⟩ σ ⟨ZI ks.length,[],[]⟩:=
 .val λa w m R hw=>by
  rcases D.at hw with⟨b,es,clock,ps,qs,e,hb,q2,q3,hlk,_⟩|⟨e,rfl,rfl⟩
  .have hl:=q2.length;simp only[IS]at hl;rw[<-hlk]at hl;exact⟨.int .i64 es.size,by simp[execOp,resolve,invoke,builtin,Builtin.len_,e,run_underlying B,run_map hb,goInt,Result.andThen],by simp only[Rel,ZH];simp at hl;rw[hl]⟩
  exact⟨.int .i64 0,by simp[execOp,resolve,invoke,builtin,Builtin.len_,e,run_underlying B,goInt],by simp only[Rel,ZH];rfl⟩
theorem SW.PM(h:SW C n σ a w m R)(E:σ.av id=YK)(obj:Obj)(N:Nat)(o:Ob)
  (ho:∀(w':World)(m':Gm)(av':Av),(∀b,R b->R b/\w'.heap[b]? =w.heap[b]?)->w'.heap[w.heap.size]? =WB obj->nJ w' m' av' R w.heap.size N o) (W:o.real=YK:=by rfl):
  SW C n ⟨σ.sl,obL [(id,WB o)] σ.ob,avL [id] σ.av⟩ a (w.alloc obj) (upd m id (WB (w.heap.size,N))) R:=by
 have I:∀b,R b->R b/\(w.alloc obj).heap[b]? =w.heap[b]? :=λb B=>⟨B,Below.heap_alloc w _ b (h.hr.rsz b B)⟩
 have L:∀i,σ.av i=YL->i≠id:=λi hi e=>by rw[e,E]at hi;cases hi
 have X:∀i x,σ.av i=YL->upd m id (WB (w.heap.size,N)) i=WB x->m i=WB x:=λi x hi e=>by rwa [a7 _ _ (L i hi)]at e
 have M:∀i,σ.av i=YL->avL [id] σ.av i=YL:=λi hi=>by grind[avL,Nat.beq]
 have Y:(w.alloc obj).heap.size=w.heap.size+1:=Zm;have D:∀i,i≠id->obL [(id,WB o)] σ.ob i=σ.ob i:=λi hi=>by grind[Nat.beq,bN,obL]
 have G:obL [(id,WB o)] σ.ob id=WB o:=by simp[obL]
 refine h.world ⟨?_,?_,?_,?_,?_,?_,h.hr.rfr,h.hr.r0,?_,?_,λi hi=>M i (h.hr.res i hi)⟩ I X M
 .intro i;by_cases e:i=id
  .subst e;rw[aA,G];exact W.symm
  rw[a7 _ _ e,D i e];exact h.hr.dom i
 .intro i hi;simp only[avL]at hi;cases B:Nat.beq i id with
  |true=>rw[B]at hi;simp at hi
  | false=>
    rw[B]at hi;rw[D i (λe=>by subst e;simp at B)];exact h.hr.free i (by simpa using hi)
 .intro i o' b N h1 h2;by_cases e:i=id
  .subst e;rw[G]at h1;rw[aA]at h2;cases h1;cases h2;exact ho _ _ _ I (heap_alloc_new w _)
  rw[D i e]at h1;rw[a7 _ _ e]at h2;exact(h.hr.obj i o' b N h1 h2).mono I X M (Below.heap_alloc w _ b (h.hr.own i b N h2).1)
 .intro i j b N N' h1 h2;by_cases e1:i=id<;>by_cases e2:j=id
  .rw[e1,e2]
  .subst e1;rw[aA]at h1;rw[a7 _ _ e2]at h2;cases h1;have:=(h.hr.own j _ _ h2).1;omega
  .subst e2;rw[aA]at h2;rw[a7 _ _ e1]at h1;cases h2;have:=(h.hr.own i _ _ h1).1;omega
  rw[a7 _ _ e1]at h1;rw[a7 _ _ e2]at h2;exact h.hr.inj i j b N N' h1 h2
 .intro i b N h1;by_cases e:i=id
  .subst e;rw[aA]at h1;cases h1;exact⟨Zi,λB=>by have:=h.hr.rsz _ B;omega,.inr h.hr.frame.size⟩
  rw[a7 _ _ e]at h1;obtain⟨h2,h3,h4⟩:=h.hr.own i b N h1;exact⟨Zi,h3,h4⟩
 .intro b B;have:=h.hr.rsz b B;omega
 .refine⟨h.hr.frame.os,h.hr.frame.tape,h.hr.frame.output,?_,?_⟩
  .have:=h.hr.frame.size;omega
  .intro k hk hF;rw[Below.heap_alloc w _ k (by have:=h.hr.frame.size;omega)];exact h.hr.frame.block k hk hF
 .intro i x hi e;have H:i≠id:=λZ=>by subst Z;rw[h.hr.res i hi]at E;cases E
  rw[a7 _ _ H]at e;exact h.hr.keep i x hi e
theorem SW.turn(h:SW C n σ a w m R){b N:Nat}(B:m id=WB (b,N))(w':World)(hs:w'.heap.size=w.heap.size)(D:∀k,k≠b->w'.heap[k]? =w.heap[k]?)(e1:w'.os=w.os)(e2:w'.tape=w.tape)(e3:w'.output=w.output)(o:Ob)
  (ho:(∀b,R b->R b/\w'.heap[b]? =w.heap[b]?)->nJ w' m σ.av R b N o) (L:o.real=YK:=by rfl):
  SW C n ⟨σ.sl,obL [(id,WB o)] σ.ob,avL [] σ.av⟩ a w' m R:=by
 have G:=h.hr.own id b N B;have I:∀k,R k->R k/\w'.heap[k]? =w.heap[k]? :=λk hk=>⟨hk,D k (λe=>G.2.1 (e▸hk))⟩
 have E:∀i,i≠id->obL [(id,WB o)] σ.ob i=σ.ob i:=λi hi=>by grind[Nat.beq,bN,obL]
 have H:obL [(id,WB o)] σ.ob id=WB o:=by simp[obL]
 have M:∀i x,σ.av i=YL->m i=WB x->m i=WB x:=λ_ _ _ e=>e
 have W:∀i,σ.av i=YL->avL [] σ.av i=YL:=λ_ hi=>hi
 refine h.world ⟨?_,?_,?_,h.hr.inj,?_,?_,h.hr.rfr,h.hr.r0,?_,h.hr.keep,h.hr.res⟩ I M W
 .intro i;by_cases e:i=id
  .subst e;rw[B,H];exact L.symm
  rw[E i e];exact h.hr.dom i
 .intro i hi;have e:i≠id:=λe=>by
   subst e;have:=h.hr.dom i;rw[h.hr.free i hi,B]at this;cases this
  rw[E i e];exact h.hr.free i hi
 .intro i o' b' N' h1 h2;by_cases e:i=id
  .subst e;rw[H]at h1;rw[B]at h2;cases h1;cases h2;exact ho I
  rw[E i e]at h1;exact(h.hr.obj i o' b' N' h1 h2).mono I M W (D b' (λX=>e (h.hr.inj i id b N' N (X▸h2) B)))
 .intro i b' N' h1;obtain⟨h2,h3,h4⟩:=h.hr.own i b' N' h1;exact⟨Zi,h3,h4⟩
 .intro b' hb';have:=h.hr.rsz b' hb';omega
 refine⟨e1.trans h.hr.frame.os,e2.trans h.hr.frame.tape,e3.trans h.hr.frame.output,?_,?_⟩
 .have:=h.hr.frame.size;omega
 .intro k hk hF;rw[D k (λe=>by subst e;rcases G.2.2 with h'|h';exact hF h';omega)];exact h.hr.frame.block k hk hF
theorem cY(id:Nat)(D:σ.av id=YK):XJ C n ⟨dst,.makeMap t WC,ty,pos,after,gd⟩ σ ⟨.map id,[(id,WB (.mp [] []))],[id]⟩:=by
 rintro a w Q ⟨m,R,hw⟩;unfold Oper.wp;have B:(execOp a.eval ⟨dst,.makeMap t WC,ty,pos,after,gd⟩).run C.P w= .ok (.value (.map (WB w.heap.size))) (w.alloc (.map #[] 0)):=by
  simp only[execOp,Option.map_none,Sem.run_bind,run_makeMap,Result.andThen_ok];rfl
 rw[B];refine⟨_,O,upd m id (WB (w.heap.size,0)),R,?_⟩;rw[Vu];refine SW.put (hw.PM D (.map #[] 0) 0 (.mp [] []) ?_) dst ?_
 .intro w' m' av' hR hb;exact⟨#[],0,hb,ZG.nil,ZG.nil,by simp[dY]⟩
 simp only[Rel];refine⟨by simp[avL],λb N e=>?_⟩;rw[aA]at e;cases e;rfl
def pK(k:PV)(ks:na):na:=match bZ k ks 0 with
 |some (WB j)=>ks.set j k
 |_=>ks++[k]
def pN(k v:PV)(ks vs:na):na:=match bZ k ks 0 with
 |some (WB j)=>vs.set j v
 |_=>vs++[v]
theorem jQ{v:PV}{r:Option Nat}{ks' vs':na}(ht:C.P.underlying t=WB (.map kt et))(Z:C.P.underlying kt=WB d)(Y:σ.ev n x= .map id)(ho:σ.ob id=WB (.mp ks vs))(hy:σ.ev n y= .pv key)(hz:σ.ev n z= .pv v)(hd:Qk d key=YK)(X:bZ key ks 0=WB r)
  (ag:pK key ks=ks') (ah:pN key v ks vs=vs'):XJ C n ⟨WC,.mapUpdate t x y z,ty,pos,after,gd⟩ σ ⟨.pv .any,[(id,WB (.mp ks' vs'))],[]⟩:=by
 rintro a w Q ⟨m,R,hw⟩;obtain⟨b,N,hm,es,clock,hb,q2,q3,q4⟩:=hw.live ho;have I:=hw.ev x;rw[Y]at I;simp only[Rel]at I;have Y:=I.2 b N hm;have B:=hw.pv hy;have H:=hw.pv hz;have aa:=tY hd B;have ai:b<w.heap.size:=(VP.1 hb).1;have ab:∀(es':Array MapEntry)(clock':Nat),(Instr.mapUpdate t (a.eval x) (a.eval y) (a.eval z)).run C.P w= .ok () { w with heap:=w.heap.setIfInBounds b (.map es' clock') }->
   ZG w R ks' (es'.toList.map (·.key))->ZG w R vs' (es'.toList.map (·.val))->dY es'.toList clock'->Oper.wp C.P ⟨WC,.mapUpdate t x y z,ty,pos,after,gd⟩ a w (λa' w'=>∃σ',σ'=σ.app WC ⟨.pv .any,[(id,WB (.mp ks' vs'))],[]⟩/\SJ C n σ' a' w') Q:=by
  intro es' clock' hrun h1 h2 h3;unfold Oper.wp;have L:(execOp a.eval ⟨WC,.mapUpdate t x y z,ty,pos,after,gd⟩).run C.P w= .ok .skip { w with heap:=w.heap.setIfInBounds b (.map es' clock') }:=by
   simp only[execOp,Sem.run_bind,hrun,Result.andThen_ok,Sem.run_pure]
  rw[L];refine⟨_,O,m,R,hw.turn hm { w with heap:=w.heap.setIfInBounds b (.map es' clock') } Zm (λk Z=>by simp only;rw[Xq (λe=>Z e.symm)]) O O O (.mp ks' vs') λhR=>?_⟩;exact⟨es',clock',by simp only;rw[XR];simp[ai],h1.mono hR,h2.mono hR,h3⟩
 have hl:=q2.length;have al:=q3.length;simp only[IS]at hl al;cases r with
 | none=>
   have G:=sK hd B q2 X;simp only at G;refine ab (es.push ⟨a.eval y,a.eval z,clock⟩) (clock+1) ?_ ?_ ?_ ?_
   .simp[Instr.mapUpdate,Y,run_underlying ht,run_map hb,run_checkKey Z aa,run_findKey Z G,fP _ hb,Result.andThen]
   .rw[<-ag];simp only[pK,X,YN,Wf,ed,Wd];exact q2.append (ZG.cons B ZG.nil)
   .rw[<-ah];simp only[pN,X,YN,Wf,ed,Wd];exact q3.append (ZG.cons H ZG.nil)
   simp only[dY,YN,Wf,ed,Wd];refine⟨XL.2 ⟨q4.1,Zm,λx Y y hy e=>?_⟩,λe he=>?_⟩
   .obtain⟨e',he',rfl⟩:=VS.1 Y;have:=q4.2 e' he';simp at hy;omega
   rcases We.1 he with h|h
   .exact Nat.lt_succ_of_lt (q4.2 e h)
   grind
 | some j=>
   obtain⟨q,e',hj,he,G⟩:=sK hd B q2 X;obtain⟨q',x',hj',hx',hkq⟩:=qd X;simp only[Wm]at hj hj';subst hj';subst hj;have ac:=ZG.at q2 hx' (by simp[he]:(es.toList.map (·.key))[j]? =WB e'.key);have M:=Cx hkq B ac;have W:j<es.size:=(VR.1 he).1 |> λh=>by simpa using h
   have ad:es[j]? =WB e':=by simpa using he
   have af:es[j]=e':=by have:=Array.getElem?_eq_getElem W;rw[ad]at this;exact(Xl this).symm
   have D:(es.modify j λe=>{ e with key:=a.eval y,val:=a.eval z }).toList=es.toList.set j ⟨a.eval y,a.eval z,e'.born⟩:=by
    apply Ys;intro i;rw[Array.getElem?_toList,YG,YI];by_cases e:j=i
    .subst e;simp[W,af]
    simp[e]
   refine ab (es.modify j λe=>{ e with key:=a.eval y,val:=a.eval z }) clock ?_ ?_ ?_ ?_
   .simp[Instr.mapUpdate,Y,run_underlying ht,run_map hb,run_checkKey Z aa,run_findKey Z G,fP _ hb,Result.andThen,Instr.keyThatStays,ad,M.2]
   .rw[D,<-ag];simp only[pK,X,Wp];exact q2.set j B
   .rw[D,<-ah];simp only[pN,X,Wp];exact q3.set j H
   rw[D];have E:(es.toList.set j ⟨a.eval y,a.eval z,e'.born⟩).map (·.born)=es.toList.map (·.born):=by
    rw[Wp];apply Ys;intro i;rw[YI];by_cases e:j=i
    .subst e;simp[W,af]
    simp[e]
   refine⟨by rw[E];exact q4.1,λe hm=>?_⟩;have:e.born∈es.toList.map (·.born):=by rw[<-E];exact VS.2 ⟨e,hm,O⟩
   obtain⟨e2,h2,h3⟩:=VS.1 this;rw[<-h3];exact q4.2 e2 h2
def RO(ids:ee)(base k':Nat)(Q:V->(Nat->va)->Prop)(s:OS):Prop:=∃v ob',Q v ob'/\s=⟨v.ren (eI ids base),wrO ids base k' ob',nwO base k'⟩
theorem Mq(ids:ee)(base k':Nat)(ob':Nat->va):(wrO ids base k' ob').map (·.1)=ids++nwO base k':=by
 have h:∀(l:ee)(j:Nat),(l.zipIdx j).map (λp=>p.1)=l:=by simp_all
 unfold wrO nwO;rw[Wf,XX,XX];exact congr (ah _ (h ids 0)) O
theorem Tu{ts:Array TypeId}{args:nR}{os:Zy}{k':Nat}(ids:ee)(base:Nat)(hc:bS C.P f)(I:ZS C.P f ids.length k' args os Q)(B:xs.toList.map (σ.ev n)=V.renL (eI ids base) args)
  (L:V.allL (okR ids.length 0) args=YK) (hos:os.map (·.1)=(List.range ids.length).map (big+ ·)) (E:os.all (λp=>p.2.all (okR ids.length 0))=YK) (D:gL σ (eI ids base) os) (G:ids.Nodup) (H:(nwO base k').all σ.av=YK):
  OJ C n ⟨dst,.call { callee:= .value (.func f),args:=xs,argTypes:=ts },ty,pos,after,gd⟩ (λτ'=>∃s,RO ids base k' Q s/\s.wr.map (·.1)=ids++nwO base k'/\s.nw=nwO base k'/\τ'=σ.app dst s) σ:=
 cf ids base hc B L hos E D G H I λv ob' h=>⟨_,⟨v,ob',h,O⟩,Mq _ _ _ _,O,O⟩
end
end
section
section
variable {C:Ctx}{n:Nat}{σ:St}{dst:YX}{ty t t':TypeId}{pos:String}{after:Y4}{gd:Option (Nat×Bool)}{x y:Operand}
theorem lK{z:Value}{size bytes:Nat}{news:na}(id':Nat)(B:ZP C.P t e z size bytes)(hs:σ.ev n x= .pv nS)
  (E:oR n σ y j news) (hl:news.length=j*size) (L:∀c∈news,c.leaf=YK) (X:j<=1000000000) (G:σ.av id'=YK):
  XJ C n ⟨dst,.call { callee:= .builtin .append,args:= #[x,y],argTypes:= #[t,t] },ty,pos,after,gd⟩ σ ⟨.bz id' size j,[(id',WB (.bD e news))],[id']⟩:=by
 rintro a w Q ⟨m,R,hw⟩;have M:=hw.pv hs;simp only[ZH]at M;obtain⟨A0,c0,hev,_,_,hn,hc0,_⟩:=M;have H:A0=WC:=by cases A0;rfl;have:=hn YK O;simp at this
 subst H;rw[hc0 trivial]at hev;obtain⟨A,c2,us,hev2,hr2,hrow⟩:=E.row hw;rcases WG j with rfl|hj
 .obtain rfl:news=[]:=Wl (by simpa using hl);obtain⟨i,hi,_⟩:=info_parts B.info;have D:(Builtin.append_ #[t,t] ty #[.slice WC 0 0,.slice A 0 c2]).run C.P w= .ok (.slice WC 0 0) w:=by
   cases A<;>simp[Builtin.append_,run_underlying B.u,sizeOf,typeInfo,hi,Builtin.lenOf,Builtin.firstCells,loadCells,loadCellsFrom]
  unfold Oper.wp execOp;simp only[resolve,invoke,builtin,Sem.run_bind,Sem.run_pure,Result.andThen_ok,Yj,ed,Wd,hev,hev2,D];obtain⟨h,hmn⟩:=hw.gro0 G e;refine⟨_,O,m,R,?_⟩;rw[Vu];exact SW.put h dst<|BC (by simp only[ZH];exact⟨WC,0,O,BY _,by simp[maxLen],(λ_ e=>by cases e;rfl),(λ_=>rfl),λe=>absurd O e⟩) hmn (by simp[avL])
 have hnl:0<news.length:=by rw[hl];exact Y1 hj B.pos
 have I:news≠[]:=Ww.1 hnl;refine r6 x y t O 0 e z size bytes B.u B.info B.zs B.pos B.by_ _ 0 j c2 A _ us hev hev2 (World.ownsRow_nil w 0 e size) hrow (by rw[hr2.length,hl]) (eU hr2 L) Zi (sh _) ?_;intro A' c' w' hown' hgr hat
 simp only[Wm,WZ]at hown' hat ⊢;rcases hown'.2 with⟨hv,h0⟩|⟨g,cap,cur,hv,_,hg,hkc',hcm',hcs',htk⟩
 .omega
 simp only[Value.slice.injEq]at hv;obtain⟨rfl, -,rfl⟩:=hv;have W:w.heap.size<=g:=by
  rcases hat with h|⟨g',h,hle⟩
  .simp[Value.ownBlock]at h
  simp only[Value.ownBlock,VM]at h;subst h;exact hle
 refine⟨_,O,upd m id' (WB (g,cur.size)),R,?_⟩;rw[Vu];refine SW.put (hw.fresh G hg hgr (λq hq=>by simp[Value.ownBlock]at hq) (λh=>by have:=hw.hr.rsz _ h;omega) (λi b N hi e=>by have:=(hw.hr.own i b N hi).1;omega) (.inr (by have:=hw.hr.frame.size;omega)) (.bD e news) ?_ (cQ I)) dst ?_
 .intro m' av' hR _ _;refine⟨cur,hg,O,?_,?_⟩
  .rw[hcs',<-hr2.length,hown'.1];exact WK _ hkc'
  rw[<-hr2.length,hown'.1,htk];exact hr2.mono hR
 simp only[Rel];refine⟨by simp[avL],_,c',O,hkc',hcm',λh=>by omega,λ_ b N e=>?_⟩;rw[aA]at e;cases e;exact⟨O,hcs'⟩
end
def St.ownC(σ:St)(pid j id sz k:Nat)(T T':TypeId)(cs:na)(vs:nR):St:=⟨σ.sl,obL [(pid,WB (.mix T' (vs.set j (.bJ id sz k)))),(id,WB (.cells T cs))] σ.ob,σ.av⟩
theorem ZJ.setG{w:World}{m:Gm}{av:Av}{R:ew}:∀{ps:nR}{us:e7}(i:Nat){p q:V},ZJ w m av R ps us->ps[i]? =WB p->(∀u,Rel w m av R p u->Rel w m av R q u)->ZJ w m av R (ps.set i q) us
 |[],_,n,_,_,h,hp,_=>by simp at hp
 |c::cs,_,0,_,_,h,hp,k=>by grind[ZJ]
 | c::cs,_,n+1,_,_,h,hp,k=>by
   simp only[ZJ]at h;obtain⟨u,xs,rfl,h1,h2⟩:=h;simp only[List.set_cons_succ,ZJ];exact⟨u,xs,O,h1,ZJ.setG n h2 (by simpa using hp) k⟩
theorem St.JN{σ:St}{sz:Nat}{T':TypeId}{vs:nR}(pid j:Nat)(E:σ.ob pid=WB (.mix T' vs))(G:vs[j]? =WB (.bz id sz k))(ho:σ.ob id=WB (.bD T cs))(B:0<k)(hc:cs≠[]):σ.le (σ.ownC pid j id sz k T T' cs vs):=
 St.vO λD=>⟨D.sl,λp hp=>by
  rcases By.1 hp with rfl|hp
  .refine⟨_,_,E,O,O,λb N _ ⟨arr,q1,q2,q3,q4⟩=>⟨arr,q1,q2,by rw[VN];exact q3,?_⟩⟩;rw[VN];refine ZJ.setG j q4 G λu hu=>?_
   simp only[Rel]at hu ⊢;obtain⟨h0,A,c,he,h1,h2,h3,h4⟩:=hu;refine⟨h0,λb N hm=>⟨c,?_,h1,h2,(h4 B b N hm).2⟩⟩;rw[he,(h4 B b N hm).1]
  obtain rfl:=VH.1 hp;exact⟨_,_,ho,O,(cQ hc).symm,λ_ _ _ h=>h⟩⟩
end

section
section
variable {C:Ctx}{n:Nat}{σ:St}{dst:YX}{ty:TypeId}{pos:String}{after:Y4}{gd:Option (Nat×Bool)}{x y:Operand}
theorem gj{s:Nat}{kh:IntKind}{ih:Int}{o:Ob}(h:Nat)(G:C.P.underlying T=WB (.slice e))(hs:b8 C.P e s)(I:σ.ev n x= .bJ id s k)(ho:σ.ob id=WB o)(L:σ.ev n y= .pv (.int kh ih))(M:ih=(h:Int))(W:h<=k)(D:o.real=YK:=by rfl):
  XJ C n ⟨dst,.slice T x WC (WB y) WC,ty,pos,after,gd⟩ σ ⟨.bJ id s h,[],[]⟩:=
 .val λa w m R hw=>by
  obtain⟨b,N,c,he,hkc,hcm,hN,hm,hor⟩:=hw.bJ I ho D;have E:a.eval y= .int kh h:=by rw[hw.int L,M]
  have B:h<=c:=Zi;have H:σ.av id=YL:=by
   cases hv:σ.av id with
   |false=>rfl
   |true=>have:=hw.hr.free id hv;rw[ho]at this;cases this
  refine⟨.slice (WB ⟨b,0,WC⟩) h c,?_,?_⟩
  .by_cases hc0:c=0
   .subst hc0;have:h=0:=Zi;subst this;simp[execOp,he,E,Instr.sliceAt,Instr.slice,Instr.sliceBounds,Instr.sliceBound,asIntOf,run_underlying G,hs.run]
   simp[execOp,he,E,Instr.sliceAt,Instr.slice,Instr.sliceBounds,Instr.sliceBound,asIntOf,run_underlying G,hs.run,B,Addr.add_lit,hc0]
  grind[Rel]
def St.cutO(σ:St)(id:Nat)(T:TypeId)(cs:na):St:=⟨σ.sl,obL [(id,WB (.cells T cs))] σ.ob,σ.av⟩
theorem St.SP{vs:na}(id j:Nat)(ho:σ.ob id=WB (.cells T cs))(D:cs.take j=vs):σ.le (σ.cutO id T vs):=by
 subst D;refine St.vO λB=>⟨B.sl,λp hp=>?_⟩
 obtain rfl:=VH.1 hp;refine⟨_,_,ho,O,O,λb N _ ⟨arr,q1,q2,q3,q4⟩=>⟨arr,q1,q2,Zn,?_⟩⟩;have:=q4.take j;rw[Yl]at this;rw[Vz];exact this
end
end

section
section
variable {C:Ctx}{n:Nat}{σ:St}{dst:YX}{ty:TypeId}{ts:Array TypeId}{pos:String}{after:Y4}{gd:Option (Nat×Bool)}
theorem iD   {args:nR} {os:Zy} {k':Nat}  {K:ZA} (ids:ee) (base:Nat) (hc:bS C.P f) (I:ZS C.P f ids.length k' args os Q) (B:xs.toList.map (σ.ev n)=V.renL (eI ids base) args)
  (L:V.allL (okR ids.length 0) args=YK) (hos:os.map (·.1)=(List.range ids.length).map (big+ ·)) (E:os.all (λp=>p.2.all (okR ids.length 0))=YK) (D:gL σ (eI ids base) os)
  (G:ids.Nodup) (H:(nwO base k').all σ.av=YK)
  (M:∀v ob',Q v ob'->K (σ.app dst ⟨v.ren (eI ids base),wrO ids base k' ob',nwO base k'⟩)):
  OJ C n ⟨dst,.call { callee:= .value (.func f),args:=xs,argTypes:=ts },ty,pos,after,gd⟩ K σ:=cf ids base hc B L hos E D G H I M
end
end
section
open Mk
def Ks(l:cP):cP:=l.mergeSort (λa b=>decide (a<=b))
theorem ou(l:cP):(Ks l).Perm l:=List.mergeSort_perm l _
theorem xk(l:cP):(Ks l).Pairwise (· <= ·):=by have:=List.pairwise_mergeSort (le:=λa b:Int=>decide (a<=b)) (by intro a b c;simp;omega) (by intro a b;simp;omega) l;exact this.imp Zm
theorem K1{r:cP}(B:l.Perm r)(hl:l.Pairwise (· <= ·))(D:r.Pairwise (· <= ·)):l=r:=
 B.eq_of_pairwise (λa b _ _ h1 h2=>Int.le_antisymm h1 h2) hl D
theorem O3{r:cP}(B:l.Perm r)(hl:l.Pairwise (· <= ·)):l=Ks r:=K1 (B.trans (ou r).symm) hl (xk r)
theorem FI(k:Nat)(H:k<=12):ZK prog 203 [.int .u64 k] (λv=>∃i,v= ZU i):=by
 refine ZC func203 O ntmps203 λ_ _ _ _=>?_
 have G:IntKind.u8.wrap (k:Int)=(k:Int):=by
  have:k<256:=Zi;show((k:Int)%256)=k;omega
 refine Z1 O<|Z2 O<|Gp O (λD=>absurd D Zi) (λD=>?_);refine Vl<|Z2 O<|Gp O (λE=>absurd E Zi) (λE=>?_);refine Vl<|Z2 O<|Gp O (λB=>absurd B Zi) (λB=>?_);refine Vl<|Z2 O<|Rs O ((eX aaE aau O).cast (v':= .pv (.int .u8 k)) (by rw[G]))<|Rs O (bp k aam O O O (by show k<256;omega)) ?_;exact A1 O<|Rs O (aY O O O)<|A1 O<|YR O ⟨_,O⟩
theorem Dy(k:Nat)(D:k<=12):ZK prog 149 [.int .u64 k] (λv=>∃i,v= ZU i):=by
 refine ZC func149 O ntmps149 λ_ _ _ _=>?_
 refine Z1 O<|Gc O (λB=>absurd B (Bool.false_ne_true)) (λB=>?_);refine Vl<|Z1 O<|RL.call O (cT call203 (FI k D) O ?_);rintro _ ⟨i,rfl⟩;exact A1 O<|YR O ⟨_,O⟩
abbrev Ft(l:cP):Ob:= .cells 3 (aI l)
structure OrdOk(S:ZN)(P:cP):Prop where
 val:Valid S
 len:P.length=S.aj.length
 rng:∀p∈P, -1<=p/\p<P.length
 up:∀v,v<P.length->(abv P (v:Int)).isSome=YK
 rt:∀r∈S.aU,fy P r.2=YK
theorem HC:FK S P=0↔bF S=0/\OrdOk S P:=by
 unfold FK;constructor
 .intro h;split at h
  .rename_i D;exact absurd h D
  rename_i B;have B:bF S=0:=V5 B;split at h
  .cases h
  rename_i D;split at h
  .cases h
  rename_i E;split at h
  .cases h
  rename_i G;split at h
  .cases h
  rename_i H;have D:P.length=S.aj.length:=V5 D;have E:(P.any λp=>decide (p< -1)||decide ((P.length:Int)<=p))=YL:=by simpa using E
  have G:((List.range P.length).all λv=>(abv P v).isSome)=YK:=by rw[Bool.not_eq_false]at G;exact G
  have H:(S.aU.all λr=>fy P r.2)=YK:=by simpa using H
  refine⟨B,ji B,D,λp hp=>?_,λv hv=>IN.1 G v (Wi.2 hv),λr hr=>IN.1 H r hr⟩;have:=Yr.1 E p hp;simp at this;omega
 rintro⟨B,h⟩;rw[AS (λe=>e B),AS (λe=>e h.len),AS,AS,AS]
 .rw[IN.2 λr hr=>h.rt r hr];decide
 .rw[IN.2 λv hv=>h.up v (Wi.1 hv)];decide
 rw[Wv];rintro⟨p,hp,E⟩;have:=h.rng p hp;simp at E;omega
def iY(S:ZN)(P:cP)(v:Int):cP:=Ks (TZ S P v)
def aB(P:cP)(v:Int):cP:=(upZ P.length).filter λa=>P.getD a.toNat 0==v
def vw(P:cP)(h a:Int):Int:=if hiB P h a=YK then a else h
def jT(P:cP)(l:cP):Int:=l.foldl (vw P) (l.getD 0 0)
def lg(P:cP):Nat->Int->cP
 |0,_=>[]
 |f+1,v=>(upZ P.length).flatMap λa=>if P.getD a.toNat 0=v then a::lg P f a else []

end
end Go.Proofs.YthicoeegbdboeaaGreatDoor
