/- Lemmas. No condition. -/
import Derived.Laws.RangeString
import Derived.Test.YtameambcolibjaaGreatDoorJD6
set_option maxRecDepth 100000
set_option maxHeartbeats 4000000
open Go.RowKit Go.Proofs.Tryz
open Option renaming some→UF,none→UG
open Bool renaming true→VA,false→WA
namespace Go.Proofs.YtameambcolibjaaGreatDoor
variable{α:Type}{j k a v i n b c:Nat}{S:Sch}{e x:Int}{P l r q:List Int}{T:TypeId}{f:FuncId}{xs:Array Operand}{G:List (BitVec 64)}{rest:BitVec 64}{p:Nat->Nat->Bool}{y:Operand}{I rem:List Bool}
section
open Mk
theorem Nz[DecidableEq α]{l:List α}{x:α}(h:¬x∈l):hasB l x=WA:=by unfold hasB;exact Up h
theorem Gg[DecidableEq α]{l:List α}{x:α}(h:x∈l):hasB l x=VA:=by unfold hasB;exact SR h
theorem jj{l:List α}(d:j<k)(s:j<l.length):l[j]∈l.take k:=VF.2 ⟨j,XX,O⟩
theorem PK  (d:¬ (S.attrs.length=0\/12<S.attrs.length\/S.rels.length=0\/6<S.rels.length\/8<S.feats.length))  (s:e≠0):
  (bV (gW S) S.attrs.length=e->bG S=e)/\(bV (gW S) S.attrs.length=0->ia S=e->bG S=e)/\(bV (gW S) S.attrs.length=0->ia S=0->bV (kH S) S.feats.length=e->bG S=e):=by grind[bG]
theorem xD(S:Sch)(hS:SB S):FnP prog 98 [gg S] (· = .int .i64 (bG S)):=by
 refine FnP.of func98 O ntmps98 X2 λ_ _ _ _=>?_
 have hb:=hS.a;have aW:=hS.r;have u:=hS.f;refine Z2 O<|Gr O<|Ar 5 O ?_;apply TX 5 24 29 [25,26,27,28] O X8
 .intro hb4;exact Ar 5 O<|TQ X7 O O O
 .intro hb4;exact Ar 5 O<|TQ X7 O O O
 refine A1 O ?_;apply TX 5 30 35 [31,32,33,34] O X8
 .intro hb10;exact Ar 5 O<|TQ X7 O O O
 .intro hb10;exact Ar 5 O<|TQ X7 O O O
 refine A1 O ?_;apply TX 5 36 41 [37,38,39,40] O X8
 .intro hb16;exact Ar 5 O<|TQ X7 O O O
 .intro hb16;exact Ar 5 O<|TQ X7 O O O
 refine A1 O ?_;apply TX 5 42 47 [43,44,45,46] O X8
 .intro hb22;exact Ar 5 O<|TQ X7 O O O
 .intro hb22;exact Ar 5 O<|TQ X7 O O O
 refine Gc O (λal=>?_) (λal=>?_)
 .exact Z1 O<|Gt O<|⟨_,_,O,O,ah (PV.int .i64) (by unfold bG;rw[AT ((Cs S).1 al)])⟩
 have hlim:¬ (S.attrs.length=0\/12<S.attrs.length\/S.rels.length=0\/6<S.rels.length\/8<S.feats.length):=λh=>by rw[(Cs S).2 h]at al;cases al
 have ad:=fun{e:Int}(h:e≠0)=>PK (S:=S) hlim h
 refine TM<|Z4 O<|Gz O (st:=λX6:Nat=>([(1,UG),(49,UG),(50,UG),(51,UF (pIi X6))],[(0,UG)])) 1
  (I:=λX6=>X6<=S.attrs.length/\bV (gW S) X6=0) (μ:=λX6=>S.attrs.length-X6) (x0:=(0)) (TO (aS O) (aO O) O O) (⟨aJ _,O⟩) ?_
 rintro k ⟨hk,hs⟩;refine Z1 O<|Gp O (λhc52=>?_) (λhc52=>?_)
 .have hlt:k<S.attrs.length:=XX;have H:=mj hlt;have hne:=iZ hlt;have aY:=CB S k hlt;have d:∀e:Int,e≠0->gW S k=e->PV.int .i64 e= .int .i64 (bG S):=λe h0 h1=>ah (PV.int .i64) (((ad h0).1 (by rw[gH hs (by rw[h1];exact h0) hlt,h1])).symm)
  refine TM<|Z2 O<|Rs O (aF ⟨_,underlying142,O⟩ nM O H O)<|Y3 O<|Z2 O<|Rs O (aa call170 (ow S.attrs[k].1 (hS.an _ (ak hlt))) O)<|A1 O<|Gc O (λaE=>?_) (λaE=>?_)
  .exact Z1 O<|Gt O<|⟨_,_,O,O,d 14 XZ (by rw[aY,AT (by simpa using aE)])⟩
  have hw:¬fI S.attrs[k].1=WA:=by simpa using aE
  refine TM<|Z1 O<|Gz O (st:=λao:Nat=>([(1,UG),(3,UG),(4,UG),(5,UF (pIi ao)),(49,UG),(50,UG),(51,UG)],[(0,UG),(1,UG)])) 2
   (I:=λao=>ao<=k/\¬S.attrs[k].1∈(S.attrs.map (·.1)).take ao) (μ:=λao=>k-ao) (x0:=(0)) (TO (aS O) (aO O) O O) (⟨aJ _,X2⟩) ?_
  rintro j ⟨hj,hno⟩;refine Z3 O<|Gp O (λhc62=>?_) (λhc62=>?_)
  .have hjk:j<k:=XX;have z:j<S.attrs.length:=XX;have hnm:(aK S.attrs)[j*2+0]? =UF (.str S.attrs[j].1):=ib _ 2 (λ_=>rfl) S.attrs j 0 z XZ;have aA:j<(S.attrs.map (·.1)).length:=by simpa using z
   have aB:(S.attrs.map (·.1))[j]=S.attrs[j].1:=X2;refine TM<|UB 9 O<|Dr 5 O ?_;first|refine D2 O O X0 ?_|refine D1 O ?_
   refine Dr 3 O ?_;refine⟨XY,?_⟩;refine Gc O (λaN=>?_) (λaN=>?_)
   .exact Z1 O<|Gt O<|⟨_,_,O,O,d 9 XZ (by rw[aY,pF hw,AT (Gg (by rw[<-baT aN,<-aB];exact jj hjk aA))])⟩
   exact TM<|Z3 O<|⟨(j+1),TO (aS O) (aO O) O O,⟨XX,gy aA hno (by rw[aB];exact baF aN)⟩,XX⟩
  have hno2:¬hasB ((S.attrs.map (·.1)).take k) S.attrs[k].1=VA:=by rw[show j=k by omega]at hno;rw[Nz hno];decide
  refine Gx O<|Z4 O ?_;apply TX 4 77 81 [78,79,80] O X8
  .intro u;exact Ar 4 O<|TQ X7 O O O
  .intro u;exact Ar 4 O<|TQ X7 O O O
  refine Gc O (λaP=>?_) (λaP=>?_)
  .exact Z1 O<|Gt O<|⟨_,_,O,O,d 7 XZ (by rw[aY,pF hw,pF hno2,AT (by simp at aP;omega)])⟩
  exact TM<|Z2 O<|⟨(k+1),TO (aS O) (aO O) O O,⟨XX,by rw[dM hs,aY,pF hw,pF hno2,pF (by simp at aP;omega)]⟩,XX⟩
 have hA:bV (gW S) S.attrs.length=0:=by rw[show S.attrs.length=k by omega];exact hs
 refine Gx O<|Gr O<|Ar 5 O<|Z4 O<|Gz O (st:=λA:Nat×List Bool=>([(1,UG),(6,UG),(88,UG),(89,UG),(90,UF (pIi A.1))],[(0,UG),(1,UF (.cells 4 (cI A.2)))])) 2
  (I:=λA=>A.1<=S.rels.length/\ff S.attrs.length A.2 (λa=>(S.rels.take A.1).any λx=>inB x.2 a)/\bV (xd S) A.1=0) (μ:=λA=>S.rels.length-A.1) (x0:=(0,List.replicate S.attrs.length WA)) (TO (aS O) ⟨O,ah (λc=>UF (Ob.cells 4 c)) ((cH (.bool WA) (S.attrs.length*1)).trans X2),X5⟩ O O) (⟨aJ _,ff.zero _,O⟩) ?_
 rintro⟨ri,U⟩ ⟨hk,hU,hs⟩;try simp only at hk hU hs ⊢
 refine Z1 O<|Gp O (λhc91=>?_) (λhc91=>?_)
 .have hlt:ri<S.rels.length:=XX;have H:=fi hlt;have hne:=ij hlt;have am:=tW S ri hlt;have hul:=hU.1;have hll:=hS.rl _ (ak hlt);have d:∀e:Int,e≠0->xd S ri=e->PV.int .i64 e= .int .i64 (bG S):=λe h0 h1=>ah (PV.int .i64) (((ad h0).2.1 hA (by unfold ia;rw[gH hs (by rw[h1];exact h0) hlt,AT (by rw[h1];exact h0),h1])).symm)
  refine TM<|Z2 O<|Rs O (aF ⟨_,underlying116,O⟩ xS O H O)<|Y3 O<|Z2 O<|Rs O (aa call170 (ow S.rels[ri].1 (hS.rn _ (ak hlt))) O)<|A1 O<|Gc O (λaR=>?_) (λaR=>?_)
  .exact Z1 O<|Gt O<|⟨_,_,O,O,d 14 XZ (by rw[am,AT (by simpa using aR)])⟩
  have hw:¬fI S.rels[ri].1=WA:=by simpa using aR
  refine TM<|Z1 O<|Gz O (st:=λap:Nat=>([(1,UG),(6,UG),(7,UG),(8,UG),(9,UF (pIi ap)),(88,UG),(89,UG),(90,UG)],[(0,UG),(1,UG),(2,UG)])) 3
   (I:=λap=>ap<=ri/\¬S.rels[ri].1∈(S.rels.map (·.1)).take ap) (μ:=λap=>ri-ap) (x0:=(0)) (TO (aS O) (aO O) O O) (⟨aJ _,X2⟩) ?_
  rintro j ⟨hj,hno⟩;refine Z3 O<|Gp O (λa2=>?_) (λa2=>?_)
  .have hjk:j<ri:=XX;have z:j<S.rels.length:=XX;have hnm:(aU S.rels)[j*2+0]? =UF (.str S.rels[j].1):=ib _ 2 (λ_=>rfl) S.rels j 0 z XZ;have aA:j<(S.rels.map (·.1)).length:=by simpa using z
   have aB:(S.rels.map (·.1))[j]=S.rels[j].1:=X2;refine TM<|UB 9 O<|Dr 5 O ?_;first|refine D2 O O X0 ?_|refine D1 O ?_
   refine Dr 3 O ?_;refine⟨XY,?_⟩;refine Gc O (λJ=>?_) (λJ=>?_)
   .exact Z1 O<|Gt O<|⟨_,_,O,O,d 9 XZ (by rw[am,pF hw,AT (Gg (by rw[<-baT J,<-aB];exact jj hjk aA))])⟩
   exact TM<|Z3 O<|⟨(j+1),TO (aS O) (aO O) O O,⟨XX,gy aA hno (by rw[aB];exact baF J)⟩,XX⟩
  have hno2:¬hasB ((S.rels.map (·.1)).take ri) S.rels[ri].1=VA:=by rw[show j=ri by omega]at hno;rw[Nz hno];decide
  refine Gx O<|Z4 O<|Gc O (λB=>?_) (λB=>?_)
  .exact Z1 O<|Gt O<|⟨_,_,O,O,d 7 XZ (by rw[am,pF hw,pF hno2,AT (by have:=ibT B;apply UM;omega)])⟩
  have hl0:¬S.rels[ri].2=[]:=λe=>by rw[e]at B;simp at B
  refine TM<|Z4 O<|Gz O (st:=λD:Nat×List Bool=>([(1,UG),(6,UG),(8,UG),(88,UG),(89,UG),(90,UG),(118,UG),(119,UG),(120,UF (pIi D.1))],[(0,UG),(1,UF (.cells 4 (cI D.2))),(2,UG)])) 3
   (I:=λD=>D.1<=S.rels[ri].2.length/\ff S.attrs.length D.2 (λa=>((S.rels.take ri).any λx=>inB x.2 a)||inB (S.rels[ri].2.take D.1) a)/\∀a∈S.rels[ri].2.take D.1,0<=a/\a<S.attrs.length) (μ:=λD=>S.rels[ri].2.length-D.1) (x0:=(0,U)) (TO (aS O) (aO O) O O) (⟨aJ _,hU.congr (λa _=>by simp[inB]),X2⟩) ?_
  rintro⟨q,U2⟩ ⟨hq,hU2,hr⟩;try simp only at hq hU2 hr ⊢
  refine Z1 O<|Gp O (λa3=>?_) (λa3=>?_)
  .have hql:q<S.rels[ri].2.length:=XX;have hv:=a7 hql;have a0:=aM hql;have hul2:=hU2.1;refine TM<|Z1 O ?_;first|refine A2 O X0 ?_|refine A1 O ?_
   refine A1 O<|Z3 O ?_;apply TX 5 126 131 [127,128,129,130] O X8
   .intro aW;exact Ar 5 O<|TQ X7 O O O
   .intro aW;exact Ar 5 O<|TQ X7 O O O
   refine Gc O (λL=>?_) (λL=>?_)
   .exact Z1 O<|Gt O<|⟨_,_,O,O,d 2 XZ (by rw[am,pF hw,pF hno2,pF hl0,AT (Ow hql (by simp at L;omega))])⟩
   have hx:0<=S.rels[ri].2[q]/\S.rels[ri].2[q]<S.attrs.length:=by simp at L;omega
   obtain⟨j,hj⟩:=tI hx.1;exact TM<|Z2 O<|Rs O (aj j underlying171 sz4 O O O hj XX)<|A1 O<|Z2 O<|⟨(q+1,U2.set j VA),TO (aS O) ⟨O,by show UF (Ob.cells _ _)=_;rw[<-xe];simp,O,X5⟩ O O,⟨X4,(hU2.set (a:=j) XX).congr (λa _=>xo hql hj),Bi hql hr hx⟩,X4⟩
  have hrng:(S.rels[ri].2.all λa=>decide (0<=a)&&decide (a<S.attrs.length))=VA:=yW (λa ha=>hr a (by rw[aG XX];exact ha));refine Gx O<|Z1 O<|Gz O (st:=λar:Nat=>([(1,UG),(6,UG),(8,UG),(12,UF (pIi ar)),(88,UG),(89,UG),(90,UG)],[(0,UG),(1,UG),(2,UG)])) 3
   (I:=λar=>1<=ar/\∀i,i+1<ar->i+1<S.rels[ri].2.length->S.rels[ri].2.getD i 0<S.rels[ri].2.getD (i+1) 0) (μ:=λar=>S.rels[ri].2.length-ar) (x0:=(1)) (TO (aS O) (aO O) O O) (⟨tJ _,λi hi=>by omega⟩) ?_
  rintro p ⟨hp1,hasc⟩;refine Gr O<|Ar 5 O<|Gp O (λa4=>?_) (λa4=>?_)
  .have hpl:p<S.rels[ri].2.length:=XX;have hpl1:p-1<S.rels[ri].2.length:=XX;have hv:=a7 hpl;have hv1:=a7 hpl1;have a0:=aM hpl;refine TM<|UB 12 O<|Dr 4 O ?_;first|refine D2 O O X0 ?_|refine D1 O ?_
   refine Dr 4 O<|Ds [] O (λτ h=>ag (p-1) underlying22 sz3 (Ee h 0 O O) (Ee h 1 O O) XX XX a0) O XY ?_;first|refine D2 O O X0 ?_|refine D1 O ?_
   refine D1 O ?_;refine⟨XY,?_⟩;refine Gp O (λaT=>?_) (λaT=>?_)
   .exact Z1 O<|Gt O<|⟨_,_,O,O,d 10 XZ (by rw[am,pF hw,pF hno2,pF hl0,pF (by rw[hrng];decide),AT (N3 hp1 hpl aT)])⟩
   exact TM<|Z3 O<|⟨(p+1),TO (aS O) (aO O) O O,⟨XX,AP hpl hp1 hasc XX⟩,XX⟩
  exact Gx O<|Z2 O<|⟨(ri+1,U2),TO (aS O) (aO O) O O,⟨X4,hU2.congr (λa _=>A9 hlt XX),by simp only;rw[dM hs,am,pF hw,pF hno2,pF hl0,pF (by rw[hrng];decide),pF (by rw[zi (λi hi=>hasc i XX hi)];decide)]⟩,X4⟩
 have hR:bV (xd S) S.rels.length=0:=by rw[show S.rels.length=ri by omega];exact hs
 have hU3:ff S.attrs.length U (uh S):=by rw[aG XX]at hU;exact hU
 have hul:=hU3.1;refine Gx O<|Z3 O<|Gz O (st:=λau:Nat=>([(1,UG),(6,UG),(156,UG),(157,UG),(158,UF (pIi au))],[(0,UG),(1,UG)])) 2
  (I:=λau=>au<=S.attrs.length/\∀b,b<au->uh S b=VA) (μ:=λau=>S.attrs.length-au) (x0:=(0)) (TO (aS O) (aO O) O O) (⟨aJ _,λb hb=>absurd hb (VV _)⟩) ?_
 rintro a ⟨ha,hus⟩;refine Z1 O<|Gp O (λa5=>?_) (λa5=>?_)
 .have s:a<S.attrs.length:=XX;have hua:=hU3.2 a s;have hva:(cI U)[a*1]? =UF (.bool (uh S a)):=by rw[Uv,Wc,hua];rfl
  refine TM<|Z1 O ?_;first|refine A2 O X0 ?_|refine A1 O ?_
  refine A1 O<|Z2 O<|Gc O (λM=>?_) (λM=>?_)
  .exact Z1 O<|Gt O<|⟨_,_,O,O,ah (PV.int .i64) (((ad XZ).2.1 hA (by unfold ia;rw[pF (λe=>e hR),AT (WG.2 ⟨a,Vj.2 s,by simpa using M⟩)])).symm)⟩
  exact TM<|Z2 O<|⟨(a+1),TO (aS O) (aO O) O O,⟨XX,λb hb=>by rcases Vu.1 hb with h|rfl;exact hus b h;simpa using M⟩,XX⟩
 have hRS:ia S=0:=vW hR (IX.2 λb hb=>hus b (by have:=Vj.1 hb;omega));refine Gx O<|Z4 O<|Gz O (st:=λax:Nat=>([(1,UG),(6,UG),(166,UG),(167,UG),(168,UF (pIi ax))],[(0,UG),(1,UG)])) 2
  (I:=λax=>ax<=S.feats.length/\bV (kH S) ax=0) (μ:=λax=>S.feats.length-ax) (x0:=(0)) (TO (aS O) (aO O) O O) (⟨aJ _,O⟩) ?_
 rintro f ⟨hk,hs⟩;refine Z1 O<|Gp O (λa6=>?_) (λa6=>?_)
 .have hlt:f<S.feats.length:=XX;have H:=nr hlt;have hne:=pS hlt;have aD:=ry S f hlt;have d:∀e:Int,e≠0->kH S f=e->PV.int .i64 e= .int .i64 (bG S):=λe h0 h1=>ah (PV.int .i64) (((ad h0).2.2 hA hRS (by rw[gH hs (by rw[h1];exact h0) hlt,h1])).symm)
  refine TM<|Z2 O<|Rs O (aF ⟨_,underlying150,O⟩ Ae O H O)<|Y3 O<|Z4 O ?_;apply TX 6 176 182 [177,178,179,180,181] O X8
  .intro u;exact Ar 6 O<|TQ X7 O O O
  .intro u;exact Ar 6 O<|TQ X7 O O O
  refine Gc O (λV=>?_) (λV=>?_)
  .exact Z1 O<|Gt O<|⟨_,_,O,O,d 2 XZ (by rw[aD,AT (by simp at V;omega)])⟩
  have hx:0<=S.feats[f].1/\S.feats[f].1<S.attrs.length:=by simp at V;omega
  obtain⟨a,ha⟩:=tI hx.1;have s:a<S.attrs.length:=XX;have hk2:(aK S.attrs)[a*2+1]? =UF (.int .i64 S.attrs[a].2):=ib _ 2 (λ_=>rfl) S.attrs a 1 s XZ;have af:=iZ s;have aZ:(S.attrs.getD S.feats[f].1.toNat default).2=S.attrs[a].2:=by rw[ha];simp[List.getD,s]
  refine TM<|Z4 O ?_;apply TY 9 186 195 [187,188,189,190,191,192,193,194] O X8
  .intro u;refine Ar 4 O ?_;apply TX 4 190 194 [191,192,193] O X8
   .intro hb7;exact Ar 4 O<|TQ X7 O O O
   .intro hb7;exact Ar 4 O<|TQ X7 O O O
   exact A1 O<|TQ X7 O O O
  .intro u;exact Ar 9 O<|TQ X7 O O O
  refine A1 O ?_;apply TY 9 196 205 [197,198,199,200,201,202,203,204] O X8
  .intro hb13;refine Ar 4 O<|Rg O (ag a underlying26 nM O O ha s af)<|A1 O ?_;first|refine A2 O X0 ?_|refine A1 O ?_
   exact Y2 O<|TQ X7 O O O
  .intro hb13;exact Ar 9 O<|TQ X7 O O O
  refine A1 O<|Z4 O ?_;apply TY 4 209 213 [210,211,212] O X8
  .intro u;exact Ar 4 O<|TQ X7 O O O
  .intro u;exact Ar 4 O<|TQ X7 O O O
  refine A1 O ?_;apply TY 9 214 223 [215,216,217,218,219,220,221,222] O X8
  .intro hb8;refine Ar 4 O<|Rg O (ag a underlying26 nM O O ha s af)<|A1 O ?_;first|refine A2 O X0 ?_|refine A1 O ?_
   exact Y2 O<|TQ X7 O O O
  .intro hb8;exact Ar 9 O<|TQ X7 O O O
  refine A1 O<|Z3 O ?_;apply TY 3 226 229 [227,228] O X8
  .intro aW;exact Y3 O<|TQ X7 O O O
  .intro aW;exact Y3 O<|TQ X7 O O O
  refine Gc O (λW=>?_) (λW=>?_)
  .exact Z1 O<|Gt O<|⟨_,_,O,O,d 7 XZ (by rw[aD,pF XX,aZ,AT (by revert W;generalize (S.feats[f].2.1==1)=b1;generalize (S.feats[f].2.2==0)=b2;generalize (S.feats[f].2.2==1)=b3;generalize (S.attrs[a].2==2)=b4;generalize (S.feats[f].2.1==2)=b5;generalize (S.attrs[a].2==3)=b6;cases b1<;>cases b2<;>cases b3<;>cases b4<;>cases b5<;>cases b6<;>decide)])⟩
  have hkind:¬ ((S.feats[f].2.1==1&&S.attrs[a].2==2&&(S.feats[f].2.2==0||S.feats[f].2.2==1))||(S.feats[f].2.1==2&&S.attrs[a].2==3&&S.feats[f].2.2==0))=WA:=by revert W;generalize (S.feats[f].2.1==1)=b1;generalize (S.feats[f].2.2==0)=b2;generalize (S.feats[f].2.2==1)=b3;generalize (S.attrs[a].2==2)=b4;generalize (S.feats[f].2.1==2)=b5;generalize (S.attrs[a].2==3)=b6;cases b1<;>cases b2<;>cases b3<;>cases b4<;>cases b5<;>cases b6<;>decide
  refine TM<|Z1 O<|Gz O (st:=λaz:Nat=>([(1,UG),(6,UG),(15,UG),(16,UG),(19,UF (pIi az)),(166,UG),(167,UG),(168,UG)],[(0,UG),(1,UG),(2,UG)])) 3
   (I:=λaz=>az<=f/\((S.feats.take az).any λg=>g.1==S.feats[f].1)=WA) (μ:=λaz=>f-az) (x0:=(0)) (TO (aS O) (aO O) O O) (⟨aJ _,O⟩) ?_
  rintro j ⟨hj,hno⟩;refine Z3 O<|Gp O (λa9=>?_) (λa9=>?_)
  .have hjk:j<f:=XX;have z:j<S.feats.length:=XX;have hnm:(aL S.feats)[j*3+0]? =UF (.int .i64 S.feats[j].1):=ib _ 3 (λ_=>rfl) S.feats j 0 z XZ;refine TM<|UB 9 O<|Dr 5 O ?_;first|refine D2 O O X0 ?_|refine D1 O ?_
   refine Dr 3 O ?_;refine⟨XY,?_⟩;refine Gc O (λZ=>?_) (λZ=>?_)
   .exact Z1 O<|Gt O<|⟨_,_,O,O,d 9 XZ (by rw[aD,pF XX,aZ,pF hkind,AT (by rw[UW];exact .inr (VL.2 ⟨S.feats[j],jj hjk z,Z⟩))])⟩
   exact TM<|Z3 O<|⟨(j+1),TO (aS O) (aO O) O O,⟨XX,gA z hno Z⟩,XX⟩
  rw[show j=f by omega]at hno;refine Gx O<|Gr O<|Ar 5 O<|Gc O (λab=>?_) (λab=>?_)
  .exact Z1 O<|Gt O<|⟨_,_,O,O,d 9 XZ (by rw[aD,pF XX,aZ,pF hkind,AT (by rw[UW];exact .inl ab)])⟩
  exact TM<|Z2 O<|⟨(f+1),TO (aS O) (aO O) O O,⟨XX,by rw[dM hs,aD,pF XX,aZ,pF hkind,pF (by rw[hno,ab];decide)]⟩,XX⟩
 have hF:bV (kH S) S.feats.length=0:=by rw[show S.feats.length=f by omega];exact hs
 have a1:=rA hlim hA hRS hF;refine Gx O<|Z4 O ?_;apply TX 6 253 259 [254,255,256,257,258] O X8
 .intro u;exact Ar 6 O<|TQ X7 O O O
 .intro u;exact Ar 6 O<|TQ X7 O O O
 refine Gc O (λac=>?_) (λac=>?_)
 .exact Z1 O<|Gt O<|⟨_,_,O,O,ah (PV.int .i64) (by rw[a1,AT (by simpa using ac)])⟩
 have hn:¬ (S.label< -1\/(S.attrs.length:Int)<=S.label):=by simpa using ac
 refine TM ?_;have hlv:0<=S.label->∃(a:Nat),S.label=(a:Int)/\a<S.attrs.length/\(aK S.attrs)[a*2+1]? =UF (.int .i64 (S.attrs.getD S.label.toNat default).2):=λh=>by obtain⟨a,ha⟩:=tI h;have s:a<S.attrs.length:=XX;refine⟨a,ha,s,?_⟩;rw[ha];simp only[Ux,List.getD,BY s];exact ib _ 2 (λ_=>rfl) S.attrs a 1 s XZ
 refine Z4 O ?_;apply TY 9 263 272 [264,265,266,267,268,269,270,271] O X8
 .intro u;obtain⟨a,ha,s,hk2⟩:=hlv (V9 u);have af:=iZ s;refine Ar 4 O<|Rg O (ag a underlying26 nM O O ha s af)<|A1 O ?_;first|refine A2 O X0 ?_|refine A1 O ?_
  exact Y2 O<|TQ X7 O O O
 .intro u;exact Ar 9 O<|TQ X7 O O O
 refine Gc O (λE=>?_) (λE=>?_)
 .exact Z1 O<|Gt O<|⟨_,_,O,O,ah (PV.int .i64) (by rw[a1,pF hn,AT (by simpa using E)])⟩
 exact TM<|Z1 O<|Gt O<|⟨_,_,O,O,ah (PV.int .i64) (by rw[a1,pF hn,pF (by rintro⟨h1,h2⟩;rw[SR (show S.label>=0 from h1),WV,bne_eq_false_iff_eq]at E;exact h2 E)])⟩
end
def upF(P:List Int):Nat->Int->Option (List Int)
 |0,x=>if x<0 then UF []else UG
 |k+1,x=>if x<0 then UF []else(upF P k (P.getD x.toNat 0)).map (x:: ·)
def abv(P:List Int)(v:Int):Option (List Int):=upF P P.length (P.getD v.toNat 0)
def cm(P:List Int)(v:Int):List Int:=(abv P v).getD []
def hiB(P:List Int)(a b:Int):Bool:=decide (a∈cm P b)
def dB(P:List Int)(l:List Int):Bool:=l.all λa=>l.all λb=>a==b||hiB P a b||hiB P b a
def o6(S:Sch)(P:List Int):Int:=
 if bG S≠0 then bG S
 else if P.length≠S.attrs.length then 5
 else if(P.any λp=>decide (p< -1)||decide ((P.length:Int)<=p))=VA then 2
 else if((List.range P.length).all λv=>(abv P v).isSome)=WA then 13
 else if(S.rels.all λr=>dB P r.2)=WA then 13 else 0
def dL(P:List Int)(v:Int):List Int:=((List.range P.length).map Int.ofNat).filter λa=>a==v||hiB P v a
def gm(S:Sch)(a b:Int):Bool:=S.rels.any λr=>decide (a∈r.2)&&decide (b∈r.2)
def NU(S:Sch)(P:List Int)(v:Int):List Int:=(cm P v).filter λa=>(dL P v).any λb=>gm S a b
theorem gU(h:x<0):upF P k x=UF []:=by
 cases k<;>simp[upF,h]
theorem vD(d:a<P.length):upF P (k+1) (a:Int)=(upF P k P[a]).map ((a:Int):: ·):=by
 have h:¬ ((a:Int)<0):=XX;simp[upF,List.getD,d,h]
theorem Cb(h:0<=x):upF P 0 x=UG:=by
 simp[upF];omega
theorem ID:∀{k:Nat}{x:Int}{l:List Int},upF P k x=UF l->l.length<=k
 |0,x,l,h=>by grind[upF]
 | k+1,x,l,h=>by
   simp only[upF]at h;split at h
   .cases h;simp
   cases e:upF P k (P.getD x.toNat 0)with
   |none=>rw[e]at h;cases h
   |some l'=>rw[e]at h;cases h;simp;exact ID e
theorem j5(P:List Int)(v:Int):(cm P v).length<=P.length:=by
 unfold cm;cases h:abv P v with
 |none=>simp
 |some l=>exact ID h
section
open Mk
abbrev nB(P:List Int):PV:=.agg [aq P]
theorem J3(L:List Int):(L.map (PV.int .i64)).take (L.length*1)=L.map (PV.int .i64):=aG X2
theorem sR(P:List Int)(v:Nat)(u:v<P.length)(D:∀p∈P,p<P.length)(U:P.length<=1000000):FnP prog 115 [nB P,.int .i64 v] (· = .tup [aq (cm P v),.bool (abv P v).isSome]):=by
 refine FnP.of func115 O ntmps115 X2 λ_ _ _ _=>?_
 have E:=a7 u;have H:=aM u;have z:abv P v=upF P P.length P[v]:=by simp[abv,List.getD,u]
 refine Z3 O<|Z1 O<|TN (TU 6 1 1 3 O O)<|Z4 O ?_;first|refine A2 O X0 ?_|refine A1 O ?_
 refine A1 O<|Gz O (st:=λX6:List Int×Int=>([(2,UG),(6,UF (.gsl 1 1 X6.1.length)),(7,UF (pIi X6.2))],[(0,UG),(1,UF (.gro 3 (aN X6.1)))])) 2
  (I:=λX6=>X6.1.length<=P.length/\X6.2<P.length/\abv P v=(upF P (P.length-X6.1.length) X6.2).map (X6.1++ ·)) (μ:=λX6=>P.length-X6.1.length) (x0:=([],P[v])) (TO (aS O) (aO O) O O) (⟨aJ _,D _ (ak u),by rw[z];simp⟩) ?_
 rintro⟨L,x⟩ ⟨hl,hx,hu⟩;try simp only at hl hx hu ⊢
 refine Z2 O<|Gp O (λs=>?_) (λs=>?_)
 .obtain⟨a,rfl⟩:=tI s;have A:a<P.length:=XX;have J:=a7 A;have M:(aN L).length=L.length*1:=X2;refine TM<|Gr O<|Ar 6 O<|Gc O (λd=>?_) (λd=>?_)
  .have hle:L.length=P.length:=by have:=ibT d;omega
   have B:abv P v=UG:=by rw[hu,hle,Nat.sub_self,Cb XX];rfl
   exact TN (St.lT [])<|Z2 O<|TN (St.lT [4])<|Gt O<|⟨_,_,O,O,by unfold cm;rw[B];rfl⟩
  have hlt:L.length<P.length:=by have:=ibF d;omega
  refine TM<|Gr O<|Ar 5 O<|Z4 O ?_;first|refine A2 O X0 ?_|refine A1 O ?_
  exact A1 O<|⟨(L++[(a:Int)],P[a]),TP [0,3] ⟨O,by simp;rfl,O,X5⟩ ⟨O,ah (λc=>UF (Ob.gro 3 c)) (fZ L a).symm,X5⟩ O O XZ O,⟨X3,D _ (ak A),by rw[hu,show P.length-L.length=P.length-(L++[(a:Int)]).length+1 by simp;omega,vD A,Option.map_map];congr 1;funext l;simp⟩,X3⟩
 exact Gx O<|TN (TR 1 O O)<|Z3 O<|Gt O<|⟨_,_,O,O,by rw[show abv P v=UF L by rw[hu,gU XX];simp];unfold cm;rw[show abv P v=UF L by rw[hu,gU XX];simp];simp[J3];rfl⟩
theorem qy(P:List Int)(a b:Int)(d:0<=b)(A:b<P.length)(s:∀p∈P,p<P.length)(u:P.length<=1000000):FnP prog 182 [nB P,.int .i64 a,.int .i64 b] (· = .bool (hiB P a b)):=by
 obtain⟨v,rfl⟩:=tI d;refine FnP.of func182 O ntmps182 X2 λ_ _ _ _=>?_
 have z:=j5 P v;exact Z2 O<|Z2 O<|Rs O (aa call115 (sR P v XX s u) O)<|Ar 5 O<|Z2 O<|Rs O (aa call244 (tU (cm P v) a XX) O)<|A1 O<|Gt O<|⟨_,_,O,O,O⟩
abbrev Sg(r:ByteArray×List Int):PV:=.agg [.str r.1,aq r.2]
theorem mE{l:List α}{p:α->Bool}(d:k<l.length)(h:(l.take k).all p=VA)(s:p l[k]=VA):(l.take (k+1)).all p=VA:=by
 rw[bH d];simp only[Xk,h,V1,s,Xx,Wu]
theorem rK{l:List α}{p:α->Bool}(d:k<l.length)(h:p l[k]=WA):l.all p=WA:=by
 rw[WG];exact⟨_,ak d,by rw[h];decide⟩
theorem IE(a b:Int)(p q:Bool):((a !=b&& !p)&& !q)= !(a==b||p||q):=by
 rw[bne];cases (a==b)<;>cases p<;>cases q<;>rfl
theorem EP(P:List Int)(r:ByteArray×List Int)(D:∀a∈r.2,0<=a/\a<P.length)(U:r.2.length<=1000000)(E:∀p∈P,p<P.length)(H:P.length<=1000000):FnP prog 118 [nB P,Sg r] (· = .bool (dB P r.2)):=by
 refine FnP.of func118 O ntmps118 X2 λ_ _ _ _=>?_
 refine Z3 O<|Z4 O<|Gz O (st:=λX6:Nat=>([(2,UG),(3,UG),(10,UG),(11,UG),(12,UF (pIi X6))],[(0,UG),(1,UG)])) 2
  (I:=λX6=>X6<=r.2.length/\((r.2.take X6).all λa=>r.2.all λb=>a==b||hiB P a b||hiB P b a)=VA) (μ:=λX6=>r.2.length-X6) (x0:=(0)) (TO (aS O) (aO O) O O) (⟨aJ _,O⟩) ?_
 rintro k ⟨hk,hall⟩;refine Z1 O<|Gp O (λA=>?_) (λA=>?_)
 .have hlt:k<r.2.length:=XX;have J:=a7 hlt;have L:=aM hlt;have u:=D _ (ak hlt);refine TM<|Z1 O ?_;first|refine A2 O X0 ?_|refine A1 O ?_
  refine A1 O<|Z4 O<|Gz O (st:=λs:Nat=>([(2,UG),(3,UG),(6,UG),(10,UG),(11,UG),(12,UG),(17,UG),(18,UG),(19,UF (pIi s))],[(0,UG),(1,UG)])) 2
   (I:=λs=>s<=r.2.length/\((r.2.take s).all λb=>r.2[k]==b||hiB P r.2[k] b||hiB P b r.2[k])=VA) (μ:=λs=>r.2.length-s) (x0:=(0)) (TO (aS O) (aO O) O O) (⟨aJ _,O⟩) ?_
  rintro j ⟨hj,hall2⟩;refine Z1 O<|Gp O (λB=>?_) (λB=>?_)
  .have hlt2:j<r.2.length:=XX;have M:=a7 hlt2;have z:=D _ (ak hlt2);refine TM<|Z1 O ?_;first|refine A2 O X0 ?_|refine A1 O ?_
   refine A1 O<|Z4 O ?_;apply TY 6 26 32 [27,28,29,30,31] O X8
   .intro hb3;exact Y3 O<|Rg O (aa call182 (qy P r.2[k] r.2[j] z.1 z.2 E H) O)<|Y2 O<|TQ X7 O O O
   .intro hb3;exact Ar 6 O<|TQ X7 O O O
   refine A1 O ?_;apply TY 6 33 39 [34,35,36,37,38] O X8
   .intro hb10;exact Y3 O<|Rg O (aa call182 (qy P r.2[j] r.2[k] u.1 u.2 E H) O)<|Y2 O<|TQ X7 O O O
   .intro hb10;exact Ar 6 O<|TQ X7 O O O
   refine Gc O (λd=>?_) (λd=>?_)
   .rw[IE,VM]at d;exact Z1 O<|Gt O<|⟨_,_,O,O,ah PV.bool (by unfold dB;rw[rK hlt (rK hlt2 d)])⟩
   rw[IE,Bool.not_eq_false']at d;exact TM<|Z2 O<|⟨(j+1),TO (aS O) (aO O) O O,⟨XX,mE hlt2 hall2 d⟩,XX⟩
  rw[aG XX]at hall2;exact Gx O<|Z2 O<|⟨(k+1),TO (aS O) (aO O) O O,⟨XX,mE hlt hall hall2⟩,XX⟩
 rw[aG XX]at hall;exact Gx O<|Z1 O<|Gt O<|⟨_,_,O,O,ah PV.bool (by unfold dB;rw[hall])⟩
theorem zt(P:List Int)(r:ByteArray×List Int)(d:∀a∈r.2,0<=a/\a<P.length)(s:r.2.length<=1000000)(u:∀p∈P,p<P.length)(z:P.length<=1000000):FnP prog 117 [Sg r,.rp [aq P] 0] (· = .bool (!dB P r.2)):=by
 refine FnP.of func117 O ntmps117 X2 λ_ _ _ _=>?_
 refine Z2 O<|Gr O ?_;first|refine A1 O ?_|refine A3 O X0 ?_
 exact A1 O<|Rs O (aa call118 (EP P r d s u z) O)<|Y2 O<|Gt O<|⟨_,_,O,O,O⟩
theorem FV(l:List (ByteArray×List Int))(g:FuncId)(caps:List PV)(p:ByteArray×List Int->Bool)(D:l.length<=1000000)(hc:db prog g)(B:∀f∈l,FnP prog g ([]++[Sg f]++caps) (· = .bool (p f))):
  FnP prog 181 [.sl UG l.length (aU l),.fn (.func g) [] caps] (λv=>∃i:Int,v= .int .i64 i/\decide (0<=i)=l.any p):=by
 refine FnP.of func181 O ntmps181 X2 λ_ _ _ _=>?_
 refine Z1 O<|Z3 O<|Gz O (st:=λX6:Nat=>([(0,UG),(1,UG),(7,UG),(8,UF (pIi X6))],[])) 0
  (I:=λX6=>X6<=l.length/\(l.take X6).any p=WA) (μ:=λX6=>l.length-X6) (x0:=(0)) (TO (aS O) trivial O O) (⟨aJ _,O⟩) ?_
 rintro k ⟨hk,hno⟩;refine Z1 O<|Gp O (λz=>?_) (λz=>?_)
 .have hlt:k<l.length:=XX;have s:=fi hlt;have A:=ij hlt;have u:=B _ (ak hlt);refine TM<|Z2 O<|Z4 O<|Rs O (aF ⟨_,underlying116,O⟩ xS O s O)<|Rs O (ja hc O u O)<|Gc O (λd=>?_) (λd=>?_)
  .exact Z2 O<|Gt O<|⟨_,_,O,O,_,O,by rw[sM hlt d];exact SR XX⟩
  exact TM<|Z2 O<|⟨(k+1),TO (aS O) trivial O O,⟨XX,gA hlt hno d⟩,XX⟩
 exact Gx O<|Z1 O<|Gt O<|⟨_,_,O,O,_,O,by rw[aG XX]at hno;rw[hno];rfl⟩
theorem rY(l:List (ByteArray×List Int))(g:FuncId)(caps:List PV)(p:ByteArray×List Int->Bool)(d:l.length<=1000000)(hc:db prog g)(s:∀f∈l,FnP prog g ([]++[Sg f]++caps) (· = .bool (p f))):
  FnP prog 116 [.sl UG l.length (aU l),.fn (.func g) [] caps] (· = .bool (l.any p)):=by
 refine FnP.of func116 O ntmps116 X2 λ_ _ _ _=>?_
 refine Z1 O<|Z2 O<|RL.call O (gZ call181 (FV l g caps p d hc s) O ?_);rintro _ ⟨i,rfl,hi⟩;exact Y2 O<|Gt O<|⟨_,_,O,O,ah PV.bool hi⟩
structure Valid(S:Sch):Prop where
 n1:1<=S.attrs.length
 n2:S.attrs.length<=12
 r1:1<=S.rels.length
 r2:S.rels.length<=6
 ne:∀r∈S.rels,r.2≠[]
 rng:∀r∈S.rels,∀a∈r.2,0<=a/\a<S.attrs.length
 asc:∀r∈S.rels,J7 r.2=VA
 use:∀a,a<S.attrs.length->∃r∈S.rels,(a:Int)∈r.2
theorem jd(h:bG S=0):Valid S:=by
 unfold bG at h;split at h
 .cases h
 rename_i hlim;split at h
 .rename_i h1;exact absurd h h1
 split at h
 .rename_i h1;exact absurd h h1
 rename_i _ d;have d:ia S=0:=U1 d;unfold ia at d;split at d
 .rename_i h1;exact absurd d h1
 rename_i z;have z:bV (xd S) S.rels.length=0:=U1 z;split at d
 .cases d
 rename_i hu;have s:∀r∈S.rels,r.2≠[]/\(r.2.all λa=>decide (0<=a)&&decide (a<S.attrs.length))=VA/\J7 r.2=VA:=by
  intro r d;obtain⟨i,hi,rfl⟩:=Vz d;have u:=ko.1 z i hi;unfold xd at u;rw[show S.rels.getD i default=S.rels[i] by simp[List.getD,hi]]at u;split at u
  .rename_i h1;exact absurd u h1
  grind
 refine⟨XX,XX,XX,XX,λr d=>(s r d).1,λr d a ha=>?_,λr d=>(s r d).2.2,λa ha=>?_⟩
 .grind
 have hu:((List.range S.attrs.length).all λa=>uh S a)=VA:=by simpa using hu
 have:=IX.1 hu a (Vj.2 ha);unfold uh at this;obtain⟨r,d,hm⟩:=VL.1 this;exact⟨r,d,by simpa[inB]using hm⟩
theorem fP(S:Sch)(hS:SB S)(P:List Int)(M:P.length<=1000000):FnP prog 54 [gg S,nB P] (· = .int .i64 (o6 S P)):=by
 refine FnP.of func54 O ntmps54 X2 λ_ _ _ _=>?_
 have W:=hS.a;refine Z3 O<|Z1 O<|Rs O (aa call114 (uR S hS) O)<|A1 O<|Z2 O<|Gc O (λu=>?_) (λu=>?_)
 .exact Z2 O<|Gt O<|⟨_,_,O,O,ah (PV.int .i64) (by unfold o6;rw[AT (inT u)])⟩
 have h0:bG S=0:=inF u;have H:=(jd h0).rng;refine TM<|Gr O<|Ar 7 O<|Gc O (λz=>?_) (λz=>?_)
 .have hne0:¬P.length=S.attrs.length:=by have:=inT z;omega
  exact Z1 O<|Gt O<|⟨_,_,O,O,ah (PV.int .i64) (by unfold o6;rw[pF (λh=>h h0),AT hne0])⟩
 have heq:P.length=S.attrs.length:=by have:=inF z;omega
 refine TM<|Z4 O<|Gz O (st:=λX6:Nat=>([(2,UG),(3,UG),(24,UG),(25,UG),(26,UF (pIi X6))],[(0,UG),(1,UG)])) 2
  (I:=λX6=>X6<=P.length/\((P.take X6).any λp=>decide (p< -1)||decide ((P.length:Int)<=p))=WA) (μ:=λX6=>P.length-X6) (x0:=(0)) (TO (aS O) (aO O) O O) (⟨aJ _,O⟩) ?_
 rintro k ⟨hk,hany⟩;refine Z1 O<|Gp O (λD=>?_) (λD=>?_)
 .have hlt:k<P.length:=XX;have U:=a7 hlt;have V:=aM hlt;refine TM<|Z1 O ?_;first|refine A2 O X0 ?_|refine A1 O ?_
  refine A1 O<|Z3 O ?_;apply TX 6 32 38 [33,34,35,36,37] O X8
  .intro hb2;exact Ar 6 O<|TQ X7 O O O
  .intro hb2;exact Ar 6 O<|TQ X7 O O O
  refine Gc O (λA=>?_) (λA=>?_)
  .exact Z1 O<|Gt O<|⟨_,_,O,O,ah (PV.int .i64) (by unfold o6;rw[pF (λh=>h h0),pF (λh=>h heq),AT (sM hlt A)])⟩
  exact TM<|Z2 O<|⟨(k+1),TO (aS O) (aO O) O O,⟨XX,gA hlt hany A⟩,XX⟩
 rw[aG XX]at hany;have L:∀p∈P,p<P.length:=λp hp=>by have:=Xy.1 hany p hp;simp at this;omega
 refine Gx O<|Z4 O<|Gz O (st:=λs:Nat=>([(2,UG),(3,UG),(42,UG),(43,UF (pIi s))],[(0,UG),(1,UG)])) 2
  (I:=λs=>s<=P.length/\((List.range s).all λv=>(abv P v).isSome)=VA) (μ:=λs=>P.length-s) (x0:=(0)) (TO (aS O) (aO O) O O) (⟨aJ _,O⟩) ?_
 rintro q ⟨hq,hall⟩;refine Z1 O<|Gp O (λE=>?_) (λE=>?_)
 .have hlt:q<P.length:=XX;refine TM<|Z2 O<|Z2 O<|Rs O (aa call115 (sR P q hlt L M) O)<|Ar 5 O<|Z2 O<|Gc O (λB=>?_) (λB=>?_)
  .have hno:((List.range P.length).all λv=>(abv P v).isSome)=WA:=WG.2 ⟨q,Vj.2 hlt,by simpa using B⟩;exact Z1 O<|Gt O<|⟨_,_,O,O,ah (PV.int .i64) (by unfold o6;rw[pF (λh=>h h0),pF (λh=>h heq),pF (by rw[hany];decide),AT hno])⟩
  exact TM<|Z2 O<|⟨(q+1),TO (aS O) (aO O) O O,⟨XX,by rw[Xn,Xk,hall];simpa using B⟩,XX⟩
 obtain rfl:q=P.length:=XX;refine Gx O<|TN (St.jC 1 O O) ?_;have J:∀r∈S.rels,FnP prog 117 ([]++[Sg r]++[.rp [aq P] 0]) (· = .bool (!dB P r.2)):=λr hr=>zt P r (by rw[heq];exact H r hr) (hS.rl r hr) L M
 refine Z3 O<|Rs O (aa call116 (rY S.rels 117 [.rp [aq P] 0] (λr=> !dB P r.2) hS.r call117 J) O)<|Gc O (λd=>?_) (λd=>?_)
 .have hno:(S.rels.all λr=>dB P r.2)=WA:=by rw[List.any_eq_not_all_not]at d;simpa using d
  exact Z1 O<|Gt O<|⟨_,_,O,O,ah (PV.int .i64) (by unfold o6;rw[pF (λh=>h h0),pF (λh=>h heq),pF (by rw[hany];decide),pF (by rw[hall];decide),AT hno])⟩
 have hno:(S.rels.all λr=>dB P r.2)=VA:=by rw[List.any_eq_not_all_not]at d;simpa using d
 exact TM<|Z1 O<|Gt O<|⟨_,_,O,O,ah (PV.int .i64) (by unfold o6;rw[pF (λh=>h h0),pF (λh=>h heq),pF (by rw[hany];decide),pF (by rw[hall];decide),pF (by rw[hno];decide)])⟩
end
section
section
variable {C:Ctx}{n:Nat}{σ:St}{dst:Option Tmp}{ty:TypeId}{pos:String}{after:Array Edge}{gd:Option (Nat×Bool)}{x y:Operand}
theorem fG{e:TypeId}{id s:Nat}{kh:IntKind}{ih:Int}{o:Ob}(h:Nat)(A:C.P.underlying T=UF (.slice e))(B:bR C.P e s)(H:σ.ev n x= .osl id s k)(D:σ.ob id=UF o)(J:σ.ev n y= .pv (.int kh ih))(L:ih=(h:Int))(M:h<=k)(u:o.real=VA:=by rfl):
  XJ C n ⟨dst,.slice T x UG (UF y) UG,ty,pos,after,gd⟩ σ ⟨.osl id s h,[],[]⟩:=
 .val λa w m R hw=>by
  obtain⟨b,N,c,he,hkc,hcm,hN,hm,hor⟩:=hw.osl H D u;have z:a.eval y= .int kh h:=by rw[hw.int J,L]
  have d:h<=c:=XX;have E:σ.av id=WA:=by
   cases hv:σ.av id with
   |false=>rfl
   |true=>have:=hw.hr.free id hv;rw[D]at this;cases this
  refine⟨.slice (UF ⟨b,0,UG⟩) h c,?_,?_⟩
  .by_cases hc0:c=0
   .subst hc0;have:h=0:=XX;subst this;simp[execOp,he,z,Instr.sliceAt,Instr.slice,Instr.sliceBounds,Instr.sliceBound,asIntOf,run_underlying A,B.run]
   simp[execOp,he,z,Instr.sliceAt,Instr.slice,Instr.sliceBounds,Instr.sliceBound,asIntOf,run_underlying A,B.run,d,Addr.add_lit,hc0]
  grind[Rel]
def St.cutO(σ:St)(id:Nat)(T:TypeId)(cs:List PV):St:=⟨σ.sl,obL [(id,UF (.cells T cs))] σ.ob,σ.av⟩
theorem St.QT{cs vs:List PV}(id j:Nat)(s:σ.ob id=UF (.cells T cs))(u:cs.take j=vs):σ.le (σ.cutO id T vs):=by
 subst u;refine St.Uc λd=>⟨d.sl,λp hp=>?_⟩
 obtain rfl:=IT.1 hp;refine⟨_,_,s,O,O,λb N _ ⟨arr,q1,q2,q3,q4⟩=>⟨arr,q1,q2,X3,?_⟩⟩;have:=q4.take j;rw[Xr]at this;rw[OF];exact this
end
end

section
section
variable {C:Ctx}{n:Nat}{σ:St}{dst:Option Tmp}{ty:TypeId}{ts:Array TypeId}{pos:String}{after:Array Edge}{gd:Option (Nat×Bool)}
theorem xy   {args:List V} {os:List (Nat×Ob)} {k':Nat} {Q:V->(Nat->Option Ob)->Prop} {K:St->Prop} (ids:List Nat) (base:Nat) (hc:db C.P f) (B:FnO C.P f ids.length k' args os Q) (d:xs.toList.map (σ.ev n)=V.renL (fh ids base) args)
  (D:V.allL (okR ids.length 0) args=VA) (hos:os.map (·.1)=(List.range ids.length).map (big+ ·)) (u:os.all (λp=>p.2.all (okR ids.length 0))=VA) (s:gJ σ (fh ids base) os)
  (z:ids.Nodup) (A:(nwO base k').all σ.av=VA)
  (E:∀v ob',Q v ob'->K (σ.app dst ⟨v.ren (fh ids base),wrO ids base k' ob',nwO base k'⟩)):
  OJ C n ⟨dst,.call { callee:=.value (.func f),args:=xs,argTypes:=ts },ty,pos,after,gd⟩ K σ:=cj ids base hc d D hos u s z A B E
end
end
section
open Mk
def zK(l:List Int):List Int:=l.mergeSort (λa b=>decide (a<=b))
theorem oB(l:List Int):(zK l).Perm l:=XF l _
theorem vQ(l:List Int):(zK l).Pairwise (· <= ·):=by
 have:=Xj (le:=λa b:Int=>decide (a<=b)) (by intro a b c;simp;omega) (by intro a b;simp;omega) l;exact this.imp X2
theorem Fg(d:l.Perm r)(s:l.Pairwise (· <= ·))(u:r.Pairwise (· <= ·)):l=r:=
 d.eq_of_pairwise (λa b _ _ h1 h2=>Int.le_antisymm h1 h2) s u
theorem uW(d:l.Perm r)(s:l.Pairwise (· <= ·)):l=zK r:=Fg (d.trans (oB r).symm) s (vQ r)
abbrev OX(l:List Int):Ob:=.cells 3 (aN l)
end
section
open Mk
def isB(S:Sch)(P:List Int)(v:Int):Bool:=((o6 S P==0)&&decide (v>=0))&&decide (v<P.length)
theorem P6{v:Int}:isB S P v=VA↔o6 S P=0/\0<=v/\v<P.length:=by
 unfold isB;simp[and_assoc]
theorem Rr(S:Sch)(hS:SB S)(P:List Int)(d:P.length<=1000000)(v:Int):FnP prog 199 [gg S,nB P,.int .i64 v] (· = .bool (isB S P v)):=by
 refine FnP.of func199 O ntmps199 X2 λ_ _ _ _=>?_
 refine Z3 O<|Z2 O<|Rs O (aa call54 (fP S hS P d) O)<|Y2 O ?_;apply TY 3 11 14 [12,13] O X8
 .intro hb4;exact Y3 O<|TQ X7 O O O
 .intro hb4;exact Y3 O<|TQ X7 O O O
 refine A1 O ?_;apply TY 6 15 21 [16,17,18,19,20] O X8
 .intro hb8;exact Ar 6 O<|TQ X7 O O O
 .intro hb8;exact Ar 6 O<|TQ X7 O O O
 exact A1 O<|Gt O<|⟨_,_,O,O,O⟩
structure OrdOk(S:Sch)(P:List Int):Prop where
 val:Valid S
 len:P.length=S.attrs.length
 rng:∀p∈P, -1<=p/\p<P.length
 up:∀v,v<P.length->(abv P (v:Int)).isSome=VA
 rt:∀r∈S.rels,dB P r.2=VA
theorem jO:o6 S P=0↔bG S=0/\OrdOk S P:=by
 unfold o6;constructor
 .intro h;split at h
  .rename_i s;exact absurd h s
  rename_i d;have d:bG S=0:=U1 d;split at h
  .cases h
  rename_i s;split at h
  .cases h
  rename_i u;split at h
  .cases h
  rename_i z;split at h
  .cases h
  rename_i A;have s:P.length=S.attrs.length:=U1 s;have u:(P.any λp=>decide (p< -1)||decide ((P.length:Int)<=p))=WA:=by simpa using u
  have z:((List.range P.length).all λv=>(abv P v).isSome)=VA:=by rw[Bool.not_eq_false]at z;exact z
  have A:(S.rels.all λr=>dB P r.2)=VA:=by simpa using A
  refine⟨d,jd d,s,λp hp=>?_,λv hv=>IX.1 z v (Vj.2 hv),λr hr=>IX.1 A r hr⟩;have:=Xy.1 u p hp;simp at this;omega
 rintro⟨d,h⟩;rw[pF (λe=>e d),pF (λe=>e h.len),pF,pF,pF]
 .rw[IX.2 λr hr=>h.rt r hr];decide
 .rw[IX.2 λv hv=>h.up v (Vj.1 hv)];decide
 rw[VL];rintro⟨p,hp,u⟩;have:=h.rng p hp;simp at u;omega
theorem qO(p:Int->Bool)(k:Nat):(upZ (k+1)).filter p=(upZ k).filter p++(if p k=VA then [(k:Int)]else []):=by
 rw[BE,List.filter_append]
 congr 1
 by_cases h:p k=VA<;>simp[h]
def gh(S:Sch)(P:List Int)(v:Int):List Int:=zK (NU S P v)
end
section
open Mk
def aC(P:List Int)(v:Int):List Int:=(upZ P.length).filter λa=>P.getD a.toNat 0==v
def badB(S:Sch)(P:List Int)(v:Int):Bool:=(v != -1&& !isB S P v)||(o6 S P !=0)
theorem uQ(S:Sch)(hS:SB S)(P:List Int)(B:P.length<=1000000)(v:Int):FnP prog 123 [gg S,nB P,.int .i64 v] (· =aq (if badB S P v=VA then []else aC P v)):=by
 refine FnP.of func123 O ntmps123 X2 λ_ _ _ _=>?_
 refine Z3 O<|Z3 O ?_;apply TY 6 12 18 [13,14,15,16,17] O X8
 .intro hb2;exact Y3 O<|Rg O (aa call199 (Rr S hS P B v) O)<|Y2 O<|TQ X7 O O O
 .intro hb2;exact Ar 6 O<|TQ X7 O O O
 refine A1 O ?_;apply TX 5 19 24 [20,21,22,23] O X8
 .intro hb9;exact Ar 5 O<|TQ X7 O O O
 .intro hb9;exact Y2 O<|Rg O (aa call54 (fP S hS P B) O)<|Y2 O<|TQ X7 O O O
 refine Gc O (λs=>?_) (λs=>?_)
 .exact Z1 O<|TN (St.lT [6])<|Gt O<|⟨_,_,O,O,by unfold badB;rw[AT s];rfl⟩
 refine TM<|Z1 O<|TN (TU 7 2 1 3 O O)<|Z4 O ?_;refine Gz O (st:=λX6:Nat×List Int=>([(2,UG),(7,UF (.gsl 2 1 X6.2.length)),(26,UG),(27,UG),(28,UF (pIi X6.1))],[(2,UF (.gro 3 (aN X6.2)))])) 3
  (I:=λX6=>X6.1<=P.length/\X6.2=(upZ X6.1).filter (λa=>P.getD a.toNat 0==v)) (μ:=λX6=>P.length-X6.1) (x0:=(0,[])) (TO (aS O) (aO O) O O) (⟨aJ _,O⟩) ?_
 rintro⟨k,L⟩ ⟨hk,hL⟩;try simp only at hk hL ⊢
 refine Z1 O<|Gp O (λz=>?_) (λz=>?_)
 .have hlt:k<P.length:=XX;have D:=a7 hlt;have E:=aM hlt;have H:L.length<=k:=by rw[hL];exact AI (VZ _ _) (by rw[bo];exact tJ _)
  have J:(aN L).length=L.length*1:=X2;have d:=qO (λa=>P.getD a.toNat 0==v) k;have A:P.getD (k:Int).toNat 0=P[k]:=by simp[List.getD,hlt]
  rw[A]at d;refine TM<|Z2 O ?_;first|refine A2 O X0 ?_|refine A1 O ?_
  refine Y2 O<|Z3 O<|Gc O (λu=>?_) (λu=>?_)
  .rw[AT u,<-hL]at d;exact Gr O<|Ar 5 O<|Z2 O<|⟨(k+1,L++[(k:Int)]),TP [0,1,4] ⟨O,by simp;rfl,O,O,O,X5⟩ ⟨ah (λc=>UF (Ob.gro 3 c)) (fZ L k).symm,X5⟩ O O XZ O,⟨X4,d.symm⟩,X4⟩
  rw[pF (by rw[u];decide),<-hL,Vg]at d;exact TM<|Z2 O<|⟨(k+1,L),TO (aS O) (aO O) O O,⟨X4,d.symm⟩,X4⟩
 exact Gx O<|TN (TR 2 O O)<|Z2 O<|Gt O<|⟨_,_,O,O,by unfold badB;rw[pF (by rw[s];decide),show aC P v=L by rw[hL,show k=P.length by omega];rfl];simp[J3];rfl⟩
def tN(P:List Int)(h a:Int):Int:=if hiB P h a=VA then a else h
def je(P:List Int)(l:List Int):Int:=l.foldl (tN P) (l.getD 0 0)
def Ed(S:Sch)(P:List Int)(r:Int):Bool:=((o6 S P !=0)||decide (r<0))||decide (r>=S.rels.length)
def kV(P:List Int):Nat->Int->List Int
 |0,_=>[]
 |f+1,v=>(upZ P.length).flatMap λa=>if P.getD a.toNat 0=v then a::kV P f a else []

end
section
open Mk
abbrev B64:=BitVec 64
abbrev gV(x:B64):PV:=.int .u64 (x.toNat:Int)
theorem tD(i:Int):IntKind.u64.wrap i=i%18446744073709551616:=by
 unfold IntKind.wrap;simp[IntKind.signed,IntKind.bits]
theorem yZ(x:B64):IntKind.u64.wrap (x.toNat:Int)=x.toNat:=by
 rw[tD];have:=x.isLt;omega
theorem ofInt64(x:B64):BitVec.ofInt IntKind.u64.bits (x.toNat:Int)=x:=by
 show BitVec.ofInt 64 _=x;rw[BitVec.ofInt_natCast,BitVec.ofNat_toNat,BitVec.setWidth_eq]
section
variable {C:Ctx}{n:Nat}{σ:St}{dst:Option Tmp}{ty t t':TypeId}{pos:String}{after:Array Edge}{gd:Option (Nat×Bool)}{x y:Operand}{X Y:B64}
theorem y9(d:σ.ev n x= .pv (gV X))(s:σ.ev n y= .pv (gV Y)):XJ C n ⟨dst,.binOp .and t x y t',ty,pos,after,gd⟩ σ ⟨.pv (gV (X&&&Y)),[],[]⟩:=
 aD d s (by simp only[yh,ofInt64];exact ah (λi=>UF (PV.int .u64 i)) (yZ _))
theorem B9(d:σ.ev n x= .pv (gV X))(s:σ.ev n y= .pv (gV Y)):XJ C n ⟨dst,.binOp .or t x y t',ty,pos,after,gd⟩ σ ⟨.pv (gV (X|||Y)),[],[]⟩:=
 aD d s (by simp only[yh,ofInt64];exact ah (λi=>UF (PV.int .u64 i)) (yZ _))
theorem Dw(d:σ.ev n x= .pv (gV X))(s:σ.ev n y= .pv (gV Y)):XJ C n ⟨dst,.binOp .andNot t x y t',ty,pos,after,gd⟩ σ ⟨.pv (gV (X&&& ~~~Y)),[],[]⟩:=
 aD d s (by simp only[yh,ofInt64];exact ah (λi=>UF (PV.int .u64 i)) (yZ _))
theorem Pm(d:σ.ev n x= .pv (gV X))(s:σ.ev n y= .pv (gV Y)):XJ C n ⟨dst,.binOp .sub t x y t',ty,pos,after,gd⟩ σ ⟨.pv (gV (X-Y)),[],[]⟩:=
 aD d s (by
  simp only[yh,tD];refine ah (λi=>UF (PV.int .u64 i)) ?_;have:=X.isLt;have:=Y.isLt;rw[BitVec.toNat_sub];omega)
theorem C8(X Y:B64):((X.toNat:Int)==(Y.toNat:Int))=decide (X=Y):=by
 rw[UH];simp only[VK,OC];exact⟨λh=>BitVec.eq_of_toNat_eq XX,λh=>by rw[h]⟩
theorem Q3(d:σ.ev n x= .pv (gV X))(s:σ.ev n y= .pv (gV Y)):XJ C n ⟨dst,.binOp .eql t x y t',ty,pos,after,gd⟩ σ ⟨.pv (.bool (decide (X=Y))),[],[]⟩:=
 aD d s (by simp only[yh,C8])
theorem I4(d:σ.ev n x= .pv (gV X))(s:σ.ev n y= .pv (gV Y)):XJ C n ⟨dst,.binOp .neq t x y t',ty,pos,after,gd⟩ σ ⟨.pv (.bool (decide (X≠Y))),[],[]⟩:=
 aD d s (by simp only[yh,bne,C8,decide_not])
theorem Rv(a:Nat){i:Int}{k':IntKind}(d:σ.ev n x= .pv (gV 1#64))(s:σ.ev n y= .pv (.int k' i))(u:i=(a:Int))(z:a<64):XJ C n ⟨dst,.binOp .shl t x y t',ty,pos,after,gd⟩ σ ⟨.pv (gV (BitVec.twoPow 64 a)),[],[]⟩:=by
 subst u;refine XJ.cast (Tq d s XX)<|ah (λi=>V.pv (PV.int .u64 i)) ?_;show IntKind.u64.wrap (1*2^(min (Int.toNat (a:Int)) 64))=_;rw[show min (Int.toNat (a:Int)) 64=a by omega,BitVec.toNat_twoPow,tD];simp
theorem Ip(a:Nat){i:Int}{k':IntKind}(d:σ.ev n x= .pv (gV X))(s:σ.ev n y= .pv (.int k' i))(u:i=(a:Int))(z:a<64):XJ C n ⟨dst,.binOp .shr t x y t',ty,pos,after,gd⟩ σ ⟨.pv (gV (X>>>a)),[],[]⟩:=by
 subst u;refine XJ.cast (Tg d s XX)<|ah (λi=>V.pv (PV.int .u64 i)) ?_;show Int.fdiv (X.toNat:Int) (2^(min (Int.toNat (a:Int)) 64))=_;rw[show min (Int.toNat (a:Int)) 64=a by omega,BitVec.toNat_ushiftRight,Nat.shiftRight_eq_div_pow];have e:(2:Int)^a=((2^a:Nat):Int):=X2;rw[e,Int.fdiv_eq_ediv_of_nonneg _ (Int.natCast_nonneg _)];simp
end
theorem Q0(X:B64)(a:Nat):decide ((X>>>a)&&&1#64=1#64)=X.getLsbD a:=by
 rw[UH,OC];constructor
 .intro h;have:=ah (λz:B64=>z.getLsbD 0) h;simpa using this
 grind
theorem z1(a:Nat)(d:a<64):FnP prog 69 [.int .i64 a] (· =gV (BitVec.twoPow 64 a)):=by
 refine FnP.of func69 O ntmps69 X2 λ_ _ _ _=>?_
 exact Z1 O<|Z1 O<|Rs O (Rv a O O O d)<|A1 O<|Gt O<|⟨_,_,O,O,O⟩
theorem R8(X:B64)(a:Nat)(d:a<64):FnP prog 131 [gV X,.int .i64 a] (· = .bool (X.getLsbD a)):=by
 refine FnP.of func131 O ntmps131 X2 λ_ _ _ _=>?_
 exact Z1 O<|Z2 O<|Rs O (Ip a O O O d)<|Rs O (y9 (Y:=1#64) O O)<|Rs O (Q3 (Y:=1#64) O O)<|A1 O<|Gt O<|⟨_,_,O,O,ah PV.bool (Q0 X a)⟩
abbrev Aw(G:List B64):List PV:=G.map gV
abbrev kG(G:List B64):PV:=.sl UG G.length (Aw G)
theorem AA{l:List B64}(h:k<l.length):(Aw l)[k*1]? =UF (gV l[k]):=by simp[h]
theorem M0{l:List B64}(h:k<l.length):Aw l≠[]:=by intro e;simp at e;subst e;simp at h
def J6(n:Nat):B64:=BitVec.twoPow 64 n-1#64
theorem Kv(s:n<64)(i:Nat):(J6 n).getLsbD i=decide (i<n):=by
 have e:J6 n=BitVec.ofNat 64 (2^n-1):=by
  apply BitVec.eq_of_toNat_eq;unfold J6;have d:2^n<2^64:=Nat.pow_lt_pow_right XZ s;have u:0<2^n:=Nat.pow_pos XZ;rw[BitVec.toNat_sub,BitVec.toNat_twoPow,BitVec.toNat_ofNat,Wx d];simp only[BitVec.toNat_ofNat];omega
 rw[e,BitVec.getLsbD_ofNat,Nat.testBit_two_pow_sub_one];by_cases h:i<n
 .simp[h];omega
 simp[h]
end
theorem zX(f:Nat->Bool):∀w:Nat,∃x:BitVec w,∀i,i<w->x.getLsbD i=f i
 |0=>⟨0#0,λi h=>absurd h (VV _)⟩
 | w+1=>by
   obtain⟨x,hx⟩:=zX f w;refine⟨BitVec.cons (f w) x,λi hi=>?_⟩;rw[BitVec.getLsbD_cons];by_cases e:i=w
   .rw[AT e,e]
   rw[pF e,hx i XX]
noncomputable def bitsOf(f:Nat->Bool):BitVec 64:=Classical.choose (zX f 64)
theorem sP(f:Nat->Bool)(h:i<64):(bitsOf f).getLsbD i=f i:=Classical.choose_spec (zX f 64) i h
theorem jS{x:BitVec 64}(h:x.getLsbD i=VA):i<64:=by grind
inductive Reach (G:List (BitVec 64)) (rest:BitVec 64) (a:Nat):Nat->Prop
 |refl:Reach G rest a a
 |step {b c:Nat}:Reach G rest a b->(G.getD b 0#64).getLsbD c=VA->rest.getLsbD c=VA->Reach G rest a c
noncomputable def compB(G:List (BitVec 64))(rest:BitVec 64)(a:Nat):BitVec 64:=bitsOf λb=>@decide (Reach G rest a b) (Classical.propDecidable _)
theorem p7(d:b<64):(compB G rest a).getLsbD b=VA↔Reach G rest a b:=by grind[compB,sP]
theorem kR(h:(compB G rest a).getLsbD b=VA):Reach G rest a b:=(p7 (jS h)).1 h
theorem wK{p q:α->Bool}:∀{l:List α},(∀a∈l,p a=VA->q a=VA)->(∃a∈l,p a=WA/\q a=VA)->l.countP p<l.countP q
 |[],_,⟨a,h,_⟩=>by cases h
 | x::l,h,⟨a,ha,h1,h2⟩=>by
   have hm:l.countP p<=l.countP q:=List.countP_mono_left λy hy=>h y (U0 _ hy)
   rw[List.countP_cons,List.countP_cons];by_cases e:a=x
   .subst e;rw[h1,h2];simp;omega
   have hr:=wK (l:=l) (λy hy=>h y (U0 _ hy)) ⟨a,(By.1 ha).resolve_left e,h1,h2⟩;have:=h x (Vx ..);by_cases ep:p x=VA
   .rw[ep,this ep];simp;omega
   grind
noncomputable def compsN(G:List (BitVec 64))(rest:BitVec 64):Nat->List (BitVec 64)×BitVec 64
 |0=>([],rest)
 |k+1=>if(compsN G rest k).2.getLsbD k=VA then((compsN G rest k).1++[compB G (compsN G rest k).2 k],(compsN G rest k).2&&& ~~~compB G (compsN G rest k).2 k)else compsN G rest k
structure IsG(S:Sch)(G:List (BitVec 64)):Prop where
 len:G.length=S.attrs.length
 bit:∀a,a<G.length->∀b:Nat,(G.getD a 0#64).getLsbD b=(decide (a≠b)&&gm S a b)
section
open Mk
theorem getD_eq{l:List α}(h:k<l.length)(d:α):l.getD k d=l[k]:=by simp[List.getD,h]
def Ib(n:Nat)(G:List B64)(p:Nat->Nat->Bool):Prop:=G.length=n/\∀a,a<n->∀b:Nat,(G.getD a 0#64).getLsbD b=p a b
theorem Ib.zero(n:Nat):Ib n (List.replicate n 0#64) (λ_ _=>WA):=⟨X2,λa ha b=>by simp[List.getD,ha]⟩
theorem Ib.congr{G:List B64}{q:Nat->Nat->Bool}(h:Ib n G p)(e:∀a,a<n->∀b,p a b=q a b):Ib n G q:=⟨h.1,λa ha b=>by rw[h.2 a ha b,e a ha b]⟩
theorem Ib.or{G:List B64}(h:Ib n G p)(s:i<n)(x:B64):Ib n (G.set i (G[i]'(by rw[h.1];exact s)|||x)) (λa b=>p a b||(decide (a=i)&&x.getLsbD b)):=by
 refine⟨by simp[h.1],λa ha b=>?_⟩;have d:i<G.length:=by rw[h.1];exact s
 by_cases e:a=i
 .subst e;have:=h.2 a ha b;rw[getD_eq d]at this;simp[List.getD,d,BitVec.getLsbD_or,this]
 have:=h.2 a ha b;simp only[List.getD]at this ⊢;rw[WQ (λu=>e u.symm),this];simp[e]
def uE(rs:List (ByteArray×List Int))(a b:Nat):Bool:=rs.any λr=>decide ((a:Int)∈r.2)&&decide ((b:Int)∈r.2)
theorem mY{q:Nat}(d:q<l.length)(s:l[q]=(i:Int))(a:Nat):(a:Int)∈l.take (q+1)↔(a:Int)∈l.take q\/a=i:=by grind[bH,IT]
theorem LK{rs:List (ByteArray×List Int)}{q:Nat}{all:B64}(u:q<l.length)(z:l[q]=(i:Int))(d:∀b:Nat,all.getLsbD b=decide ((b:Int)∈l)):
  ((decide (a≠b)&&(uE rs a b||(decide ((a:Int)∈l.take q)&&decide ((b:Int)∈l))))||(decide (a=i)&&(all&&& ~~~(BitVec.twoPow 64 i)).getLsbD b))=
  (decide (a≠b)&&(uE rs a b||(decide ((a:Int)∈l.take (q+1))&&decide ((b:Int)∈l)))):=by
 have s:decide ((a:Int)∈l.take (q+1))=(decide ((a:Int)∈l.take q)||decide (a=i)):=by
  rw[UH,UW,VH,VH,VH,mY u z]
 rw[s,BitVec.getLsbD_and,BitVec.getLsbD_not,BitVec.getLsbD_twoPow,d];by_cases hb:(b:Int)∈l
 .grind
 simp[hb]
theorem Ep{rs:List (ByteArray×List Int)}(d:k<rs.length):uE (rs.take (k+1)) a b=(uE (rs.take k) a b||(decide ((a:Int)∈rs[k].2)&&decide ((b:Int)∈rs[k].2))):=by
 unfold uE;rw[bH d];simp only[List.any_append,List.any_cons,List.any_nil,V2]
theorem Da(S:Sch)(hS:SB S)(V:Valid S):FnP prog 66 [gg S] (λv=>∃G,v=kG G/\IsG S G):=by
 refine FnP.of func66 O ntmps66 X2 λ_ _ _ _=>?_
 have hb:=V.n2;have W:=V.r2;refine Z2 O<|Gr O<|Ar 5 O<|Z4 O<|Gz O (st:=λX6:Nat×List B64=>([(3,UG),(16,UG),(17,UG),(18,UF (pIi X6.1))],[(1,UF (.cells 162 (Aw X6.2)))])) 2
  (I:=λX6=>X6.1<=S.rels.length/\Ib S.attrs.length X6.2 (λa b=>decide (a≠b)&&uE (S.rels.take X6.1) a b)) (μ:=λX6=>S.rels.length-X6.1) (x0:=(0,List.replicate S.attrs.length 0#64)) (TO (aS O) ⟨ah (λc=>UF (Ob.cells 162 c)) ((cH (.int .u64 0) (S.attrs.length*1)).trans X2),X5⟩ O O) (⟨aJ _,(Ib.zero _).congr (λa _ b=>by simp[uE])⟩) ?_
 rintro⟨k,G⟩ ⟨hk,hG⟩;try simp only at hk hG ⊢
 refine Z1 O<|Gp O (λH=>?_) (λH=>?_)
 .have hlt:k<S.rels.length:=XX;have D:=fi hlt;have Z:=ij hlt;have ab:=hS.rl _ (ak hlt);have z:=V.rng _ (ak hlt);refine TM<|Z1 O<|Rs O (aF ⟨_,underlying116,O⟩ xS O D O)<|Y2 O<|Z1 O<|Z4 O<|Gz O (st:=λs:Nat×B64=>([(3,UG),(5,UG),(6,UF (.pv (gV s.2))),(16,UG),(17,UG),(18,UG),(23,UG),(24,UG),(25,UF (pIi s.1))],[(1,UG),(2,UG)])) 3
   (I:=λs=>s.1<=S.rels[k].2.length/\∀b:Nat,s.2.getLsbD b=decide ((b:Int)∈S.rels[k].2.take s.1)) (μ:=λs=>S.rels[k].2.length-s.1) (x0:=(0,0#64)) (TO (aS O) (aO O) O O) (⟨aJ _,λb=>by simp⟩) ?_
  rintro⟨q,all⟩ ⟨hq,hall⟩;try simp only at hq hall ⊢
  refine Z1 O<|Gp O (λJ=>?_) (λJ=>?_)
  .have hql:q<S.rels[k].2.length:=XX;have hv:=a7 hql;have E:=aM hql;have A:=z _ (ak hql);obtain⟨i,hi⟩:=tI A.1;have B:FnP prog 69 [.int .i64 S.rels[k].2[q]] (· =gV (BitVec.twoPow 64 i)):=by rw[hi];exact z1 i XX
   refine TM<|Z1 O ?_;first|refine A2 O X0 ?_|refine A1 O ?_
   exact A1 O<|Z2 O<|Rs O (aa call69 B O)<|Rs O (B9 O O)<|A1 O<|Z2 O<|⟨(q+1,all|||BitVec.twoPow 64 i),TO (aS O) (aO O) O O,⟨X4,λb=>by simp only;rw[BitVec.getLsbD_or,hall,BitVec.getLsbD_twoPow,UH,UW,VH,VH,mY hql hi,dO,VH,VH];exact or_congr Iff.rfl ⟨λh=>h.2.symm,λh=>⟨XX,h.symm⟩⟩⟩,X4⟩
  rw[aG XX]at hall;refine Gx O<|Z4 O<|Gz O (st:=λu:Nat×List B64=>([(3,UG),(6,UG),(16,UG),(17,UG),(18,UG),(35,UG),(36,UG),(37,UF (pIi u.1))],[(1,UF (.cells 162 (Aw u.2)))])) 3
   (I:=λu=>u.1<=S.rels[k].2.length/\Ib S.attrs.length u.2 (λa b=>decide (a≠b)&&(uE (S.rels.take k) a b||(decide ((a:Int)∈S.rels[k].2.take u.1)&&decide ((b:Int)∈S.rels[k].2))))) (μ:=λu=>S.rels[k].2.length-u.1) (x0:=(0,G)) (TO (aS O) (aO O) O O) (⟨aJ _,hG.congr (λa _ b=>by simp)⟩) ?_
  rintro⟨q2,G2⟩ ⟨hq2,hG2⟩;try simp only at hq2 hG2 ⊢
  refine Z1 O<|Gp O (λL=>?_) (λL=>?_)
  .have hql:q2<S.rels[k].2.length:=XX;have hv:=a7 hql;have E:=aM hql;have A:=z _ (ak hql);obtain⟨i,hi⟩:=tI A.1;have M:i<G2.length:=by rw[hG2.1];omega
   have hgl:=hG2.1;have U:=AA M;have B:FnP prog 69 [.int .i64 S.rels[k].2[q2]] (· =gV (BitVec.twoPow 64 i)):=by rw[hi];exact z1 i XX
   refine TM<|Z1 O ?_;first|refine A2 O X0 ?_|refine A1 O ?_
   refine A1 O<|UB 11 O<|Dr 2 O<|Ds [_] O (λτ h=>aj i underlying158 Ml (Ee h 0 O O) (Eo h 0 O O) (Ee h 1 O O) hi XX) O XY<|Ds [_] O (λτ h=>cL ⟨_,underlying162,O⟩ (Ee h 0 O O) (Eo h 0 O O) U) O XY<|Dr 2 O<|Ds [] O (λτ h=>aa call69 B (h.aE O)) O XY<|Ds [] O (λτ h=>Dw (Ee h 0 O O) (Ee h 1 O O)) O XY<|Ds [] O (λτ h=>B9 (Ee h 0 O O) (Ee h 1 O O)) O XY<|Ds [_] O (λτ h=>aj i underlying158 Ml (Ee h 0 O O) (Eo h 0 O O) (Ee h 1 O O) hi XX) O XY<|DL.step (d:=UG) [_] O O O (λτ h=>bY Ml (Ee h 0 O O) (Eo h 0 O O) (Ee h 1 O O) O X3) O XY ?_;refine⟨XY,?_⟩;exact Z2 O<|⟨(q2+1,G2.set i (G2[i]|||(all&&& ~~~(BitVec.twoPow 64 i)))),TO (aS O) ⟨by show UF (Ob.cells _ _)=_;simp[U9],X5⟩ O O,⟨X4,(hG2.or XX _).congr (λa _ b=>LK hql hi hall)⟩,X4⟩
  have hG3:=hG2.congr (q:=λa b=>decide (a≠b)&&uE (S.rels.take (k+1)) a b) (λa _ b=>by rw[show S.rels[k].2.take q2=S.rels[k].2 from aG XX,Ep hlt]);exact Gx O<|Z2 O<|⟨(k+1,G2),TO (aS O) (aO O) O O,⟨X4,hG3⟩,X4⟩
 rw[aG XX]at hG;exact Gx O<|TN (TR 1 O O)<|Z2 O<|TN (St.lT [2])<|Gt O<|⟨_,_,O,O,G,by show PV.sl UG S.attrs.length (Aw G)=_;rw[<-hG.1],hG.1,λa ha b=>by rw[hG.2 a (by rw[<-hG.1];exact ha) b];rfl⟩
end
section
open Mk
section
variable {C:Ctx}{n:Nat}{σ τ:St}{ops:Array Oper}{dst:Option Tmp}{ty:TypeId}{ts:Array TypeId}{pos:String}{after:Array Edge}{gd:Option (Nat×Bool)}
theorem Agr.dD{s:OS}{rd:List Nat}(h:Agr n ops ⟨dst,.call { callee:=.value y,args:=xs,argTypes:=ts },ty,pos,after,gd⟩ σ τ s rd):xs.toList.map (τ.ev n)=xs.toList.map (σ.ev n):=by
 apply UT;intro x hx;obtain⟨i,hi⟩:=VE hx;exact h.e (i+1) x (by simpa[Op.operands,Call.operands,WZ]using hi)
theorem mq{fs cs:List V}{args:List V}{os:List (Nat×Ob)}{k':Nat}{r:V}{X:Nat->Option Ob}{vs:List V}(ids:List Nat)(base:Nat)(hc:db C.P f)(D:FnO C.P f ids.length k' args os (λv ob'=>v=r/\ob'=X))(E:σ.ev n y= .fn (.func f) fs cs)(u:xs.toList.map (σ.ev n)=vs)(d:fs++vs++cs=V.renL (fh ids base) args)
  (H:V.allL (okR ids.length 0) args=VA) (hos:os.map (·.1)=(List.range ids.length).map (big+ ·)) (z:os.all (λp=>p.2.all (okR ids.length 0))=VA) (s:gJ σ (fh ids base) os)
  (A:ids.Nodup) (B:(nwO base k').all σ.av=VA):
  XJ C n ⟨dst,.call { callee:=.value y,args:=xs,argTypes:=ts },ty,pos,after,gd⟩ σ ⟨r.ren (fh ids base),wrO ids base k' X,nwO base k'⟩:=
 Ir ids base hc E (by rw[u];exact d) H hos z s A B D (by rintro _ _ ⟨rfl,rfl⟩;rfl)
end
def jP(q:List Int)(W:B64->Int->List Int->List Int)(par:Int)(P:List Int)(c:B64):List Int:=
 match q.find? (λa=>c.getLsbD a.toNat)with
 |some a=>W (c&&& ~~~(BitVec.twoPow 64 a.toNat)) a (P.set a.toNat par)
 |none=>P
noncomputable def placeF(G:List B64)(q:List Int):Nat->B64->Int->List Int->List Int
 |0,_,_,P=>P
 |f+1,rest,par,P=>(compsN G rest G.length).1.foldl (jP q (placeF G q f) par) P
theorem xw{G:List B64}{R:B64}(d:R.getLsbD a=VA)(h:(compB G R a).getLsbD i=VA):R.getLsbD i=VA:=by
 cases kR h with
 |refl=>exact d
 |step _ _ h=>exact h
theorem yk(G:List B64)(rest:B64):∀k,(∀i,(compsN G rest k).2.getLsbD i=VA->rest.getLsbD i=VA)/\∀c∈(compsN G rest k).1,∀i,c.getLsbD i=VA->rest.getLsbD i=VA
 |0=>⟨λ_ h=>h,λc hc=>by simp[compsN]at hc⟩
 | k+1=>by
   obtain⟨h1,h2⟩:=yk G rest k;simp only[compsN];split
   .rename_i hk;refine⟨λi hi=>?_,λc hc i hi=>?_⟩
    .grind
    grind[UN.1,IT.1,xw]
   exact⟨h1,h2⟩
def lL(x:B64):Nat:=(List.range 64).countP λi=>x.getLsbD i
theorem SC{x y:B64}(h:∀i,x.getLsbD i=VA->y.getLsbD i=VA)(s:x.getLsbD j=WA)(d:y.getLsbD j=VA):lL x<lL y:=
 wK (λa _ ha=>h a ha) ⟨j,Vj.2 (jS d),s,d⟩
theorem pq(c:B64)(a i:Nat):(c&&& ~~~(BitVec.twoPow 64 a)).getLsbD i=(c.getLsbD i&&decide (a≠i)):=by grind
theorem LH{G:List B64}{rest c:B64}(hc:c∈(compsN G rest k).1)(s:c.getLsbD a=VA):lL (c&&& ~~~(BitVec.twoPow 64 a))<lL rest:=by
 have d:=(yk G rest k).2 c hc;refine SC (λi hi=>?_) (j:=a) ?_ (d a s)
 .grind
 rw[pq];simp
theorem MZ{x:B64}(h:lL x=0)(i:Nat):x.getLsbD i=WA:=by
 cases e:x.getLsbD i with
 |false=>rfl
 | true=>
   have:=List.countP_eq_zero.1 h i (Vj.2 (jS e));exact absurd e this
theorem pW(G:List B64)(q:List Int):∀(f:Nat)(rest:B64)(par:Int)(P:List Int),(placeF G q f rest par P).length=P.length
 |0,_,_,_=>rfl
 | f+1,rest,par,P=>by
   simp only[placeF];generalize (compsN G rest G.length).1=cs;induction cs generalizing P with
   |nil=>rfl
   | cons c cs ih=>
     rw[VO,ih];unfold jP;split
     .rw[pW G q f];simp
     .rfl
theorem H9(x:B64):lL x<=64:=AI List.countP_le_length X2
noncomputable def ofL(G:List B64)(q:List Int):List Int:=placeF G q 64 (J6 G.length) (-1) (List.replicate G.length 0)
theorem Qg(G:List B64)(q:List Int):(ofL G q).length=G.length:=by unfold ofL;rw[pW];simp
end
section
open Mk
noncomputable def gr(S:Sch):List B64:=(List.range S.attrs.length).map λa=>bitsOf λb=>decide (a≠b)&&gm S a b
theorem Cg(S:Sch):(gr S).length=S.attrs.length:=by simp[gr]
theorem pR(d:Valid S){a b:Int}(h:gm S a b=VA):(0<=a/\a<S.attrs.length)/\(0<=b/\b<S.attrs.length):=by
 unfold gm at h;obtain⟨r,hr,h2⟩:=VL.1 h;simp at h2;exact⟨d.rng r hr a h2.1,d.rng r hr b h2.2⟩
theorem Ba(d:Valid S)(s:a<S.attrs.length)(b:Nat):((gr S).getD a 0#64).getLsbD b=(decide (a≠b)&&gm S a b):=by
 have e:(gr S).getD a 0#64=bitsOf λb=>decide (a≠b)&&gm S a b:=by simp[gr,List.getD,s]
 rw[e];by_cases hb:b<64
 .rw[sP _ hb]
 rw[BitVec.getLsbD_of_ge _ _ XX];cases hl:gm S a b with
 |false=>simp
 |true=>have:=(pR d hl).2;have:=d.n2;omega
theorem Sn(u:Valid S){G:List B64}(h:IsG S G):G=gr S:=by
 apply Vq
 .rw[h.len,Cg]
 .intro a h1 h2;apply BitVec.eq_of_getLsbD_eq;intro b _;have d:=h.bit a h1 b;have s:=Ba u (a:=a) (by rw[<-h.len];exact h1) b;rw[getD_eq h1]at d;rw[getD_eq h2]at s;rw[d,s]
noncomputable def ordL(S:Sch)(q:List Int):List Int:=ofL (gr S) q
def JL(q:List Int):Nat->Bool
 |0=>WA
 |k+1=>JL q k||decide (q.getD k 0∈q.take k)
theorem RU(d:k<n)(h:decide (q.getD k 0∈q.take k)=VA):JL q n=VA:=by
 induction n with
 |zero=>omega
 | succ n ih=>
   simp only[JL,UW];by_cases e:k=n
   .subst e;exact .inr h
   exact .inl (ih XX)
def ofE(S:Sch)(q:List Int):Int:=
 if bG S≠0 then bG S
 else if q.length≠S.attrs.length then 5
 else if(q.any λa=>decide (a<0)||decide (a>=(q.length:Int)))=VA then 2
 else if JL q q.length=VA then 9 else 0
noncomputable def ofV(S:Sch)(q:List Int):PV:=.tup [nB (if ofE S q=0 then ordL S q else []),.int .i64 (ofE S q)]
theorem uT(h:ofE S q=e)(d:e≠0):ofV S q= .tup [nB [],.int .i64 e]:=by
 unfold ofV;rw[h,pF d]
theorem KO(D:bG S=0)(u:q.Perm (upZ S.attrs.length)):ofE S q=0:=by
 have z:q.length=S.attrs.length:=by rw[u.length_eq,bo]
 have A:∀a∈q,0<=a/\a<S.attrs.length:=by grind[upZ,IS.1,Vj.1]
 have d:q.Nodup:=u.nodup_iff.2 (by unfold upZ;exact List.Pairwise.map _ (λa b h e=>h (Int.ofNat.inj e)) List.nodup_range);have B:∀k,k<=q.length->JL q k=WA:=by
  intro k;induction k with
  |zero=>intro _;rfl
  | succ k ih=>
    intro hk;simp only[JL,ih XX,Bool.false_or,Vt,getD_eq (show k<q.length by omega)];intro hm;obtain⟨i,hi,e⟩:=VF.1 hm;have s:i<k:=XX;have:=UY.1 d i k XX XX s;exact this e
 unfold ofE;rw[pF (λh=>h D),pF (λh=>h z),pF,pF (by rw[B _ (tJ _)];decide)];rw[VL];rintro⟨a,ha,h⟩;have:=A a ha;simp at h;omega
end
section
theorem fF[DecidableEq α]{l r:List α}(d:l.Nodup)(s:r.Nodup)(h:∀a,a∈l↔a∈r):l.Perm r:=by grind
theorem cf:x∈upZ n↔∃a:Nat,a<n/\x=(a:Int):=by grind[upZ,Vj.1,Vj.2]
theorem cQ(n:Nat):(upZ n).Nodup:=by grind[upZ,Int.ofNat.inj,List.nodup_range]
theorem Tl(n:Nat):(upZ n).Pairwise (· < ·):=by grind[upZ,List.pairwise_lt_range]
structure UpOk(P:List Int):Prop where
 rng:∀p∈P, -1<=p/\p<P.length
 up:∀v,v<P.length->(abv P (v:Int)).isSome=VA
theorem ph:∀{k:Nat}{x:Int}{l:List Int},upF P k x=UF l->upF P (k+1) x=UF l
 |0,x,l,h=>by grind[upF]
 | k+1,x,l,h=>by
   simp only[upF]at h;unfold upF;split at h
   .rename_i hx;rw[AT hx];exact h
   rename_i hx;rw[pF hx];cases e:upF P k (P.getD x.toNat 0)with
   |none=>rw[e]at h;cases h
   | some l'=>
     rw[e]at h;rw[ph e];exact h
section
variable {P:List Int}(hP:UpOk P)
include hP
theorem x6(d:v<P.length):P[v]= -1\/∃a:Nat,a<P.length/\P[v]=(a:Int):=by
 have:=hP.rng _ (ak d);by_cases h:P[v]= -1
 .exact .inl h
 obtain⟨a,ha⟩:=tI (show 0<=P[v] by omega);exact .inr ⟨a,XX,ha⟩
omit hP in
theorem xn(d:v<P.length):abv P v=upF P P.length P[v]:=by simp[abv,List.getD,d]
omit hP in
theorem qa(d:v<P.length)(h:P[v]= -1):cm P v=[]:=by
 unfold cm;rw[xn d,h,gU XZ];rfl
theorem mD(s:v<P.length)(u:a<P.length)(h:P[v]=(a:Int)):cm P v=(a:Int)::cm P a:=by
 have d:=hP.up v s;have e:=xn s;rw[h]at e;obtain⟨k,hk⟩:∃k,P.length=k+1:=⟨P.length-1,XX⟩;rw[hk,vD u]at e;cases e2:upF P k P[a]with
 |none=>rw[e,e2]at d;cases d
 | some l=>
   have z:abv P a=UF l:=by rw[xn u,hk];exact ph e2
   unfold cm;rw[e,e2,z];rfl
theorem wG{motive:Nat->Prop}(root:∀v (d:v<P.length),P[v]= -1->cm P v=[]->motive v)
  (step:∀v (d:v<P.length) a (_:a<P.length),P[v]=(a:Int)->cm P v=(a:Int)::cm P a->motive a->motive v):∀v,v<P.length->motive v:=by
 have s:∀m v,v<P.length->(cm P v).length<=m->motive v:=by
  intro m;induction m with
  | zero=>
    intro v d hl;rcases x6 hP d with h|⟨a,ha,h⟩
    .exact root v d h (qa d h)
    grind[mD]
  | succ m ih=>
    intro v d hl;rcases x6 hP d with h|⟨a,ha,h⟩
    .exact root v d h (qa d h)
    grind[mD,step]
 exact λv d=>s _ v d (tJ _)
theorem mX:∀v,v<P.length->∀x∈cm P v,∃a:Nat,a<P.length/\x=(a:Int)/\∃pre,cm P v=pre++(a:Int)::cm P a:=by
 refine wG hP (λv hv h e x hx=>?_) (λv hv a ha h e ih x hx=>?_)
 .rw[e]at hx;cases hx
 rw[e]at hx ⊢;rcases By.1 hx with rfl|hx
 .exact⟨a,ha,O,[],O⟩
 grind
theorem JI(d:v<P.length)(h:(a:Int)∈cm P v):a<P.length/\(cm P a).length<(cm P v).length:=by grind[mX]
theorem wm(d:v<P.length):(v:Int)∉cm P v:=λh=>Nat.lt_irrefl _ (JI hP d h).2
theorem pA(hc:c<P.length)(d:(a:Int)∈cm P b)(s:(b:Int)∈cm P c):(a:Int)∈cm P c:=by grind[mX,Xw,U0]
theorem ke:∀v,v<P.length->((v:Int)::cm P v).Nodup:=by
 refine wG hP (λv hv h e=>by rw[e];simp) (λv hv a ha h e ih=>?_);rw[Wm];refine⟨wm hP hv,?_⟩;rw[e];exact ih
theorem wv:∀v,v<P.length->((v:Int)::cm P v).map (λa=>P.getD a.toNat 0)=cm P v++[-1]:=by
 refine wG hP (λv hv h e=>?_) (λv hv a ha h e ih=>?_)
 .rw[e];simp[List.getD,hv,h]
 grind
theorem l8(d:v<P.length)(h:x∈(v:Int)::cm P v):∃a:Nat,a<P.length/\x=(a:Int):=by grind[By.1,mX]
theorem E5(d:v<P.length):(cm P v++[-1]).Nodup:=by
 rw[Wi];refine⟨(Wm.1 (ke hP v d)).2,X2,?_⟩;intro a ha b hb;rw[IT.1 hb];obtain⟨c,_,rfl⟩:=l8 hP d (U0 _ ha);omega
omit hP in
theorem JE(p:α->Bool):∀l:List α,(l.map λa=>if p a=VA then 1 else 0).sum=l.countP p
 |[]=>rfl
 |a::l=>by rw[cd,U4,JE p l,List.countP_cons];omega
theorem oO(d:v<P.length):((upZ P.length).filter λa=>decide (a∈(v:Int)::cm P v)).Perm ((v:Int)::cm P v):=by grind[fF,VR,cQ,ke,cf,l8]
theorem j9:∀(f:Nat)(v:Int),(∀a (s:a<P.length),P[a]=v->P.length+1<=(cm P a).length+f)->∀x,x<P.length->(kV P f v).count (x:Int)=if v∈cm P x++[-1]then 1 else 0:=by
 intro f;induction f with
 | zero=>
   intro v hf x hx;rw[pF]
   .rfl
   .intro hm;rw[<-wv hP x hx]at hm;obtain⟨a,s,e⟩:=IS.1 hm;obtain⟨b,hb,rfl⟩:=l8 hP hx s;have A:=hf b hb (by simpa[List.getD,hb]using e);have:=j5 P (b:Int);omega
 | succ f ih=>
   intro v hf x hx;have d:∀a∈upZ P.length,(List.count (x:Int)∘λa=>if P.getD a.toNat 0=v then a::kV P f a else []) a=if(decide (P.getD a.toNat 0=v)&&decide (a∈(x:Int)::cm P x))=VA then 1 else 0:=by
    intro a s;obtain⟨b,hb,rfl⟩:=cf.1 s;have u:P.getD (b:Int).toNat 0=P[b]:=by simp[List.getD,hb]
    simp only[Function.comp,u];by_cases e:P[b]=v
    .rw[AT e,List.count_cons,ih (b:Int) ?_ x hx]
     .simp only[e,decide_true,WV,OC,By,UN,IT];by_cases z:b=x
      .grind[wm]
      grind
     grind[mD]
    rw[pF e];simp[e]
   unfold kV;rw[List.count_flatMap,UT d,JE,<-List.countP_filter,(oO hP hx).countP_eq];have z:List.countP (λa=>decide (P.getD a.toNat 0=v)) ((x:Int)::cm P x)=List.count v (((x:Int)::cm P x).map λa=>P.getD a.toNat 0):=by
    rw[List.count,List.countP_map];refine List.countP_congr λa _=>?_
    simp
   rw[z,wv hP x hx,(E5 hP hx).count]
omit hP in
theorem uA:∀(f:Nat)(v:Int),∀x∈kV P f v,∃a:Nat,a<P.length/\x=(a:Int)
 |0,v,x,hx=>by simp[kV]at hx
 | f+1,v,x,hx=>by
   simp only[kV]at hx;obtain⟨a,ha,hx⟩:=UU.1 hx;split at hx
   .rcases By.1 hx with rfl|hx
    .exact cf.1 ha
    exact uA f a x hx
   cases hx
def aR(P:List Int):List Int:=kV P (P.length+1) (-1)
theorem b8:(aR P).Perm (upZ P.length):=by
 rw[List.perm_iff_count];intro x;rw[(cQ _).count];by_cases h:x∈upZ P.length
 .rw[AT h];obtain⟨a,ha,rfl⟩:=cf.1 h;unfold aR;rw[j9 hP _ _ (λb hb e=>by omega) a ha,AT X2]
 rw[pF h,List.count_eq_zero];exact λd=>h (cf.2 (uA _ _ x d))
end
def Bef(P:List Int)(v:Int)(w:List Int):Prop:=∀pre x post,w=pre++x::post->P.getD x.toNat 0=v\/P.getD x.toNat 0∈pre
theorem Bef.nil{v:Int}:Bef P v []:=λpre x post h=>by simp at h
theorem Bef.append{v:Int}{w1 w2:List Int}(s:Bef P v w1)(d:Bef P v w2):Bef P v (w1++w2):=by
 intro pre x post e;rcases List.append_eq_append_iff.1 e with⟨us,e1,e2⟩|⟨bs,e1,e2⟩
 .rcases d us x post e2 with h|h
  .exact .inl h
  grind
 cases bs with
 | nil=>
   simp at e1 e2;rcases d [] x post (by simpa using e2.symm)with h|h
   .exact .inl h
   cases h
 | cons b bs=>
   simp at e2;exact s pre x bs (by rw[e1,<-e2.1])
theorem Bef.cons{v a:Int}{w:List Int}(d:P.getD a.toNat 0=v)(h:Bef P a w):Bef P v (a::w):=by
 intro pre x post e;cases pre with
 |nil=>simp at e;rw[<-e.1];exact .inl d
 | cons b pre=>
   simp at e;rcases h pre x post e.2 with h|h
   .grind
   right;exact U0 _ h
theorem Bef.flat{v:Int}{f:Int->List Int}:∀{l:List Int},(∀a∈l,Bef P v (f a))->Bef P v (l.flatMap f)
 |[],_=>Bef.nil
 | a::l,h=>by
   rw[UJ];exact(h a (Vx ..)).append (Bef.flat λb hb=>h b (U0 _ hb))
theorem CW(P:List Int):∀(f:Nat)(v:Int),Bef P v (kV P f v)
 |0,_=>Bef.nil
 | f+1,v=>by
   unfold kV;refine Bef.flat λa _=>?_
   split
   .rename_i h;exact Bef.cons h (CW P f a)
   exact Bef.nil
theorem Q9(s:UpOk P)(u:i<(aR P).length):(aR P)[i]∉(aR P).take i/\(P.getD (aR P)[i].toNat 0= -1\/P.getD (aR P)[i].toNat 0∈(aR P).take i):=by
 have e:aR P=(aR P).take i++(aR P)[i]::(aR P).drop (i+1):=by simp_all
 refine⟨?_,CW P _ _ _ _ _ e⟩;have d:(aR P).Nodup:=(b8 s).nodup_iff.2 (cQ _);intro hm;obtain⟨j,hj,e2⟩:=VF.1 hm;exact UY.1 d j i XX u XX e2
theorem Lz:x∈zK l↔x∈l:=(oB l).mem_iff
theorem J0{v:Int}:x∈gh S P v↔x∈cm P v/\∃b∈dL P v,gm S x b=VA:=by
 unfold gh NU;rw[Lz,Wt,VL]
theorem dC{v b:Int}:b∈dL P v↔(∃a:Nat,a<P.length/\b=(a:Int))/\(b=v\/v∈cm P b):=by grind[dL,upZ,hiB,cf]
theorem HA{r:ByteArray×List Int}(d:r∈S.rels){a b:Int}(s:a∈r.2)(u:b∈r.2):gm S a b=VA:=by
 unfold gm;rw[VL];exact⟨r,d,by simp[s,u]⟩
theorem Ek(h:dB P l=VA){a b:Int}(d:a∈l)(s:b∈l):a=b\/a∈cm P b\/b∈cm P a:=by grind[dB,IX.1,hiB]
theorem xP(u:UpOk P)(z:∀a∈l,0<=a/\a<P.length)(A:dB P l=VA):∀(k:List Int)(done:List Int)(h:Int),(∀a∈k,a∈l)->(∀a∈done,a∈l)->h∈l->(∀a∈done,a=h\/a∈cm P h)->
  k.foldl (tN P) h∈l/\∀a,a∈done\/a∈k->a=k.foldl (tN P) h\/a∈cm P (k.foldl (tN P) h)
 |[],done,h,_,_,hh,hd=>⟨hh,λa ha=>hd a (ha.resolve_right X2)⟩
 | x::k,done,h,hk,hdn,hh,hd=>by
   have hx:=hk x (Vx ..);have s:∀{a:Int},a∈l->∃n:Nat,n<P.length/\a=(n:Int):=fun{a} ha=>by grind[tI]
   have d:tN P h x∈l/\∀a∈done++[x],a=tN P h x\/a∈cm P (tN P h x):=by
    unfold tN;by_cases e:hiB P h x=VA
    .rw[AT e];have B:h∈cm P x:=by simpa[hiB]using e
     refine⟨hx,λa ha=>?_⟩;rcases UN.1 ha with had|ha
     .grind[pA]
     left;exact IT.1 ha
    grind[cm,hiB,UN.1,IT.1,Ek]
   have:=xP u z A k (done++[x]) (tN P h x) (λa ha=>hk a (U0 _ ha)) (λa ha=>by grind) d.1 d.2;rw[VO];refine⟨this.1,λa ha=>this.2 a ?_⟩;rcases ha with ha|ha
   .exact .inl (Ws _ ha)
   grind
theorem uX(s:UpOk P)(d:l≠[])(u:∀a∈l,0<=a/\a<P.length)(z:dB P l=VA):je P l∈l/\∀a∈l,a=je P l\/a∈cm P (je P l):=by
 cases l with
 |nil=>exact absurd O d
 | cons x l=>
   have:=xP s u z (x::l) [] x (λa h=>h) X2 (Vx ..) X2;unfold je;exact⟨this.1,λa ha=>this.2 a (.inr ha)⟩
theorem OrdOk.jE(h:OrdOk S P):UpOk P:=⟨h.rng,h.up⟩
theorem KH(h:OrdOk S P){r:ByteArray×List Int}(s:r∈S.rels):je P r.2∈r.2/\∀a∈r.2,a=je P r.2\/a∈gh S P (je P r.2):=by
 have d:∀a∈r.2,0<=a/\a<P.length:=by rw[h.len];exact h.val.rng r s
 obtain⟨h1,h2⟩:=uX h.jE (h.val.ne r s) d (h.rt r s);refine⟨h1,λa ha=>?_⟩;rcases h2 a ha with h3|h3
 .exact .inl h3
 right
 rw[J0];refine⟨h3,je P r.2,?_,HA s ha h1⟩;rw[dC];obtain⟨n,hn⟩:=tI (d _ h1).1;exact⟨⟨n,by have:=(d _ h1).2;omega,hn⟩,.inl O⟩
end
section
inductive Path (adj:Nat->Nat->Prop) (ok:Nat->Prop) (a:Nat):Nat->Prop
 |refl:Path adj ok a a
 |step {b c:Nat}:Path adj ok a b->adj b c->ok c->Path adj ok a c
section
variable {adj:Nat->Nat->Prop}{ok ok':Nat->Prop}
theorem Path.trans{a b c:Nat}(d:Path adj ok a b)(s:Path adj ok b c):Path adj ok a c:=by
 induction s with
 |refl=>exact d
 |step _ h3 h4 ih=>exact .step ih h3 h4
theorem Path.one(h:adj a b)(d:ok b):Path adj ok a b:=.step .refl h d
theorem Path.mono(h:Path adj ok a b)(d:∀c,ok c->ok' c):Path adj ok' a b:=by
 induction h with
 |refl=>exact .refl
 |step _ h3 h4 ih=>exact .step ih h3 (d _ h4)
theorem Path.fin(h:Path adj ok a b)(d:ok a):ok b:=by
 cases h with
 |refl=>exact d
 |step _ _ h=>exact h
theorem Path.symm(d:∀a b,adj a b->adj b a)(h:Path adj ok a b)(s:ok a):Path adj ok b a:=by
 induction h with
 |refl=>exact .refl
 |step h1 h3 h4 ih=>exact(Path.one (d _ _ h3) (h1.fin s)).trans ih
theorem Path.stay{inn:Nat->Prop}(h:Path adj ok a b)(d:inn a)(hc:∀x y,inn x->adj x y->ok y->inn y):Path adj (λc=>ok c/\inn c) a b/\inn b:=by
 induction h with
 |refl=>exact⟨.refl,d⟩
 |step _ h3 h4 ih=>exact⟨.step ih.1 h3 ⟨h4,hc _ _ ih.2 h3 h4⟩,hc _ _ ih.2 h3 h4⟩
end
def Anc(adj:Nat->Nat->Prop)(pos:Nat->Nat)(a b:Nat):Prop:=pos a<pos b/\Path adj (λc=>pos a<=pos c) a b
section
variable {adj:Nat->Nat->Prop}{pos:Nat->Nat}(hs:∀a b,adj a b->adj b a)
theorem Anc.trans{a b c:Nat}(s:Anc adj pos a b)(u:Anc adj pos b c):Anc adj pos a c:=by
 have z:=s.1;exact⟨Xp s.1 u.1,s.2.trans (u.2.mono λd hd=>by omega)⟩
include hs in
theorem Anc.lin(s:Anc adj pos a c)(u:Anc adj pos b c)(h:pos a<pos b):Anc adj pos a b:=
 ⟨h,s.2.trans ((u.2.symm hs (tJ _)).mono λd hd=>by omega)⟩
end
structure IsOrd(n:Nat)(adj:Nat->Nat->Prop)(pos:Nat->Nat)(P:List Int):Prop where
 len:P.length=n
 par:∀b,b<n->(P.getD b 0= -1/\∀a,a<n->¬Anc adj pos a b)\/(∃a:Nat,a<n/\P.getD b 0=(a:Int)/\Anc adj pos a b/\∀a',a'<n->Anc adj pos a' b->a'=a\/Anc adj pos a' a)
section
variable {n:Nat}{adj:Nat->Nat->Prop}{pos:Nat->Nat}{P:List Int}
theorem IsOrd.upF(h:IsOrd n adj pos P):∀(m b k:Nat),b<n->pos b<=m->pos b<=k->(upF P k (P.getD b 0)).isSome=VA:=by
 intro m;induction m with
 | zero=>
   intro b k hb hm hk;rcases h.par b hb with⟨h1,_⟩|⟨a,ha,h1,h2,_⟩
   .rw[h1,gU XZ];rfl
   have:=h2.1;omega
 | succ m ih=>
   intro b k hb hm hk;rcases h.par b hb with⟨h1,_⟩|⟨a,ha,h1,h2,_⟩
   .rw[h1,gU XZ];rfl
   have:=h2.1;obtain⟨k',rfl⟩:∃k',k=k'+1:=⟨k-1,XX⟩;rw[h1,vD (by rw[h.len];exact ha),Option.isSome_map];have:=ih a k' ha XX XX;rwa [getD_eq (by rw[h.len];exact ha)]at this
theorem IsOrd.jE(h:IsOrd n adj pos P)(s:∀b,b<n->pos b<n):UpOk P:=by
 refine⟨λp s=>?_,λv hv=>?_⟩
 .obtain⟨b,hb,e⟩:=Vz s;rw[<-getD_eq hb 0]at e;have d:b<n:=by rw[<-h.len];exact hb
  have:=h.len;rcases h.par b d with⟨h1,_⟩|⟨a,ha,h1,_,_⟩<;>omega
 have hv':v<n:=by rw[<-h.len];exact hv
 have:=h.upF (pos v) v P.length hv' (tJ _) (by rw[h.len];exact Xc (s v hv'));rwa [xn hv,<-getD_eq hv 0]
theorem IsOrd.mem(h:IsOrd n adj pos P)(d:∀b,b<n->pos b<n):∀b,b<P.length->∀a:Nat,(a:Int)∈cm P b↔a<n/\Anc adj pos a b:=by
 have s:=h.len;refine wG (h.jE d) (λv hv hr e a=>?_) (λv hv p hpl hr e ih a=>?_)
 .rw[e];rcases h.par v XX with⟨_,h2⟩|⟨c,hc,h1,_,_⟩
  .grind
  rw[getD_eq hv,hr]at h1;omega
 rw[e,By,ih a];rcases h.par v XX with⟨h1,_⟩|⟨c,hc,h1,h2,h3⟩
 .rw[getD_eq hv,hr]at h1;omega
 rw[getD_eq hv,hr]at h1;have:c=p:=XX;subst this;constructor
 .rintro(h4|h4)
  .have:a=c:=XX;subst this;exact⟨hc,h2⟩
  exact⟨h4.1,h4.2.trans h2⟩
 grind
theorem IsOrd.unique{P':List Int}(h:IsOrd n adj pos P)(s:IsOrd n adj pos P'):P=P':=by
 apply Vq
 .rw[h.len,s.len]
 .intro b h1 h2;have d:b<n:=by rw[<-h.len];exact h1
  rw[<-getD_eq h1 0,<-getD_eq h2 0];rcases h.par b d with⟨e1,f1⟩|⟨a,ha,e1,g1,k1⟩
  .rcases s.par b d with⟨e2,_⟩|⟨a',ha',e2,g2,_⟩
   .rw[e1,e2]
   exact absurd g2 (f1 a' ha')
  rcases s.par b d with⟨e2,f2⟩|⟨a',ha',e2,g2,k2⟩
  .exact absurd g1 (f2 a ha)
  rw[e1,e2];rcases k1 a' ha' g2 with e3|e3
  .rw[e3]
  rcases k2 a ha g1 with e4|e4
  .rw[e4]
  exact absurd (Xp e3.1 e4.1) (Nat.lt_irrefl _)
end
def vM(S:Sch)(a b:Nat):Prop:=a≠b/\gm S a b=VA
theorem rq{a b:Int}(h:gm S a b=VA):gm S b a=VA:=by grind[gm,VL.1,VL,Bool.and_comm]
theorem qt(S:Sch):∀a b,vM S a b->vM S b a:=λ_ _ h=>⟨λe=>h.1 e.symm,rq h.2⟩
def ie(q:List Int)(a:Nat):Nat:=q.idxOf (a:Int)
theorem FE(d:q.Perm (upZ n))(s:a<n):ie q a<n:=by
 have:q.idxOf (a:Int)<q.length:=List.idxOf_lt_length_of_mem (d.mem_iff.2 (cf.2 ⟨a,s,O⟩));rwa [d.length_eq,bo]at this
theorem lY(B:q.Perm (upZ n))(D:a<n)(h:ie q a=ie q b):a=b:=by
 have d:q.idxOf (a:Int)<q.length:=List.idxOf_lt_length_of_mem (B.mem_iff.2 (cf.2 ⟨a,D,O⟩));have s:q.idxOf (b:Int)<q.length:=by unfold ie at h;rw[<-h];exact d
 have u:q[q.idxOf (a:Int)]=(a:Int):=List.getElem_idxOf d;have z:q[q.idxOf (b:Int)]=(b:Int):=List.getElem_idxOf s;have A:q[q.idxOf (a:Int)]=q[q.idxOf (b:Int)]:=by unfold ie at h;congr 1
 rw[u,z]at A;omega
theorem IsOrd.ok(u:Valid S)(D:q.Perm (upZ S.attrs.length))(h:IsOrd S.attrs.length (vM S) (ie q) P):OrdOk S P:=by
 have z:∀b,b<S.attrs.length->ie q b<S.attrs.length:=λb hb=>FE D hb
 have B:=h.jE z;refine⟨u,h.len,B.rng,B.up,λr hr=>?_⟩;unfold dB;rw[IX];intro a ha;rw[IX];intro b hb;obtain⟨x,hx⟩:=tI (u.rng r hr a ha).1;obtain⟨y,hy⟩:=tI (u.rng r hr b hb).1;have s:x<S.attrs.length:=by have:=(u.rng r hr a ha).2;omega
 have A:y<S.attrs.length:=by have:=(u.rng r hr b hb).2;omega
 by_cases e:a=b
 .simp[e]
 have hxy:x≠y:=XX;have d:vM S x y:=⟨hxy,by rw[<-hx,<-hy];exact HA hr ha hb⟩;have E:=h.len;rcases Nat.lt_or_gt_of_ne (λe=>hxy (lY D s e))with h1|h1
 .have:(x:Int)∈cm P y:=(h.mem z y XX x).2 ⟨s,h1,.one d (Xc h1)⟩;rw[hx,hy];simp[hiB,this]
 have:(y:Int)∈cm P x:=(h.mem z x XX y).2 ⟨A,h1,.one (qt S _ _ d) (Xc h1)⟩;rw[hx,hy];simp[hiB,this]
end
section
def oQ(G:List B64)(a b:Nat):Prop:=(G.getD a 0#64).getLsbD b=VA
theorem Ev{G:List B64}{rest:B64}:Reach G rest a b↔Path (oQ G) (λc=>rest.getLsbD c=VA) a b:=by
 constructor
 .intro h;induction h with
  |refl=>exact .refl
  |step _ h1 h2 ih=>exact .step ih h1 h2
 .intro h;induction h with
  |refl=>exact .refl
  |step _ h1 h2 ih=>exact .step ih h1 h2
structure Comp(adj:Nat->Nat->Prop)(rest c:B64):Prop where
 sub:∀i,c.getLsbD i=VA->rest.getLsbD i=VA
 clo:∀i j,c.getLsbD i=VA->adj i j->rest.getLsbD j=VA->c.getLsbD j=VA
 con:∀i j,c.getLsbD i=VA->c.getLsbD j=VA->Path adj (λx=>c.getLsbD x=VA) i j
 ne:∃i,c.getLsbD i=VA
structure CompsI(adj:Nat->Nat->Prop)(rest:B64)(k:Nat)(cs:List B64)(R:B64):Prop where
 all:∀c∈cs,Comp adj rest c
 cov:∀i,rest.getLsbD i=VA↔R.getLsbD i=VA\/∃c∈cs,c.getLsbD i=VA
 dis:∀i,R.getLsbD i=VA->∀c∈cs,¬c.getLsbD i=VA
 pw:cs.Pairwise (λc d=>∀i,c.getLsbD i=VA->¬d.getLsbD i=VA)
 low:∀i,i<k->¬R.getLsbD i=VA
theorem qd(x y:B64)(i:Nat):(x&&& ~~~y).getLsbD i=VA↔x.getLsbD i=VA/\¬y.getLsbD i=VA:=by grind
theorem yp(G:List B64)(rest:B64)(A:∀a b,oQ G a b->oQ G b a):∀k,CompsI (oQ G) rest k (compsN G rest k).1 (compsN G rest k).2
 |0=>⟨by simp[compsN],by simp[compsN],by simp[compsN],by simp[compsN],by intro i h;omega⟩
 | k+1=>by
   have h:=yp G rest A k;simp only[compsN];generalize compsN G rest k=cr at*;obtain⟨cs,R⟩:=cr;simp only at h ⊢;by_cases hk:R.getLsbD k=VA
   .rw[AT hk];have s:∀i,(compB G R k).getLsbD i=VA->R.getLsbD i=VA:=λi hi=>xw hk hi
    have u:(compB G R k).getLsbD k=VA:=(p7 (jS hk)).2 .refl;have z:∀i j,(compB G R k).getLsbD i=VA->oQ G i j->R.getLsbD j=VA->(compB G R k).getLsbD j=VA:=λi j h1 h2 h3=>
     (p7 (jS h3)).2 (.step (kR h1) h2 h3)
    have B:Comp (oQ G) rest (compB G R k):=by
     refine⟨λi hi=>(h.cov i).2 (.inl (s i hi)),λi j h1 h2 h3=>?_,?_,⟨k,u⟩⟩
     .rcases(h.cov j).1 h3 with h4|⟨d,hd,h4⟩
      .exact z i j h1 h2 h4
      exact absurd ((h.all d hd).clo j i h4 (A i j h2) ((h.cov i).2 (.inl (s i h1)))) (h.dis i (s i h1) d hd)
     have one:∀i,(compB G R k).getLsbD i=VA->Path (oQ G) (λx=>(compB G R k).getLsbD x=VA) k i:=λi hi=>
      ((Ev.1 (kR hi)).stay (inn:=λx=>(compB G R k).getLsbD x=VA) u z).1.mono λc hc=>hc.2
     exact λi j hi hj=>((one i hi).symm A u).trans (one j hj)
    refine⟨λc hc=>?_,λi=>?_,λi hi c hc=>?_,?_,λi hi hR=>?_⟩
    .rcases UN.1 hc with hc|hc
     .exact h.all c hc
     rw[IT.1 hc];exact B
    .rw[h.cov i,qd];constructor
     .grind
     grind
    .rw[qd]at hi;rcases UN.1 hc with hc|hc
     .exact h.dis i hi.1 c hc
     rw[IT.1 hc];exact hi.2
    .rw[List.pairwise_append];refine⟨h.pw,X2,λc hc d hd i h1 h2=>?_⟩;rw[IT.1 hd]at h2;exact h.dis i (s i h2) c hc h1
    rw[qd]at hR;by_cases e:i=k
    .subst e;exact hR.2 u
    exact h.low i XX hR.1
   rw[pF hk];refine⟨h.all,h.cov,h.dis,h.pw,λi hi=>?_⟩;by_cases e:i=k
   .subst e;exact hk
   exact h.low i XX
def EU(adj:Nat->Nat->Prop)(pos:Nat->Nat)(rest:B64)(a b:Nat):Prop:=
 rest.getLsbD a=VA/\rest.getLsbD b=VA/\pos a<pos b/\Path adj (λc=>rest.getLsbD c=VA/\pos a<=pos c) a b
def Nb(adj:Nat->Nat->Prop)(pos:Nat->Nat)(rest:B64)(par:Int)(b:Nat)(x:Int):Prop:=
 (x=par/\∀a,¬EU adj pos rest a b)\/∃a:Nat,x=(a:Int)/\EU adj pos rest a b/\∀a',EU adj pos rest a' b->a'=a\/EU adj pos rest a' a
theorem MA(A:q.Perm (upZ n)){c:B64}(hc:∀i,c.getLsbD i=VA->i<n)(u:∃i,c.getLsbD i=VA):
  ∃a:Nat,a<n/\q.find? (λx=>c.getLsbD x.toNat)=UF (a:Int)/\c.getLsbD a=VA/\∀i,c.getLsbD i=VA->ie q a<=ie q i:=by
 cases hf:q.find? (λx=>c.getLsbD x.toNat)with
 | none=>
   obtain⟨i,hi⟩:=u;have:=List.find?_eq_none.1 hf (i:Int) (A.mem_iff.2 (cf.2 ⟨i,hc i hi,O⟩));simp at this;rw[hi]at this;cases this
 | some x=>
   obtain⟨h1,us,vs,h2,h3⟩:=List.find?_eq_some_iff_append.1 hf;have s:x∈q:=by rw[h2];simp
   obtain⟨a,ha,rfl⟩:=cf.1 (A.mem_iff.1 s);have d:c.getLsbD a=VA:=by simpa using h1
   refine⟨a,ha,O,d,λi hi=>?_⟩;have z:∀j:Nat,c.getLsbD j=VA->(j:Int)∉us:=λj hj hm=>by grind
   unfold ie;rw[h2,List.idxOf_append,List.idxOf_append,pF (z a d),pF (z i hi)];simp
section
variable {n:Nat}{G:List B64}{q:List Int}(hG:G.length=n)(hs:∀a b,oQ G a b->oQ G b a)(hq:q.Perm (upZ n))
theorem EU.sub{adj:Nat->Nat->Prop}{pos:Nat->Nat}{r r':B64}(h:∀i,r.getLsbD i=VA->r'.getLsbD i=VA)(k:EU adj pos r a b):EU adj pos r' a b:=
 ⟨h _ k.1,h _ k.2.1,k.2.2.1,k.2.2.2.mono λc hc=>⟨h _ hc.1,hc.2⟩⟩
include hs hq in
theorem z6{f:Nat}(IH:∀rest par P,lL rest<=f->(∀i,rest.getLsbD i=VA->i<n)->P.length=n->∀b,b<n->(rest.getLsbD b=WA->(placeF G q f rest par P).getD b 0=P.getD b 0)/\(rest.getLsbD b=VA->Nb (oQ G) (ie q) rest par b ((placeF G q f rest par P).getD b 0)))
  {rest c:B64} (hc:Comp (oQ G) rest c) (M:∀a,c.getLsbD a=VA->lL (c&&& ~~~(BitVec.twoPow 64 a))<=f) (V:∀i,rest.getLsbD i=VA->i<n) (par:Int) (P:List Int) (W:P.length=n) (b:Nat) (hb:b<n):
  (c.getLsbD b=WA->(jP q (placeF G q f) par P c).getD b 0=P.getD b 0)/\(c.getLsbD b=VA->Nb (oQ G) (ie q) rest par b ((jP q (placeF G q f) par P c).getD b 0)):=by
 obtain⟨a,ha,hfind,hca,hmin⟩:=MA hq (λi hi=>V i (hc.sub i hi)) hc.ne;have e:jP q (placeF G q f) par P c=placeF G q f (c&&& ~~~(BitVec.twoPow 64 a)) a (P.set a par):=by unfold jP;rw[hfind];rfl
 rw[e];have s:∀i,(c&&& ~~~(BitVec.twoPow 64 a)).getLsbD i=VA↔c.getLsbD i=VA/\a≠i:=λi=>by rw[pq,dO,VH]
 have J:=IH (c&&& ~~~(BitVec.twoPow 64 a)) a (P.set a par) (M a hca) (λi hi=>V i (hc.sub i ((s i).1 hi).1)) (by simp[W]) b hb;have B:∀a' b',EU (oQ G) (ie q) rest a' b'->c.getLsbD b'=VA->c.getLsbD a'=VA:=by
  intro a' b' u h2;have H:=(u.2.2.2.symm hs ⟨u.1,tJ _⟩);exact(H.stay (inn:=λx=>c.getLsbD x=VA) h2 (λx y hx hxy hy=>hc.clo x y hx hxy hy.1)).2
 have A:∀a' b',EU (oQ G) (ie q) rest a' b'->c.getLsbD b'=VA->a'≠a->EU (oQ G) (ie q) (c&&& ~~~(BitVec.twoPow 64 a)) a' b':=by
  intro a' b' u h2 E;have z:=B a' b' u h2;have Z:ie q a<ie q a':=Nat.lt_of_le_of_ne (hmin a' z) (λe=>E (lY hq ha e).symm);have aa:=u.2.2.1;refine⟨(s a').2 ⟨z,λe=>E e.symm⟩,(s b').2 ⟨h2,λe=>by subst e;omega⟩,u.2.2.1,?_⟩;refine((u.2.2.2.stay (inn:=λx=>c.getLsbD x=VA) z (λx y hx hxy hy=>hc.clo x y hx hxy hy.1)).1.mono λx hx=>?_);exact⟨(s x).2 ⟨hx.2,λe=>by have:=hx.1.2;subst e;omega⟩,hx.1.2⟩
 have L:∀b',c.getLsbD b'=VA->a≠b'->EU (oQ G) (ie q) rest a b':=λb' u h2=>
  ⟨hc.sub a hca,hc.sub b' u,Nat.lt_of_le_of_ne (hmin b' u) (λe=>h2 (lY hq ha e)),(hc.con a b' hca u).mono λx hx=>⟨hc.sub x hx,hmin x hx⟩⟩
 have D:∀i,(c&&& ~~~(BitVec.twoPow 64 a)).getLsbD i=VA->rest.getLsbD i=VA:=λi hi=>hc.sub i ((s i).1 hi).1
 constructor
 .grind
 .intro hcb;by_cases hab:a=b
  .subst hab;have u:(c&&& ~~~(BitVec.twoPow 64 a)).getLsbD a=WA:=by rw[pq];simp
   left
   refine⟨by rw[J.1 u,List.getD];simp[W,ha],λa' h2=>?_⟩;have E:=B a' a h2 hca;have:=hmin a' E;have:=h2.2.2.1;omega
  have u:(c&&& ~~~(BitVec.twoPow 64 a)).getLsbD b=VA:=(s b).2 ⟨hcb,hab⟩;right
  rcases J.2 u with⟨h2,E⟩|⟨d,h2,E,h4⟩
  .grind
  refine⟨d,h2,E.sub D,λa' h5=>?_⟩;have U:=(s d).1 E.1;by_cases e2:a'=a
  .right;rw[e2];exact L d U.1 U.2
  rcases h4 a' (A a' b h5 hcb e2)with h6|h6
  .exact .inl h6
  exact .inr (h6.sub D)
include hG hs hq in
theorem DC:∀(f:Nat)(rest:B64)(par:Int)(P:List Int),lL rest<=f->(∀i,rest.getLsbD i=VA->i<n)->P.length=n->∀b,b<n->(rest.getLsbD b=WA->(placeF G q f rest par P).getD b 0=P.getD b 0)/\(rest.getLsbD b=VA->Nb (oQ G) (ie q) rest par b ((placeF G q f rest par P).getD b 0)):=by
 intro f;induction f with
 | zero=>
   intro rest par P hf hr hP b hb;refine⟨λ_=>rfl,λh=>?_⟩;rw[MZ (Nat.le_zero.1 hf) b]at h;cases h
 | succ f IH=>
   intro rest par P hf hr hP b hb;have u:=yp G rest hs G.length;have z:∀c∈(compsN G rest G.length).1,∀a,c.getLsbD a=VA->lL (c&&& ~~~(BitVec.twoPow 64 a))<=f:=λc hc a ha=>by have:=LH hc ha;omega
   have A:∀(cs:List B64)(P:List Int),(∀c∈cs,Comp (oQ G) rest c)->(∀c∈cs,∀a,c.getLsbD a=VA->lL (c&&& ~~~(BitVec.twoPow 64 a))<=f)->cs.Pairwise (λc d=>∀i,c.getLsbD i=VA->¬d.getLsbD i=VA)->P.length=n->
     ((∀c∈cs,¬c.getLsbD b=VA)->(cs.foldl (jP q (placeF G q f) par) P).getD b 0=P.getD b 0)/\(∀c∈cs,c.getLsbD b=VA->Nb (oQ G) (ie q) rest par b ((cs.foldl (jP q (placeF G q f) par) P).getD b 0)):=by
    intro cs;induction cs with
    |nil=>intro P _ _ _ _;exact⟨λ_=>rfl,λc hc=>by cases hc⟩
    | cons c cs ih=>
      intro P h1 h2 h3 h4;have B:(jP q (placeF G q f) par P c).length=n:=by grind[jP,pW]
      have D:=z6 hs hq IH (h1 c (Vx ..)) (h2 c (Vx ..)) hr par P h4 b hb;have E:=ih (jP q (placeF G q f) par P c) (λd hd=>h1 d (U0 _ hd)) (λd hd=>h2 d (U0 _ hd)) (Vd.1 h3).2 B;rw[VO];constructor
      .grind
      grind
   have s:=A (compsN G rest G.length).1 P u.all z u.pw hP;simp only[placeF];constructor
   .intro h1;refine s.1 λc hc h2=>?_
    rw[(u.all c hc).sub b h2]at h1;cases h1
   .intro h1;rcases(u.cov b).1 h1 with h2|⟨c,hc,h2⟩
    .exact absurd h2 (u.low b XX)
    exact s.2 c hc h2
include hG hs hq in
theorem PQ(z:n<64)(u:∀a b,oQ G a b->b<n):IsOrd n (oQ G) (ie q) (ofL G q):=by
 have d:∀i,(J6 G.length).getLsbD i=VA↔i<n:=λi=>by rw[Kv XX,VH,hG]
 have s:∀a b,a<n->b<n->(EU (oQ G) (ie q) (J6 G.length) a b↔Anc (oQ G) (ie q) a b):=by
  intro a b ha hb;constructor
  .intro h;exact⟨h.2.2.1,h.2.2.2.mono λc hc=>hc.2⟩
  .intro h;refine⟨(d a).2 ha,(d b).2 hb,h.1,?_⟩;exact(h.2.stay (inn:=λx=>(J6 G.length).getLsbD x=VA) ((d a).2 ha) (λx y _ hxy _=>(d y).2 (u x y hxy))).1.mono λc hc=>⟨hc.2,hc.1⟩
 refine⟨by rw[Qg,hG],λb hb=>?_⟩;have:=(DC hG hs hq 64 (J6 G.length) (-1) (List.replicate G.length 0) (H9 _) (λi hi=>(d i).1 hi) (by simp[hG]) b hb).2 ((d b).2 hb);rcases this with⟨h1,h2⟩|⟨a,h1,h2,h3⟩
 .exact .inl ⟨h1,λa ha h3=>h2 a ((s a b ha hb).2 h3)⟩
 have ha:=(d a).1 h2.1;refine .inr ⟨a,ha,h1,(s a b ha hb).1 h2,λa' ha' h4=>?_⟩;rcases h3 a' ((s a' b ha' hb).2 h4)with h5|h5
 .exact .inl h5
 exact .inr ((s a' a ha' ha).1 h5)
end
theorem Kh(d:Valid S)(a b:Nat):oQ (gr S) a b↔vM S a b:=by
 unfold oQ vM;by_cases ha:a<S.attrs.length
 .rw[Ba d ha,dO,VH]
 rw[List.getD,W8 (by rw[Cg];omega)];constructor
 .intro h;simp at h
 rintro⟨_,h⟩;have:=(pR d h).1;omega
theorem Qv(d:Valid S):oQ (gr S)=vM S:=by
 funext a b;exact propext (Kh d a b)
theorem BK(s:Valid S)(u:q.Perm (upZ S.attrs.length)):IsOrd S.attrs.length (vM S) (ie q) (ordL S q):=by
 have d:=Qv s;have z:=s.n2;have:=PQ (G:=gr S) (q:=q) (n:=S.attrs.length) (Cg S) (by rw[d];exact qt S) u XX (by rw[d];intro a b h;have:=(pR s h.2).2;omega);rw[d]at this;exact this
end
section
open Mk
theorem DQ(S:Sch)(hS:SB S)(a b:Int):FnP prog 251 [gg S,.int .i64 a,.int .i64 b] (· = .bool (gm S a b)):=by
 refine FnP.of func251 O ntmps251 X2 λ_ _ _ _=>?_
 have B:=hS.r;refine Z2 O<|Z4 O<|Gz O (st:=λX6:Nat=>([(1,UG),(2,UG),(10,UG),(11,UG),(12,UF (pIi X6))],[])) 1
  (I:=λX6=>X6<=S.rels.length/\((S.rels.take X6).any λr=>decide (a∈r.2)&&decide (b∈r.2))=WA) (μ:=λX6=>S.rels.length-X6) (x0:=(0)) (TO (aS O) trivial O O) (⟨aJ _,O⟩) ?_
 rintro k ⟨hk,hno⟩;refine Z1 O<|Gp O (λu=>?_) (λu=>?_)
 .have hlt:k<S.rels.length:=XX;have s:=fi hlt;have z:=ij hlt;have A:=hS.rl _ (ak hlt);refine TM<|Z1 O<|Rs O (aF ⟨_,underlying116,O⟩ xS O s O)<|Y2 O<|Z3 O<|Rs O (aa call41 (ln S.rels[k].2 a XX) O)<|A1 O ?_;apply TY 5 20 25 [21,22,23,24] O X8
  .intro hb4;exact Y3 O<|Rg O (aa call41 (ln S.rels[k].2 b XX) O)<|A1 O<|TQ X7 O O O
  .intro hb4;exact Ar 5 O<|TQ X7 O O O
  refine Gc O (λd=>?_) (λd=>?_)
  .exact Z1 O<|Gt O<|⟨_,_,O,O,ah PV.bool (by unfold gm;exact(sM (p:=λr:ByteArray×List Int=>decide (a∈r.2)&&decide (b∈r.2)) hlt d).symm)⟩
  exact TM<|Z2 O<|⟨(k+1),TO (aS O) trivial O O,⟨XX,gA hlt hno d⟩,XX⟩
 exact Gx O<|Z1 O<|Gt O<|⟨_,_,O,O,ah PV.bool (by rw[aG XX]at hno;exact hno.symm)⟩
structure RInv(S:Sch)(rem:List Bool)(a n:Nat)(I:List Bool):Prop where
 len:I.length=n
 has:I.getD a WA=VA
 snd:∀b,I.getD b WA=VA->Path (vM S) (λc=>rem.getD c WA=WA) a b
def PE(S:Sch)(rem I:List Bool)(x y:Nat):Bool:=((I.getD x WA&& !I.getD y WA)&& !rem.getD y WA)&&gm S x y
structure PInv(S:Sch)(rem:List Bool)(a n F k:Nat)(I:List Bool)(more:Bool):Prop where
 r:RInv S rem a n I
 le:I.count WA<=F
 lt:more=VA->I.count WA<F
 no:more=WA->∀x,x<k->∀y,y<n->PE S rem I x y=WA
theorem count_set{y:Nat}(d:y<I.length)(h:I[y]=WA):(I.set y VA).count WA<I.count WA:=by grind
theorem RInv.ext{x y:Nat}(h:RInv S rem a n I)(z:y<n)(d:PE S rem I x y=VA):RInv S rem a n (I.set y VA)/\(I.set y VA).count WA<I.count WA:=by
 unfold PE at d;simp only[dO,VM]at d;have s:y<I.length:=by rw[h.len];exact z
 refine⟨⟨by simp[h.len],?_,λb hb=>?_⟩,count_set s (by rw[<-getD_eq s WA];exact d.1.1.2)⟩
 .by_cases e:a=y
  .subst e;simp[List.getD,s]
  have:=h.has;simp only[List.getD]at this ⊢;rw[WQ (λu=>e u.symm)];exact this
 by_cases e:b=y
 .subst e;refine .step (h.snd x d.1.1.1) ⟨λe=>?_,d.2⟩ d.1.2;subst e;rw[d.1.1.1]at d;exact absurd d.1.1.2 XZ
 refine h.snd b ?_;simp only[List.getD]at hb ⊢;rw[WQ (λu=>e u.symm)]at hb;exact hb
theorem RInv.last(A:Valid S)(h:RInv S rem a n I)(D:n=S.attrs.length)(d:∀x,x<n->∀y,y<n->PE S rem I x y=WA)(b:Nat):I.getD b WA=VA↔Path (vM S) (λc=>rem.getD c WA=WA) a b:=by
 refine⟨h.snd b,λz=>?_⟩;induction z with
 |refl=>exact h.has
 | @step x y _ h1 h2 ih=>
   have B:=pR A h1.2;have s:x<n:=XX;have u:y<n:=XX;have:=d x s y u;unfold PE at this;rw[ih,h2,h1.2]at this;simpa using this
theorem Kw(h:k<I.length):(cI I)[k*1]? =UF (.bool (I.getD k WA)):=by simp[List.getD,h]
abbrev schV(S:Sch):V:=.pv (gg S)
abbrev o5(l:List Bool):Ob:=.cells 4 (cI l)
theorem Dp(S:Sch)(hS:SB S)(hV:Valid S)(n:Nat)(hn:n=S.attrs.length)(rem:List Bool)(hrem:rem.length=n)(a:Nat)(ha:a<n):
  FnO prog 200 1 0 [schV S,.osl big 1 n,pIi a] [(big,o5 rem)]
   (λv ob'=>(∃I:List Bool,v= .pv (mV I)/\I.length=n/\∀b,I.getD b WA=VA↔Path (vM S) (λc=>rem.getD c WA=WA) a b)/\ob'=aA [(big,o5 rem)]):=by
 refine FnO.of func200 O ntmps200 X2 λ_ _ _ _=>?_
 have hn12:=hV.n2;have M:RInv S rem a n ((List.replicate n WA).set a VA):=by
  refine⟨X2,by simp[List.getD,ha],λb hb=>?_⟩;by_cases e:b=a
  .subst e;exact .refl
  simp only[List.getD]at hb;rw[WQ (λe'=>e e'.symm)]at hb;by_cases hbn:b<n
  .simp[hbn]at hb
  rw[W8 X3]at hb;cases hb
 refine Z2 O<|Z3 O<|Rs O ((kU (zs:=[.bool WA]) 1 n Lm O O O (by rw[hn]) (by rw[hn]) XX O))<|A1 O<|Z2 O<|Rs O (aj a underlying171 sz4 O O O O ha)<|RL.step (d:=UG) O O (bY sz4 O O O O (by rw[cH];simp;omega))<|Z1 O ?_;refine Gz O (st:=λX6:List Bool×Bool=>([(1,UG),(3,UG),(7,UG),(8,UF (.pv (.bool X6.2)))],[(big,UG),(0,UG),(1,UF (o5 X6.1))])) 2
  (I:=λX6=>RInv S rem a n X6.1/\(X6.2=WA->∀x,x<n->∀y,y<n->PE S rem X6.1 x y=WA)) (μ:=λX6=>2*X6.1.count WA+(if X6.2=VA then 1 else 0)) (x0:=((List.replicate n WA).set a VA,VA)) (TO (aS O) ⟨O,O,ah (λc=>UF (Ob.cells 4 c)) (by rw[cH,Uv,Uv];show(List.replicate n (PV.bool WA)).set a (PV.bool VA)=_;simp[U9]),X5⟩ O O) (⟨M,λh=>by cases h⟩) ?_
 rintro⟨I,more⟩ ⟨hI,hdone⟩;try simp only at hI hdone ⊢
 refine Z1 O<|Gc O (λz=>?_) (λz=>?_)
 .subst z;refine TM<|Z1 O<|Z3 O<|Gz O (st:=λu:Nat×List Bool×Bool=>([(1,UG),(3,UG),(7,UG),(8,UF (.pv (.bool u.2.2))),(20,UG),(21,UF (pIi u.1))],[(big,UG),(0,UG),(1,UF (o5 u.2.1))])) 2
   (I:=λu=>u.1<=n/\PInv S rem a n (I.count WA) u.1 u.2.1 u.2.2) (μ:=λu=>n-u.1) (x0:=(0,I,WA)) (TO (aS O) (aO O) O O) (⟨aJ _,hI,tJ _,(λh=>by cases h),λ_ x hx=>absurd hx (VV _)⟩) ?_
  rintro⟨k,J,mo⟩ ⟨hk,hJ⟩;try simp only at hk hJ ⊢
  refine Z1 O<|Gp O (λE=>?_) (λE=>?_)
  .have hkn:k<n:=XX;refine TM<|Z2 O<|Z3 O<|Gz O (st:=λs:Nat×List Bool×Bool=>([(1,UG),(3,UG),(7,UG),(8,UF (.pv (.bool s.2.2))),(9,UG),(20,UG),(21,UG),(25,UG),(26,UF (pIi s.1))],[(big,UG),(0,UG),(1,UF (o5 s.2.1))])) 2
    (I:=λs=>s.1<=n/\PInv S rem a n (I.count WA) k s.2.1 s.2.2/\(s.2.2=WA->∀y,y<s.1->PE S rem s.2.1 k y=WA)) (μ:=λs=>n-s.1) (x0:=(0,J,mo)) (TO (aS O) (aO O) O O) (⟨aJ _,hJ,λ_ y hy=>absurd hy (VV _)⟩) ?_
   rintro⟨j,K,mp⟩ ⟨hj,hK,hrow⟩;try simp only at hj hK hrow ⊢
   refine Z1 O<|Gp O (λH=>?_) (λH=>?_)
   .have hjn:j<n:=XX;have hKl:=hK.r.len;have U:=Kw (I:=K) (k:=k) XX;have W:=Kw (I:=K) (k:=j) XX;have Z:=Kw (I:=rem) (k:=j) XX;refine TM<|Z2 O<|Z2 O<|Rs O (aj k underlying171 sz4 O O O O hkn)<|Rs O (cL ⟨_,underlying4,O⟩ O O U)<|A1 O ?_;apply TY 6 33 39 [34,35,36,37,38] O X8
    .intro hb4;exact Y2 O<|Rg O (aj j underlying171 sz4 O O O O hjn)<|Rg O (cL ⟨_,underlying4,O⟩ O O W)<|Y2 O<|TQ X7 O O O
    .intro hb4;exact Ar 6 O<|TQ X7 O O O
    refine A1 O ?_;apply TY 6 40 46 [41,42,43,44,45] O X8
    .intro hb11;exact Y2 O<|Rg O (aj j underlying171 sz4 O O O O hjn)<|Rg O (cL ⟨_,underlying4,O⟩ O O Z)<|Y2 O<|TQ X7 O O O
    .intro hb11;exact Ar 6 O<|TQ X7 O O O
    refine A1 O ?_;apply TY 5 47 52 [48,49,50,51] O X8
    .intro hb18;exact Y3 O<|Rg O (aa call251 (DQ S hS k j) O)<|A1 O<|TQ X7 O O O
    .intro hb18;exact Ar 5 O<|TQ X7 O O O
    refine Gc O (λA=>?_) (λA=>?_)
    .have hext:=hK.r.ext hjn (x:=k) A;have B:=hK.le;exact Z2 O<|Rs O (aj j underlying171 sz4 O O O O hjn)<|RL.step (d:=UG) O O (bY sz4 O O O O X3)<|A1 O<|Z2 O<|⟨(j+1,K.set j VA,VA),TO (aS O) ⟨O,O,ah (λc=>UF (Ob.cells 4 c)) (by simp[U9];rfl),X5⟩ O O,⟨X4,⟨hext.1,AI (Xc hext.2) B,λ_=>Uq hext.2 B,(λh=>by cases h)⟩,(λh=>by cases h)⟩,X4⟩
    exact TM<|Z2 O<|⟨(j+1,K,mp),TO (aS O) (aO O) O O,⟨X4,hK,λh y hy=>by rcases Vu.1 hy with L|rfl;exact hrow h y L;exact A⟩,X4⟩
   have hjn:j=n:=XX;exact Gx O<|Z2 O<|⟨(k+1,K,mp),TO (aS O) (aO O) O O,⟨X4,hK.r,hK.le,hK.lt,λh x hx y hy=>by rcases Vu.1 hx with L|rfl;exact hK.no h x L y hy;exact hrow h y XX⟩,X4⟩
  have hkn:k=n:=XX;exact Gx O<|⟨(J,mo),TO (aS O) (aO O) O O,⟨hJ.r,λh x hx y hy=>hJ.no h x XX y hy⟩,by have L:=hJ.le;have h2:=hJ.lt;simp only;cases mo with|false=>simp;omega|true=>have:=h2 O;simp;omega⟩
 subst z;have D:=hI.last hV hn (hdone O);exact Gx O<|TN (TR 1 O O)<|Z2 O<|TN (St.lT [6])<|Gt O<|⟨[(6,.pv (mV I))],[(big,o5 rem)],[.pv (mV I)],TO ⟨by show V.pv (.sl UG n (cI I))=_;rw[mV,hI.len],X5⟩ (aO O) O O,O,O,O,⟨I,O,hI.len,D⟩,O⟩
end
end Go.Proofs.YtameambcolibjaaGreatDoor
