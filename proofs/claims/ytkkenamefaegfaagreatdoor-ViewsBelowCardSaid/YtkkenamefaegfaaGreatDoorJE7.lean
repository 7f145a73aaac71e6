/- Lemmas. No condition. -/
import Derived.Laws.RangeString
import Derived.Test.YtkkenamefaegfaaGreatDoorJE6
set_option maxRecDepth 100000
set_option maxHeartbeats 4000000
open Go.RowKit Go.Proofs.Tryz
open Option renaming some→UF,none→UG
open Bool renaming true→VA,false→VC
namespace Go.Proofs.YtkkenamefaegfaaGreatDoor
variable{α:Type}{j k a id s v i n b sz:Nat}{S:Sch}{e T:TypeId}{P l r q:List Int}{x:Int}{o:Ob}{cs news:List PV}{f:FuncId}{xs:Array Operand}{p:Nat->Nat->Bool}{y:Operand}
section
open Mk
theorem NX[DecidableEq α]{l:List α}{x:α}(h:¬x∈l):hasB l x=VC:=by unfold hasB;exact TL h
theorem HI[DecidableEq α]{l:List α}{x:α}(h:x∈l):hasB l x=VA:=by unfold hasB;exact TD h
theorem lE{l:List α}(u:j<k)(z:j<l.length):l[j]∈l.take k:=Vm.2 ⟨j,Xj,O⟩
theorem Ov  (u:¬ (S.attrs.length=0\/12<S.attrs.length\/S.rels.length=0\/6<S.rels.length\/8<S.feats.length)) {e:Int} (z:e≠0):
  (b8 (gX S) S.attrs.length=e->bV S=e)/\(b8 (gX S) S.attrs.length=0->ia S=e->bV S=e)/\(b8 (gX S) S.attrs.length=0->ia S=0->b8 (kO S) S.feats.length=e->bV S=e):=by grind[bV]
theorem w8(S:Sch)(hS:SB S):FnP prog 49 [gC S] (· = .int .i64 (bV S)):=by
 refine FnP.of func49 O ntmps49 Xn λ_ _ _ _=>?_
 have hb:=hS.a;have aT:=hS.r;have A:=hS.f;refine Z2 O<|Gr O<|Ar 5 O ?_;apply Tt 5 24 29 [25,26,27,28] O Xt
 .intro hb4;exact Ar 5 O<|Tm Xs O O O
 .intro hb4;exact Ar 5 O<|Tm Xs O O O
 refine A1 O ?_;apply Tt 5 30 35 [31,32,33,34] O Xt
 .intro hb10;exact Ar 5 O<|Tm Xs O O O
 .intro hb10;exact Ar 5 O<|Tm Xs O O O
 refine A1 O ?_;apply Tt 5 36 41 [37,38,39,40] O Xt
 .intro hb16;exact Ar 5 O<|Tm Xs O O O
 .intro hb16;exact Ar 5 O<|Tm Xs O O O
 refine A1 O ?_;apply Tt 5 42 47 [43,44,45,46] O Xt
 .intro hb22;exact Ar 5 O<|Tm Xs O O O
 .intro hb22;exact Ar 5 O<|Tm Xs O O O
 refine Gc O (λam=>?_) (λam=>?_)
 .exact Z1 O<|VF O<|ah (PV.int .i64) (by unfold bV;rw[By ((Cr S).1 am)])
 have hlim:¬ (S.attrs.length=0\/12<S.attrs.length\/S.rels.length=0\/6<S.rels.length\/8<S.feats.length):=λh=>by rw[(Cr S).2 h]at am;cases am
 have af:=fun{e:Int}(h:e≠0)=>Ov (S:=S) hlim h
 refine Ti<|Z4 O<|Gz O (st:=λXr:Nat=>([(1,UG),(49,UG),(50,UG),(51,UF (pIi Xr))],[(0,UG)])) 1
  (I:=λXr=>Xr<=S.attrs.length/\b8 (gX S) Xr=0) (μ:=λXr=>S.attrs.length-Xr) (x0:=0) (WA O) (⟨aJ _,O⟩) ?_
 rintro k ⟨hk,hs⟩;refine Z1 O<|Gp O (λhc52=>?_) (λhc52=>?_)
 .have hlt:k<S.attrs.length:=Xj;have J:=ke hlt;have hne:=gY hlt;have aW:=B9 S k hlt;have u:∀e:Int,e≠0->gX S k=e->PV.int .i64 e= .int .i64 (bV S):=λe h0 h1=>ah (PV.int .i64) (((af h0).1 (by rw[gG hs (by rw[h1];exact h0) hlt,h1])).symm)
  refine Ti<|Z2 O<|Rs O (aG ⟨_,underlying81,O⟩ yF O J O)<|Y3 O<|Z2 O<|Rs O (aa call105 (kA S.attrs[k].1 (hS.an _ (aq hlt))) O)<|A1 O<|Gc O (λaF=>?_) (λaF=>?_)
  .exact Z1 O<|VF O<|u 14 Xl (by rw[aW,By (by simpa using aF)])
  have hw:¬fE S.attrs[k].1=VC:=by simpa using aF
  refine Ti<|Z1 O<|Gz O (st:=λap:Nat=>([(1,UG),(3,UG),(4,UG),(5,UF (pIi ap)),(49,UG),(50,UG),(51,UG)],[(0,UG),(1,UG)])) 2
   (I:=λap=>ap<=k/\¬S.attrs[k].1∈(S.attrs.map (·.1)).take ap) (μ:=λap=>k-ap) (x0:=0) (WA O) (⟨aJ _,Xn⟩) ?_
  rintro j ⟨hj,hno⟩;refine Z3 O<|Gp O (λhc62=>?_) (λhc62=>?_)
  .have hjk:j<k:=Xj;have B:j<S.attrs.length:=Xj;have hnm:(aU S.attrs)[j*2+0]? =UF (.str S.attrs[j].1):=ib _ 2 (λ_=>rfl) S.attrs j 0 B Xl;have aB:j<(S.attrs.map (·.1)).length:=by simpa using B
   have aC:(S.attrs.map (·.1))[j]=S.attrs[j].1:=Xn;refine Ti<|UB 9 O<|Dr 5 O<|D2 O O Xm ?_;refine Dr 3 O ?_;refine⟨Xk,?_⟩;refine Gc O (λaK=>?_) (λaK=>?_)
   .exact Z1 O<|VF O<|u 9 Xl (by rw[aW,sh hw,By (HI (by rw[<-baT aK,<-aC];exact lE hjk aB))])
   exact Ti<|Z3 O<|⟨(j+1),WA O,⟨Xj,gM aB hno (by rw[aC];exact baF aK)⟩,Xj⟩
  have hno2:¬hasB ((S.attrs.map (·.1)).take k) S.attrs[k].1=VA:=by rw[show j=k by omega]at hno;rw[NX hno];decide
  refine Gx O<|Z4 O ?_;apply Tt 4 77 81 [78,79,80] O Xt
  .intro A;exact Ar 4 O<|Tm Xs O O O
  .intro A;exact Ar 4 O<|Tm Xs O O O
  refine Gc O (λaP=>?_) (λaP=>?_)
  .exact Z1 O<|VF O<|u 7 Xl (by rw[aW,sh hw,sh hno2,By (by simp at aP;omega)])
  exact Ti<|Z2 O<|⟨(k+1),WA O,⟨Xj,by rw[dU hs,aW,sh hw,sh hno2,sh (by simp at aP;omega)]⟩,Xj⟩
 have hA:b8 (gX S) S.attrs.length=0:=by rw[show S.attrs.length=k by omega];exact hs
 refine Gx O<|Gr O<|Ar 5 O<|Z4 O<|Gz O (st:=λD:Nat×List Bool=>([(1,UG),(6,UG),(88,UG),(89,UG),(90,UF (pIi D.1))],[(0,UG),(1,UF (.cells 4 (c7 D.2)))])) 2
  (I:=λD=>D.1<=S.rels.length/\fl S.attrs.length D.2 (λa=>(S.rels.take D.1).any λx=>inB x.2 a)/\b8 (yg S) D.1=0) (μ:=λD=>S.rels.length-D.1) (x0:=(0,List.replicate S.attrs.length VC)) (Tk (aS O) ⟨O,ah (λc=>UF (Ob.cells 4 c)) ((dh (.bool VC) (S.attrs.length*1)).trans Xn),Xq⟩ O O) (⟨aJ _,fl.zero _,O⟩) ?_
 rintro⟨ri,U⟩ ⟨hk,hU,hs⟩;try simp only at hk hU hs ⊢
 refine Z1 O<|Gp O (λhc91=>?_) (λhc91=>?_)
 .have hlt:ri<S.rels.length:=Xj;have J:=fb hlt;have hne:=iD hlt;have ao:=tu S ri hlt;have hul:=hU.1;have hll:=hS.rl _ (aq hlt);have u:∀e:Int,e≠0->yg S ri=e->PV.int .i64 e= .int .i64 (bV S):=λe h0 h1=>ah (PV.int .i64) (((af h0).2.1 hA (by unfold ia;rw[gG hs (by rw[h1];exact h0) hlt,By (by rw[h1];exact h0),h1])).symm)
  refine Ti<|Z2 O<|Rs O (aG ⟨_,underlying33,O⟩ HM O J O)<|Y3 O<|Z2 O<|Rs O (aa call105 (kA S.rels[ri].1 (hS.rn _ (aq hlt))) O)<|A1 O<|Gc O (λaQ=>?_) (λaQ=>?_)
  .exact Z1 O<|VF O<|u 14 Xl (by rw[ao,By (by simpa using aQ)])
  have hw:¬fE S.rels[ri].1=VC:=by simpa using aQ
  refine Ti<|Z1 O<|Gz O (st:=λau:Nat=>([(1,UG),(6,UG),(7,UG),(8,UG),(9,UF (pIi au)),(88,UG),(89,UG),(90,UG)],[(0,UG),(1,UG),(2,UG)])) 3
   (I:=λau=>au<=ri/\¬S.rels[ri].1∈(S.rels.map (·.1)).take au) (μ:=λau=>ri-au) (x0:=0) (WA O) (⟨aJ _,Xn⟩) ?_
  rintro j ⟨hj,hno⟩;refine Z3 O<|Gp O (λa2=>?_) (λa2=>?_)
  .have hjk:j<ri:=Xj;have B:j<S.rels.length:=Xj;have hnm:(aY S.rels)[j*2+0]? =UF (.str S.rels[j].1):=ib _ 2 (λ_=>rfl) S.rels j 0 B Xl;have aB:j<(S.rels.map (·.1)).length:=by simpa using B
   have aC:(S.rels.map (·.1))[j]=S.rels[j].1:=Xn;refine Ti<|UB 9 O<|Dr 5 O<|D2 O O Xm ?_;refine Dr 3 O ?_;refine⟨Xk,?_⟩;refine Gc O (λL=>?_) (λL=>?_)
   .exact Z1 O<|VF O<|u 9 Xl (by rw[ao,sh hw,By (HI (by rw[<-baT L,<-aC];exact lE hjk aB))])
   exact Ti<|Z3 O<|⟨(j+1),WA O,⟨Xj,gM aB hno (by rw[aC];exact baF L)⟩,Xj⟩
  have hno2:¬hasB ((S.rels.map (·.1)).take ri) S.rels[ri].1=VA:=by rw[show j=ri by omega]at hno;rw[NX hno];decide
  refine Gx O<|Z4 O<|Gc O (λE=>?_) (λE=>?_)
  .exact Z1 O<|VF O<|u 7 Xl (by rw[ao,sh hw,sh hno2,By (by have:=ibT E;apply T6;omega)])
  have hl0:¬S.rels[ri].2=[]:=λe=>by rw[e]at E;simp at E
  refine Ti<|Z4 O<|Gz O (st:=λG:Nat×List Bool=>([(1,UG),(6,UG),(8,UG),(88,UG),(89,UG),(90,UG),(118,UG),(119,UG),(120,UF (pIi G.1))],[(0,UG),(1,UF (.cells 4 (c7 G.2))),(2,UG)])) 3
   (I:=λG=>G.1<=S.rels[ri].2.length/\fl S.attrs.length G.2 (λa=>((S.rels.take ri).any λx=>inB x.2 a)||inB (S.rels[ri].2.take G.1) a)/\∀a∈S.rels[ri].2.take G.1,0<=a/\a<S.attrs.length) (μ:=λG=>S.rels[ri].2.length-G.1) (x0:=(0,U)) (WA O) (⟨aJ _,hU.congr (λa _=>by simp[inB]),Xn⟩) ?_
  rintro⟨q,U2⟩ ⟨hq,hU2,hr⟩;try simp only at hq hU2 hr ⊢
  refine Z1 O<|Gp O (λa3=>?_) (λa3=>?_)
  .have hql:q<S.rels[ri].2.length:=Xj;have hv:=a6 hql;have a0:=aM hql;have hul2:=hU2.1;refine Ti<|Z1 O<|A2 O Xm ?_;refine A1 O<|Z3 O ?_;apply Tt 5 126 131 [127,128,129,130] O Xt
   .intro aT;exact Ar 5 O<|Tm Xs O O O
   .intro aT;exact Ar 5 O<|Tm Xs O O O
   refine Gc O (λM=>?_) (λM=>?_)
   .exact Z1 O<|VF O<|u 2 Xl (by rw[ao,sh hw,sh hno2,sh hl0,By (NW hql (by simp at M;omega))])
   have hx:0<=S.rels[ri].2[q]/\S.rels[ri].2[q]<S.attrs.length:=by simp at M;omega
   obtain⟨j,hj⟩:=Bg hx.1;exact Ti<|Z2 O<|Rs O (ak j underlying174 sz4 O O O hj Xj)<|A1 O<|Z2 O<|⟨(q+1,U2.set j VA),Tk (aS O) ⟨O,by show UF (Ob.cells _ _)=_;rw[<-yc];simp,O,Xq⟩ O O,⟨Xp,(hU2.set (a:=j) Xj).congr (λa _=>wh hql hj),BO hql hr hx⟩,Xp⟩
  have hrng:(S.rels[ri].2.all λa=>decide (0<=a)&&decide (a<S.attrs.length))=VA:=zE (λa ha=>hr a (by rw[aH Xj];exact ha));refine Gx O<|Z1 O<|Gz O (st:=λax:Nat=>([(1,UG),(6,UG),(8,UG),(12,UF (pIi ax)),(88,UG),(89,UG),(90,UG)],[(0,UG),(1,UG),(2,UG)])) 3
   (I:=λax=>1<=ax/\∀i,i+1<ax->i+1<S.rels[ri].2.length->S.rels[ri].2.getD i 0<S.rels[ri].2.getD (i+1) 0) (μ:=λax=>S.rels[ri].2.length-ax) (x0:=1) (WA O) (⟨AT _,λi hi=>by omega⟩) ?_
  rintro p ⟨hp1,hasc⟩;refine Gr O<|Ar 5 O<|Gp O (λa4=>?_) (λa4=>?_)
  .have hpl:p<S.rels[ri].2.length:=Xj;have hpl1:p-1<S.rels[ri].2.length:=Xj;have hv:=a6 hpl;have hv1:=a6 hpl1;have a0:=aM hpl;refine Ti<|UB 12 O<|Dr 4 O<|D2 O O Xm ?_;refine Dr 4 O<|TR O (λτ h=>ag (p-1) underlying22 sz3 (Ee h 0 O O) (Ee h 1 O O) Xj Xj a0)<|D2 O O Xm ?_;refine D1 O ?_;refine⟨Xk,?_⟩;refine Gp O (λaR=>?_) (λaR=>?_)
   .exact Z1 O<|VF O<|u 10 Xl (by rw[ao,sh hw,sh hno2,sh hl0,sh (by rw[hrng];decide),By (ND hp1 hpl aR)])
   exact Ti<|Z3 O<|⟨(p+1),WA O,⟨Xj,Au hpl hp1 hasc Xj⟩,Xj⟩
  exact Gx O<|Z2 O<|⟨(ri+1,U2),WA O,⟨Xp,hU2.congr (λa _=>Ay hlt Xj),by simp only;rw[dU hs,ao,sh hw,sh hno2,sh hl0,sh (by rw[hrng];decide),sh (by rw[Am (λi hi=>hasc i Xj hi)];decide)]⟩,Xp⟩
 have hR:b8 (yg S) S.rels.length=0:=by rw[show S.rels.length=ri by omega];exact hs
 have hU3:fl S.attrs.length U (tY S):=by rw[aH Xj]at hU;exact hU
 have hul:=hU3.1;refine Gx O<|Z3 O<|Gz O (st:=λay:Nat=>([(1,UG),(6,UG),(156,UG),(157,UG),(158,UF (pIi ay))],[(0,UG),(1,UG)])) 2
  (I:=λay=>ay<=S.attrs.length/\∀b,b<ay->tY S b=VA) (μ:=λay=>S.attrs.length-ay) (x0:=0) (WA O) (⟨aJ _,λb hb=>absurd hb (VP _)⟩) ?_
 rintro a ⟨ha,hus⟩;refine Z1 O<|Gp O (λa5=>?_) (λa5=>?_)
 .have z:a<S.attrs.length:=Xj;have hua:=hU3.2 a z;have hva:(c7 U)[a*1]? =UF (.bool (tY S a)):=by rw[TZ,VO,hua];rfl
  refine Ti<|Z1 O<|A2 O Xm ?_;refine A1 O<|Z2 O ?_;refine Gc O (λV=>?_) (λV=>?_)
  .exact Z1 O<|VF O<|ah (PV.int .i64) (((af Xl).2.1 hA (by unfold ia;rw[sh (λe=>e hR),By (V0.2 ⟨a,UR.2 z,by simpa using V⟩)])).symm)
  exact Ti<|Z2 O<|⟨(a+1),WA O,⟨Xj,λb hb=>by rcases Vd.1 hb with h|rfl;exact hus b h;simpa using V⟩,Xj⟩
 have hRS:ia S=0:=w4 hR (OF.2 λb hb=>hus b (by have:=UR.1 hb;omega));refine Gx O<|Z4 O<|Gz O (st:=λaz:Nat=>([(1,UG),(6,UG),(166,UG),(167,UG),(168,UF (pIi az))],[(0,UG),(1,UG)])) 2
  (I:=λaz=>az<=S.feats.length/\b8 (kO S) az=0) (μ:=λaz=>S.feats.length-az) (x0:=0) (WA O) (⟨aJ _,O⟩) ?_
 rintro f ⟨hk,hs⟩;refine Z1 O<|Gp O (λa8=>?_) (λa8=>?_)
 .have hlt:f<S.feats.length:=Xj;have J:=kB hlt;have hne:=og hlt;have aD:=qZ S f hlt;have u:∀e:Int,e≠0->kO S f=e->PV.int .i64 e= .int .i64 (bV S):=λe h0 h1=>ah (PV.int .i64) (((af h0).2.2 hA hRS (by rw[gG hs (by rw[h1];exact h0) hlt,h1])).symm)
  refine Ti<|Z2 O<|Rs O (aG ⟨_,underlying83,O⟩ Mb O J O)<|Y3 O<|Z4 O ?_;apply Tt 6 176 182 [177,178,179,180,181] O Xt
  .intro A;exact Ar 6 O<|Tm Xs O O O
  .intro A;exact Ar 6 O<|Tm Xs O O O
  refine Gc O (λW=>?_) (λW=>?_)
  .exact Z1 O<|VF O<|u 2 Xl (by rw[aD,By (by simp at W;omega)])
  have hx:0<=S.feats[f].1/\S.feats[f].1<S.attrs.length:=by simp at W;omega
  obtain⟨a,ha⟩:=Bg hx.1;have z:a<S.attrs.length:=Xj;have hk2:(aU S.attrs)[a*2+1]? =UF (.int .i64 S.attrs[a].2):=ib _ 2 (λ_=>rfl) S.attrs a 1 z Xl;have al:=gY z;have aZ:(S.attrs.getD S.feats[f].1.toNat default).2=S.attrs[a].2:=by rw[ha];simp[List.getD,z]
  refine Ti<|Z4 O ?_;apply Tu 9 186 195 [187,188,189,190,191,192,193,194] O Xt
  .intro A;refine Ar 4 O ?_;apply Tt 4 190 194 [191,192,193] O Xt
   .intro hb7;exact Ar 4 O<|Tm Xs O O O
   .intro hb7;exact Ar 4 O<|Tm Xs O O O
   exact A1 O<|Tm Xs O O O
  .intro A;exact Ar 9 O<|Tm Xs O O O
  refine A1 O ?_;apply Tu 9 196 205 [197,198,199,200,201,202,203,204] O Xt
  .intro hb13;refine Ar 4 O<|Rg O (ag a underlying26 yF O O ha z al)<|A1 O<|A2 O Xm ?_;exact Y2 O<|Tm Xs O O O
  .intro hb13;exact Ar 9 O<|Tm Xs O O O
  refine A1 O<|Z4 O ?_;apply Tu 4 209 213 [210,211,212] O Xt
  .intro A;exact Ar 4 O<|Tm Xs O O O
  .intro A;exact Ar 4 O<|Tm Xs O O O
  refine A1 O ?_;apply Tu 9 214 223 [215,216,217,218,219,220,221,222] O Xt
  .intro hb8;refine Ar 4 O<|Rg O (ag a underlying26 yF O O ha z al)<|A1 O<|A2 O Xm ?_;exact Y2 O<|Tm Xs O O O
  .intro hb8;exact Ar 9 O<|Tm Xs O O O
  refine A1 O<|Z3 O ?_;apply Tu 3 226 229 [227,228] O Xt
  .intro aT;exact Y3 O<|Tm Xs O O O
  .intro aT;exact Y3 O<|Tm Xs O O O
  refine Gc O (λZ=>?_) (λZ=>?_)
  .exact Z1 O<|VF O<|u 7 Xl (by rw[aD,sh Xj,aZ,By (by revert Z;generalize (S.feats[f].2.1==1)=b1;generalize (S.feats[f].2.2==0)=b2;generalize (S.feats[f].2.2==1)=b3;generalize (S.attrs[a].2==2)=b4;generalize (S.feats[f].2.1==2)=b5;generalize (S.attrs[a].2==3)=b6;cases b1<;>cases b2<;>cases b3<;>cases b4<;>cases b5<;>cases b6<;>decide)])
  have hkind:¬ ((S.feats[f].2.1==1&&S.attrs[a].2==2&&(S.feats[f].2.2==0||S.feats[f].2.2==1))||(S.feats[f].2.1==2&&S.attrs[a].2==3&&S.feats[f].2.2==0))=VC:=by revert Z;generalize (S.feats[f].2.1==1)=b1;generalize (S.feats[f].2.2==0)=b2;generalize (S.feats[f].2.2==1)=b3;generalize (S.attrs[a].2==2)=b4;generalize (S.feats[f].2.1==2)=b5;generalize (S.attrs[a].2==3)=b6;cases b1<;>cases b2<;>cases b3<;>cases b4<;>cases b5<;>cases b6<;>decide
  refine Ti<|Z1 O<|Gz O (st:=λaA:Nat=>([(1,UG),(6,UG),(15,UG),(16,UG),(19,UF (pIi aA)),(166,UG),(167,UG),(168,UG)],[(0,UG),(1,UG),(2,UG)])) 3
   (I:=λaA=>aA<=f/\((S.feats.take aA).any λg=>g.1==S.feats[f].1)=VC) (μ:=λaA=>f-aA) (x0:=0) (WA O) (⟨aJ _,O⟩) ?_
  rintro j ⟨hj,hno⟩;refine Z3 O<|Gp O (λa9=>?_) (λa9=>?_)
  .have hjk:j<f:=Xj;have B:j<S.feats.length:=Xj;have hnm:(aX S.feats)[j*3+0]? =UF (.int .i64 S.feats[j].1):=ib _ 3 (λ_=>rfl) S.feats j 0 B Xl;refine Ti<|UB 9 O<|Dr 5 O<|D2 O O Xm ?_;refine Dr 3 O ?_;refine⟨Xk,?_⟩;refine Gc O (λab=>?_) (λab=>?_)
   .exact Z1 O<|VF O<|u 9 Xl (by rw[aD,sh Xj,aZ,sh hkind,By (by rw[Ub];exact .inr (Ve.2 ⟨S.feats[j],lE hjk B,ab⟩))])
   exact Ti<|Z3 O<|⟨(j+1),WA O,⟨Xj,jb B hno ab⟩,Xj⟩
  rw[show j=f by omega]at hno;refine Gx O<|Gr O<|Ar 5 O<|Gc O (λac=>?_) (λac=>?_)
  .exact Z1 O<|VF O<|u 9 Xl (by rw[aD,sh Xj,aZ,sh hkind,By (by rw[Ub];exact .inl ac)])
  exact Ti<|Z2 O<|⟨(f+1),WA O,⟨Xj,by rw[dU hs,aD,sh Xj,aZ,sh hkind,sh (by rw[hno,ac];decide)]⟩,Xj⟩
 have hF:b8 (kO S) S.feats.length=0:=by rw[show S.feats.length=f by omega];exact hs
 have a1:=q9 hlim hA hRS hF;refine Gx O<|Z4 O ?_;apply Tt 6 253 259 [254,255,256,257,258] O Xt
 .intro A;exact Ar 6 O<|Tm Xs O O O
 .intro A;exact Ar 6 O<|Tm Xs O O O
 refine Gc O (λad=>?_) (λad=>?_)
 .exact Z1 O<|VF O<|ah (PV.int .i64) (by rw[a1,By (by simpa using ad)])
 have hn:¬ (S.label< -1\/(S.attrs.length:Int)<=S.label):=by simpa using ad
 refine Ti ?_;have hlv:0<=S.label->∃(a:Nat),S.label=(a:Int)/\a<S.attrs.length/\(aU S.attrs)[a*2+1]? =UF (.int .i64 (S.attrs.getD S.label.toNat default).2):=λh=>by obtain⟨a,ha⟩:=Bg h;have z:a<S.attrs.length:=Xj;refine⟨a,ha,z,?_⟩;rw[ha];simp only[TU,List.getD,IS z];exact ib _ 2 (λ_=>rfl) S.attrs a 1 z Xl
 refine Z4 O ?_;apply Tu 9 263 272 [264,265,266,267,268,269,270,271] O Xt
 .intro A;obtain⟨a,ha,z,hk2⟩:=hlv (Vi A);have al:=gY z;refine Ar 4 O<|Rg O (ag a underlying26 yF O O ha z al)<|A1 O<|A2 O Xm ?_;exact Y2 O<|Tm Xs O O O
 .intro A;exact Ar 9 O<|Tm Xs O O O
 refine Gc O (λH=>?_) (λH=>?_)
 .exact Z1 O<|VF O<|ah (PV.int .i64) (by rw[a1,sh hn,By (by simpa using H)])
 exact Ti<|Z1 O<|VF O<|ah (PV.int .i64) (by rw[a1,sh hn,sh (by rintro⟨h1,h2⟩;rw[TD (show S.label>=0 from h1),Ws,bne_eq_false_iff_eq]at H;exact h2 H)])
end
def upF(P:List Int):Nat->Int->Option (List Int)
 |0,x=>if x<0 then UF []else UG
 |k+1,x=>if x<0 then UF []else(upF P k (P.getD x.toNat 0)).map (x:: ·)
def abv(P:List Int)(v:Int):Option (List Int):=upF P P.length (P.getD v.toNat 0)
def bU(P:List Int)(v:Int):List Int:=(abv P v).getD []
def hiB(P:List Int)(a b:Int):Bool:=decide (a∈bU P b)
def dD(P:List Int)(l:List Int):Bool:=l.all λa=>l.all λb=>a==b||hiB P a b||hiB P b a
def qo(S:Sch)(P:List Int):Int:=
 if bV S≠0 then bV S
 else if P.length≠S.attrs.length then 5
 else if(P.any λp=>decide (p< -1)||decide ((P.length:Int)<=p))=VA then 2
 else if((List.range P.length).all λv=>(abv P v).isSome)=VC then 13
 else if(S.rels.all λr=>dD P r.2)=VC then 13 else 0
def bA(P:List Int)(v:Int):List Int:=((List.range P.length).map Int.ofNat).filter λa=>a==v||hiB P v a
def fa(S:Sch)(a b:Int):Bool:=S.rels.any λr=>decide (a∈r.2)&&decide (b∈r.2)
def Ke(S:Sch)(P:List Int)(v:Int):List Int:=(bU P v).filter λa=>(bA P v).any λb=>fa S a b
theorem iU(h:x<0):upF P k x=UF []:=by
 cases k<;>simp[upF,h]
theorem tr(u:a<P.length):upF P (k+1) (a:Int)=(upF P k P[a]).map ((a:Int):: ·):=by
 have h:¬ ((a:Int)<0):=Xj;simp[upF,List.getD,u,h]
theorem A5(h:0<=x):upF P 0 x=UG:=by
 simp[upF];omega
theorem GW:∀{k:Nat}{x:Int}{l:List Int},upF P k x=UF l->l.length<=k
 |0,x,l,h=>by grind[upF]
 | k+1,x,l,h=>by
   simp only[upF]at h;split at h
   .cases h;simp
   cases e:upF P k (P.getD x.toNat 0)with
   |none=>rw[e]at h;cases h
   |some l'=>rw[e]at h;cases h;simp;exact GW e
theorem jg(P:List Int)(v:Int):(bU P v).length<=P.length:=by
 unfold bU;cases h:abv P v with
 |none=>simp
 |some l=>exact GW h
section
open Mk
abbrev pY(P:List Int):PV:= .agg [ar P]
theorem Ct(L:List Int):(L.map (PV.int .i64)).take (L.length*1)=L.map (PV.int .i64):=aH Xn
theorem sf(P:List Int)(v:Nat)(A:v<P.length)(G:∀p∈P,p<P.length)(V:P.length<=1000000):FnP prog 121 [pY P,.int .i64 v] (· = .tup [ar (bU P v),.bool (abv P v).isSome]):=by
 refine FnP.of func121 O ntmps121 Xn λ_ _ _ _=>?_
 have H:=a6 A;have J:=aM A;have B:abv P v=upF P P.length P[v]:=by simp[abv,List.getD,A]
 refine Z3 O<|Z1 O<|Tj (Tp 6 1 1 3 O O)<|Z4 O<|A2 O Xm ?_;refine A1 O ?_;refine Gz O (st:=λXr:List Int×Int=>([(2,UG),(6,UF (.gsl 1 1 Xr.1.length)),(7,UF (pIi Xr.2))],[(0,UG),(1,UF (.gro 3 (aK Xr.1)))])) 2
  (I:=λXr=>Xr.1.length<=P.length/\Xr.2<P.length/\abv P v=(upF P (P.length-Xr.1.length) Xr.2).map (Xr.1++ ·)) (μ:=λXr=>P.length-Xr.1.length) (x0:=([],P[v])) (WA O) (⟨aJ _,G _ (aq A),by rw[B];simp⟩) ?_
 rintro⟨L,x⟩ ⟨hl,hx,hu⟩;try simp only at hl hx hu ⊢
 refine Z2 O<|Gp O (λz=>?_) (λz=>?_)
 .obtain⟨a,rfl⟩:=Bg z;have D:a<P.length:=Xj;have M:=a6 D;have U:(aK L).length=L.length*1:=Xn;refine Ti<|Gr O<|Ar 6 O<|Gc O (λu=>?_) (λu=>?_)
  .have hle:L.length=P.length:=by have:=ibT u;omega
   have E:abv P v=UG:=by rw[hu,hle,Nat.sub_self,A5 Xj];rfl
   exact Tj (St.kV [])<|Z2 O<|Tj (St.kV [4])<|VF O<|by unfold bU;rw[E];rfl
  have hlt:L.length<P.length:=by have:=ibF u;omega
  refine Ti<|Gr O<|Ar 5 O<|Z4 O<|A2 O Xm ?_;exact A1 O<|⟨(L++[(a:Int)],P[a]),Tl [0,3] ⟨O,by simp;rfl,O,Xq⟩ ⟨O,ah (λc=>UF (Ob.gro 3 c)) (fm L a).symm,Xq⟩ O O Xl O,⟨Xo,G _ (aq D),by rw[hu,show P.length-L.length=P.length-(L++[(a:Int)]).length+1 by simp;omega,tr D,Option.map_map];congr 1;funext l;simp⟩,Xo⟩
 exact Gx O<|Tj (Tn 1 O O)<|Z3 O<|VF O<|by rw[show abv P v=UF L by rw[hu,iU Xj];simp];unfold bU;rw[show abv P v=UF L by rw[hu,iU Xj];simp];simp[Ct];rfl
theorem pR(P:List Int)(a b:Int)(u:0<=b)(D:b<P.length)(z:∀p∈P,p<P.length)(A:P.length<=1000000):FnP prog 187 [pY P,.int .i64 a,.int .i64 b] (· = .bool (hiB P a b)):=by
 obtain⟨v,rfl⟩:=Bg u;refine FnP.of func187 O ntmps187 Xn λ_ _ _ _=>?_
 have B:=jg P v;exact Z2 O<|Z2 O<|Rs O (aa call121 (sf P v Xj z A) O)<|Ar 5 O<|Z2 O<|Rs O (aa call247 (uz (bU P v) a Xj) O)<|A1 O<|VF O O
abbrev R5(r:ByteArray×List Int):PV:= .agg [.str r.1,ar r.2]
theorem mr{l:List α}{p:α->Bool}(u:k<l.length)(h:(l.take k).all p=VA)(z:p l[k]=VA):(l.take (k+1)).all p=VA:=by
 rw[ct u];simp only[Wz,h,VL,z,Xh,Wh]
theorem qp{l:List α}{p:α->Bool}(u:k<l.length)(h:p l[k]=VC):l.all p=VC:=by
 rw[V0];exact⟨_,aq u,by rw[h];decide⟩
theorem FH(a b:Int)(p q:Bool):((a !=b&& !p)&& !q)= !(a==b||p||q):=by
 rw[bne];cases (a==b)<;>cases p<;>cases q<;>rfl
theorem DN(P:List Int)(r:ByteArray×List Int)(G:∀a∈r.2,0<=a/\a<P.length)(V:r.2.length<=1000000)(H:∀p∈P,p<P.length)(J:P.length<=1000000):FnP prog 124 [pY P,R5 r] (· = .bool (dD P r.2)):=by
 refine FnP.of func124 O ntmps124 Xn λ_ _ _ _=>?_
 refine Z3 O<|Z4 O<|Gz O (st:=λXr:Nat=>([(2,UG),(3,UG),(10,UG),(11,UG),(12,UF (pIi Xr))],[(0,UG),(1,UG)])) 2
  (I:=λXr=>Xr<=r.2.length/\((r.2.take Xr).all λa=>r.2.all λb=>a==b||hiB P a b||hiB P b a)=VA) (μ:=λXr=>r.2.length-Xr) (x0:=0) (WA O) (⟨aJ _,O⟩) ?_
 rintro k ⟨hk,hall⟩;refine Z1 O<|Gp O (λD=>?_) (λD=>?_)
 .have hlt:k<r.2.length:=Xj;have L:=a6 hlt;have M:=aM hlt;have A:=G _ (aq hlt);refine Ti<|Z1 O<|A2 O Xm ?_;refine A1 O<|Z4 O ?_;refine Gz O (st:=λz:Nat=>([(2,UG),(3,UG),(6,UG),(10,UG),(11,UG),(12,UG),(17,UG),(18,UG),(19,UF (pIi z))],[(0,UG),(1,UG)])) 2
   (I:=λz=>z<=r.2.length/\((r.2.take z).all λb=>r.2[k]==b||hiB P r.2[k] b||hiB P b r.2[k])=VA) (μ:=λz=>r.2.length-z) (x0:=0) (WA O) (⟨aJ _,O⟩) ?_
  rintro j ⟨hj,hall2⟩;refine Z1 O<|Gp O (λE=>?_) (λE=>?_)
  .have hlt2:j<r.2.length:=Xj;have U:=a6 hlt2;have B:=G _ (aq hlt2);refine Ti<|Z1 O<|A2 O Xm ?_;refine A1 O<|Z4 O ?_;apply Tu 6 26 32 [27,28,29,30,31] O Xt
   .intro hb3;exact Y3 O<|Rg O (aa call187 (pR P r.2[k] r.2[j] B.1 B.2 H J) O)<|Y2 O<|Tm Xs O O O
   .intro hb3;exact Ar 6 O<|Tm Xs O O O
   refine A1 O ?_;apply Tu 6 33 39 [34,35,36,37,38] O Xt
   .intro hb10;exact Y3 O<|Rg O (aa call187 (pR P r.2[j] r.2[k] A.1 A.2 H J) O)<|Y2 O<|Tm Xs O O O
   .intro hb10;exact Ar 6 O<|Tm Xs O O O
   refine Gc O (λu=>?_) (λu=>?_)
   .rw[FH,Vg]at u;exact Z1 O<|VF O<|ah PV.bool (by unfold dD;rw[qp hlt (qp hlt2 u)])
   rw[FH,Bool.not_eq_false']at u;exact Ti<|Z2 O<|⟨(j+1),WA O,⟨Xj,mr hlt2 hall2 u⟩,Xj⟩
  rw[aH Xj]at hall2;exact Gx O<|Z2 O<|⟨(k+1),WA O,⟨Xj,mr hlt hall hall2⟩,Xj⟩
 rw[aH Xj]at hall;exact Gx O<|Z1 O<|VF O<|ah PV.bool (by unfold dD;rw[hall])
theorem Ab(P:List Int)(r:ByteArray×List Int)(u:∀a∈r.2,0<=a/\a<P.length)(z:r.2.length<=1000000)(A:∀p∈P,p<P.length)(B:P.length<=1000000):FnP prog 123 [R5 r,.rp [ar P] 0] (· = .bool (!dD P r.2)):=by
 refine FnP.of func123 O ntmps123 Xn λ_ _ _ _=>?_
 exact Z2 O<|Z2 O<|Rs O (aa call124 (DN P r u z A B) O)<|Y2 O<|VF O O
theorem HA(l:List (ByteArray×List Int))(g:FuncId)(caps:List PV)(p:ByteArray×List Int->Bool)(G:l.length<=1000000)(hc:db prog g)(E:∀f∈l,FnP prog g ([]++[R5 f]++caps) (· = .bool (p f))):
  FnP prog 186 [.sl UG l.length (aY l),.fn (.func g) [] caps] (λv=>∃i:Int,v= .int .i64 i/\decide (0<=i)=l.any p):=by
 refine FnP.of func186 O ntmps186 Xn λ_ _ _ _=>?_
 refine Z1 O<|Z3 O<|Gz O (st:=λXr:Nat=>([(0,UG),(1,UG),(7,UG),(8,UF (pIi Xr))],[])) 0
  (I:=λXr=>Xr<=l.length/\(l.take Xr).any p=VC) (μ:=λXr=>l.length-Xr) (x0:=0) (Tk (aS O) trivial O O) (⟨aJ _,O⟩) ?_
 rintro k ⟨hk,hno⟩;refine Z1 O<|Gp O (λB=>?_) (λB=>?_)
 .have hlt:k<l.length:=Xj;have z:=fb hlt;have D:=iD hlt;have A:=E _ (aq hlt);refine Ti<|Z2 O<|Z4 O<|Rs O (aG ⟨_,underlying33,O⟩ HM O z O)<|Rs O (je hc O A O)<|Gc O (λu=>?_) (λu=>?_)
  .exact Z2 O<|VF O ⟨_,O,by rw[wH hlt u];exact TD Xj⟩
  exact Ti<|Z2 O<|⟨(k+1),Tk (aS O) trivial O O,⟨Xj,jb hlt hno u⟩,Xj⟩
 exact Gx O<|Z1 O<|VF O ⟨_,O,by rw[aH Xj]at hno;rw[hno];rfl⟩
theorem rJ(l:List (ByteArray×List Int))(g:FuncId)(caps:List PV)(p:ByteArray×List Int->Bool)(u:l.length<=1000000)(hc:db prog g)(z:∀f∈l,FnP prog g ([]++[R5 f]++caps) (· = .bool (p f))):
  FnP prog 122 [.sl UG l.length (aY l),.fn (.func g) [] caps] (· = .bool (l.any p)):=by
 refine FnP.of func122 O ntmps122 Xn λ_ _ _ _=>?_
 refine Z1 O<|Z2 O<|RL.call O (ie call186 (HA l g caps p u hc z) O ?_);rintro _ ⟨i,rfl,hi⟩;exact Y2 O<|VF O<|ah PV.bool hi
structure Valid(S:Sch):Prop where
 n1:1<=S.attrs.length
 n2:S.attrs.length<=12
 r1:1<=S.rels.length
 r2:S.rels.length<=6
 ne:∀r∈S.rels,r.2≠[]
 rng:∀r∈S.rels,∀a∈r.2,0<=a/\a<S.attrs.length
 asc:∀r∈S.rels,Kd r.2=VA
 use:∀a,a<S.attrs.length->∃r∈S.rels,(a:Int)∈r.2
theorem mW(h:bV S=0):Valid S:=by
 unfold bV at h;split at h
 .cases h
 rename_i hlim;split at h
 .rename_i h1;exact absurd h h1
 split at h
 .rename_i h1;exact absurd h h1
 rename_i _ u;have u:ia S=0:=Ui u;unfold ia at u;split at u
 .rename_i h1;exact absurd u h1
 rename_i B;have B:b8 (yg S) S.rels.length=0:=Ui B;split at u
 .cases u
 rename_i hu;have z:∀r∈S.rels,r.2≠[]/\(r.2.all λa=>decide (0<=a)&&decide (a<S.attrs.length))=VA/\Kd r.2=VA:=by
  intro r u;obtain⟨i,hi,rfl⟩:=Ux u;have A:=kG.1 B i hi;unfold yg at A;rw[show S.rels.getD i default=S.rels[i] by simp[List.getD,hi]]at A;split at A
  .rename_i h1;exact absurd A h1
  grind
 refine⟨Xj,Xj,Xj,Xj,λr u=>(z r u).1,λr u a ha=>?_,λr u=>(z r u).2.2,λa ha=>?_⟩
 .grind
 have hu:((List.range S.attrs.length).all λa=>tY S a)=VA:=by simpa using hu
 have:=OF.1 hu a (UR.2 ha);unfold tY at this;obtain⟨r,u,hm⟩:=Ve.1 this;exact⟨r,u,by simpa[inB]using hm⟩
theorem gl(S:Sch)(hS:SB S)(P:List Int)(U:P.length<=1000000):FnP prog 62 [gC S,pY P] (· = .int .i64 (qo S P)):=by
 refine FnP.of func62 O ntmps62 Xn λ_ _ _ _=>?_
 have Z:=hS.a;refine Z3 O<|Z1 O<|Rs O (aa call120 (uV S hS) O)<|A1 O<|Z2 O<|Gc O (λA=>?_) (λA=>?_)
 .exact Z2 O<|VF O<|ah (PV.int .i64) (by unfold qo;rw[By (inT A)])
 have h0:bV S=0:=inF A;have J:=(mW h0).rng;refine Ti<|Gr O<|Ar 7 O<|Gc O (λB=>?_) (λB=>?_)
 .have hne0:¬P.length=S.attrs.length:=by have:=inT B;omega
  exact Z1 O<|VF O<|ah (PV.int .i64) (by unfold qo;rw[sh (λh=>h h0),By hne0])
 have heq:P.length=S.attrs.length:=by have:=inF B;omega
 refine Ti<|Z4 O<|Gz O (st:=λXr:Nat=>([(2,UG),(3,UG),(24,UG),(25,UG),(26,UF (pIi Xr))],[(0,UG),(1,UG)])) 2
  (I:=λXr=>Xr<=P.length/\((P.take Xr).any λp=>decide (p< -1)||decide ((P.length:Int)<=p))=VC) (μ:=λXr=>P.length-Xr) (x0:=0) (WA O) (⟨aJ _,O⟩) ?_
 rintro k ⟨hk,hany⟩;refine Z1 O<|Gp O (λG=>?_) (λG=>?_)
 .have hlt:k<P.length:=Xj;have V:=a6 hlt;have W:=aM hlt;refine Ti<|Z1 O<|A2 O Xm ?_;refine A1 O<|Z3 O ?_;apply Tt 6 32 38 [33,34,35,36,37] O Xt
  .intro hb2;exact Ar 6 O<|Tm Xs O O O
  .intro hb2;exact Ar 6 O<|Tm Xs O O O
  refine Gc O (λD=>?_) (λD=>?_)
  .exact Z1 O<|VF O<|ah (PV.int .i64) (by unfold qo;rw[sh (λh=>h h0),sh (λh=>h heq),By (wH hlt D)])
  exact Ti<|Z2 O<|⟨(k+1),WA O,⟨Xj,jb hlt hany D⟩,Xj⟩
 rw[aH Xj]at hany;have M:∀p∈P,p<P.length:=λp hp=>by have:=List.any_eq_false.1 hany p hp;simp at this;omega
 refine Gx O<|Z4 O<|Gz O (st:=λz:Nat=>([(2,UG),(3,UG),(42,UG),(43,UF (pIi z))],[(0,UG),(1,UG)])) 2
  (I:=λz=>z<=P.length/\((List.range z).all λv=>(abv P v).isSome)=VA) (μ:=λz=>P.length-z) (x0:=0) (WA O) (⟨aJ _,O⟩) ?_
 rintro q ⟨hq,hall⟩;refine Z1 O<|Gp O (λH=>?_) (λH=>?_)
 .have hlt:q<P.length:=Xj;refine Ti<|Z2 O<|Z2 O<|Rs O (aa call121 (sf P q hlt M U) O)<|Ar 5 O<|Z2 O<|Gc O (λE=>?_) (λE=>?_)
  .have hno:((List.range P.length).all λv=>(abv P v).isSome)=VC:=V0.2 ⟨q,UR.2 hlt,by simpa using E⟩;exact Z1 O<|VF O<|ah (PV.int .i64) (by unfold qo;rw[sh (λh=>h h0),sh (λh=>h heq),sh (by rw[hany];decide),By hno])
  exact Ti<|Z2 O<|⟨(q+1),WA O,⟨Xj,by rw[Wo,Wz,hall];simpa using E⟩,Xj⟩
 obtain rfl:q=P.length:=Xj;refine Gx O<|Tj (St.jZ 1 O O) ?_;have L:∀r∈S.rels,FnP prog 123 ([]++[R5 r]++[.rp [ar P] 0]) (· = .bool (!dD P r.2)):=λr hr=>Ab P r (by rw[heq];exact J r hr) (hS.rl r hr) M U
 refine Z3 O<|Rs O (aa call122 (rJ S.rels 123 [.rp [ar P] 0] (λr=> !dD P r.2) hS.r call123 L) O)<|Gc O (λu=>?_) (λu=>?_)
 .have hno:(S.rels.all λr=>dD P r.2)=VC:=by rw[List.any_eq_not_all_not]at u;simpa using u
  exact Z1 O<|VF O<|ah (PV.int .i64) (by unfold qo;rw[sh (λh=>h h0),sh (λh=>h heq),sh (by rw[hany];decide),sh (by rw[hall];decide),By hno])
 have hno:(S.rels.all λr=>dD P r.2)=VA:=by rw[List.any_eq_not_all_not]at u;simpa using u
 exact Ti<|Z1 O<|VF O<|ah (PV.int .i64) (by unfold qo;rw[sh (λh=>h h0),sh (λh=>h heq),sh (by rw[hany];decide),sh (by rw[hall];decide),sh (by rw[hno];decide)])
end
section
section
variable {C:Ctx}{n:Nat}{σ:St}{dst:Option Tmp}{ty:TypeId}{pos:String}{after:Array Edge}{gd:Option (Nat×Bool)}{x y:Operand}
theorem jK{kh:IntKind}{ih:Int}(h:Nat)(B:C.P.underlying T=UF (.slice e))(D:bT C.P e s)(H:σ.ev n x= .osl id s k)(E:σ.ob id=UF o)(I:σ.ev n y= .pv (.int kh ih))(J:ih=(h:Int))(L:h<=k)(z:o.real=VA:=by rfl):
  XJ C n ⟨dst,.slice T x UG (UF y) UG,ty,pos,after,gd⟩ σ ⟨.osl id s h,[],[]⟩:=
 .val λa w m R hw=>by
  obtain⟨b,N,c,he,hkc,hcm,hN,hm,hor⟩:=hw.osl H E z;have A:a.eval y= .int kh h:=by rw[hw.int I,J]
  have u:h<=c:=Xj;have G:σ.av id=VC:=by
   cases hv:σ.av id with
   |false=>rfl
   |true=>have:=hw.hr.free id hv;rw[E]at this;cases this
  refine⟨.slice (UF ⟨b,0,UG⟩) h c,?_,?_⟩
  .by_cases hc0:c=0
   .subst hc0;have:h=0:=Xj;subst this;simp[execOp,he,A,Instr.sliceAt,Instr.slice,Instr.sliceBounds,Instr.sliceBound,asIntOf,run_underlying B,D.run]
   simp[execOp,he,A,Instr.sliceAt,Instr.slice,Instr.sliceBounds,Instr.sliceBound,asIntOf,run_underlying B,D.run,u,Addr.add_lit,hc0]
  grind[Rel]
def St.cutO(σ:St)(id:Nat)(T:TypeId)(cs:List PV):St:=⟨σ.sl,obL [(id,UF (.cells T cs))] σ.ob,σ.av⟩
theorem St.Qp{vs:List PV}(id j:Nat)(z:σ.ob id=UF (.cells T cs))(A:cs.take j=vs):σ.le (σ.cutO id T vs):=by
 subst A;refine St.uT λu=>⟨u.sl,λp hp=>?_⟩
 obtain rfl:=TF.1 hp;refine⟨_,_,z,O,O,λb N _ ⟨arr,q1,q2,q3,q4⟩=>⟨arr,q1,q2,Xo,?_⟩⟩;have:=q4.take j;rw[W5]at this;rw[TC];exact this
end
end

section
section
variable {C:Ctx}{n:Nat}{σ:St}{dst:Option Tmp}{ty:TypeId}{ts:Array TypeId}{pos:String}{after:Array Edge}{gd:Option (Nat×Bool)}
theorem Fz   {args:List V} {os:List (Nat×Ob)} {k':Nat} {Q:V->(Nat->Option Ob)->Prop} {K:St->Prop} (ids:List Nat) (base:Nat) (hc:db C.P f) (E:FnO C.P f ids.length k' args os Q) (u:xs.toList.map (σ.ev n)=V.renL (fu ids base) args)
  (G:V.allL (okR ids.length 0) args=VA) (hos:os.map (·.1)=(List.range ids.length).map (big+ ·)) (A:os.all (λp=>p.2.all (okR ids.length 0))=VA) (z:gU σ (fu ids base) os)
  (B:ids.Nodup) (D:(nwO base k').all σ.av=VA)
  (H:∀v ob',Q v ob'->K (σ.app dst ⟨v.ren (fu ids base),wrO ids base k' ob',nwO base k'⟩)):
  OJ C n ⟨dst,.call { callee:= .value (.func f),args:=xs,argTypes:=ts },ty,pos,after,gd⟩ K σ:=cz ids base hc u G hos A z B D E H
end
end
section
open Mk
def Ai(l:List Int):List Int:=l.mergeSort (λa b=>decide (a<=b))
theorem kj(l:List Int):(Ai l).Perm l:=WV l _
theorem wB(l:List Int):(Ai l).Pairwise (· <= ·):=by
 have:=Wu (le:=λa b:Int=>decide (a<=b)) (by intro a b c;simp;omega) (by intro a b;simp;omega) l;exact this.imp Xn
theorem I2(u:l.Perm r)(z:l.Pairwise (· <= ·))(A:r.Pairwise (· <= ·)):l=r:=
 u.eq_of_pairwise (λa b _ _ h1 h2=>Int.le_antisymm h1 h2) z A
theorem o5(u:l.Perm r)(z:l.Pairwise (· <= ·)):l=Ai r:=I2 (u.trans (kj r).symm) z (wB r)
abbrev intsO(l:List Int):Ob:= .cells 3 (aK l)
end
section
open Mk
def isB(S:Sch)(P:List Int)(v:Int):Bool:=((qo S P==0)&&decide (v>=0))&&decide (v<P.length)
theorem E4{v:Int}:isB S P v=VA↔qo S P=0/\0<=v/\v<P.length:=by
 unfold isB;simp[and_assoc]
theorem PX(S:Sch)(hS:SB S)(P:List Int)(u:P.length<=1000000)(v:Int):FnP prog 204 [gC S,pY P,.int .i64 v] (· = .bool (isB S P v)):=by
 refine FnP.of func204 O ntmps204 Xn λ_ _ _ _=>?_
 refine Z3 O<|Z2 O<|Rs O (aa call62 (gl S hS P u) O)<|Y2 O ?_;apply Tu 3 11 14 [12,13] O Xt
 .intro hb4;exact Y3 O<|Tm Xs O O O
 .intro hb4;exact Y3 O<|Tm Xs O O O
 refine A1 O ?_;apply Tu 6 15 21 [16,17,18,19,20] O Xt
 .intro hb8;exact Ar 6 O<|Tm Xs O O O
 .intro hb8;exact Ar 6 O<|Tm Xs O O O
 exact A1 O<|VF O O
structure OrdOk(S:Sch)(P:List Int):Prop where
 val:Valid S
 len:P.length=S.attrs.length
 rng:∀p∈P, -1<=p/\p<P.length
 up:∀v,v<P.length->(abv P (v:Int)).isSome=VA
 rt:∀r∈S.rels,dD P r.2=VA
theorem jY:qo S P=0↔bV S=0/\OrdOk S P:=by
 unfold qo;constructor
 .intro h;split at h
  .rename_i z;exact absurd h z
  rename_i u;have u:bV S=0:=Ui u;split at h
  .cases h
  rename_i z;split at h
  .cases h
  rename_i A;split at h
  .cases h
  rename_i B;split at h
  .cases h
  rename_i D;have z:P.length=S.attrs.length:=Ui z;have A:(P.any λp=>decide (p< -1)||decide ((P.length:Int)<=p))=VC:=by simpa using A
  have B:((List.range P.length).all λv=>(abv P v).isSome)=VA:=by rw[Bool.not_eq_false]at B;exact B
  have D:(S.rels.all λr=>dD P r.2)=VA:=by simpa using D
  refine⟨u,mW u,z,λp hp=>?_,λv hv=>OF.1 B v (UR.2 hv),λr hr=>OF.1 D r hr⟩;have:=List.any_eq_false.1 A p hp;simp at this;omega
 rintro⟨u,h⟩;rw[sh (λe=>e u),sh (λe=>e h.len),sh,sh,sh]
 .rw[OF.2 λr hr=>h.rt r hr];decide
 .rw[OF.2 λv hv=>h.up v (UR.1 hv)];decide
 rw[Ve];rintro⟨p,hp,A⟩;have:=h.rng p hp;simp at A;omega
theorem lr(p:Int->Bool)(k:Nat):(upZ (k+1)).filter p=(upZ k).filter p++(if p k=VA then [(k:Int)]else []):=by
 rw[Ce,WK]
 congr 1
 by_cases h:p k=VA<;>simp[h]
def cK(S:Sch)(P:List Int)(v:Int):List Int:=Ai (Ke S P v)
end
section
open Mk
def aE(P:List Int)(v:Int):List Int:=(upZ P.length).filter λa=>P.getD a.toNat 0==v
def badB(S:Sch)(P:List Int)(v:Int):Bool:=(v != -1&& !isB S P v)||(qo S P !=0)
theorem uK(S:Sch)(hS:SB S)(P:List Int)(E:P.length<=1000000)(v:Int):FnP prog 129 [gC S,pY P,.int .i64 v] (· =ar (if badB S P v=VA then []else aE P v)):=by
 refine FnP.of func129 O ntmps129 Xn λ_ _ _ _=>?_
 refine Z3 O<|Z3 O ?_;apply Tu 6 12 18 [13,14,15,16,17] O Xt
 .intro hb2;exact Y3 O<|Rg O (aa call204 (PX S hS P E v) O)<|Y2 O<|Tm Xs O O O
 .intro hb2;exact Ar 6 O<|Tm Xs O O O
 refine A1 O ?_;apply Tt 5 19 24 [20,21,22,23] O Xt
 .intro hb9;exact Ar 5 O<|Tm Xs O O O
 .intro hb9;exact Y2 O<|Rg O (aa call62 (gl S hS P E) O)<|Y2 O<|Tm Xs O O O
 refine Gc O (λz=>?_) (λz=>?_)
 .exact Z1 O<|Tj (St.kV [6])<|VF O<|by unfold badB;rw[By z];rfl
 refine Ti<|Z1 O<|Tj (Tp 7 2 1 3 O O)<|Z4 O ?_;refine Gz O (st:=λXr:Nat×List Int=>([(2,UG),(7,UF (.gsl 2 1 Xr.2.length)),(26,UG),(27,UG),(28,UF (pIi Xr.1))],[(2,UF (.gro 3 (aK Xr.2)))])) 3
  (I:=λXr=>Xr.1<=P.length/\Xr.2=(upZ Xr.1).filter (λa=>P.getD a.toNat 0==v)) (μ:=λXr=>P.length-Xr.1) (x0:=(0,[])) (WA O) (⟨aJ _,O⟩) ?_
 rintro⟨k,L⟩ ⟨hk,hL⟩;try simp only at hk hL ⊢
 refine Z1 O<|Gp O (λB=>?_) (λB=>?_)
 .have hlt:k<P.length:=Xj;have G:=a6 hlt;have H:=aM hlt;have J:L.length<=k:=by rw[hL];exact AS (UZ _ _) (by rw[a7];exact AT _)
  have M:(aK L).length=L.length*1:=Xn;have u:=lr (λa=>P.getD a.toNat 0==v) k;have D:P.getD (k:Int).toNat 0=P[k]:=by simp[List.getD,hlt]
  rw[D]at u;refine Ti<|Z2 O<|A2 O Xm ?_;refine Y2 O<|Z3 O ?_;refine Gc O (λA=>?_) (λA=>?_)
  .rw[By A,<-hL]at u;exact Gr O<|Ar 5 O<|Z2 O<|⟨(k+1,L++[(k:Int)]),Tl [0,1,4] ⟨O,by simp;rfl,O,O,O,Xq⟩ ⟨ah (λc=>UF (Ob.gro 3 c)) (fm L k).symm,Xq⟩ O O Xl O,⟨Xp,u.symm⟩,Xp⟩
  rw[sh (by rw[A];decide),<-hL,Uh]at u;exact Ti<|Z2 O<|⟨(k+1,L),WA O,⟨Xp,u.symm⟩,Xp⟩
 exact Gx O<|Tj (Tn 2 O O)<|Z2 O<|VF O<|by unfold badB;rw[sh (by rw[z];decide),show aE P v=L by rw[hL,show k=P.length by omega];rfl];simp[Ct];rfl
def vU(P:List Int)(h a:Int):Int:=if hiB P h a=VA then a else h
def qm(P:List Int)(l:List Int):Int:=l.foldl (vU P) (l.getD 0 0)
def lH(P:List Int):Nat->Int->List Int
 |0,_=>[]
 |f+1,v=>(upZ P.length).flatMap λa=>if P.getD a.toNat 0=v then a::lH P f a else []

end
section
open Mk
abbrev B64:=BitVec 64
abbrev ig(x:B64):PV:= .int .u64 (x.toNat:Int)
theorem tU(i:Int):IntKind.u64.wrap i=i%18446744073709551616:=by
 unfold IntKind.wrap;simp[IntKind.signed,IntKind.bits]
theorem zU(x:B64):IntKind.u64.wrap (x.toNat:Int)=x.toNat:=by
 rw[tU];have:=x.isLt;omega
theorem ofInt64(x:B64):BitVec.ofInt IntKind.u64.bits (x.toNat:Int)=x:=by
 show BitVec.ofInt 64 _=x;rw[BitVec.ofInt_natCast,BitVec.ofNat_toNat,BitVec.setWidth_eq]
section
variable {C:Ctx}{n:Nat}{σ:St}{dst:Option Tmp}{ty t t':TypeId}{pos:String}{after:Array Edge}{gd:Option (Nat×Bool)}{x y:Operand}{X Y:B64}
theorem zu(u:σ.ev n x= .pv (ig X))(z:σ.ev n y= .pv (ig Y)):XJ C n ⟨dst,.binOp .and t x y t',ty,pos,after,gd⟩ σ ⟨.pv (ig (X&&&Y)),[],[]⟩:=
 ba u z (by simp only[vx,ofInt64];exact ah (λi=>UF (PV.int .u64 i)) (zU _))
theorem Cx(u:σ.ev n x= .pv (ig X))(z:σ.ev n y= .pv (ig Y)):XJ C n ⟨dst,.binOp .or t x y t',ty,pos,after,gd⟩ σ ⟨.pv (ig (X|||Y)),[],[]⟩:=
 ba u z (by simp only[vx,ofInt64];exact ah (λi=>UF (PV.int .u64 i)) (zU _))
theorem Dc(u:σ.ev n x= .pv (ig X))(z:σ.ev n y= .pv (ig Y)):XJ C n ⟨dst,.binOp .andNot t x y t',ty,pos,after,gd⟩ σ ⟨.pv (ig (X&&& ~~~Y)),[],[]⟩:=
 ba u z (by simp only[vx,ofInt64];exact ah (λi=>UF (PV.int .u64 i)) (zU _))
theorem QI(u:σ.ev n x= .pv (ig X))(z:σ.ev n y= .pv (ig Y)):XJ C n ⟨dst,.binOp .sub t x y t',ty,pos,after,gd⟩ σ ⟨.pv (ig (X-Y)),[],[]⟩:=
 ba u z (by
  simp only[vx,tU];refine ah (λi=>UF (PV.int .u64 i)) ?_;have:=X.isLt;have:=Y.isLt;rw[BitVec.toNat_sub];omega)
theorem CE(X Y:B64):((X.toNat:Int)==(Y.toNat:Int))=decide (X=Y):=by
 rw[TY];simp only[U6,Tz];exact⟨λh=>BitVec.eq_of_toNat_eq Xj,λh=>by rw[h]⟩
theorem QJ(u:σ.ev n x= .pv (ig X))(z:σ.ev n y= .pv (ig Y)):XJ C n ⟨dst,.binOp .eql t x y t',ty,pos,after,gd⟩ σ ⟨.pv (.bool (decide (X=Y))),[],[]⟩:=
 ba u z (by simp only[vx,CE])
theorem HZ(u:σ.ev n x= .pv (ig X))(z:σ.ev n y= .pv (ig Y)):XJ C n ⟨dst,.binOp .neq t x y t',ty,pos,after,gd⟩ σ ⟨.pv (.bool (decide (X≠Y))),[],[]⟩:=
 ba u z (by simp only[vx,bne,CE,decide_not])
theorem PZ(a:Nat){i:Int}{k':IntKind}(u:σ.ev n x= .pv (ig 1#64))(z:σ.ev n y= .pv (.int k' i))(A:i=(a:Int))(B:a<64):XJ C n ⟨dst,.binOp .shl t x y t',ty,pos,after,gd⟩ σ ⟨.pv (ig (BitVec.twoPow 64 a)),[],[]⟩:=by
 subst A;refine XJ.cast (SS u z Xj)<|ah (λi=>V.pv (PV.int .u64 i)) ?_;show IntKind.u64.wrap (1*2^(min (Int.toNat (a:Int)) 64))=_;rw[show min (Int.toNat (a:Int)) 64=a by omega,BitVec.toNat_twoPow,tU];simp
theorem Fc(a:Nat){i:Int}{k':IntKind}(u:σ.ev n x= .pv (ig X))(z:σ.ev n y= .pv (.int k' i))(A:i=(a:Int))(B:a<64):XJ C n ⟨dst,.binOp .shr t x y t',ty,pos,after,gd⟩ σ ⟨.pv (ig (X>>>a)),[],[]⟩:=by
 subst A;refine XJ.cast (RE u z Xj)<|ah (λi=>V.pv (PV.int .u64 i)) ?_;show Int.fdiv (X.toNat:Int) (2^(min (Int.toNat (a:Int)) 64))=_;rw[show min (Int.toNat (a:Int)) 64=a by omega,BitVec.toNat_ushiftRight,Nat.shiftRight_eq_div_pow];have e:(2:Int)^a=((2^a:Nat):Int):=Xn;rw[e,Int.fdiv_eq_ediv_of_nonneg _ (Int.natCast_nonneg _)];simp
end
theorem P9(X:B64)(a:Nat):decide ((X>>>a)&&&1#64=1#64)=X.getLsbD a:=by
 rw[TY,Tz];constructor
 .intro h;have:=ah (λz:B64=>z.getLsbD 0) h;simpa using this
 grind
theorem zW(a:Nat)(u:a<64):FnP prog 74 [.int .i64 a] (· =ig (BitVec.twoPow 64 a)):=by
 refine FnP.of func74 O ntmps74 Xn λ_ _ _ _=>?_
 exact Z1 O<|Z1 O<|Rs O (PZ a O O O u)<|A1 O<|VF O O
theorem Ru(X:B64)(a:Nat)(u:a<64):FnP prog 135 [ig X,.int .i64 a] (· = .bool (X.getLsbD a)):=by
 refine FnP.of func135 O ntmps135 Xn λ_ _ _ _=>?_
 exact Z1 O<|Z2 O<|Rs O (Fc a O O O u)<|Rs O (zu (Y:=1#64) O O)<|Rs O (QJ (Y:=1#64) O O)<|A1 O<|VF O<|ah PV.bool (P9 X a)
abbrev zh(G:List B64):List PV:=G.map ig
abbrev kK(G:List B64):PV:= .sl UG G.length (zh G)
theorem C6{l:List B64}(h:k<l.length):(zh l)[k*1]? =UF (ig l[k]):=by simp[h]
theorem K5{l:List B64}(h:k<l.length):zh l≠[]:=by intro e;simp at e;subst e;simp at h
end
theorem zG(f:Nat->Bool):∀w:Nat,∃x:BitVec w,∀i,i<w->x.getLsbD i=f i
 |0=>⟨0#0,λi h=>absurd h (VP _)⟩
 | w+1=>by
   obtain⟨x,hx⟩:=zG f w;refine⟨BitVec.cons (f w) x,λi hi=>?_⟩;rw[BitVec.getLsbD_cons];by_cases e:i=w
   .rw[By e,e]
   rw[sh e,hx i Xj]
noncomputable def bitsOf(f:Nat->Bool):BitVec 64:=Classical.choose (zG f 64)
theorem EC(f:Nat->Bool)(h:i<64):(bitsOf f).getLsbD i=f i:=Classical.choose_spec (zG f 64) i h
structure IsG(S:Sch)(G:List (BitVec 64)):Prop where
 len:G.length=S.attrs.length
 bit:∀a,a<G.length->∀b:Nat,(G.getD a 0#64).getLsbD b=(decide (a≠b)&&fa S a b)
section
open Mk
theorem getD_eq{l:List α}(h:k<l.length)(d:α):l.getD k d=l[k]:=by simp[List.getD,h]
def JE(n:Nat)(G:List B64)(p:Nat->Nat->Bool):Prop:=G.length=n/\∀a,a<n->∀b:Nat,(G.getD a 0#64).getLsbD b=p a b
theorem JE.zero(n:Nat):JE n (List.replicate n 0#64) (λ_ _=>VC):=⟨Xn,λa ha b=>by simp[List.getD,ha]⟩
theorem JE.congr{G:List B64}{q:Nat->Nat->Bool}(h:JE n G p)(e:∀a,a<n->∀b,p a b=q a b):JE n G q:=⟨h.1,λa ha b=>by rw[h.2 a ha b,e a ha b]⟩
theorem JE.or{G:List B64}(h:JE n G p)(z:i<n)(x:B64):JE n (G.set i (G[i]'(by rw[h.1];exact z)|||x)) (λa b=>p a b||(decide (a=i)&&x.getLsbD b)):=by
 refine⟨by simp[h.1],λa ha b=>?_⟩;have u:i<G.length:=by rw[h.1];exact z
 by_cases e:a=i
 .subst e;have:=h.2 a ha b;rw[getD_eq u]at this;simp[List.getD,u,BitVec.getLsbD_or,this]
 have:=h.2 a ha b;simp only[List.getD]at this ⊢;rw[List.getElem?_set_ne (λA=>e A.symm),this];simp[e]
def vS(rs:List (ByteArray×List Int))(a b:Nat):Bool:=rs.any λr=>decide ((a:Int)∈r.2)&&decide ((b:Int)∈r.2)
theorem ml{q:Nat}(u:q<l.length)(z:l[q]=(i:Int))(a:Nat):(a:Int)∈l.take (q+1)↔(a:Int)∈l.take q\/a=i:=by grind[ct,TF]
theorem KZ{rs:List (ByteArray×List Int)}{q:Nat}{all:B64}(A:q<l.length)(B:l[q]=(i:Int))(u:∀b:Nat,all.getLsbD b=decide ((b:Int)∈l)):
  ((decide (a≠b)&&(vS rs a b||(decide ((a:Int)∈l.take q)&&decide ((b:Int)∈l))))||(decide (a=i)&&(all&&& ~~~(BitVec.twoPow 64 i)).getLsbD b))=
  (decide (a≠b)&&(vS rs a b||(decide ((a:Int)∈l.take (q+1))&&decide ((b:Int)∈l)))):=by
 have z:decide ((a:Int)∈l.take (q+1))=(decide ((a:Int)∈l.take q)||decide (a=i)):=by
  rw[TY,Ub,Vj,Vj,Vj,ml A B]
 rw[z,BitVec.getLsbD_and,BitVec.getLsbD_not,BitVec.getLsbD_twoPow,u];by_cases hb:(b:Int)∈l
 .grind
 simp[hb]
theorem Dp{rs:List (ByteArray×List Int)}(u:k<rs.length):vS (rs.take (k+1)) a b=(vS (rs.take k) a b||(decide ((a:Int)∈rs[k].2)&&decide ((b:Int)∈rs[k].2))):=by
 unfold vS;rw[ct u];simp only[List.any_append,List.any_cons,List.any_nil,Vc]
theorem Dv(S:Sch)(hS:SB S)(W:Valid S):FnP prog 71 [gC S] (λv=>∃G,v=kK G/\IsG S G):=by
 refine FnP.of func71 O ntmps71 Xn λ_ _ _ _=>?_
 have hb:=W.n2;have Z:=W.r2;refine Z2 O<|Gr O<|Ar 5 O<|Z4 O<|Gz O (st:=λXr:Nat×List B64=>([(3,UG),(16,UG),(17,UG),(18,UF (pIi Xr.1))],[(1,UF (.cells 165 (zh Xr.2)))])) 2
  (I:=λXr=>Xr.1<=S.rels.length/\JE S.attrs.length Xr.2 (λa b=>decide (a≠b)&&vS (S.rels.take Xr.1) a b)) (μ:=λXr=>S.rels.length-Xr.1) (x0:=(0,List.replicate S.attrs.length 0#64)) (Tk (aS O) ⟨ah (λc=>UF (Ob.cells 165 c)) ((dh (.int .u64 0) (S.attrs.length*1)).trans Xn),Xq⟩ O O) (⟨aJ _,(JE.zero _).congr (λa _ b=>by simp[vS])⟩) ?_
 rintro⟨k,G⟩ ⟨hk,hG⟩;try simp only at hk hG ⊢
 refine Z1 O<|Gp O (λJ=>?_) (λJ=>?_)
 .have hlt:k<S.rels.length:=Xj;have E:=fb hlt;have ab:=iD hlt;have ac:=hS.rl _ (aq hlt);have A:=W.rng _ (aq hlt);refine Ti<|Z1 O<|Rs O (aG ⟨_,underlying33,O⟩ HM O E O)<|Y2 O<|Z1 O<|Z4 O<|Gz O (st:=λu:Nat×B64=>([(3,UG),(5,UG),(6,UF (.pv (ig u.2))),(16,UG),(17,UG),(18,UG),(23,UG),(24,UG),(25,UF (pIi u.1))],[(1,UG),(2,UG)])) 3
   (I:=λu=>u.1<=S.rels[k].2.length/\∀b:Nat,u.2.getLsbD b=decide ((b:Int)∈S.rels[k].2.take u.1)) (μ:=λu=>S.rels[k].2.length-u.1) (x0:=(0,0#64)) (WA O) (⟨aJ _,λb=>by simp⟩) ?_
  rintro⟨q,all⟩ ⟨hq,hall⟩;try simp only at hq hall ⊢
  refine Z1 O<|Gp O (λL=>?_) (λL=>?_)
  .have hql:q<S.rels[k].2.length:=Xj;have hv:=a6 hql;have H:=aM hql;have B:=A _ (aq hql);obtain⟨i,hi⟩:=Bg B.1;have D:FnP prog 74 [.int .i64 S.rels[k].2[q]] (· =ig (BitVec.twoPow 64 i)):=by rw[hi];exact zW i Xj
   refine Ti<|Z1 O<|A2 O Xm ?_;exact A1 O<|Z2 O<|Rs O (aa call74 D O)<|Rs O (Cx O O)<|A1 O<|Z2 O<|⟨(q+1,all|||BitVec.twoPow 64 i),WA O,⟨Xp,λb=>by simp only;rw[BitVec.getLsbD_or,hall,BitVec.getLsbD_twoPow,TY,Ub,Vj,Vj,ml hql hi,du,Vj,Vj];exact or_congr Iff.rfl ⟨λh=>h.2.symm,λh=>⟨Xj,h.symm⟩⟩⟩,Xp⟩
  rw[aH Xj]at hall;refine Gx O<|Z4 O<|Gz O (st:=λz:Nat×List B64=>([(3,UG),(6,UG),(16,UG),(17,UG),(18,UG),(35,UG),(36,UG),(37,UF (pIi z.1))],[(1,UF (.cells 165 (zh z.2)))])) 3
   (I:=λz=>z.1<=S.rels[k].2.length/\JE S.attrs.length z.2 (λa b=>decide (a≠b)&&(vS (S.rels.take k) a b||(decide ((a:Int)∈S.rels[k].2.take z.1)&&decide ((b:Int)∈S.rels[k].2))))) (μ:=λz=>S.rels[k].2.length-z.1) (x0:=(0,G)) (WA O) (⟨aJ _,hG.congr (λa _ b=>by simp)⟩) ?_
  rintro⟨q2,G2⟩ ⟨hq2,hG2⟩;try simp only at hq2 hG2 ⊢
  refine Z1 O<|Gp O (λM=>?_) (λM=>?_)
  .have hql:q2<S.rels[k].2.length:=Xj;have hv:=a6 hql;have H:=aM hql;have B:=A _ (aq hql);obtain⟨i,hi⟩:=Bg B.1;have U:i<G2.length:=by rw[hG2.1];omega
   have hgl:=hG2.1;have V:=C6 U;have D:FnP prog 74 [.int .i64 S.rels[k].2[q2]] (· =ig (BitVec.twoPow 64 i)):=by rw[hi];exact zW i Xj
   refine Ti<|Z1 O<|A2 O Xm ?_;refine A1 O<|UB 11 O<|Dr 2 O<|VE [_] O (λτ h=>ak i underlying161 MU (Ee h 0 O O) (Eo h 0 O O) (Ee h 1 O O) hi Xj)<|VE [_] O (λτ h=>dA ⟨_,underlying165,O⟩ (Ee h 0 O O) (Eo h 0 O O) V)<|Dr 2 O<|TR O (λτ h=>aa call74 D (h.aD O))<|TR O (λτ h=>Dc (Ee h 0 O O) (Ee h 1 O O))<|TR O (λτ h=>Cx (Ee h 0 O O) (Ee h 1 O O))<|VE [_] O (λτ h=>ak i underlying161 MU (Ee h 0 O O) (Eo h 0 O O) (Ee h 1 O O) hi Xj)<|DL.step (d:=UG) [_] O O O (λτ h=>dB MU (Ee h 0 O O) (Eo h 0 O O) (Ee h 1 O O) O Xo) O Xk ?_;refine⟨Xk,?_⟩;exact Z2 O<|⟨(q2+1,G2.set i (G2[i]|||(all&&& ~~~(BitVec.twoPow 64 i)))),Tk (aS O) ⟨by show UF (Ob.cells _ _)=_;simp[US],Xq⟩ O O,⟨Xp,(hG2.or Xj _).congr (λa _ b=>KZ hql hi hall)⟩,Xp⟩
  have hG3:=hG2.congr (q:=λa b=>decide (a≠b)&&vS (S.rels.take (k+1)) a b) (λa _ b=>by rw[show S.rels[k].2.take q2=S.rels[k].2 from aH Xj,Dp hlt]);exact Gx O<|Z2 O<|⟨(k+1,G2),WA O,⟨Xp,hG3⟩,Xp⟩
 rw[aH Xj]at hG;exact Gx O<|Tj (Tn 1 O O)<|Z2 O<|Tj (St.kV [2])<|VF O ⟨G,by show PV.sl UG S.attrs.length (zh G)=_;rw[<-hG.1],hG.1,λa ha b=>by rw[hG.2 a (by rw[<-hG.1];exact ha) b];rfl⟩
end
section
open Mk
section
variable {C:Ctx}{n:Nat}{σ τ:St}{ops:Array Oper}{dst:Option Tmp}{ty:TypeId}{ts:Array TypeId}{pos:String}{after:Array Edge}{gd:Option (Nat×Bool)}
theorem Agr.eG{s:OS}{rd:List Nat}(h:Agr n ops ⟨dst,.call { callee:= .value y,args:=xs,argTypes:=ts },ty,pos,after,gd⟩ σ τ s rd):xs.toList.map (τ.ev n)=xs.toList.map (σ.ev n):=by
 apply Ud;intro x hx;obtain⟨i,hi⟩:=UX hx;exact h.e (i+1) x (by simpa[Op.operands,Call.operands,Wi]using hi)
theorem mT{fs cs:List V}{args:List V}{os:List (Nat×Ob)}{k':Nat}{r:V}{X:Nat->Option Ob}{vs:List V}(ids:List Nat)(base:Nat)(hc:db C.P f)(G:FnO C.P f ids.length k' args os (λv ob'=>v=r/\ob'=X))(H:σ.ev n y= .fn (.func f) fs cs)(A:xs.toList.map (σ.ev n)=vs)(u:fs++vs++cs=V.renL (fu ids base) args)
  (I:V.allL (okR ids.length 0) args=VA) (hos:os.map (·.1)=(List.range ids.length).map (big+ ·)) (B:os.all (λp=>p.2.all (okR ids.length 0))=VA) (z:gU σ (fu ids base) os)
  (D:ids.Nodup) (E:(nwO base k').all σ.av=VA):
  XJ C n ⟨dst,.call { callee:= .value y,args:=xs,argTypes:=ts },ty,pos,after,gd⟩ σ ⟨r.ren (fu ids base),wrO ids base k' X,nwO base k'⟩:=
 FU ids base hc H (by rw[A];exact u) I hos B z D E G (by rintro _ _ ⟨rfl,rfl⟩;rfl)
end
def tm(x:B64):Nat:=(List.range 64).countP λi=>x.getLsbD i
theorem Oh(x:B64):tm x<=64:=AS List.countP_le_length Xn
end
section
open Mk
noncomputable def gr(S:Sch):List B64:=(List.range S.attrs.length).map λa=>bitsOf λb=>decide (a≠b)&&fa S a b
theorem NK(S:Sch):(gr S).length=S.attrs.length:=by simp[gr]
theorem Px(u:Valid S){a b:Int}(h:fa S a b=VA):(0<=a/\a<S.attrs.length)/\(0<=b/\b<S.attrs.length):=by
 unfold fa at h;obtain⟨r,hr,h2⟩:=Ve.1 h;simp at h2;exact⟨u.rng r hr a h2.1,u.rng r hr b h2.2⟩
theorem Fj(u:Valid S)(z:a<S.attrs.length)(b:Nat):((gr S).getD a 0#64).getLsbD b=(decide (a≠b)&&fa S a b):=by
 have e:(gr S).getD a 0#64=bitsOf λb=>decide (a≠b)&&fa S a b:=by simp[gr,List.getD,z]
 rw[e];by_cases hb:b<64
 .rw[EC _ hb]
 rw[BitVec.getLsbD_of_ge _ _ Xj];cases hl:fa S a b with
 |false=>simp
 |true=>have:=(Px u hl).2;have:=u.n2;omega
theorem Sw(A:Valid S){G:List B64}(h:IsG S G):G=gr S:=by
 apply UL
 .rw[h.len,NK]
 .intro a h1 h2;apply BitVec.eq_of_getLsbD_eq;intro b _;have u:=h.bit a h1 b;have z:=Fj A (a:=a) (by rw[<-h.len];exact h1) b;rw[getD_eq h1]at u;rw[getD_eq h2]at z;rw[u,z]
def dupB(q:List Int):Nat->Bool
 |0=>VC
 |k+1=>dupB q k||decide (q.getD k 0∈q.take k)
def ofE(S:Sch)(q:List Int):Int:=
 if bV S≠0 then bV S
 else if q.length≠S.attrs.length then 5
 else if(q.any λa=>decide (a<0)||decide (a>=(q.length:Int)))=VA then 2
 else if dupB q q.length=VA then 9 else 0
end
section
theorem dT[DecidableEq α]{l r:List α}(u:l.Nodup)(z:r.Nodup)(h:∀a,a∈l↔a∈r):l.Perm r:=by grind
theorem bp:x∈upZ n↔∃a:Nat,a<n/\x=(a:Int):=by grind[upZ,UR.1,UR.2]
theorem cq(n:Nat):(upZ n).Nodup:=by grind[upZ,Int.ofNat.inj,List.nodup_range]
theorem Iq(n:Nat):(upZ n).Pairwise (· < ·):=by grind[upZ,List.pairwise_lt_range]
structure UpOk(P:List Int):Prop where
 rng:∀p∈P, -1<=p/\p<P.length
 up:∀v,v<P.length->(abv P (v:Int)).isSome=VA
theorem pg:∀{k:Nat}{x:Int}{l:List Int},upF P k x=UF l->upF P (k+1) x=UF l
 |0,x,l,h=>by grind[upF]
 | k+1,x,l,h=>by
   simp only[upF]at h;unfold upF;split at h
   .rename_i hx;rw[By hx];exact h
   rename_i hx;rw[sh hx];cases e:upF P k (P.getD x.toNat 0)with
   |none=>rw[e]at h;cases h
   | some l'=>
     rw[e]at h;rw[pg e];exact h
section
variable {P:List Int}(hP:UpOk P)
include hP
theorem xB(u:v<P.length):P[v]= -1\/∃a:Nat,a<P.length/\P[v]=(a:Int):=by
 have:=hP.rng _ (aq u);by_cases h:P[v]= -1
 .exact .inl h
 obtain⟨a,ha⟩:=Bg (show 0<=P[v] by omega);exact .inr ⟨a,Xj,ha⟩
omit hP in
theorem wY(u:v<P.length):abv P v=upF P P.length P[v]:=by simp[abv,List.getD,u]
omit hP in
theorem qT(u:v<P.length)(h:P[v]= -1):bU P v=[]:=by
 unfold bU;rw[wY u,h,iU Xl];rfl
theorem lX(z:v<P.length)(A:a<P.length)(h:P[v]=(a:Int)):bU P v=(a:Int)::bU P a:=by
 have u:=hP.up v z;have e:=wY z;rw[h]at e;obtain⟨k,hk⟩:∃k,P.length=k+1:=⟨P.length-1,Xj⟩;rw[hk,tr A]at e;cases e2:upF P k P[a]with
 |none=>rw[e,e2]at u;cases u
 | some l=>
   have B:abv P a=UF l:=by rw[wY A,hk];exact pg e2
   unfold bU;rw[e,e2,B];rfl
theorem CU{motive:Nat->Prop}(root:∀v (u:v<P.length),P[v]= -1->bU P v=[]->motive v)
  (step:∀v (u:v<P.length) a (_:a<P.length),P[v]=(a:Int)->bU P v=(a:Int)::bU P a->motive a->motive v):∀v,v<P.length->motive v:=by
 have z:∀m v,v<P.length->(bU P v).length<=m->motive v:=by
  intro m;induction m with
  | zero=>
    intro v u hl;rcases xB hP u with h|⟨a,ha,h⟩
    .exact root v u h (qT u h)
    grind[lX]
  | succ m ih=>
    intro v u hl;rcases xB hP u with h|⟨a,ha,h⟩
    .exact root v u h (qT u h)
    grind[lX,step]
 exact λv u=>z _ v u (AT _)
theorem gL:∀v,v<P.length->∀x∈bU P v,∃a:Nat,a<P.length/\x=(a:Int)/\∃pre,bU P v=pre++(a:Int)::bU P a:=by
 refine CU hP (λv hv h e x hx=>?_) (λv hv a ha h e ih x hx=>?_)
 .rw[e]at hx;cases hx
 rw[e]at hx ⊢;rcases BY.1 hx with rfl|hx
 .exact⟨a,ha,O,[],O⟩
 grind
theorem sB(u:v<P.length)(h:(a:Int)∈bU P v):a<P.length/\(bU P a).length<(bU P v).length:=by grind[gL]
theorem xA(u:v<P.length):(v:Int)∉bU P v:=λh=>Nat.lt_irrefl _ (sB hP u h).2
theorem uX{c:Nat}(hc:c<P.length)(u:(a:Int)∈bU P b)(z:(b:Int)∈bU P c):(a:Int)∈bU P c:=by grind[gL,WM,Ur]
theorem fN:∀v,v<P.length->((v:Int)::bU P v).Nodup:=by
 refine CU hP (λv hv h e=>by rw[e];simp) (λv hv a ha h e ih=>?_);rw[Vh];refine⟨xA hP hv,?_⟩;rw[e];exact ih
theorem xw:∀v,v<P.length->((v:Int)::bU P v).map (λa=>P.getD a.toNat 0)=bU P v++[-1]:=by
 refine CU hP (λv hv h e=>?_) (λv hv a ha h e ih=>?_)
 .rw[e];simp[List.getD,hv,h]
 grind
theorem jU(u:v<P.length)(h:x∈(v:Int)::bU P v):∃a:Nat,a<P.length/\x=(a:Int):=by grind[BY.1,gL]
theorem J6(u:v<P.length):(bU P v++[-1]).Nodup:=by
 rw[Wj];refine⟨(Vh.1 (fN hP v u)).2,Xn,?_⟩;intro a ha b hb;rw[TF.1 hb];obtain⟨c,_,rfl⟩:=jU hP u (Ur _ ha);omega
omit hP in
theorem Fi(p:α->Bool):∀l:List α,(l.map λa=>if p a=VA then 1 else 0).sum=l.countP p
 |[]=>rfl
 |a::l=>by rw[cu,Up,Fi p l,List.countP_cons];omega
theorem oJ(u:v<P.length):((upZ P.length).filter λa=>decide (a∈(v:Int)::bU P v)).Perm ((v:Int)::bU P v):=by grind[dT,UT,cq,fN,bp,jU]
theorem j8:∀(f:Nat)(v:Int),(∀a (z:a<P.length),P[a]=v->P.length+1<=(bU P a).length+f)->∀x,x<P.length->(lH P f v).count (x:Int)=if v∈bU P x++[-1]then 1 else 0:=by
 intro f;induction f with
 | zero=>
   intro v hf x hx;rw[sh]
   .rfl
   .intro hm;rw[<-xw hP x hx]at hm;obtain⟨a,z,e⟩:=TG.1 hm;obtain⟨b,hb,rfl⟩:=jU hP hx z;have D:=hf b hb (by simpa[List.getD,hb]using e);have:=jg P (b:Int);omega
 | succ f ih=>
   intro v hf x hx;have u:∀a∈upZ P.length,(List.count (x:Int)∘λa=>if P.getD a.toNat 0=v then a::lH P f a else []) a=if(decide (P.getD a.toNat 0=v)&&decide (a∈(x:Int)::bU P x))=VA then 1 else 0:=by
    intro a z;obtain⟨b,hb,rfl⟩:=bp.1 z;have A:P.getD (b:Int).toNat 0=P[b]:=by simp[List.getD,hb]
    simp only[Function.comp,A];by_cases e:P[b]=v
    .rw[By e,List.count_cons,ih (b:Int) ?_ x hx]
     .simp only[e,decide_true,Ws,Tz,BY,Uf,TF];by_cases B:b=x
      .grind[xA]
      grind
     grind[lX]
    rw[sh e];simp[e]
   unfold lH;rw[List.count_flatMap,Ud u,Fi,<-List.countP_filter,(oJ hP hx).countP_eq];have B:List.countP (λa=>decide (P.getD a.toNat 0=v)) ((x:Int)::bU P x)=List.count v (((x:Int)::bU P x).map λa=>P.getD a.toNat 0):=by
    rw[List.count,List.countP_map];refine List.countP_congr λa _=>?_
    simp
   rw[B,xw hP x hx,(J6 hP hx).count]
omit hP in
theorem vy:∀(f:Nat)(v:Int),∀x∈lH P f v,∃a:Nat,a<P.length/\x=(a:Int)
 |0,v,x,hx=>by simp[lH]at hx
 | f+1,v,x,hx=>by
   simp only[lH]at hx;obtain⟨a,ha,hx⟩:=Uk.1 hx;split at hx
   .rcases BY.1 hx with rfl|hx
    .exact bp.1 ha
    exact vy f a x hx
   cases hx
def aQ(P:List Int):List Int:=lH P (P.length+1) (-1)
theorem cE:(aQ P).Perm (upZ P.length):=by
 rw[List.perm_iff_count];intro x;rw[(cq _).count];by_cases h:x∈upZ P.length
 .rw[By h];obtain⟨a,ha,rfl⟩:=bp.1 h;unfold aQ;rw[j8 hP _ _ (λb hb e=>by omega) a ha,By Xn]
 rw[sh h,List.count_eq_zero];exact λu=>h (bp.2 (vy _ _ x u))
end
def Bef(P:List Int)(v:Int)(w:List Int):Prop:=∀pre x post,w=pre++x::post->P.getD x.toNat 0=v\/P.getD x.toNat 0∈pre
theorem Bef.nil{v:Int}:Bef P v []:=λpre x post h=>by simp at h
theorem Bef.append{v:Int}{w1 w2:List Int}(z:Bef P v w1)(u:Bef P v w2):Bef P v (w1++w2):=by
 intro pre x post e;rcases List.append_eq_append_iff.1 e with⟨us,e1,e2⟩|⟨bs,e1,e2⟩
 .rcases u us x post e2 with h|h
  .exact .inl h
  grind
 cases bs with
 | nil=>
   simp at e1 e2;rcases u [] x post (by simpa using e2.symm)with h|h
   .exact .inl h
   cases h
 | cons b bs=>
   simp at e2;exact z pre x bs (by rw[e1,<-e2.1])
theorem Bef.cons{v a:Int}{w:List Int}(u:P.getD a.toNat 0=v)(h:Bef P a w):Bef P v (a::w):=by
 intro pre x post e;cases pre with
 |nil=>simp at e;rw[<-e.1];exact .inl u
 | cons b pre=>
   simp at e;rcases h pre x post e.2 with h|h
   .grind
   right;exact Ur _ h
theorem Bef.flat{v:Int}{f:Int->List Int}:∀{l:List Int},(∀a∈l,Bef P v (f a))->Bef P v (l.flatMap f)
 |[],_=>Bef.nil
 | a::l,h=>by
   rw[T0];exact(h a (Vr ..)).append (Bef.flat λb hb=>h b (Ur _ hb))
theorem BB(P:List Int):∀(f:Nat)(v:Int),Bef P v (lH P f v)
 |0,_=>Bef.nil
 | f+1,v=>by
   unfold lH;refine Bef.flat λa _=>?_
   split
   .rename_i h;exact Bef.cons h (BB P f a)
   exact Bef.nil
theorem PB(z:UpOk P)(A:i<(aQ P).length):(aQ P)[i]∉(aQ P).take i/\(P.getD (aQ P)[i].toNat 0= -1\/P.getD (aQ P)[i].toNat 0∈(aQ P).take i):=by
 have e:aQ P=(aQ P).take i++(aQ P)[i]::(aQ P).drop (i+1):=by simp_all
 refine⟨?_,BB P _ _ _ _ _ e⟩;have u:(aQ P).Nodup:=(cE z).nodup_iff.2 (cq _);intro hm;obtain⟨j,hj,e2⟩:=Vm.1 hm;exact Uj.1 u j i Xj A Xj e2
theorem Lh:x∈Ai l↔x∈l:=(kj l).mem_iff
theorem uM{v:Int}:x∈cK S P v↔x∈bU P v/\∃b∈bA P v,fa S x b=VA:=by
 unfold cK Ke;rw[Lh,UW,Ve]
theorem iF{v b:Int}:b∈bA P v↔(∃a:Nat,a<P.length/\b=(a:Int))/\(b=v\/v∈bU P b):=by grind[bA,upZ,hiB,bp]
theorem Qh{r:ByteArray×List Int}(u:r∈S.rels){a b:Int}(z:a∈r.2)(A:b∈r.2):fa S a b=VA:=by
 unfold fa;rw[Ve];exact⟨r,u,by simp[z,A]⟩
theorem r8(h:dD P l=VA){a b:Int}(u:a∈l)(z:b∈l):a=b\/a∈bU P b\/b∈bU P a:=by grind[dD,OF.1,hiB]
theorem wy(A:UpOk P)(B:∀a∈l,0<=a/\a<P.length)(D:dD P l=VA):∀(k:List Int)(done:List Int)(h:Int),(∀a∈k,a∈l)->(∀a∈done,a∈l)->h∈l->(∀a∈done,a=h\/a∈bU P h)->
  k.foldl (vU P) h∈l/\∀a,a∈done\/a∈k->a=k.foldl (vU P) h\/a∈bU P (k.foldl (vU P) h)
 |[],done,h,_,_,hh,hd=>⟨hh,λa ha=>hd a (ha.resolve_right Xn)⟩
 | x::k,done,h,hk,hdn,hh,hd=>by
   have hx:=hk x (Vr ..);have z:∀{a:Int},a∈l->∃n:Nat,n<P.length/\a=(n:Int):=fun{a} ha=>by grind[Bg]
   have u:vU P h x∈l/\∀a∈done++[x],a=vU P h x\/a∈bU P (vU P h x):=by
    unfold vU;by_cases e:hiB P h x=VA
    .rw[By e];have E:h∈bU P x:=by simpa[hiB]using e
     refine⟨hx,λa ha=>?_⟩;rcases Uf.1 ha with had|ha
     .grind[uX]
     left;exact TF.1 ha
    grind[bU,hiB,Uf.1,TF.1,r8]
   have:=wy A B D k (done++[x]) (vU P h x) (λa ha=>hk a (Ur _ ha)) (λa ha=>by grind) u.1 u.2;rw[U0];refine⟨this.1,λa ha=>this.2 a ?_⟩;rcases ha with ha|ha
   .exact .inl (Wg _ ha)
   grind
theorem Bt(z:UpOk P)(u:l≠[])(A:∀a∈l,0<=a/\a<P.length)(B:dD P l=VA):qm P l∈l/\∀a∈l,a=qm P l\/a∈bU P (qm P l):=by
 cases l with
 |nil=>exact absurd O u
 | cons x l=>
   have:=wy z A B (x::l) [] x (λa h=>h) Xn (Vr ..) Xn;unfold qm;exact⟨this.1,λa ha=>this.2 a (.inr ha)⟩
theorem OrdOk.jL(h:OrdOk S P):UpOk P:=⟨h.rng,h.up⟩
end
section
inductive Path (adj:Nat->Nat->Prop) (ok:Nat->Prop) (a:Nat):Nat->Prop
 |refl:Path adj ok a a
 |step {b c:Nat}:Path adj ok a b->adj b c->ok c->Path adj ok a c
section
variable {adj:Nat->Nat->Prop}{ok ok':Nat->Prop}
theorem Path.trans{a b c:Nat}(u:Path adj ok a b)(z:Path adj ok b c):Path adj ok a c:=by
 induction z with
 |refl=>exact u
 |step _ h3 h4 ih=>exact .step ih h3 h4
theorem Path.one(h:adj a b)(u:ok b):Path adj ok a b:= .step .refl h u
theorem Path.mono(h:Path adj ok a b)(u:∀c,ok c->ok' c):Path adj ok' a b:=by
 induction h with
 |refl=>exact .refl
 |step _ h3 h4 ih=>exact .step ih h3 (u _ h4)
end
def Anc(adj:Nat->Nat->Prop)(pos:Nat->Nat)(a b:Nat):Prop:=pos a<pos b/\Path adj (λc=>pos a<=pos c) a b
section
variable {adj:Nat->Nat->Prop}{pos:Nat->Nat}(hs:∀a b,adj a b->adj b a)
theorem Anc.trans{a b c:Nat}(u:Anc adj pos a b)(z:Anc adj pos b c):Anc adj pos a c:=by
 have A:=u.1;exact⟨WR u.1 z.1,u.2.trans (z.2.mono λd hd=>by omega)⟩
include hs in
end
structure IsOrd(n:Nat)(adj:Nat->Nat->Prop)(pos:Nat->Nat)(P:List Int):Prop where
 len:P.length=n
 par:∀b,b<n->(P.getD b 0= -1/\∀a,a<n->¬Anc adj pos a b)\/(∃a:Nat,a<n/\P.getD b 0=(a:Int)/\Anc adj pos a b/\∀a',a'<n->Anc adj pos a' b->a'=a\/Anc adj pos a' a)
section
variable {n:Nat}{adj:Nat->Nat->Prop}{pos:Nat->Nat}{P:List Int}
theorem IsOrd.upF(h:IsOrd n adj pos P):∀(m b k:Nat),b<n->pos b<=m->pos b<=k->(upF P k (P.getD b 0)).isSome=VA:=by
 intro m;induction m with
 | zero=>
   intro b k hb hm hk;rcases h.par b hb with⟨h1,_⟩|⟨a,ha,h1,h2,_⟩
   .rw[h1,iU Xl];rfl
   have:=h2.1;omega
 | succ m ih=>
   intro b k hb hm hk;rcases h.par b hb with⟨h1,_⟩|⟨a,ha,h1,h2,_⟩
   .rw[h1,iU Xl];rfl
   have:=h2.1;obtain⟨k',rfl⟩:∃k',k=k'+1:=⟨k-1,Xj⟩;rw[h1,tr (by rw[h.len];exact ha),Option.isSome_map];have:=ih a k' ha Xj Xj;rwa [getD_eq (by rw[h.len];exact ha)]at this
theorem IsOrd.jL(h:IsOrd n adj pos P)(z:∀b,b<n->pos b<n):UpOk P:=by
 refine⟨λp z=>?_,λv hv=>?_⟩
 .obtain⟨b,hb,e⟩:=Ux z;rw[<-getD_eq hb 0]at e;have u:b<n:=by rw[<-h.len];exact hb
  have:=h.len;rcases h.par b u with⟨h1,_⟩|⟨a,ha,h1,_,_⟩<;>omega
 have hv':v<n:=by rw[<-h.len];exact hv
 have:=h.upF (pos v) v P.length hv' (AT _) (by rw[h.len];exact WG (z v hv'));rwa [wY hv,<-getD_eq hv 0]
theorem IsOrd.mem(h:IsOrd n adj pos P)(u:∀b,b<n->pos b<n):∀b,b<P.length->∀a:Nat,(a:Int)∈bU P b↔a<n/\Anc adj pos a b:=by
 have z:=h.len;refine CU (h.jL u) (λv hv hr e a=>?_) (λv hv p hpl hr e ih a=>?_)
 .rw[e];rcases h.par v Xj with⟨_,h2⟩|⟨c,hc,h1,_,_⟩
  .grind
  rw[getD_eq hv,hr]at h1;omega
 rw[e,BY,ih a];rcases h.par v Xj with⟨h1,_⟩|⟨c,hc,h1,h2,h3⟩
 .rw[getD_eq hv,hr]at h1;omega
 rw[getD_eq hv,hr]at h1;have:c=p:=Xj;subst this;constructor
 .rintro(h4|h4)
  .have:a=c:=Xj;subst this;exact⟨hc,h2⟩
  exact⟨h4.1,h4.2.trans h2⟩
 grind
end
theorem xM{a b:Int}(h:fa S a b=VA):fa S b a=VA:=by grind[fa,Ve.1,Ve,Bool.and_comm]
def xu(q:List Int)(a:Nat):Nat:=q.idxOf (a:Int)
theorem GM(u:q.Perm (upZ n))(z:a<n):xu q a<n:=by
 have:q.idxOf (a:Int)<q.length:=List.idxOf_lt_length_of_mem (u.mem_iff.2 (bp.2 ⟨a,z,O⟩));rwa [u.length_eq,a7]at this
theorem CQ(E:q.Perm (upZ n))(G:a<n)(h:xu q a=xu q b):a=b:=by
 have u:q.idxOf (a:Int)<q.length:=List.idxOf_lt_length_of_mem (E.mem_iff.2 (bp.2 ⟨a,G,O⟩));have z:q.idxOf (b:Int)<q.length:=by unfold xu at h;rw[<-h];exact u
 have A:q[q.idxOf (a:Int)]=(a:Int):=List.getElem_idxOf u;have B:q[q.idxOf (b:Int)]=(b:Int):=List.getElem_idxOf z;have D:q[q.idxOf (a:Int)]=q[q.idxOf (b:Int)]:=by unfold xu at h;congr 1
 rw[A,B]at D;omega
end

section
open Mk
theorem D8(S:Sch)(hS:SB S)(a b:Int):FnP prog 46 [gC S,.int .i64 a,.int .i64 b] (· = .bool (fa S a b)):=by
 refine FnP.of func46 O ntmps46 Xn λ_ _ _ _=>?_
 have E:=hS.r;refine Z2 O<|Z4 O<|Gz O (st:=λXr:Nat=>([(1,UG),(2,UG),(10,UG),(11,UG),(12,UF (pIi Xr))],[])) 1
  (I:=λXr=>Xr<=S.rels.length/\((S.rels.take Xr).any λr=>decide (a∈r.2)&&decide (b∈r.2))=VC) (μ:=λXr=>S.rels.length-Xr) (x0:=0) (Tk (aS O) trivial O O) (⟨aJ _,O⟩) ?_
 rintro k ⟨hk,hno⟩;refine Z1 O<|Gp O (λA=>?_) (λA=>?_)
 .have hlt:k<S.rels.length:=Xj;have z:=fb hlt;have B:=iD hlt;have D:=hS.rl _ (aq hlt);refine Ti<|Z1 O<|Rs O (aG ⟨_,underlying33,O⟩ HM O z O)<|Y2 O<|Z3 O<|Rs O (aa call45 (ns S.rels[k].2 a Xj) O)<|A1 O ?_;apply Tu 5 20 25 [21,22,23,24] O Xt
  .intro hb4;exact Y3 O<|Rg O (aa call45 (ns S.rels[k].2 b Xj) O)<|A1 O<|Tm Xs O O O
  .intro hb4;exact Ar 5 O<|Tm Xs O O O
  refine Gc O (λu=>?_) (λu=>?_)
  .exact Z1 O<|VF O<|ah PV.bool (by unfold fa;exact(wH (p:=λr:ByteArray×List Int=>decide (a∈r.2)&&decide (b∈r.2)) hlt u).symm)
  exact Ti<|Z2 O<|⟨(k+1),Tk (aS O) trivial O O,⟨Xj,jb hlt hno u⟩,Xj⟩
 exact Gx O<|Z1 O<|VF O<|ah PV.bool (by rw[aH Xj]at hno;exact hno.symm)
end
section
open Mk
theorem pos_at(u:q.Perm (upZ n))(z:i<q.length)(h:q[i]=(a:Int)):xu q a=i:=by grind[cq,xu]
end
section
open Mk
structure IsChain(n:Nat)(q P:List Int):Prop where
 perm:q.Perm (upZ n)
 len:P.length=n
 par:∀i (hi:i<q.length),P.getD q[i].toNat 0=if i=0 then-1 else q.getD (i-1) 0
theorem IsChain.ord(h:IsChain n q P):IsOrd n (λ_ _=>True) (xu q) P:=by
 have A:q.length=n:=by rw[h.perm.length_eq,a7]
 refine⟨h.len,λb hb=>?_⟩;have D:=GM h.perm hb;have z:q[xu q b]'Xj=(b:Int):=List.getElem_idxOf (by show xu q b<_;omega);have u:=h.par (xu q b) Xj;rw[z,TU]at u;by_cases e:xu q b=0
 .rw[By e]at u;exact .inl ⟨u,λa _ ha=>by have:=ha.1;omega⟩
 rw[sh e]at u;obtain⟨a,ha,hqa⟩:=bp.1 (h.perm.mem_iff.1 (aq (show xu q b-1<q.length by omega)));have B:=pos_at h.perm Xj hqa;rw[getD_eq (show xu q b-1<q.length by omega),hqa]at u;refine .inr ⟨a,ha,u,⟨Xj,.one trivial Xj⟩,λa' ha' h2=>?_⟩;have E:=h2.1;by_cases e2:xu q a'=xu q a
 .exact .inl (CQ h.perm ha' e2)
 exact .inr ⟨Xj,.one trivial Xj⟩
theorem IsChain.ok(z:Valid S)(h:IsChain S.attrs.length q P):OrdOk S P:=by
 have A:∀b,b<S.attrs.length->xu q b<S.attrs.length:=λb hb=>GM h.perm hb
 have B:=h.ord;have E:=B.jL A;refine⟨z,h.len,E.rng,E.up,λr hr=>?_⟩;unfold dD;rw[OF];intro a ha;rw[OF];intro b hb;obtain⟨x,hx⟩:=Bg (z.rng r hr a ha).1;obtain⟨y,hy⟩:=Bg (z.rng r hr b hb).1;have u:x<S.attrs.length:=by have:=(z.rng r hr a ha).2;omega
 have D:y<S.attrs.length:=by have:=(z.rng r hr b hb).2;omega
 by_cases e:a=b
 .simp[e]
 have hxy:x≠y:=Xj;have G:=h.len;rcases Nat.lt_or_gt_of_ne (λe=>hxy (CQ h.perm u e))with h1|h1
 .have:(x:Int)∈bU P y:=(B.mem A y Xj x).2 ⟨u,h1,.one trivial (WG h1)⟩;rw[hx,hy];simp[hiB,this]
 have:(y:Int)∈bU P x:=(B.mem A x Xj y).2 ⟨D,h1,.one trivial (WG h1)⟩;rw[hx,hy];simp[hiB,this]
def ED(q P:List Int)(n i:Nat):Prop:=P.length=n/\∀j (hj:j<q.length),j<i->P.getD q[j].toNat 0=if j=0 then-1 else q.getD (j-1) 0
theorem ED.next(z:q.Perm (upZ n))(h:ED q P n i)(E:i<q.length)(G:a<n)(u:q[i]=(a:Int))(A:x=if i=0 then-1 else q.getD (i-1) 0):ED q (P.set a x) n (i+1):=by
 refine⟨by rw[TQ,h.1],λj hj hji=>?_⟩;obtain⟨b,hb,hqb⟩:=bp.1 (z.mem_iff.1 (aq hj));rw[hqb,TU];by_cases e:j=i
 .subst e;have:b=a:=by rw[hqb]at u;omega
  subst this;rw[A.symm.trans O |>.symm]at*;simp[List.getD,h.1,hb,A]
 have hne:b≠a:=λB=>by
  subst B;exact e (by rw[<-pos_at z hj hqb,<-pos_at z E u])
 have:=h.2 j hj Xj;rw[hqb,TU]at this;simp only[List.getD]at this ⊢;rw[List.getElem?_set_ne (λD=>hne D.symm)];exact this
theorem ED.last(u:q.Perm (upZ n))(h:ED q P n i)(z:q.length<=i):IsChain n q P:=⟨u,h.1,λj hj=>h.2 j hj Xj⟩
end
section
open Mk
theorem J5(u:UpOk P):(aQ P).length=P.length:=by rw[(cE u).length_eq,a7]
def bm:Sch:=⟨[(⟨#[97]⟩,1),(⟨#[98]⟩,1),(⟨#[99]⟩,1)],[(⟨#[114]⟩,[0,1]),(⟨#[113]⟩,[1,2])],[], -1⟩
theorem oB:SB bm:=⟨Xl,Xl,Xl,Xl,Xl,Xl⟩
theorem GA:bV bm=0:=Xl
abbrev bI:List Int:=[1, -1,1]
theorem vh:qo bm bI=0:=Xl
theorem B0(a:Int):Ai [a]=[a]:=(o5 (T3 [a]) Xn).symm
theorem Lz:Ai []=[]:=(o5 (T3 []) Xn).symm
theorem FG:cK bm bI 0=[1]:=by unfold cK;rw[show Ke bm bI 0=[1] by decide,B0]
theorem NQ:cK bm bI 1=[]:=by unfold cK;rw[show Ke bm bI 1=[] by decide,Lz]
theorem JH:cK bm bI 2=[1]:=by unfold cK;rw[show Ke bm bI 2=[1] by decide,B0]
theorem FA(l:List Int)(u:l.length<=1000000000):FnP prog 21 [ar l,ar l] (· = .bool VA):=by
 have h:=GX l l u u;rw[TD O]at h;exact h
end
theorem MM{P:Program}{args:List PV}{us:List Value}(h:FnP P f args (· = .bool VA))(w:World)(A:re w (λb=>b<w.heap.size))(z:RelPL w (λb=>b<w.heap.size) args us):
  Calls P f us.toArray w λe w'=>e= .returned (.bool VA)/\Below w.heap.size w w':=
 (h w _ us A (λ_ hb=>hb) z).mono λ_ _ ⟨u,v,e,hv,hb,hr⟩=>by grind[RelP]
section
open Mk
theorem qv:∀{l:List Int},l.Pairwise (· < ·)->(∀a∈l,0<=a/\a<n)->l.length<=n:=by
 intro l hp hr;have u:l.Nodup:=hp.imp (λh e=>by omega);have z:∀a∈l,a∈upZ n:=λa ha=>by
  obtain⟨x,hx⟩:=Bg (hr a ha).1;exact bp.2 ⟨x,by have:=(hr a ha).2;omega,hx⟩
 have:(((upZ n).filter λa=>decide (a∈l))).Perm l:=dT (Vs UT (cq _)) u λa=>by grind
 rw[<-this.length_eq];exact AS (UZ _ _) (by rw[a7];exact AT _)
theorem Gh(p:UInt8)(i:Nat):(nm p i).size=2:=by
 unfold nm chr;simp[V1];rfl
theorem uP{most o:Nat}(h:Made S most o)(B:most<=8):SB S:=by
 have u:=h.a2;have z:=h.r2;have A:=dS h.fs;refine⟨Xj,Xj,Xj,λx hx=>?_,λx hx=>?_,λx hx=>?_⟩
 .obtain⟨i,hi,rfl⟩:=Ux hx;rw[(h.at' i hi).1,Gh];decide
 .obtain⟨i,hi,rfl⟩:=Ux hx;rw[(h.rs i hi).1,Gh];decide
 obtain⟨i,hi,rfl⟩:=Ux hx;have:=qv (h.rs i hi).2.2.1 (h.rs i hi).2.2.2;omega
section
variable {C:Ctx}{n:Nat}{σ:St}{dst:Option Tmp}{ty:TypeId}{ts:Array TypeId}{pos:String}{after:Array Edge}{gd:Option (Nat×Bool)}
def RM(T:TypeId)(id:Nat)(Q:PV->List PV->Prop)(s:OS):Prop:=∃r cs',Q r cs'/\s=⟨.pv r,[(id,UF (.mix T (cs'.map .pv)))],[]⟩
theorem relM{ps:List PV}{Q:PV->List PV->Prop}(hc:db C.P f)(z:FnM C.P f T cs ps Q)(u:xs.toList.map (σ.ev n)= .ptr id 0::ps.map .pv)(A:σ.ob id=UF (.mix T (cs.map .pv))):
  OJ C n ⟨dst,.call { callee:= .value (.func f),args:=xs,argTypes:=ts },ty,pos,after,gd⟩ (λτ'=>∃s,RM T id Q s/\s.wr.map (·.1)=[id]/\s.nw=[]/\τ'=σ.app dst s) σ:=
 ma hc z u A λr cs' h=>⟨_,⟨r,cs',h,O⟩,O,O,O⟩
end
end
section
open Mk
theorem xF(L:List Int)(k:Nat)(J:L.length<=600)(M:k<=L.length)(S:Sch)(B:1<=S.attrs.length)(D:S.attrs.length<=1000):
  FnM prog 7 75 (jq L k) [gC S] (λv c=>(∃q P:List Int,IsChain S.attrs.length q P/\v=pY P)/\∃k',k'<=L.length/\c=jq L k'):=by
 refine FnM.fg2 (FnM.ofC (rt:=35) (k:=1) func7 O ntmps7 Xn O Xn ⟨_,underlying35,O⟩ sz35 λ_ _ _ _=>?_);refine Z2 O<|Z4 O<|RL.call O (ma call29 (wM L k S.attrs.length J M B D) O O ?_);rintro _ _ ⟨⟨q,hq,rfl⟩,k1,hk1,rfl⟩;have u:q.length=S.attrs.length:=by rw[hq.length_eq,a7]
 refine A1 O<|Z2 O<|Rs O (qB (zs:=[.int .i64 0]) 2 q.length vY O O O O O Xj O)<|Y3 O<|Z3 O<|Gz O (st:=λXr:Nat×List Int=>([(4,UG),(5,UG),(6,UG),(18,UG),(19,UG),(20,UF (pIi Xr.1))],[(big,UG),(1,UG),(2,UF (intsO Xr.2)),(3,UG)])) 4
  (I:=λXr=>Xr.1<=q.length/\ED q Xr.2 S.attrs.length Xr.1) (μ:=λXr=>q.length-Xr.1) (x0:=(0,List.replicate q.length 0)) (Tk (aS O) ⟨O,O,ah (λc=>UF (Ob.cells 3 c)) ((dh (.int .i64 0) (q.length*1)).trans Xn),O,Xq⟩ O O) (⟨aJ _,by simp[u],λj _ h=>absurd h (VP _)⟩) ?_
 rintro⟨i,P⟩ ⟨hi,hC⟩;try simp only at hi hC ⊢
 refine Z1 O<|Gp O (λz=>?_) (λz=>?_)
 .have hil:i<q.length:=Xj;have U:=a6 hil;have E:=aM hil;obtain⟨a,ha,hqa⟩:=bp.1 (hq.mem_iff.1 (aq hil));have G:=hC.1;refine Ti<|Z2 O<|A2 O Xm ?_;refine Y2 O<|Z3 O<|Rs O (ak a underlying22 sz3 O O O hqa Xj)<|A1 O<|Z2 O ?_;refine Gp O (λA=>?_) (λA=>?_)
  .have hi1:i-1<q.length:=Xj;have H:(aK q)[(i-1)*1]? =UF (.int .i64 q[i-1]):=a6 hi1;refine UB 10 O<|Dr 6 O<|TR O (λτ h=>ag (i-1) underlying22 sz3 (Ee h 0 O O) (Ee h 1 O O) Xj hi1 (aM hi1))<|D2 O O Xm ?_;refine VE [_] O (λτ h=>ak a underlying22 sz3 (Ee h 0 O O) (Eo h 0 O O) (Ee h 1 O O) hqa Xj)<|D1 O ?_;refine⟨Xk,?_⟩;exact Z2 O<|⟨(i+1,P.set a q[i-1]),Tk (aS O) ⟨O,O,ah (λc=>UF (Ob.cells 3 c)) (by rw[TZ];simp[US]),O,Xq⟩ O O,⟨Xp,hC.next hq hil ha hqa (by rw[sh Xj,getD_eq hi1])⟩,Xp⟩
  exact Ti<|Z2 O<|⟨(i+1,P.set a (-1)),Tk (aS O) ⟨O,O,ah (λc=>UF (Ob.cells 3 c)) (by rw[TZ];simp[US]),O,Xq⟩ O O,⟨Xp,hC.next hq hil ha hqa (by rw[By Xj])⟩,Xp⟩
 have hch:=hC.last hq Xj;exact Gx O<|Tj (Tn 2 O O)<|Z2 O<|Gt O<|⟨1,_,[.sl (UF VC) q.length (aK P)],jq L k1,O,O,O,O,O,⟨q,P,hch,by show PV.agg [.sl UG q.length (aK P)]=_;rw[pY,ar,hch.len,u]⟩,k1,hk1,O⟩
end


section
open Mk Jn
theorem pB:∀(x y:List UInt8),Op.bytesLess x y=decide (x<y)
 |[],[]=>by simp[Op.bytesLess]
 |_::_,[]=>by simp[Op.bytesLess]
 |[],_::_=>by simp[Op.bytesLess]
 | a::x,b::y=>by
   rw[Op.bytesLess,pB x y];simp only[List.cons_lt_cons_iff];by_cases h1:a<b<;>by_cases h2:a=b<;>by_cases h3:x<y<;>simp[h1,h2,h3]
theorem so(x:ByteArray)(a b:List ByteArray):bO (x::a) (x::b)=bO a b:=by
 unfold bO EO;rw[TY,Tz,Tz,cu,cu,List.cons_lt_cons_iff];simp[List.lt_irrefl]
theorem M0{x y:ByteArray}(h:x≠y)(a b:List ByteArray):bO (x::a) (y::b)=Op.bytesLess x.toList y.toList:=by
 unfold bO EO;rw[pB,ByteArray.toList_eq,ByteArray.toList_eq,TY,Tz,Tz,cu,cu,List.cons_lt_cons_iff];exact⟨λk=>k.elim id λe=>absurd (Fy e.1) h,.inl⟩
theorem ud:∀{i:Nat}{a b:List ByteArray}(u:i<a.length)(z:i<b.length),a.take i=b.take i->a[i]≠b[i]->bO a b=Op.bytesLess a[i].toList b[i].toList
 |0,x::a,y::b,_,_,_,h=>M0 h a b
 | i+1,x::a,y::b,u,z,ht,h=>by
   rw[WE,WE,U8]at ht;obtain⟨rfl,ht⟩:=ht;rw[so];exact ud (by simpa using u) (by simpa using z) ht h
theorem mw:∀{i:Nat}{a b:List ByteArray},i<=a.length->i<=b.length->(i=a.length\/i=b.length)->a.take i=b.take i->bO a b=decide ((a.length:Int)<b.length)
 |_,[],[],_,_,_,_=>by simp[bO,EO]
 |_,[],y::b,_,_,_,_=>by simp[bO,EO]
 |_,x::a,[],_,_,_,_=>by simp[bO,EO];omega
 |0,x::a,y::b,_,_,h,_=>by simp at h
 | i+1,x::a,y::b,ha,hb,h,ht=>by
   rw[WE,WE,U8]at ht;obtain⟨rfl,ht⟩:=ht;rw[so,mw (i:=i) (by simpa using ha) (by simpa using hb) (by simpa using h) ht];simp
theorem Ev(a b:List ByteArray)(G:a.length<=1000000)(H:b.length<=1000000):FnP prog 133 [bh a,bh b] (· = .bool (bO a b)):=by
 refine FnP.of func133 O ntmps133 Xn λ_ _ _ _=>?_
 refine Z1 O<|Z1 O<|Gz O (st:=λXr:Nat=>([(0,UG),(1,UG),(5,UF (pIi Xr))],[])) 0
  (I:=λXr=>(Xr<=a.length/\Xr<=b.length)/\a.take Xr=b.take Xr) (μ:=λXr=>a.length-Xr) (x0:=0) (Tk (aS O) trivial O O) (⟨⟨aJ _,aJ _⟩,O⟩) ?_
 rintro i ⟨hi,ht⟩;refine Gr O<|Ar 5 O ?_;apply Tu 5 10 15 [11,12,13,14] O Xt
 .intro hb4;exact Ar 5 O<|Tm Xs O O O
 .intro hb4;exact Ar 5 O<|Tm Xs O O O
 refine Gc O (λz=>?_) (λz=>?_)
 .have hab:i<a.length/\i<b.length:=by simp at z;omega
  have A:=bL hab.1;have B:=bN hab.1;have D:=bL hab.2;have E:=bN hab.2;refine Ti<|UB 9 O<|Dr 3 O ?_;first|refine D2 O O Xm ?_|refine D1 O ?_
  refine Dr 3 O ?_;first|refine D2 O O Xm ?_|refine D1 O ?_
  refine D1 O ?_;refine⟨Xk,?_⟩;refine Gc O (λu=>?_) (λu=>?_)
  .refine UB 10 O<|Dr 3 O ?_;first|refine D2 O O Xm ?_|refine D1 O ?_
   refine Dr 3 O ?_;first|refine D2 O O Xm ?_|refine D1 O ?_
   refine Dr 2 O ?_;refine⟨Xk,?_⟩;exact VF O<|ah PV.bool (ud hab.1 hab.2 ht (λe=>by rw[e]at u;simp at u)).symm
  exact Ti<|Z3 O<|⟨(i+1),Tk (aS O) trivial O O,⟨⟨Xj,Xj⟩,by rw[AI hab.1,AI hab.2,ht,show a[i]=b[i]from baT (by simpa using u)]⟩,Xj⟩
 exact Gx O<|Gr O<|Ar 6 O<|VF O<|ah PV.bool (mw (i:=i) hi.1 hi.2 (by simp at z;omega) ht).symm
theorem sT(a b:List ByteArray)(J:a.length<=1000000)(L:b.length<=1000000):FnP prog 13 [bh a,bh b] (· = .bool (decide (a=b))):=by
 refine FnP.of func13 O ntmps13 Xn λ_ _ _ _=>?_
 refine Z1 O<|Gr O<|Ar 5 O<|Gc O (λu=>?_) (λu=>?_)
 .exact Z1 O<|VF O<|ah PV.bool (TL (λe=>by rw[e]at u;simp at u)).symm
 have hl:a.length=b.length:=by simp at u;omega
 refine Ti<|Z3 O<|Gz O (st:=λXr:Nat=>([(0,UG),(1,UG),(12,UG),(13,UF (pIi Xr))],[])) 0
  (I:=λXr=>Xr<=a.length/\a.take Xr=b.take Xr) (μ:=λXr=>a.length-Xr) (x0:=0) (Tk (aS O) trivial O O) (⟨aJ _,O⟩) ?_
 rintro i ⟨hi,ht⟩;refine Z1 O<|Gp O (λB=>?_) (λB=>?_)
 .have ha1:i<a.length:=Xj;have A:i<b.length:=Xj;have D:=bL ha1;have E:=bN ha1;have G:=bL A;have H:=bN A;refine Ti<|Z2 O<|UB 9 O<|Dr 3 O ?_;first|refine D2 O O Xm ?_|refine D1 O ?_
  refine Dr 3 O ?_;first|refine D2 O O Xm ?_|refine D1 O ?_
  refine D1 O ?_;refine⟨Xk,?_⟩;refine Gc O (λz=>?_) (λz=>?_)
  .exact Z1 O<|VF O<|ah PV.bool (TL (λe=>by subst e;simp at z)).symm
  exact Ti<|Z2 O<|⟨(i+1),Tk (aS O) trivial O O,⟨Xj,by rw[AI ha1,AI A,ht,show a[i]=b[i]from baT (by simpa using z)]⟩,Xj⟩
 exact Gx O<|Z1 O<|VF O<|ah PV.bool (TD (by rwa [aH Xj,aH Xj]at ht)).symm
end
section
section
variable {C:Ctx}{n:Nat}{σ:St}{dst:Option Tmp}{ty t:TypeId}{pos:String}{after:Array Edge}{gd:Option (Nat×Bool)}{x y:Operand}
theorem mO{kl:IntKind}{il:Int}(l:Nat)(D:C.P.underlying T=UF (.slice e))(E:bT C.P e s)(G:σ.ev n x= .osl id s k)(A:σ.ob id=UF o)(H:σ.ev n y= .pv (.int kl il))(I:il=(l:Int))(J:l<=k)(z:o.real=VA:=by rfl):
  XJ C n ⟨dst,.slice T x (UF y) UG UG,ty,pos,after,gd⟩ σ ⟨.tsl id (l*s) (k-l),[],[]⟩:=
 .val λa w m R hw=>by
  obtain⟨b,N,c,he,hkc,hcm,hN,hm,hor⟩:=hw.osl G A z;have B:a.eval y= .int kl l:=by rw[hw.int H,I]
  have u:σ.av id=VC:=by
   cases hv:σ.av id with
   |false=>rfl
   |true=>have:=hw.hr.free id hv;rw[A]at this;cases this
  refine⟨.slice (if c=l then UF ⟨b,0,UG⟩else(UF ⟨b,0,UG⟩:Option Addr).map (·.add (l*s))) (k-l) (c-l),?_,?_⟩
  .simp[execOp,he,B,Instr.sliceAt,Instr.slice,Instr.sliceBounds,Instr.sliceBound,asIntOf,run_underlying D,E.run,J]
  simp only[Rel];refine⟨u,_,_,O,λhp b' N' e=>?_⟩;rw[hm]at e;cases e;rw[sh Xj];simp[Addr.add_lit]
theorem Od.tsl{off size:Nat}(D:σ.ev n y= .tsl id off j)(E:σ.ob id=UF (.cells T cs))(z:news=cs.drop off)(G:news.length=j*size):Od C n σ y j news:=by
 intro a w m R hw;have h:=hw.ev y;rw[D]at h;simp only[Rel]at h;obtain⟨hav,A,c,he,hA⟩:=h;obtain⟨b,N,hm,arr,hb,hsz,hle,hr⟩:=hw.live E;refine⟨A,c,(arr.toList.take cs.length).drop off,he,by rw[z];exact hr.drop off,λu=>?_⟩;have B:0<j:=by
  rcases UJ j with h0|h0
  .exfalso;apply u;rw[h0,Xi,z,UQ]at G;rw[List.drop_eq_nil_iff,TC];omega
  exact h0
 refine⟨b,off,hA B b N hm,Xq,(hw.hr.own id b N hm).1,λi hi=>?_⟩;simp only[UQ,TC]at hi;rw[cell_of_row w b (off+i) arr T (0,0) hb,UN,TS,By Xj];simp
theorem ox.any(h:ox n σ y j news):Od C n σ y j news:=λu=>h.row u
end
end
def St.gsO(σ:St)(t id sz n:Nat)(T:TypeId)(cs:List PV):St:=⟨upd σ.sl t (.gsl id sz n),obL [(id,UF (.gro T cs))] σ.ob,σ.av⟩
theorem St.Ir{σ:St}(t:Nat)(z:σ.sl t= .osl id sz n)(u:σ.ob id=UF (.cells T cs))(A:0<n)(hc:cs≠[]):σ.le (σ.gsO t id sz n T cs):=
 St.uT fun{C nn a w m R} hw=>⟨λq hq=>by
  show Rel w m σ.av R (upd σ.sl t (.gsl id sz n) q) _;by_cases e:q=t
  .subst e;rw[aC];have:=hw.sl q hq;rw[z]at this;simp only[Rel]at this ⊢;obtain⟨b,N,hm,_⟩:=hw.live u;obtain⟨h0,h1⟩:=this;obtain⟨c,he,h2,h3,h4⟩:=h1 b N hm;exact⟨h0,_,c,he,h2,h3,λe=>by omega,λ_ b' N' hm'=>by rw[hm]at hm';cases hm';exact⟨O,h4⟩⟩
  .rw[a8 _ _ e];exact hw.sl q hq,λp hp=>by
  obtain rfl:=TF.1 hp;exact⟨_,_,u,O,cY hc,λ_ _ _ h=>h⟩⟩
def St.nilS(σ:St)(t:Nat):St:=⟨upd σ.sl t (.pv nS),σ.ob,σ.av⟩
theorem St.Rb{σ:St}(t:Nat)(u:σ.sl t= .gsl id sz 0):σ.le (σ.nilS t):=by
 rintro C nn a w ⟨m,R,hw⟩;refine⟨m,R,hw.hr,hw.df,hw.sz,λq hq=>?_⟩;show Rel w m σ.av R (upd σ.sl t (.pv nS) q) _;by_cases e:q=t
 .subst e;rw[aC];have:=hw.sl q hq;rw[u]at this;simp only[Rel,RelP]at this ⊢;obtain⟨_,A,c,he,h1,h2,h3,_⟩:=this;obtain⟨rfl,rfl,_⟩:=h3 trivial;exact⟨UG,0,he,h1,h2,(λ_ e=>by cases e;rfl),(λ_=>rfl),λe=>absurd O e⟩
 rw[a8 _ _ e];exact hw.sl q hq
end Go.Proofs.YtkkenamefaegfaaGreatDoor
