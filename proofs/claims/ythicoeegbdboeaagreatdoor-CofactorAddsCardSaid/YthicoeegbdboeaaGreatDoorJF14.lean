/- Lemmas. No condition. -/
import Derived.Shelf.SlSortCmp.NoneTotal
import Derived.Shelf.Lay
import Derived.Ground.SlsfProg
import Derived.Ground.NamesProg
import Derived.RangeFuncIn
import Derived.RangeFuncCalls
import Derived.RangeFuncLeaves
import Derived.RangeFuncSeq
import Derived.Sort.MapsRangeIn
import Derived.RangeFuncGives
import Derived.RangeFuncKeeps
import Derived.RangeFuncBox
import Derived.Shelf.Abstract
import Derived.OwnWalkIn
import Derived.TacticsInMore
import Derived.LoopNIn
import Derived.LoopIn
import Derived.RegionIn
import Derived.RangeFuncRecord
import Derived.Test.YthicoeegbdboeaaGreatDoorJF13
set_option maxRecDepth 100000
set_option maxHeartbeats 4000000
open Go.RowKit Go.Proofs.Tryz
open Option renaming some→WB,none→WC
open Bool renaming true→YK,false→YL
namespace Go.Proofs.YthicoeegbdboeaaGreatDoor
variable{S:ZN}{k:Nat}
section
open Mk Jn
open Mm (SOk cnt bH aM cn ZB)
noncomputable abbrev valsMM(M:List (er×ZB)):na:=M.map λp=>momP p.2
abbrev TB(J:JD)(W:WD)(σ:vb)(now:hC)(mk mv:na)(o:Ob):Zy:=[(big,oM W 9004 9001 J.S.aj.length 9002 9003),(9001,.cells 9 (bj now)),(9002,.cells 4 (a8 (stL σ J.S.aj.length))),(9003,.mp mk mv),(9004,oX2 J 9005),(9005,.mp J.pk J.pv),(0,o)]
theorem zm(J:JD)(W:WD)(σ:vb)(now:hC)(mk mv:na)(r:Ob):∀i o,au (o6M J W σ now mk mv) i=WB o->au (TB J W σ now mk mv r) i=WB o:=λi o h=>nF (o6M J W σ now mk mv) [(0,r)] i o h
def QKM(J:JD)(P:cP)(D:VD)(E:MD)(σ:vb)(r:ZB)(v:V)(ob':Nat->va):Prop:=∃now' M',ZR J.S.aj.length σ now'/\BQ aM (gM J P E) J P M'/\v=momW r/\ob'=au (o6M J (wdM D E) σ now' (fr M') (valsMM M'))
def RBM(J:JD)(P:cP)(E:MD)(σ:vb)(r:ZB)(p:V)(a b:Ob):Prop:=∃now' M',ZR J.S.aj.length σ now'/\BQ aM (gM J P E) J P M'/\p=momW r/\a= .cells 9 (bj now')/\b= .mp (fr M') (valsMM M')
theorem IP{J:JD}{P:cP}{D:VD}{E:MD}{σ:vb}{r:ZB}(v:V)(ob':Nat->va)(h:QKM J P D E σ r v ob'):∃p a b,RBM J P E σ r p a b/\p.ren (eI six 0)=p/\a.ren (eI six 0)=a/\b.ren (eI six 0)=b/\v=p/\ob'=au [(big,oM (wdM D E) 9004 9001 J.S.aj.length 9002 9003),(9001,a),(9002,.cells 4 (a8 (stL σ J.S.aj.length))),(9003,b),(9004,oX2 J 9005),(9005,.mp J.pk J.pv)]:=by obtain⟨now',M',h1,h2,rfl,rfl⟩:=h;exact⟨_,_,_,⟨now',M',h1,h2,O,O,O⟩,O,O,O,O,O⟩
def vf(J:JD)(P:cP)(D:VD)(E:MD)(v:Nat):Prop:=∀σ now M,At P v σ->ZfA σ->SzA σ->ZR J.S.aj.length σ now->BQ aM (gM J P E) J P M->ZS prog 166 6 0 [.ptr big 0,ZI v] (o6M J (wdM D E) σ now (fr M) (valsMM M)) (QKM J P D E σ (fw aM (gM J P E) J P v σ))
def qF(J:JD)(P:cP)(D:VD)(E:MD)(v:Nat):Prop:=∀σ now M x,At P v σ->ZfA σ->SzA σ->Zf x->x.size<=10000->E.X v x->ZR J.S.aj.length σ now->BQ aM (gM J P E) J P M->ZS prog 225 6 0 [.ptr big 0,ZI v,.pv (.str x)] (o6M J (wdM D E) σ now (fr M) (valsMM M)) (QKM J P D E σ (aM.mul (gM J P E v (put σ v x)) (fk aM (gM J P E) J P (aB P v) (put σ v x))))
theorem uu(J:JD)(P:cP)(D:VD)(E:MD)(h:CtxM J P D E)(v:Nat)(s:v<P.length)(hb:qF J P D E v):vf J P D E v:=by
 intro σ now M hat hz hsz hn hM;refine ZF func166 O ntmps166 λ_ _ _ _=>?_
 have hP:=h.c.ord.jv;have hnl:=h.c.len;have hn64:=h.c.n64;have H:v<J.S.aj.length:=Zi;have T:v<D.kes.length:=by rw[h.c.kel];exact s
 have ac:=kV T;have a5:=kP T;have ad:IntKind.u8.wrap (v:Int)=((UInt8.ofNat v).toNat:Int):=by
  have:=h.c.n64;rw[UInt8.toNat_ofNat'];simp[IntKind.wrap,IntKind.bits,IntKind.signed]
 have af:=Fc (UInt8.ofNat v);rw[h.c.ke_at s]at ac;have hkl:=Qw J.S P v;have a6:∀a∈iY J.S P v,∃b:Nat,a=(b:Int)/\b<J.S.aj.length/\∃y,σ (b:Int)=WB y:=λa ha=>by
  obtain⟨b,e,hb,hm⟩:=h.c.S6 s ha;exact⟨b,e,Zi,V4.1 (hat.up _ hm)⟩
 have u:∀k,(zR (λa=>(σ a).getD eb) ((iY J.S P v).take k)).length<=10001*64:=λk=>by
  refine OF (CZ λa _=>?_) (Wn _ ?_)
  .cases e:σ a with
   |none=>exact(by decide:(0:Nat)<=10000)
   |some x=>exact hsz a x e
  have:=h.c.n64;rw[Vz];omega
 have t:=Sd aM momP hM s hat hz;have ag:=λM2 (hM2:BQ aM (gM J P E) J P M2)=>Ul aM momP h.ge h.c.ord (by have:=h.c.n64;omega) hM2 s hat hz
 have am:=λM2:List (er×ZB)=>qt (zY v (iY J.S P v) σ) momP M2 0
 have U:=Fe J h.c.ok h.c.t12 (wdM D E) σ now hn (fr M) (valsMM M) v H (hat.self s) (h.c.wv v H);have a7:=K3 hn H (hat.self s) (KZ J v σ);have an:=h.c.SM v σ;have a9:=h.x v σ;have hcl:=qN h.c.t12 v σ;have ba:=UM aM (gM J P E) J hP s σ;have ao:=λnow2 M2 x hx1 hx2 hx3 h2 h3=>hb σ now2 M2 x hat hz hsz hx1 hx2 hx3 h2 h3
 have Y:zY v (iY J.S P v) σ=⟨(UInt8.ofNat v::zR (λa=>(σ a).getD eb) (iY J.S P v)).toArray⟩:=rfl;have ap:(zY v (iY J.S P v) σ).data.toList≠[]:=by rw[Y];simp
 have au:(zY v (iY J.S P v) σ).data.toList.length<=1000000000:=by
  have:=u (iY J.S P v).length;rw[XD]at this;rw[Y];simp only[VI];omega
 have ax:=λk=>LH h.c h.w h.l s k σ
 have ay:∀x,SOk (Hd J P E.B) P.length (aM.mul (gM J P E v (put σ v x)) (fk aM (gM J P E) J P (aB P v) (put σ v x))):=λx=>by
  have:=JJ h.c h.w h.l s (aB P v).length (put σ v x);rwa [XD]at this
 have aA:=h.b;have bb:=h.p;clear hb;generalize hKg:zY v (iY J.S P v) σ=KB at*;generalize iY J.S P v=K at*;generalize KZ J v σ=CL at*;generalize hFG:(λx=>aM.mul (gM J P E v (put σ v x)) (fk aM (gM J P E) J P (aB P v) (put σ v x)))=fx at*;have bc:∀x,aM.mul (gM J P E v (put σ v x)) (fk aM (gM J P E) J P (aB P v) (put σ v x))=fx x:=λx=>by rw[<-hFG]
 simp only[bc]at ao ay ax;generalize fw aM (gM J P E) J P v σ=FV at*;generalize cA (RJ J) sdS v σ=C at*;refine Z1 O<|Z1 O<|Vm (St.cD 1 1 2 1 5 O O O)<|Z1 O<|Rs O ((eX aan aau O).cast (v':= .pv (.int .u8 ((UInt8.ofNat v).toNat:Int))) (ah (λz=>V.pv (.int .u8 z)) ad))<|Rs O (az [1,2] 3 call221 af O O O O ⟨O,O,Zp⟩ Zk O) ?_;clear ad af;refine Gr O<|Ar 6 O<|Rs O (ai v aaz yM O O O T a5)<|Rs O (aC ⟨_,aal,O⟩ O ac)<|Y2 O<|Gz O (st:=λZq:Nat×List UInt8=>([(0,WC),(1,WC),(4,WC),(5,WC),(23,WC),(24,WC),(25,WB (ZI Zq.1))],[(big,WC),(0,WC),(1,WB (.mix 308 [.ptr 1 0,.bz 4 1 Zq.2.length])),(4,WB (.bD 5 (aF Zq.2))),(9001,WC),(9002,WC),(9003,WC),(9004,WC),(9005,WC)])) 5
  (I:=λZq=>Zq.1<=K.length/\Zq.2=UInt8.ofNat v::zR (λa=>(σ a).getD eb) (K.take Zq.1)) (μ:=λZq=>K.length-Zq.1) (x0:=(0,[UInt8.ofNat v])) (Vn (aS O) (aO Zj) O O) (⟨sh _,O⟩) ?_
 rintro⟨k,L⟩ ⟨hk,hL⟩;try simp only at hk hL ⊢
 refine Z1 O<|Gp O (λa3=>?_) (λa3=>?_)
 .have hlt:k<K.length:=Zi;obtain⟨a,ha,hal,y,hy⟩:=a6 _ (ak hlt);have Z:(aI K)[k*1]? =WB (.int .i64 (a:Int)):=by rw[<-ha];simp[hlt]
  have hpn:=aU hlt;have aD:now[a]'(by rw[hn.l];exact hal)=y:=hn.e a (by rw[hn.l];exact hal) y hy;have aE:=bD (l:=now) (k:=a) (by rw[hn.l];exact hal);rw[aD]at aE;have hnl2:(bj now).length=J.S.aj.length:=by rw[IS,hn.l]
  have hys:=hsz _ _ hy;have hkt:=u k;have G:=Iz (λa=>(σ a).getD eb) hlt;rw[ha,hy]at G;have aa:L≠[]:=by rw[hL];simp
  have aN:=y9 L (y++(⟨#[0]⟩:er)) aa (by rw[hL,Nd];simp only[VI];omega);rw[IK]at aN;refine Vl<|Z1 O<|Rs O (aC ⟨_,aan,O⟩ O Z)<|A1 O<|Gr O<|Ar 6 O<|Rs O (aX ⟨_,aam,O⟩ O O aE)<|Rs O (rS O O (by show y.size+1<=_;omega)) ?_;exact Rs O (az [1,4] 5 call222 aN O O O O ⟨Zj,Zj,Zp⟩ Zk O)<|Z2 O<|⟨(k+1,L++(y.data.toList++[0])),Vo [0,1,2,3,5] (aT O) (aP Zj) O O Zk O,⟨Zo,by simp only;rw[G,hL];rfl⟩,Zo⟩
 have hLK:L=UInt8.ofNat v::zR (λa=>(σ a).getD eb) K:=by rw[hL,show K.take k=K from aG Zi]
 have aa:L≠[]:=by rw[hLK];simp
 have aW:(⟨L.toArray⟩:er)=KB:=by rw[Y,hLK]
 have aY:L=KB.data.toList:=by rw[<-aW]
 have a0:L.length<=1000000000:=by rw[aY];exact au
 have ab:=qH L aa a0;rw[aW]at ab;have a1:=Ga L.length KB ap (by rw[aY]) a0;refine Gx O ?_;by_cases hm:∃p∈M,p.1=KB
 .rw[IT hm]at t;refine VC 12 O<|Dr 4 O<|YQ [1,4] O (λτ h=>az [1,4] 5 call223 ab (h.args.trans O) O O O ⟨(Eo h 0 O),(Eo h 1 O),Zp⟩ Zk O)<|YQ [_] O (λτ h=>iy (zp:= .agg [.bool YL,.sl (WB YK) 0 [],.bool YL,.sl (WB YK) 0 [],.nilmap,.nilmap]) underlying259 aam (.inl ⟨9003,(Ee h 0 O),(Eo h 0 O)⟩) (Ee h 1 O) O Py O t O O)<|Dr 6 O ⟨Zj,Z1 O<|Gc O (λq=>?_) (λq=>absurd q Zm)⟩;exact Z2 O<|Gt O<|⟨[(4,.ptr 0 0)],TB J (wdM D E) σ now (fr M) (valsMM M) (momO FV),[momW FV],o6M J (wdM D E) σ now (fr M) (valsMM M),1,Vn (aS O) (aO Zj) O O,O,⟨ar ⟨_,aap,O⟩ s0 O O O,Zp⟩,O,O,zm _ _ _ _ _ _ _,Zk,now,M,hn,hM,O,O⟩
 rw[AS hm]at t;refine VC 12 O<|Dr 4 O<|YQ [1,4] O (λτ h=>az [1,4] 5 call223 ab (h.args.trans O) O O O ⟨(Eo h 0 O),(Eo h 1 O),Zp⟩ Zk O)<|YQ [_] O (λτ h=>iy (zp:= .agg [.bool YL,.sl (WB YK) 0 [],.bool YL,.sl (WB YK) 0 [],.nilmap,.nilmap]) underlying259 aam (.inl ⟨9003,(Ee h 0 O),(Eo h 0 O)⟩) (Ee h 1 O) O Py O t O O)<|Dr 6 O ⟨Zj,Z1 O<|Gc O (λq=>absurd q Zm) (λq=>?_)⟩;refine Vl<|Gr O<|Ar 7 O<|Z2 O<|Rs O (az Z7 7 call224 U O O O O ⟨Zj,Zj,Zj,Zj,Zj,Zj,Zp⟩ Zk O)<|Y2 O<|Gz O (st:=λj:Nat×hC×List (er×ZB)=>([(0,WC),(1,WC),(4,WC),(5,WC),(10,WC),(57,WC),(58,WC),(59,WB (ZI j.1))],[(big,WC),(0,WC),(1,WC),(4,WC),(6,WB (momO (du aM ((C.take j.1).map fx)))),(9001,WB (.cells 9 (bj j.2.1))),(9002,WC),(9003,WB (.mp (fr j.2.2) (valsMM j.2.2))),(9004,WC),(9005,WC)])) 7
  (I:=λj=>j.1<=C.length/\ZR J.S.aj.length σ j.2.1/\BQ aM (gM J P E) J P j.2.2) (μ:=λj=>C.length-j.1) (x0:=(0,tst now v CL,M)) (Vn (aS O) ⟨Zj,Zj,Zj,Zj,VT (b:=WB (.mix 88 (UH 0))) Zj (ah WB HK.symm),Zj,Zj,Zj,Zj,Zj,Zp⟩ O O) (⟨sh _,a7,hM⟩) ?_
 rintro⟨k2,now2,M2⟩ ⟨hk2,hn2,hM2⟩;try simp only at hk2 hn2 hM2 ⊢
 refine Z1 O<|Gp O (λa4=>?_) (λa4=>?_)
 .have hlt2:k2<C.length:=Zi;have hv2:=bD hlt2;have hne2:=cz hlt2;have a2:=an _ (ak hlt2);have bd:=ao now2 M2 C[k2] a2.1 a2.2 (a9 _ (ak hlt2)) hn2 hM2;have be:=GH aM hlt2 fx;have bf:=S8 (ax k2) (ay C[k2]) aA aA bb;generalize du aM ((C.take k2).map fx)=acc at*;refine Vl<|Z1 O ?_;first|refine A2 O Zl ?_|refine A1 O ?_
  refine A1 O<|VC 12 O<|Dr 9 O<|DL.rel (RV (RBM J P E σ (fx C[k2]))) [9001,9003] [] Z7 O O O (λτ h=>relV call225 bd IP (h.args.trans O) O O ⟨Eo h 0 O,Eo h 1 O,Eo h 2 O,Eo h 3 O,Eo h 4 O,Eo h 5 O,Zp⟩) O Zj Zj Zj ?_;rintro _ ⟨_,_,_,⟨now3,M3,hn3,hM3,rfl,rfl,rfl⟩,rfl⟩ _ _;refine YM O (λτ h=>bX call47 (Ee h 0 O) bf (h.EA O))<|D1 O O ?_;exact⟨Zj,Z2 O<|⟨(k2+1,now3,M3),Vn (aS O) ⟨Zj,Zj,Zj,Zj,VT (b:=WB (momO (aM.add acc (fx C[k2])))) Zj (ah (λb=>WB (momO b)) be.symm),Zj,Zj,Zj,Zj,Zj,Zp⟩ O O,⟨Zi,hn3,hM3⟩,Zo⟩⟩
 rw[show C.take k2=C from aG Zi,<-ba];obtain⟨M4,hM4,hpk,Z⟩:=ag M2 hM2;obtain⟨⟨r,hkf⟩,_,_⟩:=am M2;refine Gx O<|VC 7 O<|Dr 4 O<|YQ [1,4] O (λτ h=>az [1,4] 7 call223 a1 (h.args.trans O) O O O ⟨(Eo h 0 O),(Eo h 1 O),Zp⟩ Zk O)<|D1 O O<|DL.step (d:=WC) [_] O O O (λτ h=>jQ underlying259 aam (Ee h 0 O) (Eo h 0 O) (Ee h 1 O) (Ee h 2 O) O hkf hpk Z) O Zj ⟨Zj,Z2 O<|Gt O<|⟨[(4,.ptr 0 0)],TB J (wdM D E) σ now2 (fr M4) (valsMM M4) (momO FV),[momW FV],o6M J (wdM D E) σ now2 (fr M4) (valsMM M4),1,Vn (aS O) (aO Zj) O O,O,⟨ar ⟨_,aap,O⟩ s0 O O O,Zp⟩,O,O,zm _ _ _ _ _ _ _,Zk,now2,M4,hn2,hM4,O,O⟩⟩
theorem pg(J:JD)(P:cP)(D:VD)(E:MD)(h:CtxM J P D E)(v:Nat)(hv:v<P.length)(hw:∀c:Nat,c<P.length->P.getD c 0=(v:Int)->vf J P D E c):qF J P D E v:=by
 intro σ now M x hat hz hsz hx1 hx2 hx3 hn hM;refine ZF func225 O ntmps225 λ_ _ _ _=>?_
 have hP:=h.c.ord.jv;have hlen:=h.c.len;have hn64:=h.c.n64;have hJ:=h.c.ok;have aa:v<J.S.aj.length:=Zi;have u:=hat.self hv;have hnp:=hn.put aa x;have hagr:=λr (hr:r<J.S.aU.length) y (hy:y.v.length=J.S.aU[r].2.length)=>jP J hJ (wdM D E) (put σ v x) (now.set v x) hnp (fr M) (valsMM M) r hr y hy
 have z:v<D.hos.length:=by rw[h.c.hl];exact hv
 have hov:=kV z;have hon:=kP z;have hoh:=h.c.ho _ (ak z);have U:=h.hs v z;rw[PN]at U;have hHN:=Ug (J:=J) (P:=P) v;have ab:=h.t v x hv hx3;have hz1:=h.l v x;have hga0:hmW J (E.lf v x) (hoN J.S P v) (put σ v x) (hoN J.S P v).length=gM J P E v (put σ v x):=Uw hv (fI _ _ _) (BY _);have hB:=fun{m:Nat}(hm:m<=J.S.aU.length)=>h.hb hm
 have hw4:=h.w;have hB1:=h.b1;have hBn:=h.b2;generalize D.hos[v]=Hs at*;have ac:v<D.chs.length:=by rw[h.c.chl];omega
 have hcv:=kV ac;have hcn:=kP ac;rw[h.c.ch_at hv]at hcv;have hkid:∀c∈aB P v,∃m:Nat,m<P.length/\c=(m:Int)/\P.getD m 0=(v:Int):=λc hc=>bz.1 hc
 have hcl:(aB P v).length<=64:=OF (OF (Wx ..) (by rw[bt];exact BY _)) hn64;have ad:=fun(c:Nat)(hc:c<P.length)(hp:P.getD c 0=(v:Int)) now2 M2 h2 h3=>hw c hc hp (put σ v x) now2 M2 (hat.child hP hv hc hp x) (hz.put v hx1) (hsz.put v hx2) h2 h3
 have hfn:=Pt aM (gM J P E) J P (put σ v x);have hft:=fun(cs:cP)(k:Nat)(hk:k<cs.length)=>Lr aM (gM J P E) J P (put σ v x) hk
 have hfz:=Ry aM (gM J P E) J P (aB P v) (put σ v x) (gM J P E v (put σ v x));have hnl:(bj now).length=J.S.aj.length:=by rw[IS,hn.l]
 have hsl:(a8 (stL σ J.S.aj.length)).length=J.S.aj.length:=by rw[IS,n4]
 have hsl2:(a8 (stL (put σ v x) J.S.aj.length)).length=J.S.aj.length:=by rw[IS,n4]
 have h1:=De (l:=now) (a:=v) x;have h2:=Lz (σ:=σ) aa x;have h3:(a8 (stL (put σ v x) J.S.aj.length)).set (v*1) (.bool YL)=a8 (stL σ J.S.aj.length):=by rw[Pn aa,nc u]
 have hun:∀now2,ZR J.S.aj.length (put σ v x) now2->ZR J.S.aj.length σ now2:=λnow2 h4=>by have:=h4.un (v:Int);rwa [nc u]at this
 have hkb:∀k,SOk (Hd J P E.B) P.length (aM.mul (gM J P E v (put σ v x)) (fk aM (gM J P E) J P ((aB P v).take k) (put σ v x))):=λk=>JJ h.c h.w h.l hv k (put σ v x)
 have hvb:∀c:Nat,c<P.length->SOk (Hd J P E.B) P.length (fw aM (gM J P E) J P c (put σ v x)):=λc hc=>GC h.c h.w h.l hc (put σ v x)
 have hGb:=h.b;have hGp:=h.p;generalize aB P v=CS at*;clear hw;generalize hGV:gM J P E v (put σ v x)=gv at*;generalize hoN J.S P v=HN at*;generalize put σ v x=σ2 at*;refine Z1 O<|VC 15 O<|Dr 11 O<|YQ [_] O (λτ h=>ag v aao sz9 (Ee h 0 O) (Eo h 0 O) (Ee h 1 O) O Zi)<|DL.step (d:=WC) [_] O O O (λτ h=>ba sz9 (Ee h 0 O) (Eo h 0 O) (Ee h 1 O) O Zi) O Zj<|YQ [_] O (λτ h=>ag v aaw sz4 (Ee h 0 O) (Eo h 0 O) (Ee h 1 O) O Zi)<|DL.step (d:=WC) [_] O O O (λτ h=>ba sz4 (Ee h 0 O) (Eo h 0 O) (Ee h 1 O) O Zi) O Zj ⟨Zj,Vm (Vn (l:=[(0,.ptr big 0),(1,ZI v),(2,.pv (.str x)),(6,.ptr 0 0)]) (os:=(0,.mix 88 [.pv (.bool YL),.pv nS,.pv (.bool YL),.pv nS,.pv .nilmap,.pv .nilmap])::o6M J (wdM D E) σ2 (now.set v x) (fr M) (valsMM M)) (k:=1) (aS O) ⟨O,O,ah (λc=>WB (Ob.cells 9 c)) h1,ah (λc=>WB (Ob.cells 4 c)) h2,O,O,O,Zp⟩ O O)<|Gr O<|Ar 6 O<|Rs O (bX call51 (VT (b:=V.pv E.L) O (ah V.pv h.f)) ab O)<|Y2 O<|Gr O<|Ar 6 O<|Rs O (ai v aaz yM O O O z hon)<|Rs O (aC ⟨_,aal,O⟩ O hov)<|Y2 O ?_⟩;refine Gz O (st:=λZq:Nat=>([(0,WC),(1,WC),(6,WC),(7,WC),(41,WC),(42,WC),(43,WB (ZI Zq))],[(big,WC),(0,WC),(1,WB (momO (hmW J (E.lf v x) HN σ2 Zq))),(9001,WC),(9002,WC),(9003,WC),(9004,WC),(9005,WC)])) 2
  (I:=λZq=>Zq<=Hs.length) (μ:=λZq=>Hs.length-Zq) (x0:=0) (Vn (aS O) ⟨Zj,Zj,VT (b:=WB (momO (E.lf v x))) Zj (ah (λb=>WB (momO b)) (Rf J _ HN σ2).symm),Zj,Zj,Zj,Zj,Zj,Zp⟩ O O) (sh _) ?_
 rintro k hk;refine Z1 O<|Gp O (λZ=>?_) (λZ=>?_)
 .have hlt:k<Hs.length:=Zi;have hHl:=hoh.1;obtain⟨hr0,hr1⟩:=hoh.2 _ (ak hlt);obtain⟨r,hr⟩:=VG hr0;have Y:r<J.S.aU.length:=Zi;have hpv:(aI Hs)[k*1]? =WB (.int .i64 (r:Int)):=by rw[<-hr];simp[hlt]
  have hpn:=aU hlt;have q:r<J.T.length:=by rw[hJ.n];exact Y
  have hkN:k<HN.length:=by rw[U,IS]at hlt;exact hlt
  have hrk:HN[k]=r:=by have:=(List.getElem_of_eq U hlt).symm.trans hr;rw[X4]at this;exact Int.ofNat.inj this
  have htb:bW J r=J.T[r]:=by unfold bW;rw[VO,AT q];rfl
  have hms:=Sc J (E.lf v x) σ2 hkN;have hrs:=λi=>UE hw4 hz1 (Hs:=HN) σ2 σ2 J.S.aU[r].2 hkN r i
  have hwy:=fun(i:Nat)(hi:i<J.T[r].length)=>hw4.w _ (ak q) _ (ak hi)
  rw[hrk,gS Y,htb]at hms;rw[htb]at hrs;have htr:=kG q;have htn:=nV q;have hTl:=hJ.l _ (ak q);have hxv:=hJ.v r q Y;have hga:=fun(i:Nat)(hi:i<J.T[r].length)=>hagr r Y J.T[r][i] (hxv _ (ak hi))
  generalize J.T[r]=tf at*;refine Vl<|Z1 O<|Rs O (aC ⟨_,aan,O⟩ O hpv)<|A1 O<|Gr O<|Ar 8 O<|Rs O (ai r underlying33 tu O O O q htn)<|Rs O (aC ⟨_,aas,O⟩ O htr)<|Y2 O<|Gz O (st:=λs:Nat=>([(0,WC),(1,WC),(6,WC),(7,WC),(9,WC),(41,WC),(42,WC),(43,WC),(56,WC),(57,WC),(58,WB (ZI s))],[(big,WC),(0,WC),(1,WB (momO (rwW (hmW J (E.lf v x) HN σ2 k) J.S.aU[r].2 tf σ2 s))),(9001,WC),(9002,WC),(9003,WC),(9004,WC),(9005,WC)])) 2
   (I:=λs=>s<=tf.length) (μ:=λs=>tf.length-s) (x0:=0) (Vn (aS O) ⟨Zj,Zj,VT (b:=WB (momO (hmW J (E.lf v x) HN σ2 k))) Zj (ah (λb=>WB (momO b)) (Qx _ _ _ σ2).symm),Zj,Zj,Zj,Zj,Zj,Zp⟩ O O) (sh _) ?_
  rintro k3 hk3;refine Z1 O<|Gp O (λhc59=>?_) (λhc59=>?_)
  .have hlt3:k3<tf.length:=Zi;have hrw:=dy hlt3;have hrn:=dW hlt3;have hgk:=hga k3 hlt3;have hry:=TY (hmW J (E.lf v x) HN σ2 k) J.S.aU[r].2 σ2 hlt3;have hrz:=rw_no (hmW J (E.lf v x) HN σ2 k) J.S.aU[r].2 σ2 hlt3;obtain⟨wn,hwn,hwB⟩:=hwy k3 hlt3;have hmw:=As (hrs k3) (bH wn) (hB hHN) (OF hwB hB1) Zk Zk;generalize tf[k3]=y at*;rw[hwn]at hry;generalize hbg:agr J.S.aU[r].2 σ2 y.v=b at*;refine Vl<|Z1 O ?_;first|refine A3 O Zl ?_|refine A1 O ?_
   refine Y2 O<|Z3 O<|Rs O (az Z7 3 call264 hgk O O O O ⟨O,O,O,O,O,O,Zp⟩ Zk O)<|Gc O (λG=>?_) (λG=>?_)
   .refine VC 15 O<|Dr 12 O<|YM O (λτ h=>bX call46 (Ee h 0 O) (qk wn Zi) (h.EA (by rw[hwn];rfl)))<|YM O (λτ h=>bX call48 (Ee h 0 O) hmw (h.EA O))<|D1 O O ?_;exact⟨Zj,Z2 O<|⟨(k3+1),Vn (aS O) ⟨Zj,Zj,VT (b:=WB (momO (aM.mul (rwW (hmW J (E.lf v x) HN σ2 k) J.S.aU[r].2 tf σ2 k3) (cnt (wn:Int))))) Zj (ah (λb=>WB (momO b)) (hry G).symm),Zj,Zj,Zj,Zj,Zj,Zp⟩ O O,Zi,Zi⟩⟩
   exact Vl<|Z2 O<|⟨(k3+1),Vn (aS O) ⟨Zj,Zj,VT (b:=WB (momO (rwW (hmW J (E.lf v x) HN σ2 k) J.S.aU[r].2 tf σ2 k3))) Zj (ah (λb=>WB (momO b)) (hrz G).symm),Zj,Zj,Zj,Zj,Zj,Zp⟩ O O,Zi,Zi⟩
  have hro:=TM (hmW J (E.lf v x) HN σ2 k) J.S.aU[r].2 tf σ2 (k:=k3) Zi;exact Gx O<|Z2 O<|⟨(k+1),Vn (aS O) ⟨Zj,Zj,VT (b:=WB (momO (rwW (hmW J (E.lf v x) HN σ2 k) J.S.aU[r].2 tf σ2 k3))) Zj (ah (λb=>WB (momO b)) (hro.trans hms.symm)),Zj,Zj,Zj,Zj,Zj,Zp⟩ O O,Zi,Zi⟩
 have hkE:k=HN.length:=by rw[U,IS]at Z hk;omega
 have hgv:hmW J (E.lf v x) HN σ2 k=aM.mul gv (fk aM (gM J P E) J P (CS.take 0) σ2):=by rw[hkE,hga0,Yc,hfn,e8]
 refine Gx O<|Gr O<|Ar 6 O<|Rs O (ai v aaz yM O O O ac hcn)<|Rs O (aC ⟨_,aal,O⟩ O hcv)<|Y2 O<|Gz O (st:=λj:Nat×hC×List (er×ZB)=>([(0,WC),(1,WC),(6,WC),(7,WC),(89,WC),(90,WC),(91,WB (ZI j.1))],[(big,WC),(0,WC),(1,WB (momO (aM.mul gv (fk aM (gM J P E) J P (CS.take j.1) σ2)))),(9001,WB (.cells 9 (bj j.2.1))),(9002,WC),(9003,WB (.mp (fr j.2.2) (valsMM j.2.2))),(9004,WC),(9005,WC)])) 2
  (I:=λj=>j.1<=CS.length/\ZR J.S.aj.length σ2 j.2.1/\BQ aM (gM J P E) J P j.2.2) (μ:=λj=>CS.length-j.1) (x0:=(0,now.set v x,M)) (Vn (aS O) ⟨Zj,Zj,VT (b:=WB (momO (hmW J (E.lf v x) HN σ2 k))) Zj (ah (λb=>WB (momO b)) hgv),Zj,Zj,Zj,Zj,Zj,Zp⟩ O O) (⟨sh _,hnp,hM⟩) ?_
 rintro⟨k4,now2,M2⟩ ⟨hk4,hn2,hM2⟩;try simp only at hk4 hn2 hM2 ⊢
 refine Z1 O<|Gp O (λhc92=>?_) (λhc92=>?_)
 .have hlt4:k4<CS.length:=Zi;obtain⟨c,hc,hce,hcp⟩:=hkid _ (ak hlt4);have hpv4:(aI CS)[k4*1]? =WB (.int .i64 (c:Int)):=by rw[<-hce];simp[hlt4]
  have hpn4:=aU hlt4;have hvk:=ad c hc hcp now2 M2 hn2 hM2;have htk:=hft CS k4 hlt4;have hfz4:=hfz k4;have hmm:=As (hkb k4) (hvb c hc) hGb hGb hGp hGp;have his:=Uj (hkb k4);rw[hce]at htk;have htk2:aM.mul gv (fk aM (gM J P E) J P (CS.take (k4+1)) σ2)=aM.mul (aM.mul gv (fk aM (gM J P E) J P (CS.take k4) σ2)) (fw aM (gM J P E) J P c σ2):=by rw[htk,<-aM.mul_assoc]
  generalize hag:aM.mul gv (fk aM (gM J P E) J P (CS.take k4) σ2)=acc at*;refine Vl<|Z1 O<|Rs O (aC ⟨_,aan,O⟩ O hpv4)<|A1 O<|VC 7 O<|Dr 6 O<|YM O (λτ h=>bX call49 (Ee h 0 O) his (h.EA O)) ⟨Zj,Gc O (λH=>?_) (λH=>?_)⟩
  .have haf:acc=aM.zero:=by have e:=H;simp only[VJ]at e;exact e
   have hall:acc=aM.mul gv (fk aM (gM J P E) J P CS σ2):=haf.trans (hfz4 haf).symm;rw[hall];exact Gx O<|Gr O<|Ar 5 O<|Rs O (ag v aaw sz4 O O O O Zi)<|RL.step (d:=WC) O O (ba sz4 O O O O Zi)<|Z2 O<|Gt O<|⟨[(6,.ptr 0 0)],TB J (wdM D E) σ now2 (fr M2) (valsMM M2) (momO (aM.mul gv (fk aM (gM J P E) J P CS σ2))),[momW (aM.mul gv (fk aM (gM J P E) J P CS σ2))],o6M J (wdM D E) σ now2 (fr M2) (valsMM M2),1,Vn (aS O) ⟨Zj,Zj,ah (λc=>WB (Ob.cells 4 c)) h3,Zj,Zj,Zj,Zj,Zp⟩ O O,O,⟨ar ⟨_,aap,O⟩ s0 O O O,Zp⟩,O,O,zm _ _ _ _ _ _ _,Zk,now2,M2,hun _ hn2,hM2,O,O⟩
  refine Vl<|VC 11 O<|Dr 8 O<|DL.rel (RV (RBM J P E σ2 (fw aM (gM J P E) J P c σ2))) [9001,9003] [] Z7 O O O (λτ h=>relV call166 hvk IP (h.args.trans O) O O ⟨Eo h 0 O,Eo h 1 O,Eo h 2 O,Eo h 3 O,Eo h 4 O,Eo h 5 O,Zp⟩) O Zj Zj Zj ?_;rintro _ ⟨_,_,_,⟨now3,M3,hn3,hM3,rfl,rfl,rfl⟩,rfl⟩ _ _;refine YM O (λτ h=>bX call48 (Ee h 0 O) hmm (h.EA O))<|D1 O O ?_;exact⟨Zj,Z2 O<|⟨(k4+1,now3,M3),Vn (aS O) ⟨Zj,Zj,VT (b:=WB (momO (aM.mul acc (fw aM (gM J P E) J P c σ2)))) Zj (ah (λb=>WB (momO b)) htk2.symm),Zj,Zj,Zj,Zj,Zj,Zp⟩ O O,⟨Zi,hn3,hM3⟩,Zo⟩⟩
 rw[show CS.take k4=CS from aG Zi];exact Gx O<|Gr O<|Ar 5 O<|Rs O (ag v aaw sz4 O O O O Zi)<|RL.step (d:=WC) O O (ba sz4 O O O O Zi)<|Z2 O<|Gt O<|⟨[(6,.ptr 0 0)],TB J (wdM D E) σ now2 (fr M2) (valsMM M2) (momO (aM.mul gv (fk aM (gM J P E) J P CS σ2))),[momW (aM.mul gv (fk aM (gM J P E) J P CS σ2))],o6M J (wdM D E) σ now2 (fr M2) (valsMM M2),1,Vn (aS O) ⟨Zj,Zj,ah (λc=>WB (Ob.cells 4 c)) h3,Zj,Zj,Zj,Zj,Zp⟩ O O,O,⟨ar ⟨_,aap,O⟩ s0 O O O,Zp⟩,O,O,zm _ _ _ _ _ _ _,Zk,now2,M2,hun _ hn2,hM2,O,O⟩
theorem QC(J:JD)(P:cP)(D:VD)(E:MD)(h:CtxM J P D E):∀(k v:Nat),v<P.length->P.length<=k+(bU P v).length+1->vf J P D E v/\qF J P D E v:=by
 have q:=h.c.ord.jv;intro k;induction k with
 | zero=>
   intro v hv hk;have j:=pg J P D E h v hv λc hc hp=>by
    have:=xM q hc;rw[dE q hc hv hp,VI]at this;omega
   exact⟨uu J P D E h v hv j,j⟩
 | succ k ih=>
   intro v hv hk;have j:=pg J P D E h v hv λc hc hp=>(ih c hc (by rw[dE q hc hv hp,VI];omega)).1
   exact⟨uu J P D E h v hv j,j⟩
theorem Mz(J:JD)(P:cP)(D:VD)(E:MD)(h:CtxM J P D E)(v:Nat)(j:v<P.length):vf J P D E v:=(QC J P D E h P.length v j Zi).1
theorem A6(J:JD)(P:cP)(D:VD)(E:MD)(h:CtxM J P D E)(σ:vb)(now:hC)(mk mv:na):ZS prog 165 6 0 [.ptr big 0] (o6M J (wdM D E) σ now mk mv) (λv ob'=>v= .pv (al (aB P (-1)))/\ob'=au (o6M J (wdM D E) σ now mk mv)):=by
 refine ZE func165 O ntmps165 λ_ _ _ _=>?_
 have j:P.length<D.chs.length:=by rw[h.c.chl];omega
 have q:=kV j;have r:=kP j;rw[h.c.QU]at q;have t:=h.c.chl;have s:=h.c.n64;refine Z1 O<|VC 15 O<|Dr 12 O<|YM O (λτ h=>ai P.length aaz yM (Ee h 0 O) (Ee h 1 O) Zi j r)<|YM O (λτ h=>aC ⟨_,aal,O⟩ (Ee h 0 O) q)<|D1 O O ⟨Zj,Gt O<|⟨[(2,.pv (al (aB P (-1))))],o6M J (wdM D E) σ now mk mv,[.pv (al (aB P (-1)))],YS O,O,O,O,O,O⟩⟩
theorem Bj(J:JD)(P:cP)(D:VD)(E:MD)(h:CtxM J P D E)(σ:vb)(Z:∀a,σ a=WC)(now:hC)(M:List (er×ZB))(hn:ZR J.S.aj.length σ now)(hM:BQ aM (gM J P E) J P M):ZS prog 104 6 0 [.ptr big 0] (o6M J (wdM D E) σ now (fr M) (valsMM M)) (QKM J P D E σ (fk aM (gM J P E) J P (aB P (-1)) σ)):=by
 refine ZF func104 O ntmps104 λ_ _ _ _=>?_
 have hP:=h.c.ord.jv;have r:=h.c.n64;have j:=A6 J P D E h σ now (fr M) (valsMM M);have s:∀c∈aB P (-1),∃m:Nat,m<P.length/\c=(m:Int)/\P.getD m 0= -1:=λc hc=>bz.1 hc
 have ab:(aB P (-1)).length<=64:=OF (OF (Wx ..) (by rw[bt];exact BY _)) r;have q:=fun(c:Nat)(hc:c<P.length)(hp:P.getD c 0= -1) now2 M2 h2 h3=>Mz J P D E h c hc σ now2 M2 ⟨λa ha=>by rw[mF hc (by rw[<-getD_at hc];exact hp)]at ha;simp at ha,λa _=>Z a⟩ (λa x e=>by rw[Z]at e;cases e) (λa x e=>by rw[Z]at e;cases e) h2 h3
 have H:=Pt aM (gM J P E) J P σ;have L:=fun(cs:cP)(k:Nat)(hk:k<cs.length)=>Lr aM (gM J P E) J P σ hk
 have T:=λk=>Fi h.c h.w h.l k σ
 have U:=fun(c:Nat)(hc:c<P.length)=>GC h.c h.w h.l hc σ
 have t:=h.b;have u:=h.p;generalize aB P (-1)=CS at*;refine Z1 O<|Gr O<|Ar 7 O<|Z1 O<|Rs O (az Z7 2 call165 j O O O O ⟨O,O,O,O,O,O,Zp⟩ Zk O)<|Y2 O<|Gz O (st:=λZq:Nat×hC×List (er×ZB)=>([(0,WC),(2,WC),(3,WC),(12,WC),(13,WC),(14,WB (ZI Zq.1))],[(big,WC),(0,WC),(1,WB (momO (fk aM (gM J P E) J P (CS.take Zq.1) σ))),(9001,WB (.cells 9 (bj Zq.2.1))),(9002,WC),(9003,WB (.mp (fr Zq.2.2) (valsMM Zq.2.2))),(9004,WC),(9005,WC)])) 2
  (I:=λZq=>Zq.1<=CS.length/\ZR J.S.aj.length σ Zq.2.1/\BQ aM (gM J P E) J P Zq.2.2) (μ:=λZq=>CS.length-Zq.1) (x0:=(0,now,M)) (Vn (aS O) ⟨Zj,Zj,VT (b:=WB (.mix 88 (UH 1))) Zj (ah WB (N1.symm.trans (ah momO H.symm))),Zj,Zj,Zj,Zj,Zj,Zp⟩ O O) (⟨sh _,hn,hM⟩) ?_
 rintro⟨k4,now2,M2⟩ ⟨hk4,hn2,hM2⟩;try simp only at hk4 hn2 hM2 ⊢
 refine Z1 O<|Gp O (λG=>?_) (λG=>?_)
 .have hlt4:k4<CS.length:=Zi;obtain⟨c,hc,hce,hcp⟩:=s _ (ak hlt4);have z:(aI CS)[k4*1]? =WB (.int .i64 (c:Int)):=by rw[<-hce];simp[hlt4]
  have aa:=aU hlt4;have V:=q c hc hcp now2 M2 hn2 hM2;have B:=L CS k4 hlt4;have Y:=As (T k4) (U c hc) t t u u;rw[hce]at B;generalize hag:fk aM (gM J P E) J P (CS.take k4) σ=acc at*;refine Vl<|Z1 O<|Rs O (aC ⟨_,aan,O⟩ O z)<|A1 O<|VC 11 O<|Dr 8 O<|DL.rel (RV (RBM J P E σ (fw aM (gM J P E) J P c σ))) [9001,9003] [] Z7 O O O (λτ h=>relV call166 V IP (h.args.trans O) O O ⟨Eo h 0 O,Eo h 1 O,Eo h 2 O,Eo h 3 O,Eo h 4 O,Eo h 5 O,Zp⟩) O Zj Zj Zj ?_;rintro _ ⟨_,_,_,⟨now3,M3,hn3,hM3,rfl,rfl,rfl⟩,rfl⟩ _ _;refine YM O (λτ h=>bX call48 (Ee h 0 O) Y (h.EA O))<|D1 O O ?_;exact⟨Zj,Z2 O<|⟨(k4+1,now3,M3),Vn (aS O) ⟨Zj,Zj,VT (b:=WB (momO (aM.mul acc (fw aM (gM J P E) J P c σ)))) Zj (ah (λb=>WB (momO b)) B.symm),Zj,Zj,Zj,Zj,Zj,Zp⟩ O O,⟨Zi,hn3,hM3⟩,Zo⟩⟩
 rw[show CS.take k4=CS from aG Zi];exact Gx O<|Z2 O<|Gt O<|⟨[(2,.ptr 0 0)],TB J (wdM D E) σ now2 (fr M2) (valsMM M2) (momO (fk aM (gM J P E) J P CS σ)),[momW (fk aM (gM J P E) J P CS σ)],o6M J (wdM D E) σ now2 (fr M2) (valsMM M2),1,Vn (aS O) (aO Zj) O O,O,⟨ar ⟨_,aap,O⟩ s0 O O O,Zp⟩,O,O,zm _ _ _ _ _ _ _,Zk,now2,M2,hn2,hM2,O,O⟩
abbrev s0M:vb:=λ_=>WC
abbrev jdM(S:ZN)(T:Gk)(lp:cP)(D:VD):JD:=⟨S,T,al lp,[.int .i64 (-1)],[ij D]⟩
abbrev SZ:PV:= .agg [.bool YL,bE 0,.bool YL,bE 1,.mp [] [],.mp [] [],.bool YL,bE 1,.bool YL,bE 1,.mp [] [],.mp [] [],.fn (.func 47) [] [],.fn (.func 48) [] [],.fn (.func 49) [] []]
abbrev wtM:PV:= .fn (.func 46) [] []
abbrev st0M(S:ZN)(T:Gk)(lp:cP)(D:VD)(L:PV):Zy:=[(4,.mix 261 [.ptr big 0,.pv (cB D.chs),.pv (cB D.kes),.pv (cB D.hos),.pv (al D.wa),.pv (.bool YL),.pv (bE 0),.pv (.bool YL),.pv (bE 1),.pv (.mp [] []),.pv (.mp [] []),.pv (.bool YL),.pv (bE 1),.pv (.bool YL),.pv (bE 1),.pv (.mp [] []),.pv (.mp [] []),.pv (.fn (.func 47) [] []),.pv (.fn (.func 48) [] []),.pv (.fn (.func 49) [] []),.pv L,.pv wtM,.pv .nilmap,.bJ 1 1 S.aj.length,.bJ 2 1 S.aj.length,.map 3]),(1,.cells 9 (bj (List.replicate S.aj.length eb))),(2,.cells 4 (a8 (stL s0M S.aj.length))),(3,.mp [] []),(big,oX S (.pv (dbP T)) (.pv (al lp)) 9001),(9001,.mp [.int .i64 (-1)] [ij D])]
theorem IZ(n:Nat):List.replicate n (PV.bool YL)=a8 (stL s0M n):=by
 apply WU
 .simp[n4]
 .intro i h1 h2;simp[stL]
theorem AJ(S:ZN)(T:Gk)(lp:cP)(pk pv:na)(D:VD)(caps:na)(q:S.aj.length<=1000)(j:ZS prog 164 2 0 [.ptr big 0,ZI (-1)] (jnO S T lp pk pv) (λv ob'=>v= .agg (Ts D)/\ob'=au (jnO S T lp [.int .i64 (-1)] [ij D]))):
  ZS prog 103 2 5 [.ptr big 0,ZI (-1),.pv .nilmap,.pv SZ,.pv (.fn (.func 51) [] caps),.pv wtM] (jnO S T lp pk pv) (λv ob'=>v= .ptr 4 0/\ob'=au (st0M S T lp D (.fn (.func 51) [] caps))):=by
 refine ZE func103 O ntmps103 λ_ _ _ _=>?_
 refine Z2 O<|Gr O<|Ar 7 O<|VC 16 O<|Dr 3 O<|YQ [big,9001] O (λτ h=>az [big,9001] 5 call164 j (h.args.trans O) O O O ⟨(Eo h 0 O),(Eo h 1 O),Zp⟩ Zk O)<|Dr 8 O<|YM O (λτ h=>cY 3 (h.n 0 _ O))<|D1 (d:=WB 33) (s:=⟨.agg [.ptr big 0,.pv (cB D.chs),.pv (cB D.kes),.pv (cB D.hos),.pv (al D.wa),.pv (.bool YL),.pv (bE 0),.pv (.bool YL),.pv (bE 1),.pv (.mp [] []),.pv (.mp [] []),.pv (.bool YL),.pv (bE 1),.pv (.bool YL),.pv (bE 1),.pv (.mp [] []),.pv (.mp [] []),.pv (.fn (.func 47) [] []),.pv (.fn (.func 48) [] []),.pv (.fn (.func 49) [] []),.pv (.fn (.func 51) [] caps),.pv wtM,.pv .nilmap,.bJ 1 1 S.aj.length,.bJ 2 1 S.aj.length,.map 3],[],[]⟩) (rd:=[big,1,2,3]) (φ:=True) O Zj<|Dr 2 O ⟨Zj,Gt O<|⟨[(12,.ptr 4 0)],st0M S T lp D (.fn (.func 51) [] caps),[.ptr 4 0],Vn (aS O) ⟨Zj,VT (b:=WB (.cells 9 (mkZ [.str ByteArray.empty] (S.aj.length*1)))) Zj (ah (λc=>WB (Ob.cells 9 c)) ((ct (.str ByteArray.empty) (S.aj.length*1)).trans (by rw[VY];show _=List.map _ (List.replicate _ _);rw[List.map_replicate];rfl))),VT (b:=WB (.cells 4 (mkZ [.bool YL] (S.aj.length*1)))) Zj (ah (λc=>WB (Ob.cells 4 c)) ((ct (.bool YL) (S.aj.length*1)).trans (by rw[VY];exact IZ _))),Zj,Zj,Zj,Zp⟩ O O,O,O,O,O,O⟩⟩
end

















section
open Mk Jn
def Jp(S:ZN)(T:Gk)(lp:cP)(pk pv:na)(D:VD):Prop:=ZS prog 164 2 0 [.ptr big 0,ZI (-1)] (jnO S T lp pk pv) (λv ob'=>v= .agg (Ts D)/\ob'=au (jnO S T lp [.int .i64 (-1)] [ij D]))
end
section
open Mk Jn
open Mm (SOk cnt bH aM cn ZB)
abbrev jobM(S:ZN)(T:Gk)(lp:cP):Ob:= (oX S (.pv (dbP T)) (.pv (al lp)) 9001)
theorem now0M(n:Nat):ZR n s0M (List.replicate n eb):=⟨Zm,λa h x e=>(by cases e),λa _=>rfl⟩
theorem GW(S:ZN)(T:Gk)(lp:cP)(pk pv:na)(D:VD)(E:MD)(r:Jp S T lp pk pv D)(P:cP)(hc:CtxM (jdM S T lp D) P D E):
  ZS prog 50 2 0 [.ptr big 0,.pv .nilmap,.pv SZ,.pv E.L,.pv wtM] (jnO S T lp pk pv) (λv ob'=>v=momW (fk aM (gM (jdM S T lp D) P E) (jdM S T lp D) P (aB P (-1)) s0M)/\ob'=au (jnO S T lp [.int .i64 (-1)] [ij D])):=by
 refine ZF func50 O ntmps50 λ_ _ _ _=>?_
 have j:=AJ S T lp pk pv D E.caps hc.c.ok.s.a r;rw[<-hc.f]at j;have q:=Bj (jdM S T lp D) P D E hc s0M (λ_=>rfl) (List.replicate S.aj.length eb) [] (now0M _) (λp hp=>by cases hp);refine Z2 O<|Gr O<|Ar 5 O<|Rs O (az [big,9001] 2 call103 j O O O O ⟨O,O,Zp⟩ Zk O)<|RL.call O (cf (os:=o6M (jdM S T lp D) (wdM D E) s0M (List.replicate S.aj.length eb) [] []) [6,3,4,5,big,9001] 0 call104 (args:=[.ptr big 0]) (k':=0) Zj Zj Zj Zj ⟨Zj,Zj,Zj,Zj,Zj,Zj,Zp⟩ Zk Zj q λv ob' hv=>?_);obtain⟨now2,M2,hn2,hM2,rfl,rfl⟩:=hv;exact A1 O<|Gt O<|⟨[(10,.ptr 1 0)],[(big,jobM S T lp),(aag D),(1,momO (fk aM (gM (jdM S T lp D) P E) (jdM S T lp D) P (aB P (-1)) s0M))],[momW (fk aM (gM (jdM S T lp D) P E) (jdM S T lp D) P (aB P (-1)) s0M)],[(big,jobM S T lp),(aag D)],2,Vn (aS O) (aO Zj) O O,O,⟨ar ⟨_,aap,O⟩ s0 O O O,Zp⟩,O,O,λi o h=>nF _ [(1,momO (fk aM (gM (jdM S T lp D) P E) (jdM S T lp D) P (aB P (-1)) s0M))] i o h,Zk,O,O⟩
theorem Bx(S:ZN)(v:Nat)(y:er)(x:ZB)(hl:ZK prog 52 [fp S,ZU v,.str y] (· =momP x)):
  ZK prog 51 [ZU v,.str y,.rp [.sl WC S.aj.length (aR S.aj),.sl WC S.aU.length (aZ S.aU),.sl WC S.bo.length (aK S.bo),ZU S.label] 0] (· =momP x):=by
 refine ZD func51 O ntmps51 λ_ _ _ _=>?_
 refine Z1 O<|Gr O ?_;first|refine A1 O ?_|refine A3 O Zl ?_
 exact Y2 O<|Rs O (aa call52 hl O)<|A1 O<|YR O ⟨⟨ar ⟨_,aap,O⟩ s0 O O O,Zp⟩,O⟩
end
section
open Mk Jn
def zC(S:ZN)(d:Gk)(k:Nat):Gk:=(List.zipWith (λr l=>jy S r.2 l) S.aU d).take k
def dA(S:ZN)(d:Gk):Gk:=List.zipWith (λr l=>jy S r.2 l) S.aU d
theorem E8{d:Gk}(j:d.length=S.aU.length)(q:k<S.aU.length):zC S d (k+1)=zC S d k++[jy S S.aU[k].2 (d[k]'Zi)]:=by grind[zC,AI]
theorem I0{d:Gk}(j:d.length=S.aU.length):zC S d S.aU.length=dA S d:=aG Zn
theorem JV{d:Gk}(j:d.length=S.aU.length)(q:k<=S.aU.length):(zC S d k).length=k:=by unfold zC;simp;omega
theorem FD(S:ZN)(hS:SB S)(V:Valid S)(M:SJn S)(d:Gk)(L:d.length=S.aU.length)(hl:∀l∈d,l.length<=1000)(Y:∀r (h:r<d.length) (h2:r<S.aU.length),∀x∈d[r],x.v.length=S.aU[r].2.length):
  ZS prog 23 0 2 [.pv (fp S),.pv (dbP d)] [] (λv ob'=>v= .ptr 0 0/\ob'=au [(0,oX S (.pv (dbP (dA S d))) (.pv (al (lstL S))) 1),(1,.mp [] [])]):=by
 refine ZE func23 O ntmps23 λ_ _ _ _=>?_
 have z:=(oy S hS V).2;have Z:=M.r;have s:=I0 L;generalize lstL S=lp at*;have T:=cL d;refine Z2 O<|VC 7 O<|Dr 2 O<|YM O (λτ h=>aa call53 z (h.aE O))<|YM O (λτ h=>cY 1 (h.n 0 _ O))<|Dr 3 O ?_;refine⟨Zj,?_⟩;refine Vm (St.cD 2 4 3 1 38 O O O)<|Z4 O<|Gz O (st:=λZq:Nat×Gk=>([(1,WC),(2,WC),(5,WC),(15,WC),(16,WB (ZI Zq.1))],[(0,WC),(1,WC),(2,WB (oX S (.bz 3 1 Zq.2.length) (.pv (al lp)) 1)),(3,WB (.bD 38 (bO Zq.2)))])) 4
  (I:=λZq=>Zq.1<=S.aU.length/\Zq.2=zC S d Zq.1) (μ:=λZq=>S.aU.length-Zq.1) (x0:=(0,[])) (Vn (aS O) (aO Zj) O O) (⟨sh _,by simp[zC]⟩) ?_
 rintro⟨k,q⟩ ⟨hk,hq⟩;try simp only at hk hq ⊢
 refine Z1 O<|Gp O (λu=>?_) (λu=>?_)
 .have hlt:k<S.aU.length:=Zi;have j:k<d.length:=Zi;have B:=kG j;have D:=nV j;have E:=HX S M k hlt d[k] (hl _ (ak j)) (Y k j hlt);have t:=E8 L hlt;have G:=JV L hk;rw[<-hq]at G t;have U:(bO q).length=q.length*1:=cL q;have H:=El q (jy S S.aU[k].2 d[k]);generalize jy S S.aU[k].2 d[k]=lv at*;generalize d[k]=tk at*;refine Vl<|Z2 O<|VC 17 O<|Dr 9 O<|YM O (λτ h=>ai k aay tu (Ee h 0 O) (Ee h 1 O) O j D)<|YM O (λτ h=>aC ⟨_,aas,O⟩ (Ee h 0 O) B)<|YM O (λτ h=>aa call54 E (h.aE O))<|Dr 5 O ⟨Zj,Z2 O<|⟨(k+1,q++[lv]),Vo [0,1,2,5] (aT O) ⟨Zj,Zj,VT (b:=WB (oX S (.bz 5 1 (q.length+1)) (.pv (al lp)) 1)) Zj (ah (λn=>WB (oX S (.bz 5 1 n) (.pv (al lp)) 1)) (fv q lv)),VT (b:=WB (.bD 38 (bO q++[nB lv]))) Zj (ah (λc=>WB (Ob.bD 38 c)) H),Zp⟩ O O Zk O,⟨Zo,by simp only;rw[t]⟩,Zo⟩⟩
 have hqf:q=dA S d:=by rw[hq,show k=S.aU.length by omega,s]
 rw[hqf];exact Gx O<|Vm (Vq 3 O O)<|Z2 O<|Gt O<|⟨[(4,.ptr 0 0)],[(0,oX S (.pv (dbP (dA S d))) (.pv (al lp)) 1),(1,.mp [] [])],[.ptr 0 0],Vo [2,1] (aT O) (aP Zj) O O Zk O,O,O,O,O,O⟩
end



end Go.Proofs.YthicoeegbdboeaaGreatDoor
namespace Go.Proofs
open Go.Proofs.YthicoeegbdboeaaGreatDoor
open Go.Shelf Go.RowKit Go.Lib Go.Sort
end Go.Proofs
namespace Go.Proofs.YthicoeegbdboeaaGreatDoor
section
open Mk Jn
def Cd(s t:er):Int:=if Op.bytesLess s.toList t.toList=YK then-1 else if(s.toList==t.toList)=YK then 0 else 1
def LW(a b:hC):Int:=if cR a b=YK then-1 else if a=b then 0 else 1
theorem LL(s:er)(w:World):Calls prog 175 #[.string s] w λe w'=>e= .returned (.bool YL)/\w=w':=by
 have hs:(s.toList !=s.toList)=YL:=Zm
 go_enter func175,ntmps175
 go_wp2
 go_ret
 exact⟨O,O⟩
theorem Dx(s t:er)(w:World):Calls prog 122 #[.string s,.string t] w λe w'=>e= .returned (.int .i64 (Cd s t))/\w=w':=by
 have q:=LL
 go_enter func122,ntmps122
 go_wp2_with (go_at_call 175;refine(q _ _).mono ?_;rintro e w' ⟨rfl,rfl⟩)
 .have h1:Op.bytesLess s.toList t.toList=YK:=Zl
  go_ret
  exact⟨eQ (by unfold Cd;rw[IT h1]),O⟩
 .have h1:Op.bytesLess s.toList t.toList=YL:=Zl;have j:(!s.toList==t.toList)=YK:=Zl
  go_ret
  refine⟨eQ ?_,O⟩;unfold Cd;rw[h1,AS Zk,AS (by simpa using j)]
 have h1:Op.bytesLess s.toList t.toList=YL:=Zl;have j:(!s.toList==t.toList)=YL:=Zl
 go_ret
 refine⟨eQ ?_,O⟩;unfold Cd;rw[h1,AS Zk,IT (by simpa using j)]
theorem Ki{s t:er}(h:Cd s t=0):s=t:=by
 unfold Cd at h;split at h
 .cases h
 split at h
 .next h2=>exact bytes_inj (by simpa using h2)
 cases h
theorem S0{a b:hC}{k:Nat}(q:k<a.length)(r:k<b.length)(e:a.take k=b.take k)(j:Cd a[k] b[k]≠0):LW a b=Cd a[k] b[k]:=by grind[Cd,nj,vP,bytes_inj,LW]
theorem Gy{a b:hC}{k:Nat}(j:k<a.length)(q:k=b.length)(e:a.take k=b.take k):LW a b=1:=by grind[mL,LW]
theorem CD{a b:hC}{k:Nat}(j:k=a.length)(q:k<=b.length)(e:a.take k=b.take k):LW a b=if(a.length:Int)<b.length then-1 else 0:=by grind[mL,LW,aG]
theorem MM(A B:Option Addr)(c d:Nat)(l m:hC)(w:World){R:ew}(h:Row w R A (strs l)){R':ew}(r:Row w R' B (strs m))(hl:l.length<=1000000)(z:m.length<=1000000):
  Calls prog 254 #[.slice A l.length c,.slice B m.length d] w λe w'=>e= .returned (.int .i64 (LW l m))/\w=w':=by
 have q:=Dx;have j:=@Row.Qh _ _ _ _ h;have hB:=@Row.Qh _ _ _ _ r;clear h r
 go_enter func254,ntmps254
 go_wp2
 go_loop [11] (λi=>∃k:Nat,k<=l.length/\k<=m.length/\i= .int .i64 k/\l.take k=m.take k) (λi=>l.length-(intOf i).toNat)
 case atStart=>exact⟨0,sh _,sh _,O,Zm⟩
 case round=>
  obtain⟨k,hk,hkm,rfl,hno⟩:=hrel;have HN:=Lib.hid hno;clear hno;by_cases hlt:k<l.length
  .obtain⟨b,off,rfl,hb,hck⟩:=j hlt;by_cases hlt':k<m.length
   .obtain⟨b',off',rfl,hb',hck'⟩:=hB hlt';clear j hB
    go_wp2_with (go_at_call 122;refine(q _ _ _).mono ?_;rintro e w' ⟨rfl,rfl⟩)
    .have he:(Cd l[k] m[k] !=0)=YK:=Zl
     go_ret
     exact⟨eQ (S0 hlt hlt' HN.out (by simpa using he)).symm,O⟩
    have he:(Cd l[k] m[k] !=0)=YL:=Zl;refine⟨⟨k+1,Zi,Zi,by go_num,?_⟩,by simp[intOf];omega⟩;have u:=HN.out;rw[AI hlt,AI hlt',u,Ki (s:=l[k]) (t:=m[k]) (by simpa using he)]
   obtain rfl:k=m.length:=Zi;clear j hB
   go_wp2
   go_ret
   exact⟨eQ (Gy hlt O HN.out).symm,O⟩
  clear j hB
  go_wp2
  .have he:l.length<m.length:=Zl
   go_ret
   refine⟨eQ ?_,O⟩;rw[CD Zi hkm HN.out,IT Zi]
  have he:¬l.length<m.length:=Zl
  go_ret
  refine⟨eQ ?_,O⟩;rw[CD Zi hkm HN.out,AS Zi]

theorem nbeqJ{i k:Nat}(h:¬i=k):Nat.beq i k=YL:=by grind[Nat.beq,bN]
theorem vz(F arr:YT)(h:F.size<=arr.size):((Go.Sort.putCells id 0 F arr).toList.take F.size)=F.toList:=by
 apply WU
 .simp[Go.Sort.putCells];omega
 .intro i h1 h2;rw[Wg]at h2;simp only[List.getElem_take,Array.getElem_toList,Go.Sort.putCells,Array.getElem_mapIdx];rw[IT ⟨sh _,Zi⟩,Nat.sub_zero,getElem!_pos F i h2];rfl
theorem n0:NumOk ⟨#[48]⟩:=⟨Zk,Zj,⟨Zj,by decide+kernel⟩,λh=>absurd h Zt⟩
theorem n1:NumOk ⟨#[49]⟩:=⟨Zk,Zj,⟨Zj,by decide+kernel⟩,λh=>absurd h Zt⟩
theorem n2:NumOk ⟨#[50]⟩:=⟨Zk,Zj,⟨Zj,by decide+kernel⟩,λh=>absurd h Zt⟩
theorem n3:NumOk ⟨#[51]⟩:=⟨Zk,Zj,⟨Zj,by decide+kernel⟩,λh=>absurd h Zt⟩
theorem nm2:NumOk ⟨#[45,50]⟩:=⟨Zk,Zj,⟨Zj,by decide+kernel⟩,λh=>absurd h Zt⟩
theorem nh:NumOk ⟨#[49,47,50]⟩:=⟨Zk,Zj,⟨Zj,by decide+kernel⟩,λ_=>⟨Zj,by decide+kernel,by decide+kernel⟩⟩
theorem n53:NumOk ⟨#[53,47,51]⟩:=⟨Zk,Zj,⟨Zj,by decide+kernel⟩,λ_=>⟨Zj,by decide+kernel,by decide+kernel⟩⟩
theorem FC(nm v:er)(kd:Int)(q:kd=1\/kd=2\/kd=3)(j:v∈ig kd):ZK prog 253 [.agg [.str nm,ZU kd],.str v] (· = .bool YK):=by
 rcases q with rfl|rfl|rfl
 .refine Jw nm v ?_;simp only[ig,BS,By,Xv,Y0]at j;rcases j with rfl|j
  .exact .inl O
  right
  simp at j;rcases j with rfl|rfl|rfl<;>exact⟨Zj,by decide+kernel⟩
 .by_cases hne:v=⟨#[]⟩
  .rw[hne];exact EO nm
  refine JI nm v ?_ hne;simp only[ig,DY,By,Xv,Y0]at j;have j:=j.resolve_left hne;simp at j;rcases j with rfl|rfl|rfl|rfl|rfl|rfl|rfl|rfl
  .exact n0
  .exact n1
  .exact nm2
  .exact nh
  .exact n3
  .exact n53
  .exact n1
  exact n2
 refine Im nm v ?_;simp only[ig,MF,By,Xv,Y0]at j;rcases j with rfl|j
 .exact .inl O
 right
 simp at j;rcases j with rfl|rfl|rfl<;>exact⟨Zj,Zk⟩
theorem tL{w:World}{R:ew}:∀{l:hC}{us:e7},ZG w R (bj l) us->us=l.map Value.string
 |[],us,h=>by simpa[ZG]using h
 | x::l,us,h=>by
   simp only[ed,ZG,ZH]at h;obtain⟨u,vs,rfl,rfl,h2⟩:=h;rw[tL h2];rfl
theorem DB{w:World}{R:ew}(r:∀b,R b->b<w.heap.size){l:hC}{us:e7}{ps:na}(h:ZG w R (bh l::ps) us):∃A c vs,us= .slice A l.length c::vs/\Row w R A (strs l)/\ZG w R ps vs:=by simp only[ZG,ZH]at h;obtain⟨u,vs,rfl,⟨A,c,rfl,_,_,_,_,h5⟩,h6⟩:=h;refine⟨A,c,vs,O,λj=>?_,h6⟩;obtain⟨b,off,us,rfl,h6,h7,h8⟩:=h5 (λe=>j (by rw[List.map_eq_nil_iff]at e ⊢; exact e));have q:us=l.map Value.string:=tL h6;subst q;exact⟨b,off,O,h7,r b h7,h8⟩
theorem QB(a b:hC)(j:a.length<=1000000)(q:b.length<=1000000):ZK prog 254 [bh a,bh b] (· = ZU (LW a b)):=by intro w R us hG hR hrel;obtain⟨A,c,vs,rfl,r1,h1⟩:=DB hR hrel;obtain⟨B,d,vs,rfl,r2,h2⟩:=DB hR h1;obtain rfl:=(by simpa[ZG]using h2:vs=[]);exact(MM A B c d a b w r1 r2 j q).mono λe w' ⟨he,hw⟩=>⟨_,_,he,O,by rw[<-hw];exact Below.refl _ _,by simp only[ZH]⟩
theorem UO(a b:hC):decide (LW a b<0)=cR a b:=by grind[LW,cR]
theorem FW(a b:hC)(j:a.length<=1000000)(q:b.length<=1000000):ZK prog 207 [bh a,bh b] (· = .bool (cR a b)):=by
 refine ZC func207 O ntmps207 λ_ _ _ _=>?_
 have hc:=QB a b j q;exact Z1 O<|Z2 O<|Rs O (aa call254 hc O)<|Y2 O<|YR O<|ah PV.bool (UO a b)
structure RowOk(S:ZN)(A:cP)(low:Int)(x:Rw):Prop where
 l:x.v.length=A.length
 v:∀i (h:i<x.v.length) (h2:i<A.length),∀nm,ZK prog 253 [.agg [.str nm,ZU (S.aj.getD A[i].toNat default).2],.str x.v[i]] (· = .bool YK)
 w:x.w≠0/\low<=x.w/\x.w<=100
theorem uk{S:ZN}{a:Nat}(h:a<S.aj.length):S.aj.getD a default=S.aj[a]:=by simp[List.getD,h]
theorem Aj(S:ZN)(hS:SJn S)(nm:er)(A:cP)(V:A.length<=1000)(G:∀a∈A,0<=a/\a<S.aj.length)(low:Int)(x:Rw)(H:RowOk S A low x):ZK prog 206 [fp S,.agg [.str nm,al A],UI x] (· = .bool YK):=by
 refine ZC func206 O ntmps206 λ_ _ _ _=>?_
 have L:=H.l;have M:=hS.a;refine Z4 O<|Z4 O<|Gz O (st:=λZq:Nat=>([(3,WC),(5,WC),(10,WC),(11,WC),(12,WB (ZI Zq))],[(0,WC),(2,WC)])) 3
  (I:=λZq=>Zq<=A.length) (μ:=λZq=>A.length-Zq) (x0:=0) (YS O) (sh _) ?_
 rintro j hj;refine Z1 O<|Gp O (λu=>?_) (λu=>?_)
 .have hlj:j<A.length:=Zi;obtain⟨a,haa⟩:=VG (G _ (ak hlj)).1;have q:a<S.aj.length:=by have:=(G _ (ak hlj)).2;omega
  have z:(aI A)[j*1]? =WB (.int .i64 (a:Int)):=by rw[<-haa];simp[hlj]
  have T:=aU hlj;have r:j<x.v.length:=Zi;have B:=bD r;have D:=cz r;have U:=qu q;have E:=jO q;have t:=H.v j r hlj S.aj[a].1;rw[haa,Wh,uk q]at t;refine Vl<|Z2 O<|Rs O (aC ⟨_,aan,O⟩ O z)<|Y2 O<|VC 12 O<|Dr 3 O<|YM O (λτ h=>ai a underlying26 Hg (Ee h 0 O) (Ee h 1 O) O q E)<|D3 O O Zl ?_;refine Dr 3 O<|YM O (λτ h=>ai j aao sz9 (Ee h 0 O) (Ee h 1 O) O r D)<|YM O (λτ h=>aC ⟨_,aam,O⟩ (Ee h 0 O) B)<|YM O (λτ h=>aa call253 t (h.aE O))<|D1 O O ⟨Zj,Gc O (λs=>absurd s Zm) (λs=>?_)⟩;exact Vl<|Z2 O<|⟨(j+1),YS O,Zi,Zi⟩
 exact Gx O<|Z1 O<|YR O O
structure TblOk(S:ZN)(A:cP)(low:Int)(l:om):Prop where
 row:∀x∈l,RowOk S A low x
 asc:QR l
theorem Is{l:om}(h:QR l){k:Nat}(j:k+1<l.length):cR l[k].v l[k+1].v=YK:=by grind[QR,Wz]
theorem xC(S:ZN)(hB:SB S)(hS:SJn S)(hV:bF S=0)(r:Nat)(Y:r<S.aU.length)(l:om)(most low:Int)(hm:(l.length:Int)<=most)(hl:l.length<=1000)(hT:TblOk S S.aU[r].2 low l):ZK prog 155 [fp S,ZU r,nB l,ZU most,ZU low] (· = ZU 0):=by
 refine ZC func155 O ntmps155 λ_ _ _ _=>?_
 have u:=mH S hB;rw[hV]at u;have hrow:=eT Y;have hrne:=iq Y;have Z:=hS.l _ (ak Y);have ab:=hS.b _ (ak Y);have hSr:=hS.r;have M:=fun(x:Rw)(hx:RowOk S S.aU[r].2 low x)=>Aj S hS S.aU[r].1 S.aU[r].2 Z ab low x hx
 have T:=hT.row;have ac:=hT.asc;clear hT;generalize S.aU[r]=rr at*;refine Z2 O<|Z1 O<|Rs O (aa call77 u O)<|Y2 O<|Gc O (λz=>absurd z Zm) (λz=>?_);refine Z3 O ?_;apply Vv 6 23 29 [24,25,26,27,28] O Zs
 .intro hb2;exact Ar 6 O<|Vp Zr O O O
 .intro hb2;exact Ar 6 O<|Vp Zr O O O
 refine A1 O<|Gc O (λB=>absurd B (λh=>by simp at h;omega)) (λB=>?_);refine Gr O<|Ar 5 O<|Gp O (λD=>absurd D Zi) (λD=>?_);refine Vl<|Z4 O<|A3 O Zl ?_;refine Y2 O<|Z3 O ?_;refine Gz O (st:=λZq:Nat=>([(2,WC),(4,WC),(5,WC),(11,WC),(40,WC),(41,WC),(42,WB (ZI Zq))],[(0,WC),(1,WC)])) 2
  (I:=λZq=>Zq<=l.length) (μ:=λZq=>l.length-Zq) (x0:=0) (YS O) (sh _) ?_
 rintro k hk;refine Z1 O<|Gp O (λV=>?_) (λV=>?_)
 .have hlt:k<l.length:=Zi;have hrw:=dy hlt;have ad:=dW hlt;have t:=T _ (ak hlt);have af:=M _ t;have hxl:=t.l;obtain⟨hw1,hw2,hw3⟩:=t.w;have L:0<k->∃s:k-1<l.length,cR (l[k-1]'s).v l[k].v=YK:=λh0=>by
   obtain⟨j,rfl⟩:∃j,k=j+1:=⟨k-1,Zi⟩;exact⟨by simp only[Nat.add_sub_cancel];omega,by simpa using Is ac hlt⟩
  have ag:∀s:k-1<l.length,(l[k-1]'s).v.length=rr.2.length:=λs=>(T _ (ak s)).l
  have ah:∀s:k-1<l.length,(aL l)[(k-1)*2]? =WB (bh (l[k-1]'s).v):=λs=>Ln s
  clear t;generalize l[k]=x at*;refine Vl<|Z2 O<|A3 O Zl ?_;refine Y3 O<|Gr O<|Ar 8 O ?_;refine Gc O (λE=>absurd E Zn) (λE=>?_);refine Z3 O<|Rs O (aa call206 af O)<|Y2 O<|Gc O (λG=>absurd G Zm) (λG=>?_);refine Z4 O ?_;apply Vv 5 65 70 [66,67,68,69] O Zs
  .intro hb3;exact Ar 5 O<|Vp Zr O O O
  .intro hb3;exact Ar 5 O<|Vp Zr O O O
  refine A1 O ?_;apply Vv 4 71 75 [72,73,74] O Zs
  .intro hb9;exact Ar 4 O<|Vp Zr O O O
  .intro hb9;exact Ar 4 O<|Vp Zr O O O
  refine A1 O<|Gc O (λH=>absurd H (λh=>by simp at h;omega)) (λH=>?_);by_cases hk0:k=0
  .refine VC 15 O<|D1 O O<|YM O (λτ h=>jA (Ee h 0 O) (Ee h 1 O) O (VL Zi))<|Dr 13 O ⟨Zj,Gc O (λq=>absurd q Zm) (λq=>?_)⟩;exact Vl<|Z2 O<|⟨(k+1),YS O,Zi,Zi⟩
  obtain⟨s,hls⟩:=L Zi;have U:=FW _ x.v (by rw[ag s];omega) Zi;rw[hls]at U;have am:=ah s;refine VC 15 O<|D1 O O<|YM O (λτ h=>fE (Ee h 0 O) (Ee h 1 O) O (VK Zi))<|Dr 4 O<|Dg [] O (λτ h=>ai (k-1) aas R3 (Ee h 0 O) (Ee h 1 O) Zi s ad) O Zj<|D1 O O<|Dg [] O (λτ h=>aC ⟨_,aao,O⟩ (Ee h 0 O) am) O Zj<|Dr 2 O<|Dg [] O (λτ h=>aa call207 U (h.aE O)) O Zj<|Dr 3 O ⟨Zj,Gc O (λq=>absurd q Zm) (λq=>?_)⟩;exact Vl<|Z2 O<|⟨(k+1),YS O,Zi,Zi⟩
 exact Gx O<|Z1 O<|YR O O
theorem OQ(S:ZN)(hB:SB S)(hS:SJn S)(q:bF S=0)(r:Nat)(j:r<S.aU.length)(l:om)(hl:l.length<=60)(s:TblOk S S.aU[r].2 1 l):ZK prog 94 [fp S,ZU r,nB l] (· = ZU 0):=by
 refine ZC func94 O ntmps94 λ_ _ _ _=>?_
 have j:=xC S hB hS q r j l 60 1 Zi Zi s;exact Z2 O<|Z3 O<|Rs O (aa call155 j O)<|A1 O<|YR O O
theorem Oj(S:ZN)(hB:SB S)(hS:SJn S)(E:bF S=0)(d:Gk)(M:d.length=S.aU.length)(hl:∀l∈d,l.length<=60)(L:∀r (h:r<d.length) (T:r<S.aU.length),TblOk S S.aU[r].2 1 d[r]):ZK prog 45 [fp S,dbP d] (· = ZU 0):=by
 refine ZC func45 O ntmps45 λ_ _ _ _=>?_
 have j:=mH S hB;rw[E]at j;have G:=hS.r;have H:=cL d;refine Z2 O<|Z1 O<|Rs O (aa call77 j O)<|A1 O<|Z2 O<|Gc O (λt=>?_) (λt=>?_)
 .exact Z2 O<|YR O O
 refine Vl<|Gr O<|Ar 6 O ?_;refine Gc O (λq=>absurd q Zn) (λq=>?_);refine Vl<|Z3 O<|Gz O (st:=λZq:Nat=>([(2,WC),(20,WC),(21,WC),(22,WB (ZI Zq))],[(0,WC)])) 1
  (I:=λZq=>Zq<=d.length) (μ:=λZq=>d.length-Zq) (x0:=0) (YS O) (sh _) ?_
 rintro k hk;refine Z1 O<|Gp O (λu=>?_) (λu=>?_)
 .have hlt:k<d.length:=Zi;have z:=kG hlt;have B:=nV hlt;have D:=OQ S hB hS E k Zi d[k] (hl _ (ak hlt)) (L k hlt Zi);generalize d[k]=tk at*;refine Vl<|Z1 O<|Rs O (ai k aay tu O O O hlt B)<|Rs O (aC ⟨_,aas,O⟩ O z)<|Y2 O<|Z3 O<|Rs O (aa call94 D O)<|A1 O<|Z2 O<|Gc O (λs=>absurd s Zm) (λs=>?_);exact Vl<|Z2 O<|⟨(k+1),YS O,Zi,Zi⟩
 exact Gx O<|Z1 O<|YR O O
def Ss(σ:vb):cP->hC->vb
 |a::A,x::v=>Ss (put σ a x) A v
 |_,_=>σ
theorem oC:∀{A:cP}{v:hC}{σ:vb}{b:Int},b∉A->Ss σ A v b=σ b
 |[],_,_,_,_=>rfl
 |_::_,[],_,_,_=>rfl
 | a::A,x::v,σ,b,h=>by
   rw[Ss,oC λe=>h (VX _ e),jZ _ _ λe=>h (by rw[e];exact Xj)]
theorem jU:∀{A:cP}{v:hC}{σ:vb}{a:Int}{x:er},A.Nodup->(a,x)∈A.zip v->Ss σ A v a=WB x
 |[],_,_,_,_,_,h=>by simp at h
 |_::_,[],_,_,_,_,h=>by simp at h
 | b::A,y::v,σ,a,x,hn,h=>by
   rw[Ss];rw[X2,By]at h;rw[WW]at hn;rcases h with h|h
   .injection h with h1 h2
    subst h1 h2;rw[oC hn.1,fI]
   exact jU hn.2 h
theorem sx:∀{A:cP}{v:hC}{a:Int},v.length=A.length->a∈A->∃x,(a,x)∈A.zip v
 |[],_,_,_,h=>by simp at h
 |_::_,[],_,h,_=>by simp at h
 | b::A,y::v,a,hl,h=>by
   rw[By]at h;rcases h with rfl|h
   .exact⟨y,Zm⟩
   obtain⟨x,hx⟩:=sx (by simpa using hl) h;exact⟨x,by rw[X2];exact VX _ hx⟩
theorem wz{A:cP}{σ:vb}{v:hC}:agr A σ v=YK↔∀a x,(a,x)∈A.zip v->∀y,σ a=WB y->y=x:=by
 rw[Pv,IN];constructor
 .intro h a x hm y hy;have:=h _ hm;rw[uW hy]at this;exact Xh this
 rintro h ⟨a,x⟩ hm;cases hs:σ a with
 |none=>exact CP hs
 |some y=>rw[uW hs];exact VK (h a x hm y hs)
def enR:List (cP×om)->vb->List vb
 |[],σ=>[σ]
 |p::L,σ=>(p.2.filter λx=>agr p.1 σ x.v).flatMap λx=>enR L (Ss σ p.1 x.v)
def rI(L:List (cP×om)):Prop:=∀p∈L,p.1.Nodup/\(∀x∈p.2,x.v.length=p.1.length)/\p.2.Pairwise λa b=>a.v≠b.v
theorem rI.cons{p:cP×om}{L:List (cP×om)}(h:rI (p::L)):(p.1.Nodup/\(∀x∈p.2,x.v.length=p.1.length)/\p.2.Pairwise λa b=>a.v≠b.v)/\rI L:=⟨h p Zm,λq hq=>h q (by simp[hq])⟩
def In1(τ:vb)(A:cP)(v:hC):Prop:=∀a x,(a,x)∈A.zip v->τ a=WB x
theorem Cw:∀{A:cP}{v w:hC}{τ:vb},v.length=A.length->w.length=A.length->In1 τ A v->In1 τ A w->v=w
 |[],[],[],_,_,_,_,_=>rfl
 |[],_::_,_,_,h,_,_,_=>by simp at h
 |[],[],_::_,_,_,h,_,_=>by simp at h
 |_::_,[],_,_,h,_,_,_=>by simp at h
 |_::_,_::_,[],_,_,h,_,_=>by simp at h
 | a::A,x::v,y::w,τ,h1,h2,k1,k2=>by
   have e1:=k1 a x Zm;have j:=k2 a y Zm;rw[e1]at j;injection j with j
   rw[j,Cw (A:=A) (v:=v) (w:=w) (τ:=τ) (by simpa using h1) (by simpa using h2) (λb z hz=>k1 b z (by rw[X2];exact VX _ hz)) (λb z hz=>k2 b z (by rw[X2];exact VX _ hz))]
theorem o5:∀{L:List (cP×om)}{σ τ:vb},rI L->(τ∈enR L σ↔(∀a,(∀p∈L,a∉p.1)->τ a=σ a)/\(∀a x,σ a=WB x->τ a=WB x)/\∀p∈L,∃x∈p.2,In1 τ p.1 x.v)
 | [],σ,τ,_=>by
   rw[enR,VH];constructor
   .rintro rfl;exact⟨λ_ _=>rfl,λ_ _ e=>e,λ_ h=>by simp at h⟩
   rintro⟨h,_,_⟩;funext a;exact h a λ_ hp=>by simp at hp
 | p::L,σ,τ,hR=>by
   obtain⟨⟨hn,hl,hd⟩,hR2⟩:=hR.cons;rw[enR,V6];constructor
   .rintro⟨x,hx,ht⟩;obtain⟨hx,j⟩:=VU.1 hx;obtain⟨h1,h2,h3⟩:=(o5 hR2).1 ht;have j:=wz.1 j;refine⟨λa ha=>?_,λa y hy=>?_,λq hq=>?_⟩
    .rw[h1 a λq hq=>ha q (by simp[hq]),oC (ha p Zm)]
    .by_cases hm:a∈p.1
     .obtain⟨z,hz⟩:=sx (hl x hx) hm;rw[j a z hz y hy];exact h2 a z (jU hn hz)
     exact h2 a y (by rw[oC hm];exact hy)
    rw[By]at hq;rcases hq with rfl|hq
    .exact⟨x,hx,λa z hz=>h2 a z (jU hn hz)⟩
    exact h3 q hq
   rintro⟨h1,h2,h3⟩;obtain⟨x,hx,hin⟩:=h3 p Zm;refine⟨x,VU.2 ⟨hx,wz.2 λa z hz y hy=>?_⟩,(o5 hR2).2 ⟨λa ha=>?_,λa y hy=>?_,λq hq=>h3 q (by simp[hq])⟩⟩
   .have e1:=h2 a y hy;rw[hin a z hz]at e1;exact(Xl e1).symm
   .by_cases hm:a∈p.1
    .obtain⟨z,hz⟩:=sx (hl x hx) hm;rw[hin a z hz,jU hn hz]
    rw[oC hm];refine h1 a λq hq=>?_
    rw[By]at hq;rcases hq with rfl|hq
    .exact hm
    exact ha q hq
   by_cases hm:a∈p.1
   .obtain⟨z,hz⟩:=sx (hl x hx) hm;rw[jU hn hz]at hy;cases hy;exact hin a _ hz
   rw[oC hm]at hy;exact h2 a y hy
theorem y7:∀{L:List (cP×om)}{σ:vb},rI L->(enR L σ).Nodup
 |[],σ,_=>by rw[enR];exact List.pairwise_singleton _ σ
 | p::L,σ,hR=>by
   obtain⟨⟨hn,hl,hd⟩,hR2⟩:=hR.cons;rw[enR];unfold List.Nodup;rw[List.pairwise_flatMap];refine⟨λx _=>y7 hR2,?_⟩;have j:=List.Pairwise.and_mem.1 (WY (WN (p:=λx=>agr p.1 σ x.v)) hd);refine j.imp ?_;rintro x y ⟨q,r,hne⟩ τ hτ τ' hτ' rfl;have q:=(VU.1 q).1;have r:=(VU.1 r).1;exact hne (Cw (hl x q) (hl y r) (λa z hz=>((o5 hR2).1 hτ).2.1 a z (jU hn hz)) (λa z hz=>((o5 hR2).1 hτ').2.1 a z (jU hn hz)))
end
section
open Mk Jn
structure DbOk(S:ZN)(d:Gk):Prop where
 hB:SB S
 hc:bF S=0
 hS:SJn S
 n:d.length=S.aU.length
 l:∀l∈d,l.length<=12
 t:∀r (h:r<d.length) (h2:r<S.aU.length),TblOk S S.aU[r].2 1 d[r]
 zf:∀l∈d,∀x∈l,∀y∈x.v,Zf y/\y.size<=10000


theorem jY{S:ZN}{d:Gk}(h:d.length=S.aU.length):(dA S d).length=S.aU.length:=by simp[dA,h]
theorem qe{S:ZN}{d:Gk}{r:Nat}(j:r<d.length)(q:r<S.aU.length)(h:r<(dA S d).length):(dA S d)[r]=jy S S.aU[r].2 d[r]:=by simp[dA]
theorem nA{S:ZN}{d:Gk}{l:om}(h:l∈dA S d):∃l'∈d,List.Sublist l l':=by unfold dA at h;obtain⟨i,hi,e⟩:=WR.1 h;rw[List.length_zipWith]at hi;refine⟨d[i]'Zi,ak _,?_⟩;rw[<-e,List.getElem_zipWith];exact WN
section
variable {S:ZN}{d:Gk}(h:DbOk S d)
include h
theorem DbOk.val:Valid S:=ji h.hc
theorem DbOk.tab:TabOk S (dA S d) where
 n:=jY h.n
 l:=λl hl=>by
  obtain⟨l',h1,h2⟩:=nA hl;exact OF h2.length_le (h.l l' h1)
 v:=λr hr h2 x hx=>by
  have j:r<d.length:=by rw[h.n];exact h2
  rw[qe j h2]at hx;exact((h.t r j h2).row x (VU.1 hx).1).l
 zf:=λl hl x hx=>by
  obtain⟨l',h1,h2⟩:=nA hl;exact h.zf l' h1 x (h2.subset hx)
omit h in
theorem Qr{l:om}(hl:l∈dA S d):∃(r:Nat)(j:r<d.length)(q:r<S.aU.length),List.Sublist l d[r]:=by unfold dA at hl;obtain⟨i,hi,e⟩:=WR.1 hl;rw[List.length_zipWith]at hi;refine⟨i,Zi,Zi,?_⟩;rw[<-e,List.getElem_zipWith];exact WN
theorem DbOk.dist:∀l∈dA S d,l.Pairwise λa b=>a.v≠b.v:=λl hl=>by
 obtain⟨r,hd,hr,hs⟩:=Qr hl;exact WY hs ((h.t r hd hr).asc.imp fun{a b} hab e=>by rw[e,yN]at hab;cases hab)
theorem DbOk.wts:∀l∈dA S d,∀x∈l,1<=x.w/\x.w<=100:=λl hl x hx=>by
 obtain⟨r,hd,hr,hs⟩:=Qr hl;exact((h.t r hd hr).row x (hs.subset hx)).w.2
theorem DbOk.ord:OrdOk S (ordL S (lstL S)):=TU h.hB h.val
theorem DbOk.ctx:CtxV ⟨S,dA S d,al (lstL S),[.int .i64 (-1)],[ij (planS S)]⟩ (ordL S (lstL S)) (planS S):=by have:=Uz h.ord h.hS h.tab (λa ha=>h.val.use a ha) (al (lstL S)) [.int .i64 (-1)] [ij (planS S)];rw[<-show planS S=nY S (ordL S (lstL S))from Du h.ord]at this;exact this
theorem DbOk.hho:∀v (j:v<(planS S).hos.length),(planS S).hos[v]=hoL S (ordL S (lstL S)) v:=by rw[show planS S=nY S (ordL S (lstL S))from Du h.ord];intro v j;simp[nY,hoL,upZ]
theorem DbOk.check:ZK prog 45 [fp S,dbP d] (· = ZU 0):=Oj S h.hB h.hS h.hc d h.n (λl hl=>by have:=h.l l hl;omega) h.t
theorem DbOk.new:ZS prog 23 0 2 [.pv (fp S),.pv (dbP d)] [] (λv ob'=>v= .ptr 0 0/\ob'=au [(0,oX S (.pv (dbP (dA S d))) (.pv (al (lstL S))) 1),(1,.mp [] [])]):=
 FD S h.hB h.val h.hS d h.n (λl hl=>by have:=h.l l hl;omega) λr hr h2 x hx=>((h.t r hr h2).row x hx).l
theorem DbOk.plan0:Jp S (dA S d) (lstL S) [] [] (planS S):=LG S h.hB h.val (dA S d) (lstL S) (oy S h.hB h.val).1 (planS S) (Uo S h.hB h.ord)
end
end
section
open Go.RowKit Mk Jn Mm
def tmL(l:List (ZM×Rat)):List Trm:=l.map λe=>⟨e.1,bk e.2⟩
def prL(l:List (PP×Rat)):List Prr:=l.map λe=>⟨e.1.1,e.1.2,bk e.2⟩
theorem wb(l:List (ZM×Rat)):(tmL l).length=l.length:=by simp[tmL]
theorem vU(l:List (PP×Rat)):(prL l).length=l.length:=by simp[prL]
theorem uD{l:List (ZM×Rat)}{k:Nat}(h:k<l.length):((bB (tmL l)).drop (k*3)).take 3=[.int .i64 l[k].1.f,.str l[k].1.c,.str (bk l[k].2)]:=by rw[wN (l:=tmL l) (by rw[wb];exact h)];simp[tmL]
theorem tV{l:List (PP×Rat)}{k:Nat}(h:k<l.length):((bM (prL l)).drop (k*5)).take 5=[.int .i64 l[k].1.1.f,.str l[k].1.1.c,.int .i64 l[k].1.2.f,.str l[k].1.2.c,.str (bk l[k].2)]:=by rw[u7 (l:=prL l) (by rw[vU];exact h)];simp[prL]
theorem ER{l:List (ZM×Rat)}{k:Nat}(h:k<l.length):bB (tmL l)≠[]:=I7 (l:=tmL l) (by rw[wb];exact h)
theorem Fy{l:List (PP×Rat)}{k:Nat}(h:k<l.length):bM (prL l)≠[]:=G7 (l:=prL l) (by rw[vU];exact h)
abbrev cofC(m:MC):na:=[.str (bk m.c),.sl WC m.s.length (bB (tmL m.s)),.sl WC m.p.length (bM (prL m.p))]
abbrev pP(m:MC):PV:= .agg (cofC m)
structure MF1(m:MC):Prop where
 c:F1 m.c
 s:∀e∈m.s,F1 e.2
 p:∀e∈m.p,F1 e.2
 ls:m.s.length<=1000000
 lp:m.p.length<=1000000
section
variable {K:Type}[BEq K][LawfulBEq K]
theorem Cf{l:List (K×Rat)}(j:(l.map (·.1)).Nodup){i:Nat}(q:i<l.length):oV (l.take i) l[i].1 l[i].2=l.take (i+1):=by grind[List.findIdx,XQ.1,Wz.1,oV,bP]
end
end
section
abbrev rnd(l:Nat):Fence:=Fence.wide.inRound l
theorem Jj{l k:Nat}{P:Program}{f:FuncId}{args:YT}{w:World}{R:Ending->World->Prop}(h:Calls P f args w R):CallsIn (rnd l) k P f args w R:=
 (callsIn_wide.2 h).inRound l
theorem OT{l k:Nat}{P:Program}{row:String}{args:YT}{w:World}{R:Value->World->Prop}(h:Rows P row args w R):RowsIn (rnd l) k P row args w R:=by intro c cs _;obtain⟨v,w',r,s⟩:=h c cs;exact⟨v,w',r,stepsIn_wide.2 s⟩
theorem CI{l k:Nat}{P:Program}{o:Oper}{a:Act}{w:World}{K:Act->World->Prop}{Q:Exit->Act->World->Prop}(q:∀c,o.op≠ .defer c)(h:o.wp P a w K Q):o.wpIn (rnd l) k P a w K Q:=by
 refine⟨λ_ _=>trivial,?_⟩;have e:o.semAt (rnd l).round a.eval=execOp a.eval o:=by
  unfold Oper.semAt;split
  .rename_i hc;exact absurd hc (q _)
  .rfl
 rw[e];unfold Oper.wp Oper.upon at h;unfold Oper.uponIn;cases hr:(execOp a.eval o).run P w with
 | ok x w1=>
   rw[hr]at h;cases x<;>first|exact h|exact⟨λj=>absurd (show YL=YK from j) Zk,Jj h⟩|exact⟨λj=>absurd (show YL=YK from j) Zk,OT h⟩|exact h.elim
 | halt x w1=>
   rw[hr]at h;cases x<;>first|exact h|exact h.elim
structure AWR(C:Ctx)(n:Nat)(c:Code)(Q:Exit->ZA)(σ:St):Prop where
 go:∀l a w,SJ C n σ a w->c.wpIn (rnd l) 0 C.P (λex a' w'=>∃σ',Q ex σ'/\SJ C n σ' a' w') a w
section
variable {C:Ctx}{n:Nat}{Q:Exit->ZA}{σ τ:St}
theorem AWR.block{id:Nat}{c:Code}(h:AWR C n c (y6 id Q) σ):AWR C n (.block id c) Q σ:=by
 refine⟨λl a w hs=>?_⟩;refine wpIn_block (wpIn_mono (h.go l a w hs) ?_);rintro e a' w' ⟨s,q,r⟩;cases e with
 | exit id'=>
   simp only[y6]at q;simp only[Exit.inBlock];split
   .grind
   grind
 |_=>exact⟨s,q,r⟩
variable {ops:YZ}
theorem RL.UG(t:∀o∈ops.toList,∀c,o.op≠ .defer c)(l:Nat)(K:ZA):∀(os:Zw)(k:Nat)(σ:St),ops.toList.drop k=os->RL C n ops os K σ->∀a w,SJ C n σ a w->∀Q:Exit->Act->World->Prop,
  (∀a w,(∃s,K s/\SJ C n s a w)->Q .normal a w)->wpOpsIn (rnd l) 0 C.P ops Q (List.range' k (ops.size-k)) a w:=by
 intro os;induction os with
 | nil=>
   intro k σ hd h a w hs Q hQ;have:ops.size-k=0:=by simp_all
   rw[this];simp only[List.range'_zero,wpOpsIn];exact hQ a w ⟨σ,h,hs⟩
 | cons o os ih=>
   intro k σ hd h a w hs Q hQ;have u:k<ops.size:=by
    have:=ah List.length hd;simp at this;omega
   have ho:ops[k]? =WB o:=by
    have:=ah (·[0]?) hd;simpa using this
   have r:o∈ops.toList:=by grind
   have z:ops.toList.drop (k+1)=os:=by
    have:=ah (List.drop 1) hd;simpa[XA]using this
   have e:ops.size-k=(ops.size-(k+1))+1:=Zi;rw[e,List.range'_succ];have q:∀a' w',(∃s,RL C n ops os K s/\SJ C n s a' w')->wpOpsIn (rnd l) 0 C.P ops Q (List.range' (k+1) (ops.size-(k+1))) a' w':=by grind
   simp only[wpOpsIn,ho];simp only[RL]at h;cases hg:o.guard with
   | none=>
     rw[hg]at h;simp only[Region.wanted,hg,Yk];exact CI (t o r) (Oper.wp_mono q (h a w Q hs))
   | some jw=>
     obtain⟨j,want⟩:=jw;rw[hg]at h;obtain⟨b,hb,h1,h2⟩:=h;have B:=hb a w hs;simp only[Region.wanted,hg,B];by_cases hbw:b=WB want
     .subst hbw;simp only[WE,Yk];exact CI (t o r) (Oper.wp_mono q (h1 O a w Q hs))
     have:(b==WB want)=YL:=by simpa using hbw
     simp only[this,Wj,Yd];exact⟨λ_ _=>trivial,q _ _ (h2 hbw a w hs)⟩
def noDef(ops:YZ):Bool:=ops.toList.all λo=>match o.op with| .defer _=>YL|_=>YK
theorem AWR.region{id:Nat}(q:noDef ops=YK)(h:RL C n ops ops.toList (Q .normal) σ):AWR C n (.region id ops YL) Q σ:=by
 refine⟨λl a w hs=>?_⟩;refine wpIn_region ?_;have j:∀o∈ops.toList,∀c,o.op≠ .defer c:=λo ho c e=>by
  have:=IN.1 q o ho;rw[e]at this;cases this
 have:=RL.UG j l (Q .normal) ops.toList 0 σ Zm h a w hs (λex a' w'=>∃σ',Q ex σ'/\SJ C n σ' a' w') (λ_ _ x=>x);rw[List.range_eq_range'];simpa using this
end
end
section
def Ob.lU:Ob->Bool
 | .cells .. | .mix .. | .bD .. =>YK
 |_=>YL
theorem nJ.lU{w:World}{m:Gm}{av:Av}{R:ew}{b N:Nat}{o:Ob}(h:nJ w m av R b N o)(hc:o.lU=YK):∃arr ty fz,w.heap[b]? =WB (.cells arr ty fz):=by
 cases o with
 |cells ty cs=>obtain⟨arr,h1,_⟩:=h;exact⟨_,_,_,h1⟩
 |mix ty cs=>obtain⟨arr,h1,_⟩:=h;exact⟨_,_,_,h1⟩
 |bD ty cs=>obtain⟨arr,h1,_⟩:=h;exact⟨_,_,_,h1⟩
 |_=>cases hc
structure Btw(P:Program)(w0:World)(R0:ew)(bs X:ee)(os:Zy)(k:Nat)(W:World):Prop where
 ex:∃(m:Gm)(rt:RT W (jg m)),HR ⟨P,m,W,jg m,rt⟩ m rt.p (au os) (avK k) W/\(∀j b,bs[j]? =WB b->∃N,m (big+j)=WB (b,N))/\
  (∀id b N,m id=WB (b,N)->w0.heap.size<=b/\b∉X)/\(∀b,R0 b->rt.p b)/\(∀b,rt.p b->(R0 b\/w0.heap.size<=b)/\b∉X)
 bel:Below w0.heap.size w0 W
 xs:∀x∈X,x<W.heap.size/\w0.heap.size<=x
section
variable {P:Program}{w0:World}{R0:ew}{bs X X':ee}{os os':Zy}{k k':Nat}{W W':World}
theorem Btw.other(h:Btw P w0 R0 bs X os k W)(hs:W.heap.size<=W'.heap.size)(u:∀q,q<W.heap.size->q∉X->W'.heap[q]? =W.heap[q]?)(t:Below w0.heap.size w0 W')
  (z:∀x∈X',x∈X\/(W.heap.size<=x/\x<W'.heap.size)):Btw P w0 R0 bs X' os k W':=by
 obtain⟨m,rt,hr,h1,h2,h3,h4⟩:=h.ex;have r:∀b,rt.p b->rt.p b/\W'.heap[b]? =W.heap[b]? :=λb hb'=>⟨hb',u b (rt.d b hb').1 (h4 b hb').2⟩
 have s:∀b,b<W.heap.size->b∉X->b∉X':=λb hlt hn hm=>by grind
 have j:=hr.own;refine⟨⟨m,⟨rt.p,rt.g.mono r,λb hb'=>⟨VW (rt.d b hb').1 hs,(rt.d b hb').2⟩,[]⟩,?_,h1,λid b N e=>⟨(h2 id b N e).1,s b (j id b N e).1 (h2 id b N e).2⟩,h3,λb hb'=>⟨(h4 b hb').1,s b (rt.d b hb').1 (h4 b hb').2⟩⟩,t,λx hx=>?_⟩
 .exact ⟨hr.dom,hr.free,λid o b N h5 h6=>nJ.mono r (λ_ _ _ e=>e) (λ_ e=>e) (u b (j id b N h6).1 (h2 id b N h6).2) (hr.obj id o b N h5 h6),hr.inj,
   λid b N e=>⟨VW (j id b N e).1 hs,(j id b N e).2.1,.inl ⟨id,N,e⟩⟩,λb hb'=>VW (hr.rsz b hb') hs,λb hb'=> .inl hb',λb hb'=>hb',Fr.refl _ _,λ_ _ _ e=>e,hr.res⟩
 rcases z x hx with e|e
 .exact⟨VW (h.xs x e).1 hs,(h.xs x e).2⟩
 exact⟨e.2,OF h.bel.size e.1⟩
theorem Btw.round{n l:Nat}{body:Code}{slots:Zx}{Q:Exit->ZA}{G:Exit->Zy->ew}(Y:∀m0 w0 F R0,AWR ⟨P,m0,w0,F,R0⟩ n body Q (ZT slots os k))
  (Z:∀ex τ,Q ex τ->∃os' k',τ.le (ZT [] os' k')/\(∀j,j<bs.length->cC (au os' (big+j))=YK)/\G ex os' k')
  (h:Btw P w0 R0 bs X os k W) (a:Act) (M:a.defers=[]) (T:a.tmps.size=n)
  (U:∀(m:Gm)(R:ew),(∀j b,bs[j]? =WB b->∃N,m (big+j)=WB (b,N))->(∀b,R0 b->R b)->∀t,t<n->Rel W m (avK k) R (look slots t) (a.eval (.tmp t))):
  body.wpIn (rnd l) 0 P (λex _ W'=>(∃os' k',G ex os' k'/\Btw P w0 R0 bs X os' k' W')/\(∀x∈X,W'.heap[x]? =W.heap[x]?)/\W.heap.size<=W'.heap.size/\(∀b,R0 b->W'.heap[b]? =W.heap[b]?)/\
   ((∀i o,au os i=WB o->o.lU=YK)->∀(q:Nat)(o:Obj),W.heap[q]? =WB o->o.isWalk=YK->W'.heap[q]? =WB o)) a W:=by
 obtain⟨m,rt0,hr0,h1,h2,h3,h4⟩:=h.ex;obtain⟨rt,hp,hd0⟩:∃rt:RT W (jg m),rt.p=rt0.p/\rt.df=[]:=⟨⟨rt0.p,rt0.g,rt0.d,[]⟩,O,O⟩;have E:=hr0.dfs hp;rw[<-hp]at E h3 h4;refine wpIn_mono ((Y m W (jg m) rt).go l a W ⟨m,rt.p,E,M.trans hd0.symm,T,U m rt.p h1 h3⟩) ?_;rintro ex a' W' ⟨τ,hq,hsj⟩;obtain⟨os',k',hle,hlive,hG⟩:=Z ex τ hq;obtain⟨m',R',hw⟩:=hle _ _ _ _ hsj;have r:HR ⟨P,m,W,jg m,rt⟩ m' R' (au os') (avK k') W':=hw.hr;have s:Fr (jg m) W W':=r.frame;have B:∀x∈X,¬jg m x:=λx u ⟨id,N,e⟩=>(h2 id x N e).2 u
 have H:∀x∈X,¬R' x:=λx u hR=>by
  rcases r.rfr x hR with e|e|e
  .exact(h4 x e).2 u
  .have:=(h.xs x u).1;exact absurd e (Nat.not_le.2 this)
  exact B x u e
 have D:Below w0.heap.size w0 W':=by
  have I:Below w0.heap.size W W':=⟨s.os,s.tape,s.output,s.size,λq hq'=>s.block q (VW hq' h.bel.size) fun⟨id,N,e⟩=>by have:=(h2 id q N e).1;omega⟩;exact h.bel.trans I
 have L:(∀i o,au os i=WB o->o.lU=YK)->∀(q:Nat)(o:Obj),W.heap[q]? =WB o->o.isWalk=YK->W'.heap[q]? =WB o:=by
  intro hc q o ho hiw;refine(s.block q (VP.1 ho).1 ?_).trans ho;rintro⟨id,N,e⟩;have z:=E.dom id;rw[e]at z;cases ho2:au os id with
  |none=>rw[ho2]at z;cases z
  | some o2=>
    obtain⟨arr,ty,fz,h5⟩:=(E.obj id o2 q N ho2 e).lU (hc id o2 ho2);rw[h5]at ho;cases ho;cases hiw
 refine⟨⟨os',k',hG,⟨⟨m',⟨R',r.gi,λb hb=>⟨r.rsz b hb,fun⟨id,N,e⟩=>(r.own id b N e).2.1 hb⟩,[]⟩,?_,?_,?_,λb hb=>r.r0 b (h3 b hb),?_⟩,D,λx u=>⟨VW (h.xs x u).1 s.size,(h.xs x u).2⟩⟩⟩,λx u=>s.block x (h.xs x u).1 (B x u),s.size,λb hb=>s.block b (rt.d b (h3 b hb)).1 (rt.d b (h3 b hb)).2,L⟩
 .exact⟨r.dom,r.free,r.obj,r.inj,λid b N e=>⟨(r.own id b N e).1,(r.own id b N e).2.1,.inl ⟨id,N,e⟩⟩,r.rsz,λb hb=> .inl hb,λb hb=>hb,Fr.refl _ _,λ_ _ _ e=>e,r.res⟩
 .intro j b hj;obtain⟨N,hN⟩:=h1 j b hj;have z:=r.dom (big+j);rw[hlive j (VR.1 hj).1]at z;obtain⟨y,hy⟩:=V4.1 z;have:=r.keep (big+j) y (Yz _ _) hy;have e:m (big+j)=WB y:=this;rw[hN]at e;exact⟨N,by rw[hy,<-e]⟩
 .intro id b N e;rcases(r.own id b N e).2.2 with⟨id2,N2,e2⟩|e2
  .exact h2 id2 b N2 e2
  have e3:W.heap.size<=b:=e2;exact⟨OF h.bel.size e3,λu=>by have:=(h.xs b u).1;omega⟩
 .intro b hb;refine⟨?_,λu=>H b u hb⟩;rcases r.rfr b hb with e|e|⟨id,N,e⟩
  .exact(h4 b e).1
  .exact .inr (OF h.bel.size e)
  exact .inr (h2 id b N e).1
end
end
section
open Go.RowKit Go.MapKept
open Go.ChangeMaps (setBlock)
section
variable {F:Fence}{n:Nat}{P:Program}(w:World){ops:YZ}{rest:Zw}{o:Oper}{a:Act}{Q:Exit->Act->World->Prop}
theorem py(q:o.guard=WC)(m:Operand)(t:TypeId)(j:o.op=Op.range t m)(k e:TypeId)(r:P.underlying t=WB (.map k e))(b:Nat)(es:Array MapEntry)(clock:Nat)(s:a.eval m= .map (WB b))(u:w.heap[b]? =WB (.map es clock))
  (z:wpListIn F n P ops Q rest (a.put o.dst (.pointer (WB ⟨w.heap.size,0,WC⟩))) (w.alloc (.mapIter (WB b) clock #[] clock))):wpListIn F n P ops Q (o::rest) a w:=by
 refine wpListIn_plain q λK' hK'=>?_
 unfold Oper.wpIn;refine⟨by simp[Oper.about,j],?_⟩;rw[Oper.semAt_plain F _ _ (by rw[j];intro c hc';cases hc')];simp[execOp,j,s,run_range_map w t k e b es clock r u,Result.andThen];exact hK' _ _ z
theorem B4(z:o.guard=WC)(it:Operand)(j:o.op=Op.next it YL)(r b clock:Nat)(seen:Array Nat)(es:Array MapEntry)(t:a.eval it= .pointer (WB ⟨r,0,WC⟩))(B:w.heap[r]? =WB (.mapIter (WB b) clock seen clock))(D:w.heap[b]? =WB (.map es clock))(u:dY es.toList clock)
  (q:(leftOf es seen).size=0->wpListIn F n P ops Q rest (a.put o.dst (.tuple #[.bool YL])) w)
  (s:∀e∈(leftOf es seen).toList,∀w1,(w1=w\/w1=w.drew)->wpListIn F n P ops Q rest (a.put o.dst (.tuple #[.bool YK,e.key,e.val])) (setBlock w1 r (.mapIter (WB b) clock (seen.push e.born) clock))):wpListIn F n P ops Q (o::rest) a w:=by
 refine wpListIn_plain z λK' hK'=>?_
 unfold Oper.wpIn;refine⟨by simp[Oper.about,j],?_⟩;rw[Oper.semAt_plain F _ _ (by rw[j];intro c hc';cases hc')];rcases Go.run_next_at (P:=P) w o.type r b clock clock seen es clock B D u.2 (BY _)with⟨h0,hrun⟩|⟨e,he,w1,hal,hrun⟩
 .simp[execOp,j,t,hrun,Result.andThen];exact hK' _ _ (q h0)
 simp[execOp,j,t,hrun,Result.andThen];exact hK' _ _ (s e he w1 hal)
theorem pt(t:o.guard=WC)(it:Operand)(j:o.op=Op.entry it)(r:Nat)(k v:Value)(s:a.eval it= .pointer (WB ⟨r,0,WC⟩))(q:(Instr.entry (.pointer (WB ⟨r,0,WC⟩))).run P w= .ok (.tuple #[k,v]) w)
  (u:wpListIn F n P ops Q rest (a.put o.dst (.tuple #[k,v])) w):wpListIn F n P ops Q (o::rest) a w:=by
 refine wpListIn_plain t λK' hK'=>?_
 unfold Oper.wpIn;refine⟨by simp[Oper.about,j],?_⟩;rw[Oper.semAt_plain F _ _ (by rw[j];intro c hc';cases hc')];simp[execOp,j,s,q,Result.andThen];exact hK' _ _ u
end
def jD(es:Array MapEntry)(seen:Array Nat):e7:=(es.toList.filter λe=> !seen.contains e.born).map (·.key)
theorem zo(es:Array MapEntry):jD es #[]=es.toList.map (·.key):=by unfold jD;rw[Yw.2 λe _=>by simp]
theorem eA(es:Array MapEntry)(seen:Array Nat):(leftOf es seen).toList=es.toList.filter λe=> !seen.contains e.born:=by unfold leftOf;simp
theorem HV{α:Type}{l:List α}{i:Nat}(h:i<l.length):l.Perm (l[i]::l.eraseIdx i):=by grind[V1,WV,List.eraseIdx_eq_take_drop_succ,trans,List.perm_middle]
theorem tK{es:Array MapEntry}{clock:Nat}(q:dY es.toList clock){seen:Array Nat}{e:MapEntry}(r:e∈(leftOf es seen).toList):(jD es seen).Perm (e.key::jD es (seen.push e.born)):=by
 rw[eA]at r;obtain⟨i,hi⟩:=WO r;have j:((es.toList.filter λe=> !seen.contains e.born).map (·.born)).Nodup:=(WN.map _).nodup q.1;have s:(es.toList.filter λx=> !(seen.push e.born).contains x.born)=(es.toList.filter λe=> !seen.contains e.born).eraseIdx i:=by
  rw[<-lF j hi,List.filter_filter];apply YW;intro x _;rw[contains_push];cases seen.contains x.born<;>cases (x.born==e.born)<;>rfl
 unfold jD;rw[s];obtain⟨hlt,rfl⟩:=VR.1 hi;have:=(HV hlt).map (·.key);simpa using this
theorem tD{es:Array MapEntry}{seen:Array Nat}(h:(leftOf es seen).size=0):jD es seen=[]:=by grind[XY.1,Wg,eA,jD]
end
section
section
variable {P:Program}{w0:World}{R0 R1:ew}{bs X:ee}{os:Zy}{k:Nat}{W W':World}
theorem Btw.more(h:Btw P w0 R0 bs X os k W){W1:World}(q:Below W.heap.size W W1):Btw P w0 (λb=>R0 b\/(W.heap.size<=b/\b<W1.heap.size)) bs X os k W1:=by
 obtain⟨m,rt,hr,h1,h2,h3,h4⟩:=h.ex;have r:=h.bel.size;have u:∀b,b<W.heap.size->W1.heap[b]? =W.heap[b]? :=λb hlt=>q.block b hlt
 have s:∀b,rt.p b->(rt.p b\/(W.heap.size<=b/\b<W1.heap.size))/\W1.heap[b]? =W.heap[b]? :=λb hb'=>⟨.inl hb',u b (rt.d b hb').1⟩
 have j:=hr.own;refine⟨⟨m,⟨λb=>rt.p b\/(W.heap.size<=b/\b<W1.heap.size),rt.g.mono s,?_,[]⟩,?_,h1,h2,?_,?_⟩,h.bel.trans (q.mono r),λx t=>⟨VW (h.xs x t).1 q.size,(h.xs x t).2⟩⟩
 .rintro b (hb'|hb')
  .exact⟨VW (rt.d b hb').1 q.size,(rt.d b hb').2⟩
  exact⟨hb'.2,fun⟨id,N,e⟩=>by have:=(j id b N e).1;omega⟩
 .refine⟨hr.dom,hr.free,λid o b N h5 h6=>nJ.mono s (λ_ _ _ e=>e) (λ_ e=>e) (u b (j id b N h6).1) (hr.obj id o b N h5 h6),hr.inj,λid b N e=>⟨VW (j id b N e).1 q.size,?_,.inl ⟨id,N,e⟩⟩,?_,λb hb'=> .inl hb',λb hb'=>hb',Fr.refl _ _,λ_ _ _ e=>e,hr.res⟩
  .grind
  rintro b (hb'|hb')
  .exact VW (hr.rsz b hb') q.size
  exact hb'.2
 .grind
 rintro b (hb'|hb')
 .grind
 exact⟨.inr (OF r hb'.1),λt=>by have:=(h.xs b t).1;omega⟩
theorem Btw.less(h:Btw P w0 R1 bs X os k W)(j:∀b,R0 b->R1 b)(q:∀b,R1 b->R0 b\/w0.heap.size<=b):Btw P w0 R0 bs X os k W:=by obtain⟨m,rt,hr,h1,h2,h3,h4⟩:=h.ex;exact⟨⟨m,rt,hr,h1,h2,λb hb=>h3 b (j b hb),λb hb=>⟨(h4 b hb).1.elim (q b) .inr,(h4 b hb).2⟩⟩,h.bel,h.xs⟩
theorem btwS{x:Nat}(h:Btw P w0 R0 bs X os k W)(j:x∈X)(o:Obj):Btw P w0 R0 bs X os k (W.putObj x o):=
 h.other Zm (λq _ hn=>World.putObj_heap_other λe=>hn (e▸j)) (h.bel.grown ⟨O,O,O,Zm,λk _ hk=>World.putObj_heap_other λe=>hk (by rw[e])⟩ h.bel.size λk e=>by cases e;exact(h.xs x j).2) (λy hy=> .inl hy)
theorem Btw.rlt(h:Btw P w0 R0 bs X os k W){b:Nat}(j:R0 b):b<W.heap.size/\b∉X:=by obtain⟨m,rt,hr,h1,h2,h3,h4⟩:=h.ex;exact⟨(rt.d b (h3 b j)).1,(h4 b (h3 b j)).2⟩
end
def SeqR{α:Type}(it:Bool)(P:Program)(gf:Nat)(lb:YT)(encs:α->YT)(Kp:World->World->Prop)(Pr:List α->α->Prop)(S:List α->Prop)(w:World):Prop:=
 ∀(l:Nat)(J:List α->World->Prop)(W:World),Below w.heap.size w W->
  (∀pre W1 W2 row,J pre W1->W1.grownBy W2 row->(∀q,row=WB q->it=YK/\q=W.heap.size)->J pre W2)->
  (∀pre x W1,J pre W1->Pr pre x->YieldAt Fence.wide 0 P l (encs x) W1 λe W'=>e= .returned (.bool YK)/\J (pre++[x]) W'/\Kp W1 W')->
  (∀o,J [] (bif it then W.alloc o else W))->
  CallsIn Fence.wide 1 P gf (#[.func (.yield l) #[] #[]]++lb) W λe W'=>(∃v,e= .returned v)/\∃xs,S xs/\J xs W'
theorem zN{α:Type}{P:Program}{nt:Nat}{g:Operand}{ps:Array Tmp}{assign body:Code}{Q:Exit->Act->World->Prop}{a:Act}{w0 W0:World}{R0:ew}{bs:ee}(it:Bool){gf:Nat}{lb:YT}{encs:α->YT}{Kp:World->World->Prop}
  {Pr:List α->α->Prop} {S:List α->Prop} (hg:a.eval g= .func (.func gf) #[] lb) (eg:∀args w,(callFunc gf args).run P w= .ok (.enter gf args) w) (hseq:SeqR it P gf lb encs Kp Pr S W0) (hps:∀x,(encs x).size=ps.size)
  (hKp1:it=YK->∀A B,KeepsWalks A B->Kp A B) (hKp2:it=YL->∀A B:World,(∀b,R0 b->B.heap[b]? =A.heap[b]?)->Kp A B)
  (Inv:List α->Zy->ew) {os0:Zy} {k0:Nat} (hi0:Inv [] os0 k0) (U:Btw P w0 R0 bs [] os0 k0 W0) (Y:it=YK->∀pre os k,Inv pre os k->∀i o,au os i=WB o->o.lU=YK)
  (a1:α->World->Act) (nw:α->World->World) (hnw:∀x W,Below W.heap.size W (nw x W)) (ha1:∀x W,(a1 x W).defers=[]/\(a1 x W).tmps.size=nt)
  (H:∀(l:Nat)(x:α)(W:World)(K:Act->World->Prop),K (a1 x W) (nw x W)->assign.wpIn (rnd l) 0 P (Exit.then K (λ_ _ _=>False)) { tmps:=(ps.zip (encs x)).foldl (λt (p,v)=>t.setIfInBounds p v) a.tmps,defers:=[] } W)
  (hbody:∀pre x os k,Inv pre os k->Pr pre x->∃(slots:Zx)(Qb:Exit->ZA),(∀m0 w0 F R0,AWR ⟨P,m0,w0,F,R0⟩ nt body Qb (ZT slots os k))/\
   (∀ex τ,Qb ex τ->∃os' k',τ.le (ZT [] os' k')/\(∀j,j<bs.length->cC (au os' (big+j))=YK)/\ex= .normal/\Inv (pre++[x]) os' k')/\
   (∀(W W2:World)(m:Gm)(R:ew),(∀b,W.heap.size<=b->b<(nw x W).heap.size->R b/\W2.heap[b]? =(nw x W).heap[b]?)->(∀j b,bs[j]? =WB b->∃N,m (big+j)=WB (b,N))->(∀b,R0 b->R b)->∀t,t<nt->Rel W2 m (avK k) R (look slots t) ((a1 x W).eval (.tmp t))))
  (hdone:∀(D:Nat)(X:ee)(xs:List α)(os:Zy)(k:Nat)(W:World),w0.heap.size<=D->D<W.heap.size->D∈X->S xs->Inv xs os k->Btw P w0 R0 bs X os k W->W.heap[D]? =WB (.deferred (WB []))->Q .normal { a with defers:={ target:= .collected D,args:= #[] }::a.defers } W):
  (Code.rangeFunc g ps assign body).wpIn Fence.wide 2 P Q a W0:=by
 refine wpIn_rangeFunc ?_;intro fn hfn;have hge:=U.bel.size;obtain⟨rec,hrec⟩:∃rec:LoopState->Option Code->Loop,rec=λst pe=>{ state:=st,pending:=pe,fn,tmps:=a.tmps,params:=ps,assign,body,defers:=W0.heap.size }:=⟨_,O⟩
 obtain⟨W1,hW1⟩:∃W1,(W0.alloc (.deferred (WB []))).alloc (.loop (rec .ready WC))=W1:=⟨_,O⟩;obtain⟨D,hD⟩:∃D,D=W0.heap.size:=⟨_,O⟩;have aa:W1.heap[D+1]? =WB (.loop (rec .ready WC)):=by
  rw[<-hW1,hD];have:=World.alloc_heap_new (W0.alloc (.deferred (WB []))) (.loop (rec .ready WC));rwa [World.size_alloc]at this
 have ab:W1.heap[D]? =WB (.deferred (WB [])):=by
  rw[<-hW1,hD];exact(Below.heap_alloc _ _ _ Zm).trans (World.alloc_heap_new W0 _)
 have hs1:W1.heap.size=D+2:=by rw[<-hW1];simp[hD]
 have u:Below W0.heap.size W0 W1:=by rw[<-hW1];exact((Below.refl _ W0).alloc (BY _) _).alloc Zm _
 have r:Btw P w0 R0 bs [D,D+1] os0 k0 W1:=by
  refine U.other Zi (λq hq _=>u.block q hq) (U.bel.trans (u.mono hge)) (λx hx=>?_);simp only[By,Xv,Y0]at hx;omega
 obtain⟨X,hX⟩:∃X,X=bif it then [D,D+1,D+2]else [D,D+1]:=⟨_,O⟩;have ac:D∈X:=by rw[hX];cases it<;>simp
 have z:D+1∈X:=by rw[hX];cases it<;>simp
 have hXm:∀x,x∈X->x=D\/x=D+1\/(it=YK/\x=D+2):=λx hx=>by grind
 refine⟨D+1,[{ target:= .collected D,args:= #[] }],W1,{ target:= .fn (.func gf) lb,args:= #[.func (.yield (D+1)) #[] #[]] },W1,gf,
  #[.func (.yield (D+1)) #[] #[]]++lb,W1,?_,?_,λ_ _=>trivial,?_,λ_=>by decide,?_⟩
 .rw[<-hW1,hrec,hD];exact run_enterLoop_outer _ _ _ _ _
 .simp only[resolve,hg];simp[go_sem]
 .simp[invoke,go_sem,eg]
 refine(hseq (D+1) (λpre W=>(∃os k,Inv pre os k/\Btw P w0 R0 bs X os k W)/\W.heap[D+1]? =WB (.loop (rec .ready WC))/\W.heap[D]? =WB (.deferred (WB []))) W1 u ?_ ?_ ?_).mono ?_
 .rintro pre Wa Wb row ⟨⟨os,k,hi,hb⟩,h1,h2⟩ hgr hrow;have I:∀q,q∉X->WB q≠row:=λq hq e=>by grind
  have s:=(VP.1 h1).1;have E:=(VP.1 h2).1;refine⟨⟨os,k,hi,hb.other hgr.size (λq hq L=>hgr.block q hq (I q L)) (hb.bel.grown hgr hb.bel.size λq e=>by have:=hrow q e;omega) λy Z=> .inl Z⟩,(hgr.block _ s λe=>?_).trans h1,(hgr.block _ E λe=>?_).trans h2⟩
  .have:=hrow _ e.symm;omega
  have:=hrow _ e.symm;omega
 .rintro pre x W ⟨⟨os,k,hi,hb⟩,h1,h2⟩ hpr;have s:D+1<W.heap.size:=(VP.1 h1).1;have E:D<W.heap.size:=(VP.1 h2).1;have Z:=run_yield (P:=P) (args:=encs x) h1 (by rw[hrec];first|exact hps x|exact(hps x).symm);rw[hrec]at Z;have L:=hnw x W;have ad:(nw x W).heap[D+1]? =WB (.loop (rec .ready WC)):=(L.block _ s).trans h1;have h2n:(nw x W).heap[D]? =WB (.deferred (WB [])):=(L.block _ E).trans h2;refine⟨fn,_,assign,body,Z,roundIn_of_wpIn hfn (H _ x W _ ⟨_,run_beginRound ad (by rw[hrec]),?_⟩)⟩;have hbm:=hb.more L;have hbb:=btwS hbm z (.loop { rec .ready WC with state:= .busy });obtain⟨slots,Qb,hA,hQ,hsl⟩:=hbody pre x os k hi hpr;have af:D+1<(nw x W).heap.size:=VW s L.size;have M:=hbb.round (n:=nt) (l:=D+1) (body:=body) (slots:=slots) (G:=λex os' k'=>ex= .normal/\Inv (pre++[x]) os' k') hA hQ (a1 x W) (ha1 x W).1 (ha1 x W).2
   (λm R hm hR t ht=>hsl W _ m R (λb hb1 hb2=>⟨hR b (.inr ⟨hb1,hb2⟩),World.putObj_heap_other Zi⟩) hm (λb hb'=>hR b (.inl hb')) t ht)
  refine wpIn_mono M ?_;rintro ex a3 W3 ⟨⟨os',k',⟨rfl,hi'⟩,hb3⟩,hX3,hsz3,hRk,hwk⟩;have T:W3.heap[D+1]? =WB (.loop { rec .ready WC with state:= .busy }):=(hX3 (D+1) z).trans (World.putObj_heap_same af);have hk3:W3.heap[D]? =WB (.deferred (WB [])):=(hX3 D ac).trans ((World.putObj_heap_other Zi).trans h2n);have ag:D+1<W3.heap.size:=(VP.1 T).1;have hb4:Btw P w0 R0 bs X os' k' W3:=hb3.less (λb hb'=> .inl hb') λb hb'=>hb'.imp id λh=>OF hb.bel.size h.1
  refine⟨_,_,run_endRound WC T,O,⟨⟨os',k',hi',btwS hb4 z _⟩,?_,(World.putObj_heap_other Zi).trans hk3⟩,?_⟩
  .rw[World.putObj_heap_same ag,hrec];rfl
  cases hit:it with
  | true=>
    refine hKp1 hit _ _ ?_;have q1:KeepsWalks W (nw x W):=⟨L.size,λq o ho _=>(L.block q (VP.1 ho).1).trans ho⟩;have q2:KeepsWalks (nw x W) ((nw x W).putObj (D+1) (.loop { rec .ready WC with state:= .busy })):=KeepsWalks.putObj _ ad O;have q3:KeepsWalks ((nw x W).putObj (D+1) (.loop { rec .ready WC with state:= .busy })) W3:=⟨hsz3,hwk (Y hit pre os k hi)⟩;exact((q1.trans q2).trans q3).trans (KeepsWalks.putObj _ T O)
  | false=>
    refine hKp2 hit _ _ λb hb'=>?_
    obtain⟨g1,g2⟩:=hb.rlt hb';have I:b≠D+1:=λe=>g2 (e▸z)
    exact(World.putObj_heap_other I).trans ((hRk b (.inl hb')).trans ((World.putObj_heap_other I).trans (L.block b g1)))
 .intro o;cases hit:it with
  | true=>
    simp only[Xe];have ha:Below W1.heap.size W1 (W1.alloc o):=(Below.refl _ W1).alloc (BY _) o;refine⟨⟨os0,k0,hi0,?_⟩,(ha.block _ Zi).trans aa,(ha.block _ Zi).trans ab⟩;refine r.other ha.size (λq hq _=>ha.block q hq) (r.bel.trans (ha.mono r.bel.size)) λy Z=>?_
    rcases hXm y Z with rfl|rfl|⟨_,rfl⟩
    .exact .inl Zm
    .exact .inl Zm
    simp_all
  | false=>
    simp only[Wo];rw[hit]at hX;subst hX;exact⟨⟨os0,k0,hi0,r⟩,aa,ab⟩
 rintro e W2 ⟨⟨v,rfl⟩,xs,hS,⟨os,k,hi,hb⟩,h1,h2⟩;have s:=(VP.1 h2).1;refine⟨WC,_,by have:=run_endLoop (P:=P) h1 (by rw[hrec];simp);rw[hrec]at this;exact this,hdone D X xs os k _ Zi (by simpa using s) ac hS hi (btwS hb z _) ((World.putObj_heap_other Zi).trans h2)⟩
end
section
open Go.RowKit Go.Shelf Mm
open Go.ChangeMaps (setBlock)
attribute [local go_sem] Oper.semAt_some
theorem Ib(es:Array MapEntry)(seen:Array Nat):(leftOf es seen).size=(jD es seen).length:=by unfold jD;rw[IS,<-eA,Wg]
theorem vJ{w:World}{mb r:Nat}{es:Array MapEntry}{clock c1 c2:Nat}{seen:Array Nat}{x:Option Nat}(j:w.heap[mb]? =WB (.map es clock))(q:w.heap[r]? =WB (.mapIter x c1 seen c2)):w.rangeLeft mb r=(jD es seen).length:=by rw[<-Ib];simp[World.rangeLeft,j,q]
def cI(p:ZM):Value:= .agg #[.int .i64 p.f,.string p.c]
theorem oc{p q:ZM}(h:cI p=cI q):p=q:=by obtain⟨a,s⟩:=p;obtain⟨b,t⟩:=q;simp only[cI,Value.agg.injEq,Array.mk.injEq,Xd,Value.int.injEq,Value.string.injEq,and_true,true_and]at h;rw[h.1,h.2]
def fH(p:PP):Value:= .agg #[.int .i64 p.1.f,.string p.1.c,.int .i64 p.2.f,.string p.2.c]
theorem qL{p q:PP}(h:fH p=fH q):p=q:=by obtain⟨⟨a,s⟩,⟨a2,s2⟩⟩:=p;obtain⟨⟨b,t⟩,⟨b2,t2⟩⟩:=q;simp only[fH,Value.agg.injEq,Array.mk.injEq,Xd,Value.int.injEq,Value.string.injEq,and_true,true_and]at h;obtain⟨h1,h2,h3,h4⟩:=h;rw[h1,h2,h3,h4]
theorem Hn{α:Type}{enc:α->Value}{es:Array MapEntry}{xs:List α}(j:es.toList.map (·.key)=xs.map enc){seen:Array Nat}{e:MapEntry}(q:e∈(leftOf es seen).toList):e∈es.toList/\∃x∈xs,enc x=e.key:=by grind[eA,VU.1,List.mem_map_of_mem,VS.1]
theorem kU{α β:Type}{f:α->β}(r:∀a b,f a=f b->a=b):∀{l m:List α},(l.map f).Perm (m.map f)->l.Perm m:=by
 intro l;induction l with
 |nil=>intro m h;have:=h.length_eq;simp at this;rw[Wl this.symm]
 | cons a l ih=>
   intro m h;have j:f a∈m.map f:=h.subset Zm;obtain⟨b,hb,e⟩:=VS.1 j;obtain rfl:=r _ _ e;obtain⟨s,t,rfl⟩:=List.append_of_mem hb;have q:(l.map f).Perm ((s++t).map f):=by
    have:((s++b::t).map f).Perm (f b::(s++t).map f):=by simp only[Wf,ed];exact List.perm_middle
    exact(h.trans this).cons_inv
   exact((ih q).cons b).trans List.perm_middle.symm
theorem Er{α:Type}{enc:α->Value}{es:Array MapEntry}{xs:List α}(q:es.toList.map (·.key)=xs.map enc)(seen:Array Nat):∃rest:List α,jD es seen=rest.map enc:=by
 have j:∀l:e7,(∀v∈l,∃x,enc x=v)->∃rest:List α,l=rest.map enc:=by
  intro l;induction l with
  |nil=>intro _;exact⟨[],O⟩
  | cons v l ih=>
    intro h;obtain⟨x,hxe⟩:=h v Zm;obtain⟨r,hr⟩:=ih λu hu=>h u (by simp[hu])
    exact⟨x::r,by rw[ed,hxe,<-hr]⟩
 refine j _ λv hv=>?_
 unfold jD at hv;obtain⟨e,he,rfl⟩:=VS.1 hv;obtain⟨_,x,_,hxe⟩:=Hn (seen:=seen) (e:=e) q (by rw[eA];exact he);exact⟨x,hxe⟩
theorem CR{F:Fence}{n:Nat}{P:Program}(w:World){ops:YZ}{rest:Zw}{o:Oper}{a:Act}{Q:Exit->Act->World->Prop}(H:o.guard=WC)(it:Operand)(u:o.op=Op.next it YL)(r b clock:Nat)(seen:Array Nat)(es:Array MapEntry)
  (z:a.eval it= .pointer (WB ⟨r,0,WC⟩)) (E:w.heap[r]? =WB (.mapIter (WB b) clock seen clock)) (G:w.heap[b]? =WB (.map es clock)) (B:r≠b) (D:dY es.toList clock)
  (q:(leftOf es seen).size=0->wpListIn F n P ops Q rest (a.put o.dst (.tuple #[.bool YL])) w)
  (s:∀e:MapEntry,e∈leftOf es seen->∀W2:World,W2.heap[r]? =WB (.mapIter (WB b) clock (seen.push e.born) clock)->W2.heap[b]? =WB (.map es clock)->w.grownBy W2 (WB r)->wpListIn F n P ops Q rest (a.put o.dst (.tuple #[.bool YK,e.key,e.val])) W2):wpListIn F n P ops Q (o::rest) a w:=by
 refine B4 w H it u r b clock seen es z E G D q λe he w1 hal=>?_
 have j:w1.heap=w.heap:=by rcases hal with rfl|rfl<;>rfl
 have t:r<w.heap.size:=(VP.1 E).1;refine s e (by simpa using he) _ ?_ ?_ ⟨by rcases hal with rfl|rfl<;>rfl,by rcases hal with rfl|rfl<;>rfl,by rcases hal with rfl|rfl<;>rfl,by simp[setBlock,j],λk _ hk=>?_⟩
 .simp only[setBlock];rw[Array.getElem?_setIfInBounds_self,IT (by rw[j];exact t)]
 .simp only[setBlock];rw[Xq B,j];exact G
 simp only[setBlock];rw[Xq (λe=>hk (by rw[e])),j]
theorem Hi(Bm off mb:Nat)(es:Array MapEntry)(clock:Nat)(xs:u9)(w:World)(t:dY es.toList clock)(Z:es.toList.map (·.key)=xs.map cI)(ah:Bm<w.heap.size)
  (V:w.cell? ⟨Bm,off,WC⟩=WB (.map (WB mb))) (B:w.heap[mb]? =WB (.map es clock)):
  SeqR YK prog 119 #[.pointer (WB ⟨Bm,off,WC⟩)] (λx=> #[cI x]) KeepsWalks (λpre x=>∃rest,(pre++x::rest).Perm xs) (λr=>r.Perm xs) w:=by
 intro l J W hW hJ hY Y;have Y:∀o,J [] (W.alloc o):=Y;have hm:W.cell? ⟨Bm,off,WC⟩=WB (.map (WB mb)):=(hW.cell (p:=⟨Bm,off,WC⟩) ah).trans V;have aa:mb<w.heap.size:=(VP.1 B).1;have hb:W.heap[mb]? =WB (.map es clock):=(hW.block mb aa).trans B;have ab:mb≠W.heap.size:=by have:=hW.size;omega
 clear V B;have ac:=t.1;refine callsIn_of_wp func119 O trivial ?_ O;simp only[ntmps119,WQ,VI,XS,Nat.reduceAdd,Nat.reduceSub,Array.replicate_succ,Array.replicate_zero,List.push_toArray,List.append_toArray,WZ,Wu]
 gi_wp2_with (first
  |(gi_at_range;refine py _ O _ 85 O 111 84 aax mb es clock O hb ?_)
  |gi_in)
 try go_frame
 gi_loopw [3] (λ_ wr=>∃(seen:Array Nat)(r:u9),wr.heap[W.heap.size]? =WB (.mapIter (WB mb) clock seen clock)/\wr.heap[mb]? =WB (.map es clock)/\(r.map cI++jD es seen).Perm (xs.map cI)/\J r wr)
  (λ_ wr=>wr.rangeLeft mb W.heap.size)
 case atStart=>
  exact⟨#[],[],World.alloc_heap_new W _,(Below.heap_alloc W _ mb (by have:=hW.size;omega)).trans hb,by rw[zo,Z];exact WH _,Y _⟩
 case round=>
  obtain⟨seen,r,hit,hmp,hP,hJs⟩:=hrel
  gi_wp2_with (first
   |(gi_at_next;refine CR _ rfl _ rfl W.heap.size mb clock seen es rfl hit hmp (λe=>ab e.symm) t ?_ ?_)
   |gi_in)
  .intro h00
   gi_wp2
   go_end0
   rw[tD (by simp[h00]),W7]at hP;exact⟨⟨_,O⟩,r,kU (λ_ _=>oc) hP,hJs⟩
  .intro e D W2 hit2 hmp2 hg2;have D:e∈(leftOf es seen).toList:=by simpa using D
   obtain⟨hem,x,hxm,hxe⟩:=Hn Z D;have E:J r W2:=hJ r wr W2 (WB W.heap.size) hJs hg2 (λq e=>by cases e;exact⟨Zp,O⟩);have s:=tK t D;clear t;obtain⟨ek,ev,eb⟩:=e;obtain rfl:cI x=ek:=hxe;have G:(Instr.entry (.pointer (WB ⟨W.heap.size,0,WC⟩))).run prog W2= .ok (.tuple #[cI x,ev]) W2:=run_entry_at W2 W.heap.size mb clock seen es clock ⟨cI x,ev,eb⟩ hit2 hmp2 hem ac;simp only at hit2;generalize hk0:cI x=kx at G ⊢;have ad:kx= .agg #[.int .i64 x.f,.string x.c]:=hk0.symm;subst ad;have H:=((s.append_left (r.map cI)).symm.trans hP);obtain⟨rest,hrest⟩:=Er (enc:=cI) Z (seen.push eb);have I:∃rest,(r++x::rest).Perm xs:=⟨rest,kU (λ_ _=>oc) (by rw[Wf,ed,<-hrest];exact H)⟩;obtain⟨W3,hW3⟩:∃W3,W2.alloc (.cells #[.int .i64 x.f,.string x.c] 111)=W3:=⟨_,O⟩;have j:Below W2.heap.size W2 W3:=by rw[<-hW3];exact(Below.refl _ W2).alloc (BY _) _
   have L:J r W3:=hJ r W2 W3 WC E ⟨j.os,j.tape,j.output,j.size,λk hk _=>j.block k hk⟩ (λq e=>by cases e);have M:W3.heap[W.heap.size]? =WB (.mapIter (WB mb) clock (seen.push eb) clock):=(j.block _ (VP.1 hit2).1).trans hit2;have T:W3.heap[mb]? =WB (.map es clock):=(j.block _ (VP.1 hmp2).1).trans hmp2;have af:=s.length_eq;have ag:=vJ hmp hit;have U:(r++[x]).map cI++jD es (seen.push eb)=r.map cI++cI x::jD es (seen.push eb):=Zm;obtain⟨fn,tmps,assign,body,hy,hR⟩:=hY r x W3 L I;rw[hk0]at hy;clear hP s D hem Z hxm I hY hJ hg2 E Y hW j L;subst hW3
   gi_wp2_with (first
    |(refine pt _ O _ O W.heap.size _ ev O G ?_)
    |gi_in)
   refine hR.mono ?_;rintro e W4 ⟨rfl,hJ4,hk4⟩
   gi_wp2
   have u:=hk4.same _ _ M O;have z:=hk4.same _ _ T O
   go_roundw
   case rel=>exact⟨_,_,u,z,by rw[U];exact H,hJ4⟩
   case measure=>rw[vJ z u,ag,af];simp
theorem GJ(Bm off mb:Nat)(es:Array MapEntry)(clock:Nat)(xs:List PP)(w:World)(t:dY es.toList clock)(Z:es.toList.map (·.key)=xs.map fH)(ah:Bm<w.heap.size)
  (V:w.cell? ⟨Bm,off,WC⟩=WB (.map (WB mb))) (B:w.heap[mb]? =WB (.map es clock)):
  SeqR YK prog 125 #[.pointer (WB ⟨Bm,off,WC⟩)] (λx=> #[fH x]) KeepsWalks (λpre x=>∃rest,(pre++x::rest).Perm xs) (λr=>r.Perm xs) w:=by
 intro l J W hW hJ hY Y;have Y:∀o,J [] (W.alloc o):=Y;have hm:W.cell? ⟨Bm,off,WC⟩=WB (.map (WB mb)):=(hW.cell (p:=⟨Bm,off,WC⟩) ah).trans V;have aa:mb<w.heap.size:=(VP.1 B).1;have hb:W.heap[mb]? =WB (.map es clock):=(hW.block mb aa).trans B;have ab:mb≠W.heap.size:=by have:=hW.size;omega
 clear V B;have ac:=t.1;refine callsIn_of_wp func125 O trivial ?_ O;simp only[ntmps125,WQ,VI,XS,Nat.reduceAdd,Nat.reduceSub,Array.replicate_succ,Array.replicate_zero,List.push_toArray,List.append_toArray,WZ,Wu]
 gi_wp2_with (first
  |(gi_at_range;refine py _ O _ 86 O 156 84 aaD mb es clock O hb ?_)
  |gi_in)
 try go_frame
 gi_loopw [3] (λ_ wr=>∃(seen:Array Nat)(r:List PP),wr.heap[W.heap.size]? =WB (.mapIter (WB mb) clock seen clock)/\wr.heap[mb]? =WB (.map es clock)/\(r.map fH++jD es seen).Perm (xs.map fH)/\J r wr)
  (λ_ wr=>wr.rangeLeft mb W.heap.size)
 case atStart=>
  exact⟨#[],[],World.alloc_heap_new W _,(Below.heap_alloc W _ mb (by have:=hW.size;omega)).trans hb,by rw[zo,Z];exact WH _,Y _⟩
 case round=>
  obtain⟨seen,r,hit,hmp,hP,hJs⟩:=hrel
  gi_wp2_with (first
   |(gi_at_next;refine CR _ rfl _ rfl W.heap.size mb clock seen es rfl hit hmp (λe=>ab e.symm) t ?_ ?_)
   |gi_in)
  .intro h00
   gi_wp2
   go_end0
   rw[tD (by simp[h00]),W7]at hP;exact⟨⟨_,O⟩,r,kU (λ_ _=>qL) hP,hJs⟩
  .intro e D W2 hit2 hmp2 hg2;have D:e∈(leftOf es seen).toList:=by simpa using D
   obtain⟨hem,x,hxm,hxe⟩:=Hn Z D;have E:J r W2:=hJ r wr W2 (WB W.heap.size) hJs hg2 (λq e=>by cases e;exact⟨Zp,O⟩);have s:=tK t D;clear t;obtain⟨ek,ev,eb⟩:=e;obtain rfl:fH x=ek:=hxe;have G:(Instr.entry (.pointer (WB ⟨W.heap.size,0,WC⟩))).run prog W2= .ok (.tuple #[fH x,ev]) W2:=run_entry_at W2 W.heap.size mb clock seen es clock ⟨fH x,ev,eb⟩ hit2 hmp2 hem ac;simp only at hit2;generalize hk0:fH x=kx at G ⊢;have ad:kx= .agg #[.int .i64 x.1.f,.string x.1.c,.int .i64 x.2.f,.string x.2.c]:=hk0.symm;subst ad;have H:=((s.append_left (r.map fH)).symm.trans hP);obtain⟨rest,hrest⟩:=Er (enc:=fH) Z (seen.push eb);have I:∃rest,(r++x::rest).Perm xs:=⟨rest,kU (λ_ _=>qL) (by rw[Wf,ed,<-hrest];exact H)⟩;obtain⟨W3,hW3⟩:∃W3,W2.alloc (.cells #[.int .i64 x.1.f,.string x.1.c,.int .i64 x.2.f,.string x.2.c] 156)=W3:=⟨_,O⟩;have j:Below W2.heap.size W2 W3:=by rw[<-hW3];exact(Below.refl _ W2).alloc (BY _) _
   have L:J r W3:=hJ r W2 W3 WC E ⟨j.os,j.tape,j.output,j.size,λk hk _=>j.block k hk⟩ (λq e=>by cases e);have M:W3.heap[W.heap.size]? =WB (.mapIter (WB mb) clock (seen.push eb) clock):=(j.block _ (VP.1 hit2).1).trans hit2;have T:W3.heap[mb]? =WB (.map es clock):=(j.block _ (VP.1 hmp2).1).trans hmp2;have af:=s.length_eq;have ag:=vJ hmp hit;have U:(r++[x]).map fH++jD es (seen.push eb)=r.map fH++fH x::jD es (seen.push eb):=Zm;obtain⟨fn,tmps,assign,body,hy,hR⟩:=hY r x W3 L I;rw[hk0]at hy;clear hP s D hem Z hxm I hY hJ hg2 E Y hW j L;subst hW3
   gi_wp2_with (first
    |(refine pt _ O _ O W.heap.size _ ev O G ?_)
    |gi_in)
   refine hR.mono ?_;rintro e W4 ⟨rfl,hJ4,hk4⟩
   gi_wp2
   have u:=hk4.same _ _ M O;have z:=hk4.same _ _ T O
   go_roundw
   case rel=>exact⟨_,_,u,z,by rw[U];exact H,hJ4⟩
   case measure=>rw[vJ z u,ag,af];simp
end
section
abbrev apO(T E:TypeId)(sz n:Nat)(cs:na):Zy:=[(big,.mix T [.bz 0 sz n]),(0,.bD E cs)]
theorem CK{T E:TypeId}{sz n:Nat}{cs:na}{id:Nat}(j:id≠big)(q:id≠0):au (apO T E sz n cs) id=WC:=by
 have b1:Nat.beq id big=YL:=by cases hb:Nat.beq id big;rfl;exact absurd (bN hb) j
 have b2:Nat.beq id 0=YL:=by cases hb:Nat.beq id 0;rfl;exact absurd (bN hb) q
 simp only[au,b1,b2,Wo]
theorem HS{id:Nat}(h:avK 1 id=YK):id≠big/\id≠0/\id<big:=by
 have j:Nat.ble 1 id=YK/\Nat.blt id big=YK:=by simpa[avK]using h
 have g1:=V7 j.1;have g2:id<big:=V7 j.2;exact⟨Zi,Zi,g2⟩
theorem K5{P:Program}{w W:World}{R:ew}{T E:TypeId}{sz b4:Nat}(H:r4 w R)(t:∀b,R b->b<w.heap.size)(r:Below w.heap.size w W)(D:W.heap[b4]? =WB (.cells #[.slice WC 0 0] T (0,0)))(g4:w.heap.size<=b4):
  Btw P w R [b4] [] (apO T E sz 0 []) 1 W:=by
 have G:b4<W.heap.size:=(VP.1 D).1;obtain⟨m,hm⟩:∃m:Gm,m=λid=>if id=big then WB (b4,1)else WC:=⟨_,O⟩
 have m4:m big=WB (b4,1):=by rw[hm];simp
 have u:∀id,id≠big->m id=WC:=λid h=>by rw[hm];simp[h]
 have s:∀id b N,m id=WB (b,N)->id=big/\b=b4/\N=1:=λid b N e=>by
  by_cases h:id=big
  .subst h;rw[m4]at e;cases e;exact⟨O,O,O⟩
  rw[u id h]at e;cases e
 have z:∀b,R b->R b/\W.heap[b]? =w.heap[b]? :=λb h=>⟨h,r.block b (t b h)⟩
 have B:∀b,w.heap.size<=b->¬R b:=λb h hr=>by have:=t b hr;omega
 have q:∀id b N,m id=WB (b,N)->w.heap.size<=b/\b<W.heap.size:=λid b N e=>by
  obtain⟨_,rfl,_⟩:=s id b N e;exact⟨g4,G⟩
 refine⟨⟨m,⟨R,H.mono z,λb h=>⟨VW (t b h) r.size,fun⟨id,N,e⟩=>B b (q id b N e).1 h⟩,[]⟩,?_,?_,?_,λ_ h=>h,?_⟩,r,λx hx=>absurd hx Zm⟩
 .refine⟨λid=>?_,λid h=>?_,λid o b N ho e=>?_,λi j b N N' e1 e2=>?_,λid b N e=>⟨(q id b N e).2,B b (q id b N e).1,.inl ⟨id,N,e⟩⟩,λb h=>VW (t b h) r.size,λb h=> .inl h,λb h=>h,Fr.refl _ _,λ_ _ _ e=>e,λid h=>?_⟩
  .by_cases e1:id=big
   .subst e1;rw[m4];rfl
   rw[u id e1];by_cases e2:id=0
   .subst e2;rfl
   rw[CK e1 e2];rfl
  .obtain⟨h1,h2,_⟩:=HS h;exact CK h1 h2
  .obtain⟨rfl,rfl,rfl⟩:=s id b N e;obtain rfl:o= .mix T [.bz 0 sz 0]:=by
    have:au (apO T E sz 0 []) big=WB (.mix T [.bz 0 sz 0]):=rfl;rw[this]at ho;cases ho;rfl
   refine⟨_,D,O,BY 1,?_⟩;simp only[ZJ,Rel];refine⟨_,_,O,⟨O,WC,0,O,BY _,Zk,λ_=>⟨O,O,u 0 Zk⟩,λh=>absurd h Zk⟩,O⟩
  .exact(s i b N e1).1.trans (s j b N' e2).1.symm
  show(Nat.ble 1 id&&Nat.blt id big)=YL;have:Nat.blt id big=YL:=by cases r:Nat.blt id big;rfl;have:=V7 r;omega
  rw[this,Ya]
 .intro j b hj;match j with
  |0=>cases hj;exact⟨1,m4⟩
  |j+1=>simp at hj
 .exact λid b N e=>⟨(q id b N e).1,Zm⟩
 exact λb h=>⟨.inl h,Zm⟩
theorem LI{P:Program}{w W:World}{m:Gm}{R:RT w (jg m)}{T E:TypeId}{sz n b4:Nat}{cs:na}{X:ee}(H:∀id,m id=WC)(h:Btw P w R.p [b4] X (apO T E sz n cs) 1 W):
  ∃u,W.cell? ⟨b4,0,WC⟩=WB u/\∀W':World,Below w.heap.size w W'->W.heap.size<=W'.heap.size->(∀q,q<W.heap.size->q∉X->W'.heap[q]? =W.heap[q]?)->
   ∃m' R',HR ⟨P,m,w,jg m,R⟩ m' R' (au [(0,.bD E cs)]) (avK 1) W'/\Rel W' m' (avK 1) R' (.bz 0 sz n) u:=by
 obtain⟨mB,rt,hr,h1,h2,h3,h4⟩:=h.ex;obtain⟨N4,hN4⟩:=h1 0 b4 O;obtain⟨arr,e1,e2,e3,e4⟩:=hr.obj big (.mix T [.bz 0 sz n]) b4 N4 O hN4;simp only[ZJ]at e4;obtain⟨u,_,ha,hu,rfl⟩:=e4;have G:W.cell? ⟨b4,0,WC⟩=WB u:=by
  have:arr[0]? =WB u:=by
   have:=ah (·[0]?) ha;simpa using this
  simp[World.cell?,e1,this]
 refine⟨u,G,λW' hb hs hq=>?_⟩;have t:∀b,rt.p b->rt.p b/\W'.heap[b]? =W.heap[b]? :=λb hb'=>⟨hb',hq b (rt.d b hb').1 (h4 b hb').2⟩
 have r:=hr.own;obtain⟨m',hm⟩:∃m':Gm,m'=λid=>if id=0 then mB 0 else WC:=⟨_,O⟩
 have m0:m' 0=mB 0:=by rw[hm];simp
 have D:∀id,id≠0->m' id=WC:=λid h=>by rw[hm];simp[h]
 have s:∀id x,m' id=WB x->mB id=WB x:=λid x e=>by
  by_cases h:id=0
  .subst h;rw[m0]at e;exact e
  rw[D id h]at e;cases e
 have z:au [(0,Ob.bD E cs)] 0=WB (.bD E cs):=rfl;have B:∀id,id≠0->au [(0,Ob.bD E cs)] id=WC:=λid h=>by
  have b2:Nat.beq id 0=YL:=by cases hb:Nat.beq id 0;rfl;exact absurd (bN hb) h
  simp only[au,b2,Wo]
 refine⟨m',rt.p,⟨λid=>?_,λid h=>?_,λid o b N ho e=>?_,λi j b N N' a1 a2=>hr.inj i j b N N' (s _ _ a1) (s _ _ a2),λid b N e=>⟨VW (r id b N (s _ _ e)).1 hs,(r id b N (s _ _ e)).2.1,.inr (h2 id b N (s _ _ e)).1⟩,
  λb hb'=>VW (hr.rsz b hb') hs,λb hb'=>(h4 b hb').1.imp id .inl,h3,Fr.Qy hb _,λid x hid e=>?_,λid hid=>ie hid⟩,?_⟩
 .by_cases e:id=0
  .subst e;rw[m0,z];exact hr.dom 0
  rw[D id e,B id e];rfl
 .exact B id (HS h).2.1
 .have e0:id=0:=by
   by_cases e':id=0
   .exact e'
   rw[D id e']at e;cases e
  subst e0;rw[z]at ho;cases ho;exact nJ.mono t (λid x _ e=>s id x e) (λ_ e=>e) (hq b (r 0 b N (s _ _ e)).1 (h2 0 b N (s _ _ e)).2) (hr.obj 0 _ b N O (s _ _ e))
 .rw[D id (by have:big=9000:=rfl;omega)]at e;cases e
 exact hu.mono t (λid x _ e=>s id x e) λ_ e=>e
theorem Tp{P:Program}{m:Gm}{w:World}{R:RT w (jg m)}{R':ew}{av:Av}(h:HR ⟨P,m,w,jg m,R⟩ m R' (au []) av w):∀id,m id=WC:=λid=>by
 have:=h.dom id;cases hm:m id with
 |none=>rfl
 |some x=>rw[hm]at this;cases this
theorem CC{α:Type}{enc:α->Value}:∀{l:e7},(∀v∈l,∃x,enc x=v)->∃rest:List α,l=rest.map enc
 |[],_=>⟨[],O⟩
 | v::l,h=>by
   obtain⟨x,hxe⟩:=h v Zm;obtain⟨r,hr⟩:=CC (l:=l) λu hu=>h u (by simp[hu])
   exact⟨x::r,by rw[ed,hxe,<-hr]⟩
theorem S2{α:Type}{enc:α->Value}{kp:α->PV}(r:∀(w:World)(R:ew)(x:α)(u:Value),ZH w R (kp x) u->u=enc x){w:World}{R:ew}{xs:List α}{vs:na}{u:Value}(h:ZH w R (.mp (xs.map kp) vs) u):
  ∃(mb:Nat)(es:Array MapEntry)(clock:Nat)(xs':List α),u= .map (WB mb)/\R mb/\w.heap[mb]? =WB (.map es clock)/\dY es.toList clock/\es.toList.map (·.key)=xs'.map enc/\(xs'.map enc).Perm (xs.map enc):=by
 simp only[ZH]at h;obtain⟨b,rfl,hb,es,clock,l,h1,h2,h3,h4,h5⟩:=h;have j:∀{ys:List α}{us:e7},ZG w R (ys.map kp) us->us=ys.map enc:=by
  intro ys;induction ys with
  |nil=>intro us h;simpa[ZG]using h
  | cons y ys ih=>
    intro us h;simp only[ed,ZG]at h;obtain⟨u,vs,rfl,h6,h7⟩:=h;rw[r _ _ _ _ h6,ih h7];rfl
 have e:=j h2;have q:(es.toList.map (·.key)).Perm (xs.map enc):=by rw[<-e];exact(h5.map _).symm
 obtain⟨xs',hx⟩:=CC (enc:=enc) (l:=es.toList.map (·.key)) λv hv=>by
  obtain⟨x,_,hx⟩:=VS.1 (q.subset hv);exact⟨x,hx⟩
 exact⟨b,es,clock,xs',O,hb,h1,h4,hx,hx▸q⟩
end
end Go.Proofs.YthicoeegbdboeaaGreatDoor
