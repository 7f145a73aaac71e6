/- Lemmas for the statement of this claim's last text. No condition. -/
import Derived.Test.YtedfonppffochaaGreatDoorJA8
set_option maxRecDepth 100000
set_option maxHeartbeats 4000000
open Go.RowKit Go.Proofs.Tryz
namespace Go.Proofs.YtedfonppffochaaGreatDoor
section
open Mk Jn
abbrev bB (M:List (ByteArray×Bool)):List PV:=M.map fun p=> .bool p.2
def QKB (J:JD) (P:List Int) (D:VD) (σ:Asg ByteArray) (r:Bool) (v:V) (ob':Nat->Option Ob):Prop:=∃ now' M',NowOk J.S.attrs.length σ now'/\iz aU J P M'/\v= .pv (.bool r)/\ob'=ar (o6B J (wdB D) σ now' (ba M') (bB M'))
def RBB (J:JD) (P:List Int) (σ:Asg ByteArray) (r:Bool) (p:V) (a b:Ob):Prop:=∃ now' M',NowOk J.S.attrs.length σ now'/\iz aU J P M'/\p= .pv (.bool r)/\a= .cells 9 (aA now')/\b= .mp (ba M') (bB M')
theorem vj {J:JD} {P:List Int} {D:VD} {σ:Asg ByteArray} {r:Bool} (v:V) (ob':Nat->Option Ob) (h:QKB J P D σ r v ob'):∃ p a b,RBB J P σ r p a b/\p.ren (cm six 0)=p/\a.ren (cm six 0)=a/\b.ren (cm six 0)=b/\v=p/\ob'=ar [(big,oB (wdB D) 9004 9001 J.S.attrs.length 9002 9003),(9001,a),(9002,.cells 4 (ay (stL σ J.S.attrs.length))),(9003,b),(9004,oX2 J 9005),(9005,.mp J.pk J.pv)]:=by
 obtain ⟨now',M',h1,h2,rfl,rfl⟩:=h;exact ⟨_,_,_,⟨now',M',h1,h2,O,O,O⟩,O,O,O,O,O⟩
def oa (J:JD) (P:List Int) (D:VD) (v:Nat):Prop:=∀ σ now M,At P v σ->ZfA σ->SzA σ->NowOk J.S.attrs.length σ now->iz aU J P M->FnO Tryz.prog 145 6 0 [.ptr big 0,.pv (.int .i64 v)] (o6B J (wdB D) σ now (ba M) (bB M)) (QKB J P D σ (fv aU J P v σ))
def gC (J:JD) (P:List Int) (D:VD) (v:Nat):Prop:=∀ σ now M x,At P v σ->ZfA σ->SzA σ->Zf x->x.size<=10000->NowOk J.S.attrs.length σ now->iz aU J P M->FnO Tryz.prog 101 6 0 [.ptr big 0,.pv (.int .i64 v),.pv (.str x)] (o6B J (wdB D) σ now (ba M) (bB M)) (QKB J P D σ (fl aU J P (bq P v) (put σ v x)))
theorem lX (J:JD) (P:List Int) (D:VD) (h:CtxV J P D) (v:Nat) (hv:v<P.length) (hb:gC J P D v):oa J P D v:=by
 intro σ now M hat hz hsz hn hM;refine FnO.of func145 O ntmps145 OG fun m0 w0 F R0=>?_
 have hP:=h.ord.dP;have hnl:=h.len;have hn64:=h.n64;have hva:v<J.S.attrs.length:=OC;have hvk:v<D.kes.length:=by rw [h.kel];exact hv
 have hkv:=cM hvk;have hkn:=cQ hvk;have hw8:IntKind.u8.wrap (v:Int)=((UInt8.ofNat v).toNat:Int):=by
  have:=h.n64;rw [UInt8.toNat_ofNat'];simp [IntKind.wrap,IntKind.bits,IntKind.signed]
 have hwb:=mS (UInt8.ofNat v);rw [h.Hb hv] at hkv;have hkl:=yj J.S P v;have hke:∀ a∈dq J.S P v,∃ b:Nat,a=(b:Int)/\b<J.S.attrs.length/\∃ y,σ (b:Int)=some y:=fun a ha=>by
  obtain ⟨b,e,hb,hm⟩:=h.xz hv ha;exact ⟨b,e,OC,tH.1 (hat.up _ hm)⟩
 have hktl:∀ k,(lG (fun a=>(σ a).getD eb) ((dq J.S P v).take k)).length<=10001*64:=fun k=>by
  refine uv (nQ fun a _=>?_) (Ks _ ?_)
  ·cases e:σ a with
   | none=>exact (by decide:(0:Nat)<=10000)
   | some x=>exact hsz a x e
  ·have:=h.n64;rw [iP];omega
 have hlk:=tT aU PV.bool hM hv hat hz;have hput:=fun M2 (hM2:iz aU J P M2)=>y8 aU PV.bool h.ord (by have:=h.n64;omega) hM2 hv hat hz
 have hfnd:=fun M2:List (ByteArray×Bool)=>gJ (lz v (dq J.S P v) σ) PV.bool M2 0
 have hcand:=mK J h.ok h.t12 (wdB D) σ now hn (ba M) (bB M) v hva (hat.self hv) (h.wv v hva);have htn:=ki hn hva (hat.self hv) (jx J v σ);have hcok:=h.s8 v σ;have hcl:=gm h.t12 v σ;have hfv:=Gz aU J hP hv σ;have hbr:=fun now2 M2 x hx1 hx2 h2 h3=>hb σ now2 M2 x hat hz hsz hx1 hx2 h2 h3
 have hks:lz v (dq J.S P v) σ=⟨(UInt8.ofNat v::lG (fun a=>(σ a).getD eb) (dq J.S P v)).toArray⟩:=rfl;have hkne:(lz v (dq J.S P v) σ).data.toList≠[]:=by rw [hks];simp
 have hkbl:(lz v (dq J.S P v) σ).data.toList.length<=1000000000:=by
  have:=hktl (dq J.S P v).length;rw [J4] at this;rw [hks];simp only [qU];omega
 clear hb;generalize hKg:lz v (dq J.S P v) σ=KB at*;generalize dq J.S P v=K at*;generalize jx J v σ=CL at*;generalize hFG:(fun x=>fl aU J P (bq P v) (put σ v x))=fx at*;have hfx:∀ x,fl aU J P (bq P v) (put σ v x)=fx x:=fun x=>by rw [<-hFG]
 simp only [hfx] at hbr;generalize fv aU J P v σ=FV at*;generalize bC (RJ J) sdS v σ=C at*;refine Z1 O O<|Z1 O O<|Im (St.er 0 1 1 1 5 O O O)<|Z1 O O<|Rs 14 O O ((en underlying3 underlying5 O).cast (v':= .pv (.int .u8 ((UInt8.ofNat v).toNat:Int))) (af (fun z=>V.pv (.int .u8 z)) hw8))<|Rs 15 O O (ah [0,1] 2 call192 hwb O O O O ⟨O,O,OK⟩ OE O) ?_;clear hw8 hwb;refine Gr O ?_;iterate 6 refine A1 O ?_
 refine Rs 22 O O (ag v underlying142 ly O O O hvk hkn)<|Rs 23 O O (ai ⟨_,underlying22,O⟩ O hkv)<|Y2 O O ?_;refine Gl O (st:=fun x_0:Nat×List UInt8=>mkS [(0,.ptr big 0),(1,.pv (.int .i64 v)),(5,.ptr 0 0),(23,.pv (ak K)),(24,.pv (.int .i64 K.length)),(25,.pv (.int .i64 x_0.1))] [(big,oB (wdB D) 9004 9001 J.S.attrs.length 9002 9003),(0,.mix 165 [.ptr 0 0,.gsl 3 1 x_0.2.length]),(3,.gro 5 (az x_0.2)),(9001,.cells 9 (aA now)),(9002,.cells 4 (ay (stL σ J.S.attrs.length))),(9003,.mp (ba M) (bB M)),(9004,oX2 J 9005),(9005,.mp J.pk J.pv)] 4)
  (I:=fun x_0=>x_0.1<=K.length/\x_0.2=UInt8.ofNat v::lG (fun a=>(σ a).getD eb) (K.take x_0.1)) (μ:=fun x_0=>K.length-x_0.1) (x0:=(0,[UInt8.ofNat v])) (Io (aS O) (aO OD) O O) (⟨eF _,O⟩) ?_
 rintro ⟨k,L⟩ ⟨hk,hL⟩;try simp only at hk hL ⊢
 refine Z1 O O ?_;refine Gp O O (fun hc26=>?_) (fun hc26=>?_)
 ·have hlt:k<K.length:=OC;obtain ⟨a,ha,hal,y,hy⟩:=hke _ (aJ hlt);have hpv:(aE K)[k*1]? =some (.int .i64 (a:Int)):=by rw [<-ha];simp [hlt]
  have hpn:=aH hlt;have hnow:now[a]'(by rw [hn.l];exact hal)=y:=hn.e a (by rw [hn.l];exact hal) y hy;have hnp:=aM (l:=now) (k:=a) (by rw [hn.l];exact hal);rw [hnow] at hnp;have hnl2:(aA now).length=J.S.attrs.length:=by rw [rJ,hn.l]
  have hys:=hsz _ _ hy;have hkt:=hktl k;have hktk:=pg (fun a=>(σ a).getD eb) hlt;rw [ha,hy] at hktk;have hLn:L≠[]:=by rw [hL];simp
  have hws:=qm L (y++(⟨#[0]⟩:ByteArray)) hLn (by rw [hL,ug];simp only [qU];omega);rw [MC] at hws;refine Il<|Z1 O O<|Rs 28 O O (ai ⟨_,underlying3,O⟩ O hpv)<|A1 O<|Gr O ?_;iterate 6 refine A1 O ?_
  refine Rs 35 O O (aC ⟨_,underlying9,O⟩ O O hnp)<|Rs 36 O O (xO O O (by show y.size+1<=_;omega)) ?_;exact Rs 37 O O (ah [0,3] 4 call105 hws O O O O ⟨OD,OD,OK⟩ OE O)<|Z2 O O O<|⟨(k+1,L++(y.data.toList++[0])),Ip [0,1,2,4] (aT O) (aP OD) O O OE O,⟨OI,by simp only;rw [hktk,hL];rfl⟩,OI⟩
 ·have hLK:L=UInt8.ofNat v::lG (fun a=>(σ a).getD eb) K:=by rw [hL,show K.take k=K from bk OC]
  have hLn:L≠[]:=by rw [hLK];simp
  have hKL:(⟨L.toArray⟩:ByteArray)=KB:=by rw [hks,hLK]
  have hLe:L=KB.data.toList:=by rw [<-hKL]
  have hLl:L.length<=1000000000:=by rw [hLe];exact hkbl
  have hbs:=j8 L hLn hLl;rw [hKL] at hbs;have hbs2:=mW L.length KB hkne (by rw [hLe]) hLl;refine Gx O ?_;by_cases hm:∃ p∈M,p.1=KB
  ·rw [og hm] at hlk;refine Ge O follows [0,1,2,3,4,5,6,7,8,9,10] OD ?_;iterate 4 refine D1 O O ?_
   refine Ds 44 [0,3] O O O (fun τ h=>ah [0,3] 4 call108 hbs (h.args.trans O) O O O ⟨(Eo h 0 O O),(Eo h 1 O O),OK⟩ OE O) O OD<|Ds 45 [_] O O O (fun τ h=>cg (zp:= .bool false) underlying153 underlying9 (.inl ⟨9003,(Ee h 0 O O),(Eo h 0 O O)⟩) (Ee h 1 O O) O Hu O hlk O O) O OD ?_;iterate 5 refine D1 O O ?_
   refine ⟨OD,?_⟩;refine Z1 O O ?_;refine Gc O O (fun hc48=>?_) (fun hc48=>absurd hc48 OG);exact Z2 O O O<|Gt O<|⟨[(4,.pv (.bool FV))],o6B J (wdB D) σ now (ba M) (bB M),[.pv (.bool FV)],Io (aS O) (aO OD) O O,O,O,O,now,M,hn,hM,O,O⟩
  ·rw [ga hm] at hlk;refine Ge O follows [0,1,2,3,4,5,6,7,8,9,10] OD ?_;iterate 4 refine D1 O O ?_
   refine Ds 44 [0,3] O O O (fun τ h=>ah [0,3] 4 call108 hbs (h.args.trans O) O O O ⟨(Eo h 0 O O),(Eo h 1 O O),OK⟩ OE O) O OD<|Ds 45 [_] O O O (fun τ h=>cg (zp:= .bool false) underlying153 underlying9 (.inl ⟨9003,(Ee h 0 O O),(Eo h 0 O O)⟩) (Ee h 1 O O) O Hu O hlk O O) O OD ?_;iterate 5 refine D1 O O ?_
   refine ⟨OD,?_⟩;refine Z1 O O ?_;refine Gc O O (fun hc48=>absurd hc48 OG) (fun hc48=>?_);refine Il<|Gr O ?_;iterate 6 refine A1 O ?_
   refine Z2 O O O<|Rs 57 O O (ah [big,9001,9002,9003,9004,9005] 4 call100 hcand O O O O ⟨OD,OD,OD,OD,OD,OD,OK⟩ OE O)<|Y2 O O ?_;refine Gl O (st:=fun x_1:Nat×List ByteArray×List (ByteArray×Bool)=>mkS [(0,.ptr big 0),(1,.pv (.int .i64 v)),(5,.ptr 0 0),(10,.pv (.bool (kH aU ((C.take x_1.1).map fx)))),(57,.pv (aI C)),(58,.pv (.int .i64 C.length)),(59,.pv (.int .i64 x_1.1))] [(big,oB (wdB D) 9004 9001 J.S.attrs.length 9002 9003),(0,.mix 165 [.ptr 0 0,.gsl 3 1 L.length]),(3,.fro 5 KB),(9001,.cells 9 (aA x_1.2.1)),(9002,.cells 4 (ay (stL σ J.S.attrs.length))),(9003,.mp (ba x_1.2.2) (bB x_1.2.2)),(9004,oX2 J 9005),(9005,.mp J.pk J.pv)] 4)
    (I:=fun x_1=>x_1.1<=C.length/\NowOk J.S.attrs.length σ x_1.2.1/\iz aU J P x_1.2.2) (μ:=fun x_1=>C.length-x_1.1) (x0:=(0,tst now v CL,M)) (Io (aS O) (aO OD) O O) (⟨eF _,htn,hM⟩) ?_
   rintro ⟨k2,now2,M2⟩ ⟨hk2,hn2,hM2⟩;try simp only at hk2 hn2 hM2 ⊢
   refine Z1 O O ?_;refine Gp O O (fun hc60=>?_) (fun hc60=>?_)
   ·have hlt2:k2<C.length:=OC;have hv2:=aM hlt2;have hne2:=bc hlt2;have hco:=hcok _ (aJ hlt2);have hbk:=hbr now2 M2 C[k2] hco.1 hco.2 hn2 hM2;have hss:=qK aU hlt2 fx;generalize kH aU ((C.take k2).map fx)=acc at*;refine Il<|Z1 O O ?_;first | refine A2 O OF ?_ | refine A1 O ?_
    refine A1 O<|Ge O follows [0,1,2,3,4,5,6,7,8,9,10,11] OD ?_;iterate 9 refine D1 O O ?_
    refine DL.rel (RV (RBB J P σ (fx C[k2]))) [9001,9003] [] [big,9001,9002,9003,9004,9005] O O O (fun τ h=>Gh call101 hbk vj (h.args.trans O) O O ⟨Eo h 0 O O,Eo h 1 O O,Eo h 2 O O,Eo h 3 O O,Eo h 4 O O,Eo h 5 O O,OK⟩) O OD OD OD ?_;rintro _ ⟨_,_,_,⟨now3,M3,hn3,hM3,rfl,rfl,rfl⟩,rfl⟩ _ _;refine Ds 73 [] O O O (fun τ h=>bb call189 (Ee h 0 O O) (xt _ _) (h.jv O)) O OD<|D1 O O ?_;refine ⟨OD,?_⟩;exact Z2 O O O<|⟨(k2+1,now3,M3),Io ⟨O,O,O,af (fun b=>V.pv (.bool b)) hss.symm,O,O,O,OK⟩ (aO OD) O O,⟨OC,hn3,hM3⟩,OI⟩
   ·rw [show C.take k2=C from bk OC,<-hfv];obtain ⟨M4,hM4,hpk,hpv⟩:=hput M2 hM2;obtain ⟨⟨r,hkf⟩,_,_⟩:=hfnd M2;refine Gx O<|Ge O follows [0,1,2,3,4,5,6] OD ?_;iterate 4 refine D1 O O ?_
    refine Ds 79 [0,3] O O O (fun τ h=>ah [0,3] 4 call108 hbs2 (h.args.trans O) O O O ⟨(Eo h 0 O O),(Eo h 1 O O),OK⟩ OE O) O OD<|D1 O O<|DL.step (d:=none) [_] O O O (fun τ h=>ed underlying153 underlying9 (Ee h 0 O O) (Eo h 0 O O) (Ee h 1 O O) (Ee h 2 O O) O hkf hpk hpv) O OD ?_;refine ⟨OD,?_⟩;exact Z2 O O O<|Gt O<|⟨[(4,.pv (.bool FV))],o6B J (wdB D) σ now2 (ba M4) (bB M4),[.pv (.bool FV)],Io (aS O) (aO OD) O O,O,O,O,now2,M4,hn2,hM4,O,O⟩
theorem js (J:JD) (P:List Int) (D:VD) (h:CtxV J P D) (v:Nat) (hv:v<P.length) (hw:∀ c:Nat,c<P.length->P.getD c 0=(v:Int)->oa J P D c):gC J P D v:=by
 intro σ now M x hat hz hsz hx1 hx2 hn hM;refine FnO.of func101 O ntmps101 OG fun m0 w0 F R0=>?_
 have hP:=h.ord.dP;have hlen:=h.len;have hn64:=h.n64;have hJ:=h.ok;have hva:v<J.S.attrs.length:=OC;have hself:=hat.self hv;have hnp:=hn.put hva x;have hagr:=fun r (hr:r<J.S.rels.length) y (hy:y.v.length=J.S.rels[r].2.length)=>dV J hJ (wdB D) (put σ v x) (now.set v x) hnp (ba M) (bB M) r hr y hy
 have hvo:v<D.hos.length:=by rw [h.hl];exact hv
 have hov:=cM hvo;have hon:=cQ hvo;have hoh:=h.ho _ (aJ hvo);generalize D.hos[v]=Hs at*;have hvc:v<D.chs.length:=by rw [h.chl];omega
 have hcv:=cM hvc;have hcn:=cQ hvc;rw [h.HX hv] at hcv;have hkid:∀ c∈bq P v,∃ m:Nat,m<P.length/\c=(m:Int)/\P.getD m 0=(v:Int):=fun c hc=>aX.1 hc
 have hcl:(bq P v).length<=64:=uv (uv (IE ..) (by rw [a8];exact qT _)) hn64;have hview:=fun (c:Nat) (hc:c<P.length) (hp:P.getD c 0=(v:Int)) now2 M2 h2 h3=>hw c hc hp (put σ v x) now2 M2 (hat.child hP hv hc hp x) (hz.put v hx1) (hsz.put v hx2) h2 h3
 have hfn:=uO aU J P (put σ v x);have hft:=fun (cs:List Int) (k:Nat) (hk:k<cs.length)=>oG aU J P (put σ v x) hk
 have hfz:=yv aU J P (bq P v) (put σ v x);have hnl:(aA now).length=J.S.attrs.length:=by rw [rJ,hn.l]
 have hsl:(ay (stL σ J.S.attrs.length)).length=J.S.attrs.length:=by rw [rJ,cK]
 have hsl2:(ay (stL (put σ v x) J.S.attrs.length)).length=J.S.attrs.length:=by rw [rJ,cK]
 have h1:=ix (l:=now) (a:=v) x;have h2:=kZ (σ:=σ) hva x;have h3:(ay (stL (put σ v x) J.S.attrs.length)).set (v*1) (.bool false)=ay (stL σ J.S.attrs.length):=by rw [qO hva,cO hself]
 have hun:∀ now2,NowOk J.S.attrs.length (put σ v x) now2->NowOk J.S.attrs.length σ now2:=fun now2 h4=>by have:=h4.un (v:Int);rwa [cO hself] at this
 generalize bq P v=CS at*;clear hw;generalize put σ v x=σ2 at*;refine Z1 O O<|Ge O follows [0,1,2,3,4,5,6,7,8,9,10,11,12,13,14] OD ?_;iterate 11 refine D1 O O ?_
 refine Ds 25 [_] O O O (fun τ h=>aa v underlying47 sz9 (Ee h 0 O O) (Eo h 0 O O) (Ee h 1 O O) O OC) O OD<|DL.step (d:=none) [_] O O O (fun τ h=>aF sz9 (Ee h 0 O O) (Eo h 0 O O) (Ee h 1 O O) O OC) O OD<|Ds 26 [_] O O O (fun τ h=>aa v underlying115 sz4 (Ee h 0 O O) (Eo h 0 O O) (Ee h 1 O O) O OC) O OD<|DL.step (d:=none) [_] O O O (fun τ h=>aF sz4 (Ee h 0 O O) (Eo h 0 O O) (Ee h 1 O O) O OC) O OD ?_;refine ⟨OD,?_⟩;refine Im (Io (l:=[(0,.ptr big 0),(1,.pv (.int .i64 v)),(2,.pv (.str x))]) (os:=o6B J (wdB D) σ2 (now.set v x) (ba M) (bB M)) (k:=0) (aS O) ⟨O,af (fun c=>some (Ob.cells 9 c)) h1,af (fun c=>some (Ob.cells 4 c)) h2,O,O,O,OK⟩ O O)<|Gr O ?_;iterate 6 refine A1 O ?_
 refine Rs 33 O O (bb call142 O (wg _ _) O)<|A1 O<|Gr O ?_;iterate 6 refine A1 O ?_
 refine Rs 40 O O (ag v underlying142 ly O O O hvo hon)<|Rs 41 O O (ai ⟨_,underlying22,O⟩ O hov)<|Y2 O O ?_;refine Gl O (st:=fun x_0:Nat=>mkS [(0,.ptr big 0),(1,.pv (.int .i64 v)),(7,.pv (.bool true)),(41,.pv (ak Hs)),(42,.pv (.int .i64 Hs.length)),(43,.pv (.int .i64 x_0))] [(big,oB (wdB D) 9004 9001 J.S.attrs.length 9002 9003),(9001,.cells 9 (aA (now.set v x))),(9002,.cells 4 (ay (stL σ2 J.S.attrs.length))),(9003,.mp (ba M) (bB M)),(9004,oX2 J 9005),(9005,.mp J.pk J.pv)] 0)
  (I:=fun x_0=>x_0<=Hs.length) (μ:=fun x_0=>Hs.length-x_0) (x0:=(0)) (Io (aS O) (aO OD) O O) (eF _) ?_
 rintro k hk;refine Z1 O O ?_;refine Gp O O (fun hc44=>?_) (fun hc44=>?_)
 ·have hlt:k<Hs.length:=OC;have hHl:=hoh.1;obtain ⟨hr0,hr1⟩:=hoh.2 _ (aJ hlt);obtain ⟨r,hr⟩:=rK hr0;have hrl:r<J.S.rels.length:=OC;have hpv:(aE Hs)[k*1]? =some (.int .i64 (r:Int)):=by rw [<-hr];simp [hlt]
  have hpn:=aH hlt;have hrT:r<J.T.length:=by rw [hJ.n];exact hrl
  have htr:=cD hrT;have htn:=dN hrT;have hTl:=hJ.l _ (aJ hrT);have hxv:=hJ.v r hrT hrl;have hga:=fun (i:Nat) (hi:i<J.T[r].length)=>hagr r hrl J.T[r][i] (hxv _ (aJ hi))
  generalize J.T[r]=tf at*;refine Il<|Z1 O O<|Rs 46 O O (ai ⟨_,underlying3,O⟩ O hpv)<|A1 O<|Gr O ?_;iterate 8 refine A1 O ?_
  refine Rs 55 O O (ag r underlying35 qk O O O hrT htn)<|Rs 56 O O (ai ⟨_,underlying38,O⟩ O htr)<|Y2 O O ?_;refine Gl O (st:=fun x_1:Nat=>mkS [(0,.ptr big 0),(1,.pv (.int .i64 v)),(7,.pv (.bool true)),(9,.pv (.int .i64 (r:Int))),(41,.pv (ak Hs)),(42,.pv (.int .i64 Hs.length)),(43,.pv (.int .i64 k)),(56,.pv (bL tf)),(57,.pv (.int .i64 tf.length)),(58,.pv (.int .i64 x_1))] [(big,oB (wdB D) 9004 9001 J.S.attrs.length 9002 9003),(9001,.cells 9 (aA (now.set v x))),(9002,.cells 4 (ay (stL σ2 J.S.attrs.length))),(9003,.mp (ba M) (bB M)),(9004,oX2 J 9005),(9005,.mp J.pk J.pv)] 0)
   (I:=fun x_1=>x_1<=tf.length) (μ:=fun x_1=>tf.length-x_1) (x0:=(0)) (Io (aS O) (aO OD) O O) (eF _) ?_
  rintro k3 hk3;refine Z1 O O ?_;refine Gp O O (fun hc59=>?_) (fun hc59=>?_)
  ·have hlt3:k3<tf.length:=OC;have hrw:=aN hlt3;have hrn:=aW hlt3;have hgk:=hga k3 hlt3;generalize tf[k3]=y at*;generalize hbg:agr J.S.rels[r].2 σ2 y.v=b at*;refine Il<|Z1 O O ?_;first | refine A3 O OF ?_ | refine A1 O ?_
   refine Y2 O O<|Z3 O O O O<|Rs 65 O O (ah [big,9001,9002,9003,9004,9005] 1 call102 hgk O O O O ⟨O,O,O,O,O,O,OK⟩ OE O) ?_;refine Gc O O (fun hc65=>?_) (fun hc65=>?_)
   ·refine Ge O follows [0,1,2,3,4,5,6,7,8,9,10,11,12,13,14] OD ?_;iterate 12 refine D1 O O ?_
    refine Ds 78 [] O O O (fun τ h=>bb call143 (Ee h 0 O O) (Cf _) (h.jv O)) O OD<|Ds 79 [] O O O (fun τ h=>bb call190 (Ee h 0 O O) (kM _ _) (h.jv O)) O OD<|D1 O O ?_;refine ⟨OD,?_⟩;exact Z2 O O O<|⟨(k3+1),Io (aS O) (aO OD) O O,OC,OC⟩
   ·exact Il<|Z2 O O O<|⟨(k3+1),Io (aS O) (aO OD) O O,OC,OC⟩
  ·skip
   exact Gx O<|Z2 O O O<|⟨(k+1),Io (aS O) (aO OD) O O,OC,OC⟩
 ·skip
  refine Gx O<|Gr O ?_;iterate 6 refine A1 O ?_
  refine Rs 88 O O (ag v underlying142 ly O O O hvc hcn)<|Rs 89 O O (ai ⟨_,underlying22,O⟩ O hcv)<|Y2 O O ?_;refine Gl O (st:=fun x_2:Nat×List ByteArray×List (ByteArray×Bool)=>mkS [(0,.ptr big 0),(1,.pv (.int .i64 v)),(7,.pv (.bool (fl aU J P (CS.take x_2.1) σ2))),(89,.pv (ak CS)),(90,.pv (.int .i64 CS.length)),(91,.pv (.int .i64 x_2.1))] [(big,oB (wdB D) 9004 9001 J.S.attrs.length 9002 9003),(9001,.cells 9 (aA x_2.2.1)),(9002,.cells 4 (ay (stL σ2 J.S.attrs.length))),(9003,.mp (ba x_2.2.2) (bB x_2.2.2)),(9004,oX2 J 9005),(9005,.mp J.pk J.pv)] 0)
   (I:=fun x_2=>x_2.1<=CS.length/\NowOk J.S.attrs.length σ2 x_2.2.1/\iz aU J P x_2.2.2) (μ:=fun x_2=>CS.length-x_2.1) (x0:=(0,now.set v x,M)) (Io ⟨O,O,af (fun b=>V.pv (.bool b)) hfn.symm,O,O,O,OK⟩ (aO OD) O O) (⟨eF _,hnp,hM⟩) ?_
  rintro ⟨k4,now2,M2⟩ ⟨hk4,hn2,hM2⟩;try simp only at hk4 hn2 hM2 ⊢
  refine Z1 O O ?_;refine Gp O O (fun hc92=>?_) (fun hc92=>?_)
  ·have hlt4:k4<CS.length:=OC;obtain ⟨c,hc,hce,hcp⟩:=hkid _ (aJ hlt4);have hpv4:(aE CS)[k4*1]? =some (.int .i64 (c:Int)):=by rw [<-hce];simp [hlt4]
   have hpn4:=aH hlt4;have hvk:=hview c hc hcp now2 M2 hn2 hM2;have htk:=hft CS k4 hlt4;have hfz4:=hfz k4;rw [hce] at htk;generalize hag:fl aU J P (CS.take k4) σ2=acc at*;refine Il<|Z1 O O<|Rs 94 O O (ai ⟨_,underlying3,O⟩ O hpv4)<|A1 O<|Gr O ?_;iterate 6 refine A1 O ?_
   refine Rs 101 O O (bb call191 O (xv _) O) ?_;refine Gc O O (fun hc101=>?_) (fun hc101=>?_)
   ·have haf:acc=false:=by simpa using hc101
    have hall:acc=fl aU J P CS σ2:=haf.trans (hfz4 haf).symm;rw [hall];refine Gx O<|Gr O ?_;iterate 5 refine A1 O ?_
    exact Rs 118 O O (aa v underlying115 sz4 O O O O OC)<|RL.step (d:=none) O O (aF sz4 O O O O OC)<|Z2 O O O<|Gt O<|⟨[(6,.pv (.bool (fl aU J P CS σ2)))],o6B J (wdB D) σ now2 (ba M2) (bB M2),[.pv (.bool (fl aU J P CS σ2))],Io (aS O) ⟨OD,OD,af (fun c=>some (Ob.cells 4 c)) h3,OD,OD,OD,OK⟩ O O,O,O,O,now2,M2,hun _ hn2,hM2,O,O⟩
   ·refine Il<|Ge O follows [0,1,2,3,4,5,6,7,8,9,10] OD ?_;iterate 8 refine D1 O O ?_
    refine DL.rel (RV (RBB J P σ2 (fv aU J P c σ2))) [9001,9003] [] [big,9001,9002,9003,9004,9005] O O O (fun τ h=>Gh call145 hvk vj (h.args.trans O) O O ⟨Eo h 0 O O,Eo h 1 O O,Eo h 2 O O,Eo h 3 O O,Eo h 4 O O,Eo h 5 O O,OK⟩) O OD OD OD ?_;rintro _ ⟨_,_,_,⟨now3,M3,hn3,hM3,rfl,rfl,rfl⟩,rfl⟩ _ _;refine Ds 111 [] O O O (fun τ h=>bb call190 (Ee h 0 O O) (kM _ _) (h.jv O)) O OD<|D1 O O ?_;refine ⟨OD,?_⟩;exact Z2 O O O<|⟨(k4+1,now3,M3),Io ⟨O,O,af (fun b=>V.pv (.bool b)) htk.symm,O,O,O,OK⟩ (aO OD) O O,⟨OC,hn3,hM3⟩,OI⟩
  ·rw [show CS.take k4=CS from bk OC];refine Gx O<|Gr O ?_;iterate 5 refine A1 O ?_
   exact Rs 118 O O (aa v underlying115 sz4 O O O O OC)<|RL.step (d:=none) O O (aF sz4 O O O O OC)<|Z2 O O O<|Gt O<|⟨[(6,.pv (.bool (fl aU J P CS σ2)))],o6B J (wdB D) σ now2 (ba M2) (bB M2),[.pv (.bool (fl aU J P CS σ2))],Io (aS O) ⟨OD,OD,af (fun c=>some (Ob.cells 4 c)) h3,OD,OD,OD,OK⟩ O O,O,O,O,now2,M2,hun _ hn2,hM2,O,O⟩
theorem x8 (J:JD) (P:List Int) (D:VD) (h:CtxV J P D):∀ (k v:Nat),v<P.length->P.length<=k+(bp P v).length+1->oa J P D v/\gC J P D v:=by
 have hP:=h.ord.dP;intro k;induction k with
 | zero=>
   intro v hv hk;have hb:=js J P D h v hv fun c hc hp=>by
    have:=lu hP hc;rw [bO hP hc hv hp,qU] at this;omega
   exact ⟨lX J P D h v hv hb,hb⟩
 | succ k ih=>
   intro v hv hk;have hb:=js J P D h v hv fun c hc hp=>(ih c hc (by rw [bO hP hc hv hp,qU];omega)).1
   exact ⟨lX J P D h v hv hb,hb⟩
theorem Cs (J:JD) (P:List Int) (D:VD) (h:CtxV J P D) (v:Nat) (hv:v<P.length):oa J P D v:=(x8 J P D h P.length v hv OC).1
theorem w3 (J:JD) (P:List Int) (D:VD) (h:CtxV J P D) (v:Nat) (hv:v<P.length):gC J P D v:=(x8 J P D h P.length v hv OC).2
end
section
open Mk Jn
theorem s9 (J:JD) (P:List Int) (D:VD) (h:CtxV J P D) (σ:Asg ByteArray) (now:List ByteArray) (mk mv:List PV):FnO Tryz.prog 144 6 0 [.ptr big 0] (o6B J (wdB D) σ now mk mv) (fun v ob'=>v= .pv (ak (bq P (-1)))/\ob'=ar (o6B J (wdB D) σ now mk mv)):=by
 refine FnO.of func144 O ntmps144 OG fun m0 w0 F R0=>?_
 have hvc:P.length<D.chs.length:=by rw [h.chl];omega
 have hcv:=cM hvc;have hcn:=cQ hvc;rw [h.xZ] at hcv;have hcl:=h.chl;have hn64:=h.n64;refine Z1 O O<|Ge O follows [0,1,2,3,4,5,6,7,8,9,10,11,12,13,14] OD ?_;iterate 12 refine D1 O O ?_
 refine Ds 15 [] O O O (fun τ h=>ag P.length underlying142 ly (Ee h 0 O O) (Ee h 1 O O) OC hvc hcn) O OD<|Ds 16 [] O O O (fun τ h=>ai ⟨_,underlying22,O⟩ (Ee h 0 O O) hcv) O OD<|D1 O O ?_;refine ⟨OD,?_⟩;exact Gt O<|⟨[(2,.pv (ak (bq P (-1))))],o6B J (wdB D) σ now mk mv,[.pv (ak (bq P (-1)))],Io (aS O) (aO O) O O,O,O,O,O,O⟩
theorem sB (J:JD) (P:List Int) (D:VD) (h:CtxV J P D) (σ:Asg ByteArray) (hσ:∀ a,σ a=none) (now:List ByteArray) (M:List (ByteArray×Bool)) (hn:NowOk J.S.attrs.length σ now) (hM:iz aU J P M):FnO Tryz.prog 97 6 0 [.ptr big 0] (o6B J (wdB D) σ now (ba M) (bB M)) (QKB J P D σ (fl aU J P (bq P (-1)) σ)):=by
 refine FnO.of func97 O ntmps97 OG fun m0 w0 F R0=>?_
 have hP:=h.ord.dP;have hn64:=h.n64;have hroots:=s9 J P D h σ now (ba M) (bB M);have hkid:∀ c∈bq P (-1),∃ m:Nat,m<P.length/\c=(m:Int)/\P.getD m 0= -1:=fun c hc=>aX.1 hc
 have hcl:(bq P (-1)).length<=64:=uv (uv (IE ..) (by rw [a8];exact qT _)) hn64;have hview:=fun (c:Nat) (hc:c<P.length) (hp:P.getD c 0= -1) now2 M2 h2 h3=>Cs J P D h c hc σ now2 M2 ⟨fun a ha=>by rw [eJ hc (by rw [<-getD_at hc];exact hp)] at ha;simp at ha,fun a _=>hσ a⟩ (fun a x e=>by rw [hσ] at e;cases e) (fun a x e=>by rw [hσ] at e;cases e) h2 h3
 have hfn:=uO aU J P σ;have hft:=fun (cs:List Int) (k:Nat) (hk:k<cs.length)=>oG aU J P σ hk
 generalize bq P (-1)=CS at*;refine Z1 O O<|Gr O ?_;iterate 6 refine A1 O ?_
 refine Z1 O O<|Rs 12 O O (ah [big,9001,9002,9003,9004,9005] 0 call144 hroots O O O O ⟨O,O,O,O,O,O,OK⟩ OE O)<|Y2 O O ?_;refine Gl O (st:=fun x_0:Nat×List ByteArray×List (ByteArray×Bool)=>mkS [(0,.ptr big 0),(3,.pv (.bool (fl aU J P (CS.take x_0.1) σ))),(12,.pv (ak CS)),(13,.pv (.int .i64 CS.length)),(14,.pv (.int .i64 x_0.1))] [(big,oB (wdB D) 9004 9001 J.S.attrs.length 9002 9003),(9001,.cells 9 (aA x_0.2.1)),(9002,.cells 4 (ay (stL σ J.S.attrs.length))),(9003,.mp (ba x_0.2.2) (bB x_0.2.2)),(9004,oX2 J 9005),(9005,.mp J.pk J.pv)] 0)
  (I:=fun x_0=>x_0.1<=CS.length/\NowOk J.S.attrs.length σ x_0.2.1/\iz aU J P x_0.2.2) (μ:=fun x_0=>CS.length-x_0.1) (x0:=(0,now,M)) (Io ⟨O,af (fun b=>V.pv (.bool b)) hfn.symm,O,O,O,OK⟩ (aO OD) O O) (⟨eF _,hn,hM⟩) ?_
 rintro ⟨k4,now2,M2⟩ ⟨hk4,hn2,hM2⟩;try simp only at hk4 hn2 hM2 ⊢
 refine Z1 O O ?_;refine Gp O O (fun hc15=>?_) (fun hc15=>?_)
 ·have hlt4:k4<CS.length:=OC;obtain ⟨c,hc,hce,hcp⟩:=hkid _ (aJ hlt4);have hpv4:(aE CS)[k4*1]? =some (.int .i64 (c:Int)):=by rw [<-hce];simp [hlt4]
  have hpn4:=aH hlt4;have hvk:=hview c hc hcp now2 M2 hn2 hM2;have htk:=hft CS k4 hlt4;rw [hce] at htk;generalize hag:fl aU J P (CS.take k4) σ=acc at*;refine Il<|Z1 O O<|Rs 17 O O (ai ⟨_,underlying3,O⟩ O hpv4)<|A1 O<|Ge O follows [0,1,2,3,4,5,6,7,8,9,10] OD ?_;iterate 8 refine D1 O O ?_
  refine DL.rel (RV (RBB J P σ (fv aU J P c σ))) [9001,9003] [] [big,9001,9002,9003,9004,9005] O O O (fun τ h=>Gh call145 hvk vj (h.args.trans O) O O ⟨Eo h 0 O O,Eo h 1 O O,Eo h 2 O O,Eo h 3 O O,Eo h 4 O O,Eo h 5 O O,OK⟩) O OD OD OD ?_;rintro _ ⟨_,_,_,⟨now3,M3,hn3,hM3,rfl,rfl,rfl⟩,rfl⟩ _ _;refine Ds 27 [] O O O (fun τ h=>bb call190 (Ee h 0 O O) (kM _ _) (h.jv O)) O OD<|D1 O O ?_;refine ⟨OD,?_⟩;exact Z2 O O O<|⟨(k4+1,now3,M3),Io ⟨O,af (fun b=>V.pv (.bool b)) htk.symm,O,O,O,OK⟩ (aO OD) O O,⟨OC,hn3,hM3⟩,OI⟩
 ·rw [show CS.take k4=CS from bk OC];exact Gx O<|Z2 O O O<|Gt O<|⟨[(2,.pv (.bool (fl aU J P CS σ)))],o6B J (wdB D) σ now2 (ba M2) (bB M2),[.pv (.bool (fl aU J P CS σ))],Io (aS O) (aO OD) O O,O,O,O,now2,M2,hn2,hM2,O,O⟩
end
section
theorem St.Ib {σ τ:St} (p:Nat->Bool) (ρ:Nat->Nat) (hs:∀ t,τ.sl t= .pv .any\/σ.sl t=(τ.sl t).ren ρ) (hsp:∀ t,(τ.sl t).all p=true)
  (ho:∀ i o,τ.ob i=some o->σ.ob (ρ i)=some (o.ren ρ)/\p i=true/\o.all p=true) (hinj:∀ i j,p i=true->p j=true->ρ i=ρ j->i=j)
  (hav:∀ i,p i=true->τ.av i=false) (hbig:∀ i,big<=i->τ.av i=false/\ρ i=i):σ.le τ:=by
 rintro C n a w ⟨m,R,hw⟩
 let m2:Gm:=fun i=>if (τ.ob i).isSome then m (ρ i) else none
 have sub:∀ i x,m2 i=some x->m (ρ i)=some x/\p i=true:=fun i x h=>by
  simp only [m2] at h;split at h
  ·rename_i hs;obtain ⟨o,hoo⟩:=tH.1 hs;exact ⟨h,(ho i o hoo).2.1⟩
  ·cases h
 have um:∀ i x,p i=true->m2 i=some x->m (ρ i)=some x:=fun i x _ h=>(sub i x h).1
 refine ⟨m2,R,⟨?_,?_,?_,?_,?_,hw.hr.rsz,hw.hr.rfr,hw.hr.r0,hw.hr.frame,?_,fun i hi=>(hbig i hi).1⟩,hw.df,hw.sz,?_⟩
 ·intro i;simp only [m2];cases e:τ.ob i with
  | none=>rfl
  | some o=>
    have:=hw.hr.dom (ρ i);rw [(ho i o e).1] at this;simpa [bl,Ob.ia] using this
 ·intro i hi;cases e:τ.ob i with
  | none=>rfl
  | some o=>
    have h3:=hav i (ho i o e).2.1;rw [hi] at h3;cases h3
 ·intro i o b N h3 h4;have h5:=ho i o h3;exact (hw.hr.obj _ _ b N h5.1 (sub _ _ h4).1).eP ρ p um hav h5.2.2
 ·intro i j b N N' e1 e2;exact hinj i j (sub _ _ e1).2 (sub _ _ e2).2 (hw.hr.inj _ _ b N N' (sub _ _ e1).1 (sub _ _ e2).1)
 ·exact fun i b N e=>hw.hr.own _ b N (sub _ _ e).1
 ·intro i x hi e;have e2:=(sub i x e).1;rw [(hbig i hi).2] at e2;exact hw.hr.keep i x hi e2
 ·intro t ht;rcases hs t with e | e
  ·rw [e];simp only [Rel,RelP]
  ·have h3:=hw.sl t ht;rw [e] at h3;exact h3.eP ρ p um hav _ _ (hsp t)
def ovl (σ:St) (A:Nat) (TA T:TypeId) (cells:List V) (ls:List (List PV)):St:=
 ⟨σ.sl,fun id=>bif Nat.beq id A then some (.mix TA cells) else bif (Nat.ble 1000 id&&Nat.blt id (1000+ls.length)) then some (.gro T (ls.getD (id-1000) [])) else σ.ob id,fun id=>σ.av id&&Nat.blt id 1000⟩
def chV (ls:List (List PV)):List V:=ls.zipIdx.map fun p=> .gsl (p.2+1000) 1 p.1.length
def chP (ls:List (List PV)):List V:=ls.map fun c=> .pv (.sl none c.length c)
theorem xA {ls:List (List PV)} {j:Nat} (h:j<ls.length):(chV ls)[j*1]? =some (.gsl (j+1000) 1 ls[j].length):=by
 simp [chV,h]
theorem fp (ls:List (List PV)):(chV ls).length=ls.length:=by simp [chV]
theorem beqT {i k:Nat} (h:i=k):Nat.beq i k=true:=by subst h;exact LV i
theorem y7 {i k:Nat} (h:i≠k):Nat.beq i k=false:=by
 cases hb:Nat.beq i k with
 | false=>rfl
 | true=>exact absurd (bR hb) h
theorem bltT {i k:Nat} (h:i<k):Nat.blt i k=true:=LH h
theorem Bo {i k:Nat} (h:Nat.blt i k=true):i<k:=AI h
theorem b8 {σ:St} {A:Nat} {TA T:TypeId} {cells:List V} {ls:List (List PV)} (hA:A<1000) {j:Nat} (h:j<ls.length):(ovl σ A TA T cells ls).ob (j+1000)=some (.gro T ls[j]):=by
 show (bif Nat.beq (j+1000) A then _ else _)=_;rw [y7 OC,Hh,show Nat.ble 1000 (j+1000)=true from LH OC,show Nat.blt (j+1000) (1000+ls.length)=true from bltT OC];simp [List.getD,h]
theorem iV {σ:St} {A:Nat} {TA T:TypeId} {cells:List V} {ls:List (List PV)} {i:Nat} (h:i≠A) (h2:i<1000):(ovl σ A TA T cells ls).ob i=σ.ob i:=by
 show (bif Nat.beq i A then _ else _)=_;rw [y7 h,Hh];have:Nat.ble 1000 i=false:=by
  cases hb:Nat.ble 1000 i with
  | false=>rfl
  | true=>have:=AI hb;omega
 rw [this];rfl
theorem mL {σ:St} {A:Nat} {TA T:TypeId} {cells:List V} {ls:List (List PV)} (hA:A<1000) {i:Nat} (h:1000+ls.length<=i):(ovl σ A TA T cells ls).ob i=σ.ob i:=by
 show (bif Nat.beq i A then _ else _)=_;rw [y7 OC,Hh];have:Nat.blt i (1000+ls.length)=false:=by
  cases hb:Nat.blt i (1000+ls.length) with
  | false=>rfl
  | true=>have:=Bo hb;omega
 rw [this,Bool.and_false];rfl
theorem ph {σ:St} {A:Nat} {TA T:TypeId} {cells:List V} {ls:List (List PV)}:(ovl σ A TA T cells ls).ob A=some (.mix TA cells):=by
 show (bif Nat.beq A A then _ else _)=_;rw [beqT O];rfl
theorem St.Ae {σ:St} {A:Nat} {TA:TypeId} (T:TypeId) (m:Nat) (ho:σ.ob A=some (.mix TA (List.replicate m (.pv nS)))) (hA:A<1000) (hm:m<=1000) (hav:∀ i,1000<=i->i<2000->σ.av i=true):σ.le (ovl σ A TA T (chV (List.replicate m [])) (List.replicate m [])):=by
 rintro C n a w ⟨mm,R,hw⟩;have hA2:∀ i,σ.av i=false->(ovl σ A TA T (chV (List.replicate m [])) (List.replicate m [])).av i=false:=fun i h=>by
  show (σ.av i&&_)=false;rw [h];rfl
 have hnone:∀ i,1000<=i->i<2000->mm i=none:=fun i h1 h2=>by
  have h3:=hw.hr.dom i;rw [hw.hr.free i (hav i h1 h2)] at h3;simpa [bl] using h3
 have hRR:∀ b,R b->R b/\w.heap[b]? =w.heap[b]? :=fun b h=>⟨h,O⟩
 refine ⟨mm,R,⟨?_,?_,?_,hw.hr.inj,hw.hr.own,hw.hr.rsz,hw.hr.rfr,hw.hr.r0,hw.hr.frame,hw.hr.keep,fun i hi=>hA2 i (hw.hr.res i hi)⟩,hw.df,hw.sz,fun t ht=>(hw.sl t ht).mono hRR (fun _ _ _ e=>e) hA2 _ _⟩
 ·intro i;by_cases e:i=A
  ·subst e;rw [ph,hw.hr.dom,ho];rfl
  ·by_cases h1:i<1000
   ·rw [iV e h1];exact hw.hr.dom i
   ·by_cases h2:i<1000+m
    ·have:=b8 (σ:=σ) (TA:=TA) (T:=T) (cells:=chV (List.replicate m [])) (ls:=List.replicate m []) hA (j:=i-1000) OH;rw [show i-1000+1000=i by omega] at this;rw [this,hnone i OC OC];simp [bl,Ob.real]
    ·rw [mL hA OH];exact hw.hr.dom i
 ·intro i h;have h':(σ.av i&&Nat.blt i 1000)=true:=h;rw [cH] at h';have h2:=hw.hr.free i h'.1;have hlt:=Bo h'.2;have e:i≠A:=fun e=>by subst e;rw [ho] at h2;cases h2
  rw [iV e hlt];exact h2
 ·intro i o b N h1 h2;by_cases e:i=A
  ·subst e;rw [ph] at h1;cases h1;obtain ⟨arr,q1,q2,q3,q4⟩:=hw.hr.obj i _ b N ho h2;refine ⟨arr,q1,q2,by rw [fp];simpa using q3,?_⟩;rw [fp];simp only [Kn] at q4 ⊢;have key:∀ (k s:Nat) (us:List Value),s+k<=m->RelL w mm σ.av R (List.replicate k (.pv nS)) us->RelL w mm (ovl σ i TA T (chV (List.replicate m [])) (List.replicate m [])).av R (((List.replicate k ([]:List PV)).zipIdx s).map fun p=> .gsl (p.2+1000) 1 p.1.length) us:=by
    intro k;induction k with
    | zero=>intro s us _ h;simpa [RelL] using h
    | succ k ih=>
      intro s us hk h;simp only [List.replicate_succ,RelL] at h;obtain ⟨u,vs,rfl,hu,hv⟩:=h;simp only [List.replicate_succ,On,jt,RelL];refine ⟨u,vs,O,?_,ih (s+1) vs OC hv⟩;simp only [Rel,RelP] at hu ⊢;obtain ⟨A',c,rfl,_,hc,hb,hcz,_⟩:=hu;have hAn:=hb true O;refine ⟨?_,A',c,O,eF _,hc,fun _=>⟨?_,hcz trivial,hnone _ OC OC⟩,fun h=>absurd h OG⟩
      ·show (σ.av (s+1000)&&Nat.blt (s+1000) 1000)=false;have:Nat.blt (s+1000) 1000=false:=by
        cases hb:Nat.blt (s+1000) 1000 with
        | false=>rfl
        | true=>have:=Bo hb;omega
       rw [this,Bool.and_false]
      ·cases A' with
       | none=>rfl
       | some _=>simp at hAn
   exact key m 0 _ OC q4
  ·by_cases hf:1000<=i/\i<1000+m
   ·have:=hnone i hf.1 OC;rw [this] at h2;cases h2
   ·have h3:σ.ob i=some o:=by
     by_cases h1000:i<1000
     ·rwa [iV e h1000] at h1
     ·rwa [mL hA OH] at h1
    exact (hw.hr.obj i o b N h3 h2).mono hRR (fun _ _ _ e=>e) hA2 O
mutual
theorem V.all_mono {p q:Nat->Bool} (h:∀ i,p i=true->q i=true):∀ v:V,v.all p=true->v.all q=true
 | .pv _,_=>rfl
 | .ptr i _,hv=>by simp only [V.all] at hv ⊢; exact h i hv
 | .osl i _ _,hv=>by simp only [V.all] at hv ⊢; exact h i hv
 | .tsl i _ _,hv=>by simp only [V.all] at hv ⊢; exact h i hv
 | .gsl i _ _,hv=>by simp only [V.all] at hv ⊢; exact h i hv
 | .map i,hv=>by simp only [V.all] at hv ⊢; exact h i hv
 | .agg cs,hv=>by simp only [V.all] at hv ⊢; exact V.allL_mono h cs hv
 | .tup cs,hv=>by simp only [V.all] at hv ⊢; exact V.allL_mono h cs hv
 | .fn _ a b,hv=>by simp only [V.all,cH] at hv ⊢; exact ⟨V.allL_mono h a hv.1,V.allL_mono h b hv.2⟩
theorem V.allL_mono {p q:Nat->Bool} (h:∀ i,p i=true->q i=true):∀ vs:List V,V.allL p vs=true->V.allL q vs=true
 | [],_=>rfl
 | c::cs,hv=>by simp only [V.allL,cH] at hv ⊢; exact ⟨V.all_mono h c hv.1,V.allL_mono h cs hv.2⟩
end
mutual
theorem V.oH (id:Nat) (r:Bool) (cs:List PV):∀ v:V,v.all (fun i=> !(Nat.beq i id))=true->V.pubV id r cs v=v
 | .pv _,_=>rfl
 | .ptr _ _,_=>rfl
 | .osl i _ _,h=>by simp only [V.all,LB] at h;simp only [V.pubV,h,Hh]
 | .tsl i _ _,h=>by simp only [V.all,LB] at h;simp only [V.pubV,h,Hh]
 | .gsl i _ _,h=>by simp only [V.all,LB] at h;simp only [V.pubV,h,Hh]
 | .map _,_=>rfl
 | .agg cs',h=>by simp only [V.all] at h;simp only [V.pubV,V.pubL_out id r cs cs' h]
 | .tup cs',h=>by simp only [V.all] at h;simp only [V.pubV,V.pubL_out id r cs cs' h]
 | .fn _ a b,h=>by simp only [V.all,cH] at h;simp only [V.pubV,V.pubL_out id r cs a h.1,V.pubL_out id r cs b h.2]
theorem V.pubL_out (id:Nat) (r:Bool) (cs:List PV):∀ vs:List V,V.allL (fun i=> !(Nat.beq i id)) vs=true->V.pubL id r cs vs=vs
 | [],_=>rfl
 | c::cs',h=>by simp only [V.allL,cH] at h;simp only [V.pubL,V.oH id r cs c h.1,V.pubL_out id r cs cs' h.2]
end
theorem Ob.oH (id:Nat) (r:Bool) (cs:List PV) {o:Ob} (h:o.all (fun i=> !(Nat.beq i id))=true):o.BF id r cs=o:=by
 cases o with
 | mix t vs=>exact af _ (V.pubL_out id r cs vs h)
 | cells _ _=>rfl
 | gro _ _=>rfl
 | mp _ _=>rfl
 | it _ _=>rfl
 | fro _ _=>rfl
def chM (ls:List (List PV)) (j:Nat):List V:=chV (ls.take j)++chP (ls.drop j)
theorem Dc {id:Nat} {r:Bool} {cs:List PV} (vs:List V):V.pubL id r cs vs=vs.map (V.pubV id r cs):=by
 induction vs with
 | nil=>rfl
 | cons v vs ih=>rw [V.pubL,ih,jt]
theorem GD (ls:List (List PV)) {j:Nat} (h:j<ls.length):V.pubL (j+1000) false ls[j] (chM ls (j+1))=chM ls j:=by
 rw [Dc];unfold chM;have e1:chV (ls.take (j+1))=chV (ls.take j)++[.gsl (j+1000) 1 ls[j].length]:=by
  rw [aR h];simp only [chV,List.zipIdx_append,Ho,On,List.zipIdx_nil,jt,Jl,iP];rw [show 0+min j ls.length=j by omega]
 have e2:chP (ls.drop j)= .pv (.sl none ls[j].length ls[j])::chP (ls.drop (j+1)):=by
  rw [C0 h];rfl
 have h1:(chV (ls.take j)).map (V.pubV (j+1000) false ls[j])=chV (ls.take j):=by
  have:∀ v∈chV (ls.take j),V.pubV (j+1000) false ls[j] v=v:=fun v hv=>by
   unfold chV at hv;obtain ⟨q,hq,rfl⟩:=uF.1 hv;have:=List.mem_zipIdx hq;have h3:=this.2.1;rw [iP] at h3;simp only [V.pubV];rw [y7 OC,Hh]
  rw [Cz this];exact List.map_id' _
 have h2:(chP (ls.drop (j+1))).map (V.pubV (j+1000) false ls[j])=chP (ls.drop (j+1)):=by
  have:∀ v∈chP (ls.drop (j+1)),V.pubV (j+1000) false ls[j] v=v:=fun v hv=>by
   unfold chP at hv;obtain ⟨q,_,rfl⟩:=uF.1 hv;rfl
  rw [Cz this];exact List.map_id' _
 have h3:V.pubV (j+1000) false ls[j] (.gsl (j+1000) 1 ls[j].length)= .pv (.sl none ls[j].length ls[j]):=by
  simp only [V.pubV];rw [beqT O,Kb]
 rw [e1,e2,Ho,Ho,h1,h2,jt,Jl,h3,xJ,List.singleton_append]
theorem St.zC {σ:St} {A:Nat} {TA T:TypeId} (ls:List (List PV)) (hA:A<1000) (hm:ls.length<=1000) (hs:∀ t,(σ.sl t).all (fun i=>Nat.blt i 1000)=true) (ho:∀ i o,σ.ob i=some o->i<1000/\o.all (fun i=>Nat.blt i 1000)=true):
  (ovl σ A TA T (chV ls) ls).le (ovl σ A TA T (chP ls) []):=by
 have vm:∀ (j:Nat) (v:V),v.all (fun i=>Nat.blt i 1000)=true->v.all (fun i=> !(Nat.beq i (j+1000)))=true:=fun j v h=>V.all_mono (fun i hi=>by
  have:=Bo hi;rw [y7 OC];rfl) v h
 have om:∀ (j:Nat) (o:Ob),o.all (fun i=>Nat.blt i 1000)=true->o.all (fun i=> !(Nat.beq i (j+1000)))=true:=fun j o h=>by
  cases o with
  | mix t vs=>exact V.allL_mono (fun i hi=>by
    have:=Bo hi;rw [y7 OC];rfl) vs h
  | cells _ _=>rfl
  | gro _ _=>rfl
  | mp _ _=>rfl
  | it _ _=>rfl
  | fro _ _=>rfl
 have step:∀ j,(h:j<ls.length)->(ovl σ A TA T (chM ls (j+1)) (ls.take (j+1))).le (ovl σ A TA T (chM ls j) (ls.take j)):=by
  intro j h;have hlt:j<(ls.take (j+1)).length:=by rw [iP];omega
  have hfam:=b8 (σ:=σ) (TA:=TA) (T:=T) (cells:=chM ls (j+1)) hA hlt;rw [Lx] at hfam;have hp:=Ir (j+1000) hfam (r:=false) (cs:=ls[j]) O;have e:(ovl σ A TA T (chM ls (j+1)) (ls.take (j+1))).G3 (j+1000) false ls[j]=ovl σ A TA T (chM ls j) (ls.take j):=by
   have e1:(fun t=>V.pubV (j+1000) false ls[j] (σ.sl t))=σ.sl:=funext fun t=>V.oH _ _ _ _ (vm j _ (hs t))
   have e2:∀ i,(bif Nat.beq i (j+1000) then none else ((ovl σ A TA T (chM ls (j+1)) (ls.take (j+1))).ob i).map (Ob.BF (j+1000) false ls[j]))=(ovl σ A TA T (chM ls j) (ls.take j)).ob i:=by
    intro i;by_cases hi:i=j+1000
    ·subst hi;rw [beqT O,Kb,mL hA (by rw [iP];omega)];cases hq:σ.ob (j+1000) with
     | none=>rfl
     | some o=>have:=(ho _ o hq).1;omega
    ·rw [y7 hi,Hh];by_cases hiA:i=A
     ·subst hiA;rw [ph,ph];simp only [LR,Ob.BF];rw [GD ls h]
     ·by_cases h1:i<1000
      ·rw [iV hiA h1,iV hiA h1];cases hq:σ.ob i with
       | none=>rfl
       | some o=>simp only [LR];rw [Ob.oH _ _ _ (om j o (ho i o hq).2)]
      ·by_cases h2:i<j+1000
       ·obtain ⟨q,rfl⟩:∃ q,i=q+1000:=⟨i-1000,OC⟩;rw [b8 hA (by rw [iP];omega),b8 hA (by rw [iP];omega)];simp [Ob.BF,Lx]
       ·rw [mL hA (by rw [iP];omega),mL hA (by rw [iP];omega)];cases hq:σ.ob i with
        | none=>rfl
        | some o=>have:=(ho i o hq).1;omega
   unfold St.G3;show St.mk (fun t=>V.pubV (j+1000) false ls[j] (σ.sl t)) _ _=St.mk σ.sl _ _;rw [e1]
   congr 1
   exact funext e2
  rw [e] at hp;exact hp
 have all:∀ j,j<=ls.length->(ovl σ A TA T (chM ls j) (ls.take j)).le (ovl σ A TA T (chM ls 0) (ls.take 0)):=by
  intro j;induction j with
  | zero=>exact fun _ C n a w h=>h
  | succ j ih=>exact fun h=>(step j h).trans (ih OC)
 have:=all ls.length (qT _);have e1:chM ls ls.length=chV ls:=by unfold chM chP;rw [J4,List.drop_length];simp
 have e2:chM ls 0=chP ls:=by unfold chM;rw [List.take_zero,List.drop_zero];rfl
 rwa [e1,e2,J4,List.take_zero] at this
def rnF (up nw i:Nat):Nat:=bif Nat.beq i (up+1000) then nw else i
theorem b9 {up nw i:Nat} (h:i≠up+1000):rnF up nw i=i:=by unfold rnF;rw [y7 h];rfl
theorem uu (up nw:Nat):rnF up nw (up+1000)=nw:=by unfold rnF;rw [beqT O];rfl
theorem St.ej {σ:St} {l:List (Nat×V)} {os:List (Nat×Ob)} {k A:Nat} {TA T:TypeId} {ls:List (List PV)} (up nw:Nat) (hl:mG σ (rnF up nw) l) (ho:dD σ (rnF up nw) os)
  (hA:σ.ob A=some (.mix TA (V.renL (rnF up nw) (chV ls)))) (hf:∀ j (h:j<ls.length),σ.ob (rnF up nw (j+1000))=some (.gro T ls[j])) (h1:l.all (fun p=>p.2.okA k)=true) (h2:os.all (fun p=>Nat.blt p.1 k&&p.2.okA k)=true)
  (hk:k<=nw) (hn:nw<1000) (hAk:A<k) (hup:up<=1000) (hm:ls.length<=1000):σ.le (ovl (mkS l os k) A TA T (chV ls) ls):=by
 have hbg:big=9000:=rfl;have kb:∀ i,(Nat.blt i k||Nat.ble big i)=true->i<k\/big<=i:=fun i h=>by
  rcases Bool.or_eq_true_iff.1 h with h | h
  ·exact .inl (Bo h)
  ·exact .inr (AI h)
 refine St.Ib (fun i=>decide (i<k)||decide (big<=i)||(decide (1000<=i)&&decide (i<1000+ls.length))) (rnF up nw) ?_ ?_ ?_ ?_ ?_ ?_
 ·exact fC hl
 ·intro t;exact V.all_mono (fun i hi=>by rcases kb i hi with h | h<;>simp [h]) _ (V.fr _ _ (look_ok h1 t))
 ·intro i o h;by_cases e:i=A
  ·subst e;rw [ph] at h;cases h;refine ⟨by rw [b9 OC];exact hA,by simp [hAk],?_⟩;show V.allL _ (chV ls)=true;have:∀ (vs:List V),(∀ v∈vs,V.all (fun i=>decide (i<k)||decide (big<=i)||(decide (1000<=i)&&decide (i<1000+ls.length))) v=true)->V.allL (fun i=>decide (i<k)||decide (big<=i)||(decide (1000<=i)&&decide (i<1000+ls.length))) vs=true:=by
    intro vs;induction vs with
    | nil=>intro _;rfl
    | cons v vs ih=>intro h;simp only [V.allL,cH];exact ⟨h v OG,ih fun w hw=>h w (by simp [hw])⟩
   refine this _ fun v hv=>?_
   unfold chV at hv;obtain ⟨q,hq,rfl⟩:=uF.1 hv;have:=(List.mem_zipIdx hq).2.1;simp only [V.all];rw [x7 (show 1000<=q.2+1000 by omega),x7 (show q.2+1000<1000+ls.length by omega)];simp
  ·by_cases h1000:i<1000
   ·rw [iV e h1000] at h;have hm':=bV h;have h3:=nP.1 h2 _ hm';simp only [cH] at h3;refine ⟨eE ho i o hm',by simp [Bo h3.1],?_⟩;have h4:=Ob.fr k h3.2;cases o with
    | mix t vs=>exact V.allL_mono (fun i hi=>by rcases kb i hi with h | h<;>simp [h]) vs h4
    | cells _ _=>rfl
    | gro _ _=>rfl
    | mp _ _=>rfl
    | it _ _=>rfl
    | fro _ _=>rfl
   ·by_cases h2000:i<1000+ls.length
    ·obtain ⟨j,rfl⟩:∃ j,i=j+1000:=⟨i-1000,OC⟩;have hj:j<ls.length:=OC;rw [b8 OC hj] at h;cases h;refine ⟨hf j hj,?_,O⟩;rw [x7 (show 1000<=j+1000 by omega),x7 (show j+1000<1000+ls.length by omega)];simp
    ·rw [mL OC OC] at h;have hm':=bV h;have h3:=nP.1 h2 _ hm';simp only [cH] at h3;have:=Bo h3.1;omega
 ·intro i j hi hj e;simp only [Jy,cH,AS] at hi hj;by_cases e1:i=up+1000
  ·by_cases e2:j=up+1000
   ·rw [e1,e2]
   ·rw [e1,uu,b9 e2] at e;omega
  ·by_cases e2:j=up+1000
   ·rw [e2,uu,b9 e1] at e;omega
   ·rwa [b9 e1,b9 e2] at e
 ·intro i hi;simp only [Jy,cH,AS] at hi;show (avK k i&&Nat.blt i 1000)=false;rcases hi with (h | h) | h
  ·have:Nat.ble k i=false:=by
    cases hb:Nat.ble k i with
    | false=>rfl
    | true=>have:=AI hb;omega
   unfold avK;rw [this];rfl
  ·rw [dO h];rfl
  ·have:Nat.blt i 1000=false:=by
    cases hb:Nat.blt i 1000 with
    | false=>rfl
    | true=>have:=Bo hb;omega
   rw [this,Bool.and_false]
 ·intro i hi;refine ⟨?_,b9 OC⟩;show (avK k i&&Nat.blt i 1000)=false;rw [dO hi];rfl
theorem kg {ls:List (List PV)} {up:Nat} (hup:up<ls.length) (nw:Nat) (x:PV):V.renL (rnF up nw) (chV (ls.set up (ls[up]++[x])))=(chV ls).set (up*1) (.gsl nw 1 (ls[up].length+1)):=by
 have hr:∀ vs:List V,V.renL (rnF up nw) vs=vs.map (V.ren (rnF up nw)):=by
  intro vs;induction vs with
  | nil=>rfl
  | cons v vs ih=>rw [V.renL,ih,jt]
 rw [hr];apply H2
 ·simp [chV]
 ·intro i h1 h2;simp only [chV,rJ,List.length_zipIdx,tx] at h1;simp only [chV,Kg,List.getElem_zipIdx,J2,ID,Dq,V.ren];by_cases e:up=i
  ·subst e;simp [uu]
  ·rw [ga e,ga e,b9 OC]
def St.mixC (σ:St) (id:Nat) (T:TypeId) (cs:List PV):St:=⟨σ.sl,obL [(id,some (.cells T cs))] σ.ob,σ.av⟩
theorem St.zb {σ:St} {id:Nat} {T:TypeId} {vs:List V} {cs:List PV} (ho:σ.ob id=some (.mix T vs)) (hc:vs=cs.map .pv):σ.le (σ.mixC id T cs):=by
 subst hc;rintro C n a w ⟨m,R,hw⟩;have hs:∀ i,i≠id->obL [(id,some (Ob.cells T cs))] σ.ob i=σ.ob i:=fun i hi=>dJ _ _ _ (by simpa using hi)
 have hi:obL [(id,some (Ob.cells T cs))] σ.ob id=some (.cells T cs):=by simp [obL]
 refine ⟨m,R,⟨?_,?_,?_,hw.hr.inj,hw.hr.own,hw.hr.rsz,hw.hr.rfr,hw.hr.r0,hw.hr.frame,hw.hr.keep,hw.hr.res⟩,hw.df,hw.sz,hw.sl⟩
 ·intro i;by_cases e:i=id
  ·subst e;rw [hw.hr.dom,ho];show _=bl (obL _ _ _);rw [hi];rfl
  ·show _=bl (obL _ _ _);rw [hs i e];exact hw.hr.dom i
 ·intro i h;by_cases e:i=id
  ·subst e;have:=hw.hr.free i h;rw [ho] at this;cases this
  ·show obL _ _ _=none;rw [hs i e];exact hw.hr.free i h
 ·intro i o b N h1 h2;by_cases e:i=id
  ·subst e;have h1':obL [(i,some (Ob.cells T cs))] σ.ob i=some o:=h1;rw [hi] at h1';cases h1';obtain ⟨arr,q1,q2,q3,q4⟩:=hw.hr.obj i _ b N ho h2;rw [rJ] at q3 q4;exact ⟨arr,q1,q2,q3,RelL.toP q4⟩
  ·have h1':obL [(id,some (Ob.cells T cs))] σ.ob i=some o:=h1;rw [hs i e] at h1';exact hw.hr.obj i o b N h1' h2
def St.obC (σ:St) (id:Nat) (o:Ob):St:=⟨σ.sl,obL [(id,some o)] σ.ob,σ.av⟩
theorem St.Ei {σ:St} {id:Nat} {o o':Ob} (ho:σ.ob id=some o) (hre:o'.real=o.real) (h:∀ w m av R b N,lD w m av R b N o->lD w m av R b N o'):σ.le (σ.obC id o'):=by
 rintro C n a w ⟨m,R,hw⟩;have hs:∀ i,i≠id->obL [(id,some o')] σ.ob i=σ.ob i:=fun i hi=>dJ _ _ _ (by simpa using hi)
 have hi:obL [(id,some o')] σ.ob id=some o':=by simp [obL]
 refine ⟨m,R,⟨?_,?_,?_,hw.hr.inj,hw.hr.own,hw.hr.rsz,hw.hr.rfr,hw.hr.r0,hw.hr.frame,hw.hr.keep,hw.hr.res⟩,hw.df,hw.sz,hw.sl⟩
 ·intro i;by_cases e:i=id
  ·subst e;rw [hw.hr.dom,ho];show _=bl (obL _ _ _);rw [hi];exact hre.symm
  ·show _=bl (obL _ _ _);rw [hs i e];exact hw.hr.dom i
 ·intro i h;by_cases e:i=id
  ·subst e;have:=hw.hr.free i h;rw [ho] at this;cases this
  ·show obL _ _ _=none;rw [hs i e];exact hw.hr.free i h
 ·intro i q b N h1 h2;by_cases e:i=id
  ·subst e;have h1':obL [(i,some o')] σ.ob i=some q:=h1;rw [hi] at h1';cases h1';exact h _ _ _ _ _ _ (hw.hr.obj i _ b N ho h2)
  ·have h1':obL [(id,some o')] σ.ob i=some q:=h1;rw [hs i e] at h1';exact hw.hr.obj i q b N h1' h2
theorem St.py {σ:St} {T:TypeId} {cs:List PV} (id:Nat) (ho:σ.ob id=some (.cells T cs)):σ.le (σ.obC id (.mix T (cs.map .pv))):=by
 refine St.Ei ho O fun w m av R b N h=>?_
 obtain ⟨arr,q1,q2,q3,q4⟩:=h;exact ⟨arr,q1,q2,by rw [rJ];exact q3,by rw [rJ];exact RelL.ofP q4⟩
def V.fgV:V->V
 | .pv (.sl _ n cs)=> .pv (.sl none n cs)
 | v=>v
theorem Rel.fgV {w:World} {m:Gm} {av:Av} {R:Nat->Prop}:∀ {v:V} {u:Value},Rel w m av R v u->Rel w m av R v.fgV u:=by
 intro v u h;cases v with
 | pv p=>
   cases p with
   | sl nl n cs=>
     simp only [V.fgV,Rel,RelP] at h ⊢;obtain ⟨A,c,e,h1,h2,_,_,h5⟩:=h;exact ⟨A,c,e,h1,h2,fun _ h=>(by cases h),fun h=>(by cases h),h5⟩
   | _=>exact h
 | _=>exact h
theorem RelL.fgV {w:World} {m:Gm} {av:Av} {R:Nat->Prop}:∀ {vs:List V} {us:List Value},RelL w m av R vs us->RelL w m av R (vs.map V.fgV) us
 | [],_,h=>h
 | v::vs,us,h=>by
   simp only [RelL] at h;obtain ⟨u,us',rfl,h1,h2⟩:=h;simp only [jt,RelL];exact ⟨u,us',O,h1.fgV,RelL.fgV h2⟩
theorem St.uB {σ:St} {T:TypeId} {vs:List V} (id:Nat) (ho:σ.ob id=some (.mix T vs)):σ.le (σ.obC id (.mix T (vs.map V.fgV))):=by
 refine St.Ei ho O fun w m av R b N h=>?_
 obtain ⟨arr,q1,q2,q3,q4⟩:=h;exact ⟨arr,q1,q2,by rw [rJ];exact q3,by rw [rJ];exact RelL.fgV q4⟩
theorem eQ {ls:List (List PV)} {up:Nat} (nw:Nat) (h:ls.length<=up):V.renL (rnF up nw) (chV ls)=chV ls:=by
 have hr:∀ vs:List V,V.renL (rnF up nw) vs=vs.map (V.ren (rnF up nw)):=by
  intro vs;induction vs with
  | nil=>rfl
  | cons v vs ih=>rw [V.renL,ih,jt]
 rw [hr];have:∀ v∈chV ls,V.ren (rnF up nw) v=v:=fun v hv=>by
  unfold chV at hv;obtain ⟨q,hq,rfl⟩:=uF.1 hv;have:=(List.mem_zipIdx hq).2.1;simp only [V.ren];rw [b9 OC]
 rw [Cz this];exact List.map_id' _
theorem xN {k i:Nat} (hk:k<=1000) (h1:1000<=i) (h2:i<2000):avK k i=true:=by
 unfold avK;rw [LH (show k<=i by omega),bltT (show i<big from by show i<9000;omega)];rfl
end
section
def pcN (k n:Nat):Nat:=(List.range k).countP fun i=>n.testBit i
theorem tZ (k n:Nat):pcN (k+1) n=n%2+pcN k (n/2):=by
 unfold pcN;rw [List.range_succ_eq_map,List.countP_cons,List.countP_map];have e:((fun i=>n.testBit i)∘Nat.succ)=fun i=>(n/2).testBit i:=by
  funext i;simp [Nat.testBit_succ]
 rw [e,LL]
 congr 1
 rw [Nat.testBit_zero];rcases Nat.mod_two_eq_zero_or_one n with h | h<;>simp [h]
theorem qC {n:Nat} (h:n≠0):(n&&&(n-1))%2=0/\(n&&&(n-1))/2=if n%2=0 then (n/2)&&&(n/2-1) else n/2:=by
 constructor
 ·have:=Nat.and_mod_two_pow (a:=n) (b:=n-1) (n:=1);simp only [Nat.pow_one] at this;rw [this];rcases Nat.mod_two_eq_zero_or_one n with e | e
  ·rw [e];simp
  ·rw [e,show (n-1)%2=0 by omega];simp
 ·have:(n&&&(n-1))/2=n/2&&&(n-1)/2:=by
   apply Nat.eq_of_testBit_eq;intro i;rw [<-Nat.testBit_succ,Nat.testBit_and,Nat.testBit_and,Nat.testBit_succ,Nat.testBit_succ]
  rw [this];split
  ·rw [show (n-1)/2=n/2-1 by omega]
  ·rw [show (n-1)/2=n/2 by omega,Nat.and_self]
theorem vk:∀ k n,n<2^k->n≠0->pcN k (n&&&(n-1))+1=pcN k n
 | 0,n,h,h0=>by simp at h;omega
 | k+1,n,h,h0=>by
   rw [tZ,tZ];obtain ⟨h1,h2⟩:=qC h0;rw [h1,h2];split
   ·rename_i e;have:=vk k (n/2) (by rw [Kz] at h;omega) OC;omega
   ·omega
theorem Dp {x:B64} (h:x≠0#64):cC (x&&&(x-1#64))+1=cC x:=by
 have h0:x.toNat≠0:=fun e=>h (BitVec.eq_of_toNat_eq (by simpa using e))
 have hl:=x.isLt;have e:(x&&&(x-1#64)).toNat=x.toNat&&&(x.toNat-1):=by
  rw [BitVec.toNat_and,BitVec.toNat_sub]
  congr 1
  simp;omega
 have:=vk 64 x.toNat hl h0;rw [<-e] at this;exact this
theorem Ac {n:Nat} (hn:n<=63):cC (gI n)=n:=by
 unfold cC;have:∀ k,(List.range k).countP (fun i=>(gI n).getLsbD i)=min k n:=by
  intro k;induction k with
  | zero=>simp
  | succ k ih=>
    rw [LF,List.countP_append,ih,List.countP_singleton,fB OC];by_cases h:k<n
    ·simp [h];omega
    ·simp [h];omega
 rw [this];omega
theorem C2 {x y:B64} (h:∀ i,x.getLsbD i=true->y.getLsbD i=true):cC x<=cC y:=by
 unfold cC;exact List.countP_mono_left fun i _ hi=>h i hi
theorem n5 {x:B64} {i:Nat} (h:x.getLsbD i=true):0<cC x:=by
 unfold cC;rw [List.countP_pos_iff];exact ⟨i,Hq.2 (cq h),h⟩
noncomputable def widW (p:B64->Nat) (G:List B64) (rest:B64):Nat:=(compsN G rest G.length).1.foldl (fun m c=>max m (p c)) 0
noncomputable def minW (w:B64->Nat) (G:List B64) (c:B64) (k:Nat):Nat:=(List.range k).foldl (fun m a=>if c.getLsbD a=true then min m (w (c&&& ~~~(BitVec.twoPow 64 a))) else m) (G.length+1)
noncomputable def nearB (G:List B64) (c:B64):B64:=bitsOf fun i=>(List.range G.length).any fun b=>c.getLsbD b&&(G.getD b 0#64).getLsbD i
noncomputable def keyN (G:List B64) (c:B64):Nat:=cC (nearB G c&&& ~~~c)
noncomputable def parF (G:List B64):Nat->B64->Nat
 | 0,_=>0
 | f+1,c=>max (minW (widW (parF G f) G) G c G.length) (keyN G c+1)
theorem Au (G:List B64) (f:Nat) (c:B64):parF G (f+1) c=max (minW (widW (parF G f) G) G c G.length) (keyN G c+1):=rfl
noncomputable def partV (G:List B64) (c:B64):Nat:=parF G 64 c
noncomputable def widV (G:List B64) (rest:B64):Nat:=widW (partV G) G rest
theorem max_le_iff {p:B64->Nat} {b:Nat}:∀ {l:List B64} {z:Nat},l.foldl (fun m c=>max m (p c)) z<=b↔z<=b/\∀ c∈l,p c<=b
 | [],z=>by simp
 | c::l,z=>by
   rw [FE,max_le_iff];constructor
   ·rintro ⟨h1,h2⟩;exact ⟨OC,fun d hd=>by rcases k6.1 hd with rfl | hd;omega;exact h2 d hd⟩
   ·rintro ⟨h1,h2⟩;exact ⟨by have:=h2 c OG;omega,fun d hd=>h2 d (by simp [hd])⟩
theorem lj {p q:B64->Nat}:∀ {l:List B64} {z:Nat},(∀ c∈l,p c=q c)->l.foldl (fun m c=>max m (p c)) z=l.foldl (fun m c=>max m (q c)) z
 | [],_,_=>rfl
 | c::l,z,h=>by rw [FE,FE,h c OG,lj fun d hd=>h d (by simp [hd])]
theorem iw (w:B64->Nat) (G:List B64) (c:B64) (k:Nat):minW w G c (k+1)=if c.getLsbD k=true then min (minW w G c k) (w (c&&& ~~~(BitVec.twoPow 64 k))) else minW w G c k:=by
 unfold minW;rw [LF,J0];rfl
theorem iJ {w w':B64->Nat} {G:List B64} {c:B64}:∀ {k:Nat},(∀ a,a<k->c.getLsbD a=true->w (c&&& ~~~(BitVec.twoPow 64 a))=w' (c&&& ~~~(BitVec.twoPow 64 a)))->minW w G c k=minW w' G c k
 | 0,_=>rfl
 | k+1,h=>by
   rw [iw,iw,iJ fun a ha=>h a OC];split
   ·rename_i hk;rw [h k OC hk]
   ·rfl
theorem gh {w:B64->Nat} {G:List B64} {c:B64} {b:Nat}:∀ {k:Nat},minW w G c k<=b↔G.length+1<=b\/∃ a,a<k/\c.getLsbD a=true/\w (c&&& ~~~(BitVec.twoPow 64 a))<=b
 | 0=>by
   constructor
   ·exact fun h=> .inl h
   ·rintro (h | ⟨a,h,_⟩)
    ·exact h
    ·omega
 | k+1=>by
   rw [iw];split
   ·rename_i hk;constructor
    ·intro h;by_cases h1:minW w G c k<=b
     ·rcases gh.1 h1 with h2 | ⟨a,h2,h3⟩
      ·exact .inl h2
      ·exact .inr ⟨a,OC,h3⟩
     ·exact .inr ⟨k,OC,hk,OC⟩
    ·rintro (h | ⟨a,h1,h2,h3⟩)
     ·have:=gh (w:=w) (G:=G) (c:=c) (k:=k).2 (.inl h);omega
     ·by_cases e:a=k
      ·subst e;omega
      ·have:=gh (w:=w) (G:=G) (c:=c) (k:=k).2 (.inr ⟨a,OC,h2,h3⟩);omega
   ·rename_i hk;rw [gh];constructor
    ·rintro (h | ⟨a,h1,h2⟩)
     ·exact .inl h
     ·exact .inr ⟨a,OC,h2⟩
    ·rintro (h | ⟨a,h1,h2,h3⟩)
     ·exact .inl h
     ·exact .inr ⟨a,by by_cases e:a=k;subst e;exact absurd h2 hk;omega,h2,h3⟩
structure GOk (G:List B64):Prop where
 n:G.length<=12
 sym:∀ a b,eu G a b->eu G b a
 lt:∀ a b,eu G a b->b<G.length
def InB (n:Nat) (c:B64):Prop:=∀ i,c.getLsbD i=true->i<n
theorem InB.diff {n:Nat} {c:B64} (h:InB n c) (a:Nat):InB n (c&&& ~~~(BitVec.twoPow 64 a)):=fun i hi=>by
 rw [bA,cH] at hi;exact h i hi.1
section
variable {G:List B64} (hG:GOk G)
include hG
theorem BT (c:B64) (i:Nat):(nearB G c).getLsbD i=true↔∃ b,c.getLsbD b=true/\eu G b i:=by
 by_cases hi:i<64
 ·unfold nearB;rw [fN _ hi,IF];constructor
  ·rintro ⟨b,_,h⟩;rw [cH] at h;exact ⟨b,h⟩
  ·rintro ⟨b,h1,h2⟩;refine ⟨b,Hq.2 ?_,by rw [cH];exact ⟨h1,h2⟩⟩;exact hG.lt _ _ (hG.sym _ _ h2)
 ·constructor
  ·intro h;exact absurd (cq h) hi
  ·rintro ⟨b,_,h⟩;have:=hG.lt _ _ h;have:=hG.n;omega
theorem oW (rest:B64) {a:Nat} (ha:rest.getLsbD a=true):Comp (eu G) rest (compB G rest a)/\(compB G rest a).getLsbD a=true:=by
 have hac:(compB G rest a).getLsbD a=true:=(eH (cq ha)).2 .refl;have hcl:∀ i j,(compB G rest a).getLsbD i=true->eu G i j->rest.getLsbD j=true->(compB G rest a).getLsbD j=true:=fun i j h1 h2 h3=>(eH (cq h3)).2 (.step (dG h1) h2 h3)
 have one:∀ i,(compB G rest a).getLsbD i=true->Path (eu G) (fun x=>(compB G rest a).getLsbD x=true) a i:=fun i hi=>
  ((ma.1 (dG hi)).stay (inn:=fun x=>(compB G rest a).getLsbD x=true) hac hcl).1.mono fun c hc=>hc.2
 exact ⟨⟨fun i hi=>kr ha hi,hcl,fun i j hi hj=>((one i hi).symm hG.sym hac).trans (one j hj),a,hac⟩,hac⟩
omit hG in
theorem oV {adj:Nat->Nat->Prop} {rest c:B64} (hc:Comp adj rest c) {i j:Nat} (hi:c.getLsbD i=true) {ok:Nat->Prop} (hok:∀ x,ok x->rest.getLsbD x=true) (h:Path adj ok i j):c.getLsbD j=true:=by
 induction h with
 | refl=>exact hi
 | step _ h1 h2 ih=>exact hc.clo _ _ ih h1 (hok _ h2)
omit hG in
theorem x6 {adj:Nat->Nat->Prop} {rest c d:B64} (hc:Comp adj rest c) (hd:Comp adj rest d) {i:Nat} (h1:c.getLsbD i=true) (h2:d.getLsbD i=true):c=d:=by
 apply Ku;intro j _;rw [BY];exact ⟨fun h=>oV hd h2 hc.sub (hc.con i j h1 h),fun h=>oV hc h1 hd.sub (hd.con i j h2 h)⟩
theorem fm {rest:B64} (hr:InB G.length rest) {d:B64}:d∈(compsN G rest G.length).1↔Comp (eu G) rest d:=by
 have h:=kT G rest hG.sym G.length;have hsub:=(ky G rest G.length).1;refine ⟨h.all d,fun hd=>?_⟩;obtain ⟨i,hi⟩:=hd.ne;have hir:=hd.sub i hi;rcases (h.cov i).1 hir with h1 | ⟨c,hc,h1⟩
 ·exact absurd h1 (h.low i (hr i hir))
 ·have:=x6 (h.all c hc) hd h1 hi;subst this;exact hc
theorem nc {rest:B64} (hr:InB G.length rest) {p:B64->Nat} {b:Nat}:widW p G rest<=b↔∀ d,Comp (eu G) rest d->p d<=b:=by
 unfold widW;rw [max_le_iff];exact ⟨fun h d hd=>h.2 d ((fm hG hr).2 hd),fun h=>⟨eF _,fun c hc=>h c ((fm hG hr).1 hc)⟩⟩
theorem uU:∀ (f f':Nat) (c:B64),InB G.length c->(∃ i,c.getLsbD i=true)->cC c<=f->cC c<=f'->parF G f c=parF G f' c
 | 0,_,c,_,⟨i,hi⟩,h,_=>by have:=n5 hi;omega
 | _+1,0,c,_,⟨i,hi⟩,_,h=>by have:=n5 hi;omega
 | f+1,f'+1,c,hn,_,h1,h2=>by
   simp only [parF]
   congr 1
   refine iJ fun a _ hca=>?_
   refine lj fun d hd=>?_
   have hD:=(fm hG (hn.diff a)).1 hd;have hlt:cC d<cC c:=pb (fun i hi=>by have:=hD.sub i hi;rw [bA,cH] at this;exact this.1) (j:=a) (by
    cases e:d.getLsbD a with
    | false=>rfl
    | true=>have:=hD.sub a e;rw [bA] at this;simp at this) hca
   exact uU f f' d (fun i hi=>hn.diff a i (hD.sub i hi)) hD.ne OC OC
theorem sc {c:B64} (hn:InB G.length c) (hne:∃ i,c.getLsbD i=true):partV G c=max (minW (widV G) G c G.length) (keyN G c+1):=by
 unfold partV;rw [show (64:Nat)=63+1 from O,Au];refine af (fun z=>max z (keyN G c+1)) ?_;refine iJ fun a _ hca=>?_
 refine lj fun d hd=>?_
 have hD:=(fm hG (hn.diff a)).1 hd;have hlt:cC d<cC c:=pb (fun i hi=>by have:=hD.sub i hi;rw [bA,cH] at this;exact this.1) (j:=a) (by
  cases e:d.getLsbD a with
  | false=>rfl
  | true=>have:=hD.sub a e;rw [bA] at this;simp at this) hca
 have:=jk c;exact uU hG 63 64 d (fun i hi=>hn.diff a i (hD.sub i hi)) hD.ne OC OC
theorem n9 {c d:B64} {a:Nat} (hD:Comp (eu G) (c&&& ~~~(BitVec.twoPow 64 a)) d):(∀ i,d.getLsbD i=true->c.getLsbD i=true)/\d.getLsbD a=false:=by
 have _:=hG.n;refine ⟨fun i hi=>?_,?_⟩
 ·have:=hD.sub i hi;rw [bA,cH] at this;exact this.1
 ·cases e:d.getLsbD a with
  | false=>rfl
  | true=>have:=hD.sub a e;rw [bA] at this;simp at this
theorem sM:∀ (k:Nat) (c:B64),cC c<=k->InB G.length c->(∃ i,c.getLsbD i=true)->partV G c<=G.length
 | 0,c,h,_,⟨i,hi⟩=>by have:=n5 hi;omega
 | k+1,c,h,hn,⟨i,hi⟩=>by
   rw [sc hG hn ⟨i,hi⟩];have h1:minW (widV G) G c G.length<=G.length:=gh.2 (.inr ⟨i,hn i hi,hi,(nc hG (hn.diff i)).2 fun d hd=>by
    have hs:=n9 hG hd;have:=pb hs.1 hs.2 hi;exact sM k d OC (fun j hj=>hn j (hs.1 j hj)) hd.ne⟩)
   have h2:keyN G c+1<=G.length:=by
    have h12:=hG.n;have:cC (nearB G c&&& ~~~c)<cC (gI G.length):=pb (fun j hj=>by
     rw [fa,BT hG] at hj;obtain ⟨⟨b,_,hb⟩,_⟩:=hj;rw [fB OC,BX];exact hG.lt _ _ hb) (j:=i) (by
     cases e:(nearB G c&&& ~~~c).getLsbD i with
     | false=>rfl
     | true=>rw [fa] at e;exact absurd hi e.2) (by rw [fB OC,BX];exact hn i hi)
    rw [Ac OC] at this;exact this
   omega
theorem HT {rest:B64} (hr:InB G.length rest):widV G rest<=G.length:=(nc hG hr).2 fun d hd=>sM hG (cC d) d (qT _) (fun i hi=>hr i (hd.sub i hi)) hd.ne
theorem wW {rest c d:B64} {a:Nat} (hc:Comp (eu G) rest c) (hca:c.getLsbD a=true):
  Comp (eu G) (rest&&& ~~~(BitVec.twoPow 64 a)) d↔(Comp (eu G) rest d/\d.getLsbD a=false)\/Comp (eu G) (c&&& ~~~(BitVec.twoPow 64 a)) d:=by
 have hbit:∀ (x:B64) (i:Nat),(x&&& ~~~(BitVec.twoPow 64 a)).getLsbD i=true↔x.getLsbD i=true/\a≠i:=fun x i=>by rw [bA,cH,BX]
 constructor
 ·intro hd;have hs:=n9 hG hd;obtain ⟨i,hi⟩:=hd.ne;by_cases hic:c.getLsbD i=true
  ·right
   have hdc:∀ j,d.getLsbD j=true->c.getLsbD j=true:=fun j hj=>oV hc hic hs.1 (hd.con i j hi hj)
   refine ⟨fun j hj=>(hbit c j).2 ⟨hdc j hj,fun e=>by subst e;rw [hs.2] at hj;cases hj⟩,fun x j hx hj hjc=>?_,hd.con,⟨i,hi⟩⟩;have:=(hbit c j).1 hjc;exact hd.clo x j hx hj ((hbit rest j).2 ⟨hc.sub j this.1,this.2⟩)
  ·left
   have hno:∀ j,d.getLsbD j=true->¬ c.getLsbD j=true:=fun j hj hcj=>hic (oV hc hcj hs.1 (hd.con j i hj hi))
   refine ⟨⟨hs.1,fun x j hx hj hjr=>?_,hd.con,⟨i,hi⟩⟩,hs.2⟩;refine hd.clo x j hx hj ((hbit rest j).2 ⟨hjr,fun e=>?_⟩);subst e;exact hno x hx (hc.clo _ x hca (hG.sym _ _ hj) (hs.1 x hx))
 ·rintro (⟨hd,hda⟩ | hd)
  ·refine ⟨fun j hj=>(hbit rest j).2 ⟨hd.sub j hj,fun e=>by subst e;rw [hda] at hj;cases hj⟩,fun x j hx hj hjr=>hd.clo x j hx hj ((hbit rest j).1 hjr).1,hd.con,hd.ne⟩
  ·have hs:=n9 hG hd;refine ⟨fun j hj=>(hbit rest j).2 ⟨hc.sub j (hs.1 j hj),fun e=>by subst e;rw [hs.2] at hj;cases hj⟩,fun x j hx hj hjr=>?_,hd.con,hd.ne⟩;have:=(hbit rest j).1 hjr;exact hd.clo x j hx hj ((hbit c j).2 ⟨hc.clo x j (hs.1 x hx) hj this.1,this.2⟩)
theorem Gw {rest:B64} (hr:InB G.length rest) {a b:Nat} (ha:rest.getLsbD a=true) (h1:widV G rest<=b) (h2:widV G (compB G rest a&&& ~~~(BitVec.twoPow 64 a))<=b):widV G (rest&&& ~~~(BitVec.twoPow 64 a))<=b:=by
 obtain ⟨hc,hca⟩:=oW hG rest ha;refine (nc hG (hr.diff a)).2 fun d hd=>?_
 rcases (wW hG hc hca).1 hd with ⟨h,_⟩ | h
 ·exact (nc hG hr).1 h1 d h
 ·exact (nc hG (InB.diff (fun i hi=>hr i (hc.sub i hi)) a)).1 h2 d h
theorem xp {rest:B64} (hr:InB G.length rest) {b:Nat} (hne:∃ i,rest.getLsbD i=true) (h:widV G rest<=b):∃ a,a<G.length/\rest.getLsbD a=true/\widV G (compB G rest a&&& ~~~(BitVec.twoPow 64 a))<=b:=by
 obtain ⟨i,hi⟩:=hne;obtain ⟨hc,hci⟩:=oW hG rest hi;have hcn:InB G.length (compB G rest i):=fun j hj=>hr j (hc.sub j hj)
 have hp:=(nc hG hr).1 h _ hc;rw [sc hG hcn hc.ne] at hp;obtain ⟨a,h1,h2,h3⟩:∃ a,a<G.length/\(compB G rest i).getLsbD a=true/\widV G (compB G rest i&&& ~~~(BitVec.twoPow 64 a))<=b:=by
  rcases gh.1 (uv (Nat.le_max_left _ _) hp) with h1 | h1
  ·exact ⟨i,hr i hi,hci,uv (HT hG (hcn.diff i)) OC⟩
  ·exact h1
 have har:=hc.sub a h2;have:=oW hG rest har;refine ⟨a,h1,har,?_⟩;rw [x6 this.1 hc this.2 h2];exact h3
end
noncomputable def leastF (G:List B64) (most:Nat):Nat->B64->List Int
 | 0,_=>[]
 | f+1,rest=>match (List.range G.length).find? (fun a=>rest.getLsbD a&&decide (widV G (compB G rest a&&& ~~~(BitVec.twoPow 64 a))<=most)) with
   | some a=>(a:Int)::leastF G most f (rest&&& ~~~(BitVec.twoPow 64 a))
   | none=>[]
noncomputable def leastL (G:List B64):List Int:=leastF G (widV G (gI G.length)) G.length (gI G.length)
theorem jK {x:B64} {a:Nat} (h:x.getLsbD a=true):cC (x&&& ~~~(BitVec.twoPow 64 a))+1=cC x:=by
 unfold cC;have key:∀ k,(List.range k).countP (fun i=>(x&&& ~~~(BitVec.twoPow 64 a)).getLsbD i)+(if a<k then 1 else 0)=(List.range k).countP fun i=>x.getLsbD i:=by
  intro k;induction k with
  | zero=>simp
  | succ k ih=>
    rw [LF,List.countP_append,List.countP_append,<-ih,List.countP_singleton,List.countP_singleton,bA];by_cases e:a=k
    ·subst e;simp [h]
    ·by_cases h2:x.getLsbD k=true
     ·by_cases h3:a<k
      ·simp [h2,e,h3,Nat.lt_succ_of_lt h3]<;>omega
      ·simp [h2,e,h3,show ¬ a<k+1 by omega]
     ·by_cases h3:a<k
      ·simp [h2,h3,Nat.lt_succ_of_lt h3]
      ·simp [h2,h3,show ¬ a<k+1 by omega]
 have:=key 64;rw [og (cq h)] at this;exact this
end
section
open Mk
theorem qI (x:B64):FnP Tryz.prog 252 [bz x] (· = .int .i64 (cC x)):=by
 refine FnP.of func252 O ntmps252 OG fun m0 w0 F R0=>?_
 refine Z1 O O<|Z1 O O ?_;refine Gl O (st:=fun x_0:B64×Nat=>mkS [(0,.pv (bz x_0.1)),(3,.pv (.int .i64 x_0.2))] [] 0)
  (I:=fun x_0=>x_0.2+cC x_0.1=cC x) (μ:=fun x_0=>cC x_0.1) (x0:=(x,0)) (Io (aS O) trivial O O) OG ?_
 rintro ⟨y,k⟩ hk;try simp only at hk ⊢
 have h64:=jk x;refine Z1 O O<|Rs 5 O O (nA (Y:=0#64) O O) ?_;refine Gp O O (fun hc5=>?_) (fun hc5=>?_)
 ·have hp:=Dp hc5;exact Il<|Z3 O O O O<|Z2 O O O<|Rs 8 O O (zx (Y:=1#64) O O)<|Rs 9 O O (nK O O)<|A1 O<|⟨(y&&&(y-1#64),k+1),Io (aS O) trivial O O,OI,OI⟩
 ·have hz:y=0#64:=CP hc5;subst hz;exact Gx O<|Z2 O O O<|Gt O<|⟨_,_,O,O,by rw [<-hk];rfl⟩
theorem A7 (G:List B64) (hG:GOk G) (c:B64):FnP Tryz.prog 221 [bS G,bz c] (· = .int .i64 (keyN G c)):=by
 refine FnP.of func221 O ntmps221 OG fun m0 w0 F R0=>?_
 have h12:=hG.n;refine Z1 O O<|Z1 O O<|Z3 O O O O ?_;refine Gl O (st:=fun x_0:Nat×B64=>mkS [(1,.pv (bz c)),(5,.pv (bz x_0.2)),(8,.pv (bS G)),(9,.pv (.int .i64 G.length)),(10,.pv (.int .i64 x_0.1))] [] 0)
  (I:=fun x_0=>x_0.1<=G.length/\∀ i,x_0.2.getLsbD i=(List.range x_0.1).any fun b=>c.getLsbD b&&(G.getD b 0#64).getLsbD i) (μ:=fun x_0=>G.length-x_0.1) (x0:=(0,0#64)) (Io (aS O) trivial O O) (⟨eF _,fun c=>by simp⟩) ?_
 rintro ⟨k,near⟩ ⟨hk,hnear⟩;try simp only at hk hnear ⊢
 refine Z1 O O ?_;refine Gp O O (fun hc11=>?_) (fun hc11=>?_)
 ·have hlt:k<G.length:=OC;have hv:=fJ hlt;have hne:=gN hlt;refine Il<|Z2 O O O ?_;first | refine A2 O OF ?_ | refine A1 O ?_
  refine Y2 O O<|Z2 O O O<|Rs 17 O O (ae call130 (lr c k OC) O) ?_;refine Gc O O (fun hc17=>?_) (fun hc17=>?_)
  ·exact Z2 O O O<|Rs 20 O O (kW O O)<|A1 O<|Z2 O O O<|⟨(k+1,near|||G[k]),Io (aS O) trivial O O,⟨OI,fun i=>(ir (hnear i) hlt).1 hc17⟩,OI⟩
  ·exact Il<|Z2 O O O<|⟨(k+1,near),Io (aS O) trivial O O,⟨OI,fun i=>(ir (hnear i) hlt).2 hc17⟩,OI⟩
 ·have hkG:k=G.length:=OC;rw [hkG] at hnear;have hnb:near=nearB G c:=by apply Ku;intro i hi;unfold nearB;rw [fN _ hi,hnear]
  subst hnb;exact Gx O<|Z2 O O O<|Rs 24 O O (tm O O)<|Rs 25 O O (ae call252 (qI _) O)<|A1 O<|Gt O<|⟨_,_,O,O,O⟩
abbrev Bq (M:List (B64×Nat)):Ob:= .mp (M.map fun p=>bz p.1) (M.map fun p=> .int .i64 (p.2:Int))
def np (G:List B64) (M:List (B64×Nat)):Prop:=∀ p∈M,p.2=partV G p.1
abbrev finV (G:List B64):V:= .agg [.pv (bS G),.map big]
theorem CO (x y:B64):keq (bz x) (bz y)=some (decide (x=y)):=by
 simp only [keq,bz];show some (_==_)=_;rw [nt]
theorem gP (c:B64):∀ (M:List (B64×Nat)) (i:Nat),(∃ r,eG (bz c) (M.map fun p=>bz p.1) i=some r)/\(eG (bz c) (M.map fun p=>bz p.1) i=some none->∀ p∈M,p.1≠c)/\(∀ j,eG (bz c) (M.map fun p=>bz p.1) i=some (some j)->i<=j/\∃ w,M[j-i]? =some (c,w))
 | [],i=>⟨⟨none,O⟩,fun _=>by simp,fun j h=>by simp [eG] at h⟩
 | p::M,i=>by
   obtain ⟨h1,h2,h3⟩:=gP c M (i+1);simp only [jt,eG,CO];by_cases e:c=p.1
   ·rw [x7 e];refine ⟨⟨_,O⟩,fun h=>by simp at h,fun j h=>?_⟩;simp at h;subst h;exact ⟨qT _,p.2,by simp [e]⟩
   ·rw [Et e];refine ⟨h1,fun h q hq=>?_,fun j h=>?_⟩
    ·rcases k6.1 hq with rfl | hq
     ·exact fun e'=>e e'.symm
     ·exact h2 h q hq
    ·obtain ⟨h4,w,h5⟩:=h3 j h;exact ⟨OC,w,by rw [show j-i=(j-(i+1))+1 by omega];simpa using h5⟩
theorem zU {G:List B64} {M:List (B64×Nat)} (hM:np G M) (c:B64):qH (bz c) (M.map fun p=>bz p.1) (M.map fun p=> .int .i64 (p.2:Int))=some (if ∃ p∈M,p.1=c then some (.int .i64 (partV G c)) else none):=by
 obtain ⟨⟨r,h1⟩,h2,h3⟩:=gP c M 0;unfold qH;rw [h1];cases r with
 | none=>
   have:=h2 h1;rw [ga (fun ⟨p,hp,e⟩=>this p hp e)]
 | some j=>
   obtain ⟨_,w,h4⟩:=h3 j h1;simp only [Ox] at h4;have hm:=Ke h4;rw [og ⟨_,hm,O⟩];have hw:w=partV G c:=hM _ hm;simp [h4,hw]
theorem BS {G:List B64} {M:List (B64×Nat)} (hM:np G M) (c:B64):∃ M',np G M'/\s6 (bz c) (M.map fun p=>bz p.1)=M'.map (fun p=>bz p.1)/\tg (bz c) (.int .i64 (partV G c:Nat)) (M.map fun p=>bz p.1) (M.map fun p=> .int .i64 (p.2:Int))=M'.map fun p=> .int .i64 (p.2:Int):=by
 obtain ⟨⟨r,h1⟩,_,_⟩:=gP c M 0;unfold s6 tg;rw [h1];cases r with
 | none=>
   refine ⟨M++[(c,partV G c)],fun p hp=>?_,OG,OG⟩;rcases my.1 hp with h | h
   ·exact hM p h
   ·rw [fe.1 h]
 | some j=>
   refine ⟨M.set j (c,partV G c),fun p hp=>?_,by simp [Kx],by simp [Kx]⟩;rcases JS hp with h | h
   ·exact hM p h
   ·rw [h]
theorem xR (a b:Nat):(if (b:Int)>(a:Int) then (b:Int) else (a:Int))=((max a b:Nat):Int):=by split<;>omega
theorem EZ (a b:Nat):(if (b:Int)<(a:Int) then (b:Int) else (a:Int))=((min a b:Nat):Int):=by split<;>omega
def QW (G:List B64) (x:Nat) (v:V) (ob':Nat->Option Ob):Prop:=∃ M',np G M'/\v= .pv (.int .i64 (x:Int))/\ob'=ar [(big,Bq M')]
def AF (P:Program) (f:FuncId) (G:List B64) (rest:B64) (x:Nat):Prop:=∀ M,np G M->FnO P f 1 0 [finV G,.pv (bz rest)] [(big,Bq M)] (QW G x)
theorem ux (G:List B64) (hG:GOk G) (rest:B64) (hr:InB G.length rest) (hp:∀ d,Comp (eu G) rest d->AF Tryz.prog 183 G d (partV G d)):AF Tryz.prog 129 G rest (widV G rest):=by
 intro M hM;refine FnO.of func129 O ntmps129 OG fun m0 w0 F R0=>?_
 have h12:=hG.n;have hcs:=lO G h12 rest;have hmem:=fun d=>fm hG hr (d:=d)
 have hwd:widV G rest=(compsN G rest G.length).1.foldl (fun z c=>max z (partV G c)) 0:=rfl;have hcl:=gU G rest G.length;generalize (compsN G rest G.length).1=cs at*;have hbd:∀ d∈cs,partV G d<=12:=fun d hd=>uv (sM hG _ d (qT _) (fun i hi=>hr i (((hmem d).1 hd).sub i hi)) ((hmem d).1 hd).ne) h12
 refine Z2 O O O<|Z1 O O<|Z3 O O O O<|Rs 11 O O (ae call182 hcs O)<|Y2 O O ?_;refine Gl O (st:=fun x_0:Nat×Nat×List (B64×Nat)=>mkS [(2,.ptr 0 0),(5,.pv (.int .i64 x_0.2.1)),(11,.pv (bS cs)),(12,.pv (.int .i64 cs.length)),(13,.pv (.int .i64 x_0.1))] [(big,Bq x_0.2.2),(0,.mix 190 [.pv (bS G),.map big])] 1)
  (I:=fun x_0=>x_0.1<=cs.length/\x_0.2.1=(cs.take x_0.1).foldl (fun z c=>max z (partV G c)) 0/\np G x_0.2.2) (μ:=fun x_0=>cs.length-x_0.1) (x0:=(0,0,M)) (Io (aS O) (aO O) O O) (⟨eF _,O,hM⟩) ?_
 rintro ⟨k,m,M2⟩ ⟨hk,hm,hM2⟩;try simp only at hk hm hM2 ⊢
 refine Z1 O O ?_;refine Gp O O (fun hc14=>?_) (fun hc14=>?_)
 ·have hlt:k<cs.length:=OC;have hv:=fJ hlt;have hne:=gN hlt;have hpk:=hp cs[k] ((hmem _).1 (aJ hlt)) M2 hM2;have hfd:(cs.take (k+1)).foldl (fun z c=>max z (partV G c)) 0=max m (partV G cs[k]):=by rw [bT hlt,J0,<-hm];rfl
  refine Il<|Z1 O O ?_;first | refine A2 O OF ?_ | refine A1 O ?_
  refine A1 O<|Z3 O O O O ?_;refine RL.call O (fA [big] 0 call183 hpk O O O O ⟨O,OK⟩ OE O ?_);rintro _ _ ⟨M3,hM3,rfl,rfl⟩;exact Y2 O O<|Z2 O O O<|⟨(k+1,max m (partV G cs[k]),M3),Io ⟨O,af (fun z=>V.pv (.int .i64 z)) (xR _ _),O,O,O,OK⟩ (aO O) O O,⟨OI,hfd.symm,hM3⟩,OI⟩
 ·rw [bk OC,<-hwd] at hm;subst hm;exact Gx O<|Z2 O O O<|Gt O<|⟨[(4,.pv (.int .i64 (widV G rest:Nat)))],[(big,Bq M2)],[.pv (.int .i64 (widV G rest:Nat))],Io (aS O) (aO O) O O,O,O,O,M2,hM2,O,O⟩
theorem DP (G:List B64) (hG:GOk G) (c:B64) (hc:InB G.length c) (hne:∃ i,c.getLsbD i=true) (hw:∀ a,a<G.length->c.getLsbD a=true->AF Tryz.prog 129 G (c&&& ~~~(BitVec.twoPow 64 a)) (widV G (c&&& ~~~(BitVec.twoPow 64 a)))):AF Tryz.prog 183 G c (partV G c):=by
 intro M hM;refine FnO.of func183 O ntmps183 OG fun m0 w0 F R0=>?_
 have h12:=hG.n;have hlk:=zU hM c;have hpe:=sc hG hc hne;have hmb:∀ k,minW (widV G) G c k<=G.length+1:=fun k=>gh.2 (.inl (qT _))
 have hkb:keyN G c<=64:=jk _;refine Z2 O O O ?_;by_cases hm:∃ p∈M,p.1=c
 ·rw [og hm] at hlk;refine Z3 O O O O<|Rs 13 O O (cg (zp:= .int .i64 0) underlying188 underlying191 (.inl ⟨big,O,O⟩) O O Hy O hlk O O) ?_;iterate 5 refine A1 O ?_
  refine Z1 O O ?_;refine Gc O O (fun hc16=>?_) (fun hc16=>absurd hc16 OG);exact Z2 O O O<|Gt O<|⟨[(4,.pv (.int .i64 (partV G c:Nat)))],[(big,Bq M)],[.pv (.int .i64 (partV G c:Nat))],Io (aS O) (aO O) O O,O,O,O,M,hM,O,O⟩
 ·rw [ga hm] at hlk;refine Z3 O O O O<|Rs 13 O O (cg (zp:= .int .i64 0) underlying188 underlying191 (.inl ⟨big,O,O⟩) O O Hy O hlk O O) ?_;iterate 5 refine A1 O ?_
  refine Z1 O O ?_;refine Gc O O (fun hc16=>absurd hc16 OG) (fun hc16=>?_);refine Il<|Gr O ?_;iterate 5 refine A1 O ?_
  refine Z4 O O O O O ?_;refine Gl O (st:=fun x_0:Nat×List (B64×Nat)=>mkS [(1,.pv (bz c)),(2,.ptr 0 0),(7,.pv (.int .i64 (minW (widV G) G c x_0.1:Nat))),(24,.pv (.int .i64 G.length)),(25,.pv (.int .i64 x_0.1))] [(big,Bq x_0.2),(0,.mix 190 [.pv (bS G),.map big])] 1)
   (I:=fun x_0=>x_0.1<=G.length/\np G x_0.2) (μ:=fun x_0=>G.length-x_0.1) (x0:=(0,M)) (Io (aS O) (aO O) O O) (⟨eF _,hM⟩) ?_
  rintro ⟨k,M2⟩ ⟨hk,hM2⟩;try simp only at hk hM2 ⊢
  refine Z1 O O ?_;refine Gp O O (fun hc26=>?_) (fun hc26=>?_)
  ·have hlt:k<G.length:=OC;have hms:=iw (widV G) G c k;refine Il<|Z2 O O O<|Z2 O O O<|Rs 30 O O (ae call130 (lr c k OC) O) ?_;refine Gc O O (fun hc30=>?_) (fun hc30=>?_)
   ·rw [og hc30] at hms;have hwk:=hw k hlt hc30 M2 hM2;refine Ge O follows [0,1,2,3,4,5,6,7,8] OD ?_;iterate 4 refine D1 O O ?_
    refine Ds 35 [] O O O (fun τ h=>ae call132 (fi k OC) (h.bt O)) O OD<|Ds 36 [] O O O (fun τ h=>tm (Ee h 0 O O) (Ee h 1 O O)) O OD<|DL.rel (RO [big] 0 0 (QW G (widV G (c&&& ~~~(BitVec.twoPow 64 k))))) [big] [] [big] O O O (fun τ h=>relO [big] 0 call129 hwk (h.args.trans O) O O O ⟨Eo h 0 O O,OK⟩ OE O) O OD OD OD ?_;rintro _ ⟨_,_,⟨M3,hM3,rfl,rfl⟩,rfl⟩ _ _;iterate 2 refine D1 O O ?_
    refine ⟨OD,?_⟩;exact Z2 O O O<|⟨(k+1,M3),Io ⟨O,O,af (fun z=>V.pv (.int .i64 z)) ((EZ _ _).trans (by rw [hms])),O,O,OK⟩ (aO O) O O,⟨OI,hM3⟩,OI⟩
   ·rw [ga (by rw [hc30];decide)] at hms;exact Il<|Z2 O O O<|⟨(k+1,M2),Io ⟨O,O,by simp only [hms];rfl,O,O,OK⟩ (aO O) O O,⟨OI,hM2⟩,OI⟩
  ·have hkG:k=G.length:=OC;subst hkG;obtain ⟨M4,hM4,hpk,hpv⟩:=BS hM2 c;obtain ⟨⟨r,hkf⟩,_,_⟩:=gP c M2 0;have hmk:=hmb G.length;exact Gx O<|Z4 O O O O O<|Rs 44 O O (ae call221 (A7 G hG c) O)<|A1 O<|Rs 46 O O (XJ.cast (v':= .pv (.int .i64 (partV G c:Nat))) (yX O O) (af (fun z=>V.pv (.int .i64 z)) ((xR _ (keyN G c+1)).trans (by rw [hpe]))))<|A1 O<|Z4 O O O O O<|RL.step (d:=none) O O (ed underlying188 underlying191 O O O O O hkf hpk hpv)<|Z2 O O O<|Gt O<|⟨[(4,.pv (.int .i64 (partV G c:Nat)))],[(big,Bq M4)],[.pv (.int .i64 (partV G c:Nat))],Io (aS O) (aO O) O O,O,O,O,M4,hM4,O,O⟩
theorem sT (G:List B64) (hG:GOk G):∀ (k:Nat) (rest:B64),cC rest<=k->InB G.length rest->AF Tryz.prog 129 G rest (widV G rest)
 | 0,rest,h,hr=>ux G hG rest hr fun d hd=>by
   obtain ⟨i,hi⟩:=hd.ne;have:=n5 (hd.sub i hi);omega
 | k+1,rest,h,hr=>ux G hG rest hr fun d hd=>DP G hG d (fun i hi=>hr i (hd.sub i hi)) hd.ne fun a ha hda=>sT G hG k _ (by
   have h1:=jK hda;have h2:=C2 hd.sub;omega) (InB.diff (fun i hi=>hr i (hd.sub i hi)) a)
end
section
open Mk Jn
def gG (X:B64) (k:Nat):List Int:=((List.range k).filter fun a=>X.getLsbD a).map Int.ofNat
theorem lU (X:B64) (k:Nat):gG X (k+1)=gG X k++if X.getLsbD k=true then [(k:Int)] else []:=by
 unfold gG;rw [LF,Jm,Ho];by_cases h:X.getLsbD k=true
 ·simp [Hf,h]
 ·simp [Hf,h]
theorem DF {X:B64} {a:Nat} (h:X>>>a=0#64):∀ b,a<=b->X.getLsbD b=false:=by
 intro b hb;have:=af (fun z=>z.getLsbD (b-a)) h;simp only [BitVec.getLsbD_ushiftRight,BitVec.getLsbD_zero] at this;rwa [show a+(b-a)=b by omega] at this
theorem Gv {n:Nat} {X:B64} (h:InB n X):X>>>n=0#64:=by
 apply Ku;intro i hi;simp only [BitVec.getLsbD_ushiftRight,BitVec.getLsbD_zero];cases hb:X.getLsbD (n+i) with
 | false=>rfl
 | true=>have:=h _ hb;omega
theorem ze {X:B64} {a n:Nat} (h:X>>>a=0#64) (ha:a<=n):gG X n=gG X a:=by
 induction n with
 | zero=>rw [show a=0 by omega]
 | succ n ih=>
   rcases LK n a with h1 | h1
   ·rw [show a=n+1 by omega]
   ·rw [lU,DF h n h1,ga OG,xd,ih h1]
theorem Bc (X:B64) (n:Nat) (hn:n<=60) (hX:InB n X):FnP Tryz.prog 254 [bz X] (· =ak (gG X n)):=by
 refine FnP.of func254 O ntmps254 OG fun m0 w0 F R0=>?_
 have hso:=Gv hX;refine Z1 O O<|Z1 O O<|Im (Iu 3 0 1 3 O O)<|Z1 O O ?_;refine Gl O (st:=fun x_0:Nat×List Int=>mkS [(0,.pv (bz X)),(3,.gsl 0 1 x_0.2.length),(4,.pv (.int .i64 x_0.1))] [(0,.gro 3 (aE x_0.2))] 1)
  (I:=fun x_0=>(x_0.1<=n/\x_0.2.length<=x_0.1)/\x_0.2=gG X x_0.1) (μ:=fun x_0=>n-x_0.1) (x0:=(0,[])) (Io (aS O) (aO O) O O) (⟨⟨eF _,qT _⟩,O⟩) ?_
 rintro ⟨a,q⟩ ⟨⟨ha,hqa⟩,hq⟩;try simp only at ha hqa hq ⊢
 refine Z2 O O O<|Rs 7 O O (xU a O O O OC)<|Rs 8 O O (nA (Y:=0#64) O O) ?_;refine Gp O O (fun hc8=>?_) (fun hc8=>?_)
 ·have hlt:a<n:=by rcases LK a n with h | h;exact h;exact absurd (by rw [show a=n by omega];exact hso) hc8
  have hsl:(aE q).length=q.length*1:=OG;have hls:=lU X a;refine Il<|Z2 O O O<|Rs 13 O O (ae call130 (lr X a OC) O) ?_;refine Gc O O (fun hc13=>?_) (fun hc13=>?_)
  ·refine Gr O ?_;iterate 5 refine A1 O ?_
   exact Z3 O O O O<|⟨(a+1,q++[(a:Int)]),Ip [2] ⟨O,af (fun n=>V.gsl 2 1 n) (bW q _),O,OK⟩ ⟨af (fun c=>some (Ob.gro 3 c)) OG,OK⟩ O O OE O,⟨⟨OI,by simp only [a6,vt];omega⟩,by simp only;rw [hls,og hc13,<-hq]⟩,OI⟩
  ·exact Il<|Z3 O O O O<|⟨(a+1,q),Io (aS O) (aO O) O O,⟨⟨OI,OI⟩,by simp only;rw [hls,ga (by rw [hc13];decide),xd,<-hq]⟩,OI⟩
 ·have hz:X>>>a=0#64:=CP hc8;rw [<-ze hz ha] at hq;exact Im (Ir 0 O O)<|Gx O<|Z2 O O O<|Gt O<|⟨_,_,O,O,by rw [<-hq];rfl⟩
def bg {α:Type} (D:List α) (us:List (Nat×α)):List α:=us.foldl (fun D u=>D.set u.1 u.2) D
theorem cA {α:Type} (D:List α) (us:List (Nat×α)):(bg D us).length=D.length:=by
 unfold bg;induction us generalizing D with
 | nil=>rfl
 | cons u us ih=>rw [FE,ih,tx]
theorem eD {α:Type} (D:List α) (us vs:List (Nat×α)):bg D (us++vs)=bg (bg D us) vs:=J0
section
variable (P:List Int) (G:List B64)
def eW:Nat->Int->B64
 | 0,v=>G.getD v.toNat 0#64
 | k+1,v=>(bq P v).foldl (fun z c=>z|||eW k c) (G.getD v.toNat 0#64)
def fY:Nat->Int->List Int
 | 0,v=>[v]
 | k+1,v=>v::(bq P v).flatMap (fY k)
def j0:Nat->Int->B64->List (Nat×Int)
 | 0,v,ab=>[(v.toNat,(cC ab:Int))]
 | k+1,v,ab=>(v.toNat,(cC ab:Int))::(bq P v).flatMap fun c=>j0 k c (ab|||BitVec.twoPow 64 v.toNat)
def fQ (n:Nat):Nat->Int->B64->List (Nat×List Int)
 | 0,v,ab=>[(v.toNat,gG (eW P G 0 v&&&ab) n)]
 | k+1,v,ab=>((bq P v).flatMap fun c=>fQ n k c (ab|||BitVec.twoPow 64 v.toNat))++[(v.toNat,gG (eW P G (k+1) v&&&ab) n)]
end
abbrev layA (G:List B64) (v:Int) (ab:B64):List V:=[.pv (.int .i64 v),.pv (bz ab),.ptr big 0,.ptr 9004 0,.pv (.rp [bS G] 0),.ptr 9006 0]
abbrev Fc (n:Nat) (G:List B64) (chs:List (List Int)) (w:Nat) (L:List Int) (D:List Int) (K:List (List Int)) (hs:List PV):List (Nat×Ob):=[(big,.mix 144 [.pv (bu chs),.osl 9001 1 n,.osl 9002 1 n,.gsl w 1 L.length]),(9001,.cells 22 (K.map ak)),(9002,.cells 22 hs),(w,.gro 3 (aE L)),(9004,.mix 22 [.osl 9005 1 n]),(9005,.cells 3 (aE D)),(9006,.mix 294 [.fn (.func 253) [] [.ptr big 0,.ptr 9004 0,.pv (.rp [bS G] 0),.ptr 9006 0]])]
theorem nw2 {av:Av} {b:Nat} (h0:av b=true) (h1:av (b+1)=true):(nwO b 2).all av=true:=by
 show (av (b+0)&&(av (b+1)&&true))=true;rw [KX,h0,h1];rfl
theorem oO {n:Nat} {NR:Int->B64}:∀ (cs:List Int) (g:B64),InB n g->(∀ c∈cs,InB n (NR c))->InB n (cs.foldl (fun z c=>z|||NR c) g)
 | [],g,hg,_=>hg
 | c::cs,g,hg,h=>by
   rw [FE];refine oO cs _ (fun i hi=>?_) fun d hd=>h d (by simp [hd])
   rw [Lj,Jy] at hi;rcases hi with hi | hi
   ·exact hg i hi
   ·exact h c OG i hi
theorem eC {α:Type} {cs:List Int} {j:Nat} (h:j<cs.length) (f:Int->List α):(cs.take (j+1)).flatMap f=(cs.take j).flatMap f++f cs[j]:=by
 rw [aR h,Jw];simp
theorem vo {α:Type} (f:Int->List α) (cs:List Int) (j:Nat):((cs.take j).flatMap f).length<=(cs.flatMap f).length:=by
 have e:cs.flatMap f=(cs.take j).flatMap f++(cs.drop j).flatMap f:=by rw [<-Jw,zj]
 rw [e,a6];omega
theorem lP (n:Nat) (hn:n<=12) (G:List B64) (hGn:G.length=n) (chs:List (List Int)) (hcl:chs.length<=64) (v:Nat) (hv:v<n) (hvc:v<chs.length) (CS:List Int) (hCS:chs[v]=CS) (hCl:CS.length<=64) (hCm:∀ c∈CS,∃ m:Nat,c=(m:Int)) (ab:B64)
  (NR:Int->B64) (WS:Int->List Int) (DU:Int->List (Nat×Int)) (KU:Int->List (Nat×List Int)) (hg:InB n (G[v]'OC)) (hNR:∀ c∈CS,InB n (NR c)) (hs:List PV)
  (hrec:∀ c∈CS,∀ (L D:List Int) (K:List (List Int)),D.length=n->K.length=n->L.length+(WS c).length<=1000->FnO Tryz.prog 253 7 2 (layA G c (ab|||BitVec.twoPow 64 v)) (Fc n G chs 9003 L D K hs) (fun r ob'=>r= .pv (bz (NR c))/\ob'=ar (Fc n G chs 1 (L++WS c) (bg D (DU c)) (bg K (KU c)) hs)))
  (L D:List Int) (K:List (List Int)) (hD:D.length=n) (hK:K.length=n) (hL:L.length+1+(CS.flatMap WS).length<=1000):
  FnO Tryz.prog 253 7 2 (layA G v ab) (Fc n G chs 9003 L D K hs) (fun r ob'=>r= .pv (bz (CS.foldl (fun z c=>z|||NR c) (G[v]'OC)))/\ob'=ar (Fc n G chs 1 (L++(v:Int)::CS.flatMap WS) (bg (D.set v (cC ab)) (CS.flatMap DU)) ((bg K (CS.flatMap KU)).set v (gG (CS.foldl (fun z c=>z|||NR c) (G[v]'OC)&&&ab) n)) hs)):=by
 refine FnO.of func253 O ntmps253 OG fun m0 w0 F R0=>?_
 have hvG:v<G.length:=OC;have hgv:=fJ hvG;have hgn:=gN hvG;have hcv:=cM hvc;have hcn:=cQ hvc;rw [hCS] at hcv;have hin:=oO CS G[v] hg hNR;generalize G[v]=g0 at*;have hlist:=Bc (CS.foldl (fun z c=>z|||NR c) g0&&&ab) n OC (fun i hi=>hin i (by rw [Ky,cH] at hi;exact hi.1));have hDl:(aE D).length=n:=by rw [rJ,hD]
 have hpl:=jk ab;refine Z1 O O ?_;have hsl0:(aE L).length=L.length*1:=OG;refine Z1 O O ?_;first | refine A1 O ?_ | refine A2 O OF ?_
 iterate 5 refine A1 O ?_
 refine Ge O follows [0,1,2,3,4,5] OD ?_;first | refine D1 O O ?_ | refine D2 O O OF ?_
 iterate 2 refine D1 O O ?_
 refine Ds 21 [] O O O (fun τ h=>ae call252 (qI _) (h.bt O)) O OD<|Ds 22 [_] O O O (fun τ h=>aa v underlying22 sz3 (Ee h 0 O O) (Eo h 0 O O) (Ee h 1 O O) O OC) O OD<|DL.step (d:=none) [_] O O O (fun τ h=>aF sz3 (Ee h 0 O O) (Eo h 0 O O) (Ee h 1 O O) O OC) O OD ?_;refine ⟨OD,?_⟩;refine Gr O ?_;first | refine A1 O ?_ | refine A2 O OF ?_
 refine A1 O<|Rs 25 O O (ag v underlying186 BC O O O hvG hgn)<|Rs 26 O O (ai ⟨_,underlying191,O⟩ O hgv)<|A1 O<|Z1 O O ?_;first | refine A1 O ?_ | refine A2 O OF ?_
 refine A1 O<|Rs 30 O O (ag v underlying142 ly O O O hvc hcn)<|Rs 31 O O (ai ⟨_,underlying22,O⟩ O hcv)<|Y2 O O ?_;refine Gl O (st:=fun x_0:Nat×List Int×List Int×List (List Int)=>mkS [(0,.pv (.int .i64 v)),(1,.pv (bz ab)),(2,.ptr big 0),(5,.ptr 9006 0),(9,.pv (bz ((CS.take x_0.1).foldl (fun z c=>z|||NR c) g0))),(31,.pv (ak CS)),(32,.pv (.int .i64 CS.length)),(33,.pv (.int .i64 x_0.1))] [(big,.mix 144 [.pv (bu chs),.osl 9001 1 n,.osl 9002 1 n,.gsl 1 1 x_0.2.1.length]),(1,.gro 3 (aE x_0.2.1)),(9001,.cells 22 (x_0.2.2.2.map ak)),(9002,.cells 22 hs),(9004,.mix 22 [.osl 9005 1 n]),(9005,.cells 3 (aE x_0.2.2.1)),(9006,.mix 294 [.fn (.func 253) [] [.ptr big 0,.ptr 9004 0,.pv (.rp [bS G] 0),.ptr 9006 0]])] 2)
  (I:=fun x_0=>(x_0.1<=CS.length/\x_0.2.1=L++(v:Int)::(CS.take x_0.1).flatMap WS)/\x_0.2.2.1=bg (D.set v (cC ab)) ((CS.take x_0.1).flatMap DU)/\x_0.2.2.2=bg K ((CS.take x_0.1).flatMap KU)) (μ:=fun x_0=>CS.length-x_0.1) (x0:=(0,L++[(v:Int)],D.set v (cC ab),K)) (Io (aS O) ⟨ry (b:=some (.mix 144 [.pv (bu chs),.osl 9001 1 n,.osl 9002 1 n,.gsl 1 1 (L.length+1)])) OD (af (fun q=>some (Ob.mix 144 [.pv (bu chs),.osl 9001 1 n,.osl 9002 1 n,.gsl 1 1 q])) (bW L _)),ry (b:=some (.gro 3 (aE L++[.int .i64 v]))) OD (af (fun c=>some (Ob.gro 3 c)) OG),OD,OD,OD,ry (b:=some (.cells 3 ((aE D).set (v*1) (.int .i64 (cC ab))))) OD (af (fun c=>some (Ob.cells 3 c)) (by simp [Kx])),OD,OK⟩ O O) (⟨⟨eF _,O⟩,O,O⟩) ?_
 rintro ⟨j,M,D2,K2⟩ ⟨⟨hj,hM⟩,hD2,hK2⟩;try simp only at hj hM hD2 hK2 ⊢
 refine Z1 O O ?_;refine Gp O O (fun hc34=>?_) (fun hc34=>?_)
 ·have hlt:j<CS.length:=OC;have hcm:=aJ hlt;obtain ⟨c,hc⟩:=hCm _ hcm;have hpv:(aE CS)[j*1]? =some (.int .i64 (c:Int)):=by rw [<-hc];simp [hlt]
  have hpn:=aH hlt;have htf:=eC hlt WS;have htd:=eC hlt DU;have htk:=eC hlt KU;have hacc:(CS.take (j+1)).foldl (fun z c=>z|||NR c) g0=(CS.take j).foldl (fun z c=>z|||NR c) g0|||NR CS[j]:=by rw [aR hlt,J0];rfl
  have hfl:((CS.take (j+1)).flatMap WS).length<=(CS.flatMap WS).length:=vo WS CS (j+1);have hgo:=hrec _ hcm M D2 K2 (by rw [hD2,cA,tx,hD]) (by rw [hK2,cA,hK]) (by rw [htf,a6] at hfl;rw [hM];simp only [a6,qU];omega);rw [hc] at hgo htf htd htk hacc;generalize (CS.take j).foldl (fun z c=>z|||NR c) g0=acc at*;refine Il<|Z1 O O<|Rs 36 O O (ai ⟨_,underlying3,O⟩ O hpv)<|A1 O<|Ge O follows [0,1,2,3,4,5,6,7,8,9] OD<|D1 O O ?_;first | refine D1 O O ?_ | refine D2 O O OF ?_
  iterate 3 refine D1 O O ?_
  refine Ds 42 [] O O O (fun τ h=>ae call132 (fi v OC) (h.bt O)) O OD<|Ds 43 [] O O O (fun τ h=>kW (Ee h 0 O O) (Ee h 1 O O)) O OD<|Ds 44 [big,9001,9002,1,9004,9005,9006] O O O (fun τ h=>bJ (vs:=[.pv (.int .i64 (c:Int)),.pv (bz (ab|||BitVec.twoPow 64 v))]) [big,9001,9002,1,9004,9005,9006] 2 call253 hgo (Ee h 0 O O) (h.argsY.trans O) O O O O ⟨(Eo h 0 O O),(Eo h 1 O O),(Eo h 2 O O),(Eo h 3 O O),(Eo h 4 O O),(Eo h 5 O O),(Eo h 6 O O),OK⟩ OE (nw2 (h.n 0 _ O) (h.n 1 _ O))) O OD<|Ds 45 [] O O O (fun τ h=>kW (Ee h 0 O O) (Ee h 1 O O)) O OD<|D1 O O ?_;refine ⟨OD,?_⟩;exact Z2 O O O<|⟨(j+1,M++WS (c:Int),bg D2 (DU (c:Int)),bg K2 (KU (c:Int))),Ip [0,3] ⟨O,O,O,O,af (fun z=>V.pv (bz z)) hacc.symm,O,O,O,OK⟩ (aP OD) O O OE O,⟨⟨OI,by simp only;rw [htf,hM];simp⟩,by simp only;rw [htd,eD,<-hD2],by simp only;rw [htk,eD,<-hK2]⟩,OI⟩
 ·rw [show CS.take j=CS from bk OC] at hM hD2 hK2 ⊢;have hKl2:(K2.map ak).length=n:=by rw [rJ,hK2,cA,hK]
  generalize CS.foldl (fun z c=>z|||NR c) g0=near at*;refine Gx O<|Ge O follows [0,1,2,3,4,5,6,7,8] OD<|D1 O O ?_;first | refine D1 O O ?_ | refine D2 O O OF ?_
  iterate 3 refine D1 O O ?_
  refine Ds 52 [] O O O (fun τ h=>nK (Ee h 0 O O) (Ee h 1 O O)) O OD<|Ds 53 [] O O O (fun τ h=>ae call254 hlist (h.bt O)) O OD<|Ds 54 [_] O O O (fun τ h=>aa v underlying142 ly (Ee h 0 O O) (Eo h 0 O O) (Ee h 1 O O) O OC) O OD<|DL.step (d:=none) [_] O O O (fun τ h=>aF ly (Ee h 0 O O) (Eo h 0 O O) (Ee h 1 O O) O OC) O OD ?_;refine ⟨OD,?_⟩;exact Z2 O O O<|Gt O<|⟨[(8,.pv (bz near))],Fc n G chs 1 (L++(v:Int)::CS.flatMap WS) (bg (D.set v (cC ab)) (CS.flatMap DU)) ((bg K (CS.flatMap KU)).set v (gG (near&&&ab) n)) hs,[.pv (bz near)],Io (aS O) (by rw [<-hM,<-hD2,<-hK2];exact ⟨OD,ry (b:=some (.cells 22 ((K2.map ak).set (v*1) (ak (gG (near&&&ab) n))))) OD (af (fun c=>some (Ob.cells 22 c)) (by simp [Kx])),OD,OD,OD,OD,OD,OK⟩) O O,O,O,O,O,O⟩
end
section
open Mk Jn
def o6 (P:List Int) (k:Nat) (v:Int):List Int:=((List.range k).filter fun a=>P.getD a 0==v).map Int.ofNat
theorem jT (P:List Int) (v:Int):o6 P P.length v=bq P v:=by
 unfold o6 bq upZ;rw [List.filter_map];rfl
theorem kE (P:List Int) (k:Nat) (v:Int):o6 P (k+1) v=o6 P k v++if P.getD k 0=v then [(k:Int)] else []:=by
 unfold o6;rw [LF,Jm,Ho];by_cases h:P.getD k 0=v
 ·rw [og h,Hf,og (by rw [h];simp)];rfl
 ·rw [ga h,Hf,ga (by simpa using h)];rfl
theorem jI (P:List Int) (k:Nat) (v:Int):(o6 P k v).length<=k:=by
 unfold o6;rw [rJ];exact uv (IE ..) OG
def lsT (P:List Int) (k:Nat):List (List Int):=(upZ P.length).map (o6 P k)++[o6 P k (-1)]
theorem b7 (P:List Int) (k:Nat):(lsT P k).length=P.length+1:=by simp [lsT,a8]
theorem mJ (P:List Int) (k:Nat) {i:Nat} (h:i<P.length):(lsT P k)[i]'(by rw [b7];omega)=o6 P k i:=by
 unfold lsT;rw [Ln (by simp [a8,h])];simp [upZ]
theorem fG (P:List Int) (k:Nat):(lsT P k)[P.length]'(by rw [b7];omega)=o6 P k (-1):=by
 unfold lsT;rw [List.getElem_append_right (by simp [a8])];simp [a8]
theorem vr (P:List Int):lsT P 0=List.replicate (P.length+1) []:=by
 apply H2
 ·simp [b7]
 ·intro i h1 h2;rw [List.getElem_replicate];by_cases hi:i<P.length
  ·rw [mJ P 0 hi];rfl
  ·have hi':i=P.length:=by rw [b7] at h1;omega
   subst hi';rw [fG P 0];rfl
theorem uk {P:List Int} (hP:∀ p∈P, -1<=p/\p<P.length) {k:Nat} (hk:k<P.length) (U:Nat) (hU:(P[k]= -1/\U=P.length)\/(P[k]=(U:Int)/\U<P.length)):
  lsT P (k+1)=(lsT P k).set U ((lsT P k)[U]'(by rw [b7];rcases hU with h | h<;>omega)++[(k:Int)]):=by
 have hkd:P.getD k 0=P[k]:=by simp [List.getD,hk]
 apply H2
 ·simp [b7]
 ·intro i h1 h2;rw [b7] at h1;rw [J2];by_cases hi:i<P.length
  ·rw [mJ P (k+1) hi,kE,hkd];by_cases e:U=i
   ·subst e;rw [og O];rcases hU with h | h
    ·omega
    ·rw [og h.1,mJ P k hi]
   ·rw [ga e,mJ P k hi];rcases hU with h | h
    ·rw [ga (by rw [h.1];omega),xd]
    ·rw [ga (by rw [h.1];omega),xd]
  ·have hi':i=P.length:=OC;subst hi';rw [fG P (k+1),kE,hkd];by_cases e:U=P.length
   ·subst e;rw [og O];rcases hU with h | h
    ·rw [og h.1,fG P k]
    ·omega
   ·rw [ga e,fG P k];rcases hU with h | h
    ·omega
    ·rw [ga (by rw [h.1];omega),xd]
def lsP (ls:List (List Int)):List (List PV):=ls.map fun l=>l.map fun i=> .int .i64 i
theorem cZ (ls:List (List Int)):(lsP ls).length=ls.length:=by simp [lsP]
theorem sq (ls:List (List Int)) (U:Nat) (hU:U<ls.length) (x:Int):lsP (ls.set U (ls[U]++[x]))=(lsP ls).set U ((lsP ls)[U]'(by rw [cZ];exact hU)++[.int .i64 x]):=by
 unfold lsP;rw [Kx];simp
theorem zo (ls:List (List Int)):chP (lsP ls)=ls.map fun l=> .pv (ak l):=by
 unfold chP lsP;rw [Of];apply Cz;intro l _;simp
theorem Hv (P:List Int) (k:Nat) {U:Nat} (h:U<(lsP (lsT P k)).length):((lsP (lsT P k))[U]).length<=k:=by
 have h2:U<(lsT P k).length:=by rwa [cZ] at h
 have e:(lsP (lsT P k))[U]=(lsT P k)[U].map fun i=>PV.int .i64 i:=by simp [lsP]
 rw [e,rJ];by_cases hU:U<P.length
 ·rw [mJ P k hU];exact jI P k _
 ·have:U=P.length:=by rw [b7] at h2;omega
  subst this;rw [fG P k];exact jI P k _
theorem nF (cs:List V) (j:Nat) (v:V) (h:j<cs.length):eY cs j [v]=cs.set j v:=by
 unfold eY;rw [K5,og h,xJ];rfl
def eX (D:List Int) (l:List Int) (j:Nat):Int:=(l.take j).foldl (fun h a=>if D.getD a.toNat 0>D.getD h.toNat 0 then a else h) (l.headD 0)
theorem wC (D l:List Int) {j:Nat} (h:j<l.length):eX D l (j+1)=if D.getD l[j].toNat 0>D.getD (eX D l j).toNat 0 then l[j] else eX D l j:=by
 unfold eX;rw [aR h,J0];rfl
theorem pY (D:List Int) {l:List Int} (hl:l≠[]) (j:Nat):eX D l j∈l:=by
 have key:∀ (k:List Int) (h0:Int),(∀ a∈k,a∈l)->h0∈l->k.foldl (fun h a=>if D.getD a.toNat 0>D.getD h.toNat 0 then a else h) h0∈l:=by
  intro k;induction k with
  | nil=>exact fun h0 _ h=>h
  | cons a k ih=>
    intro h0 hk hh;rw [FE];refine ih _ (fun b hb=>hk b (by simp [hb])) ?_;split
    ·exact hk a OG
    ·exact hh
 unfold eX;refine key _ _ (fun a ha=>Kk ha) ?_;cases l with
 | nil=>exact absurd O hl
 | cons x l=>simp
def hpL (D:List Int) (S:Sch):List Int:=S.rels.map fun r=>eX D r.2 r.2.length
theorem F9 (D:List Int) (S:Sch):(hpL D S).length=S.rels.length:=by simp [hpL]
def hsT (n:Nat) (H:List Int) (k:Nat):List (List Int):=(upZ n).map (o6 H k)
theorem cP (n:Nat) (H:List Int) (k:Nat):(hsT n H k).length=n:=by simp [hsT,a8]
theorem p6 (n:Nat) (H:List Int) (k:Nat) {i:Nat} (h:i<n):(hsT n H k)[i]'(by rw [cP];exact h)=o6 H k i:=by simp [hsT,upZ]
theorem uy (n:Nat) (H:List Int):hsT n H 0=List.replicate n []:=by
 apply H2
 ·simp [cP]
 ·intro i h1 h2;rw [List.getElem_replicate,p6 n H 0 (by rwa [cP] at h1)];rfl
theorem Cy {n:Nat} {H:List Int} {k U:Nat} (hk:k<H.length) (hU:U<n) (e:H[k]=(U:Int)):hsT n H (k+1)=(hsT n H k).set U ((hsT n H k)[U]'(by rw [cP];exact hU)++[(k:Int)]):=by
 have hkd:H.getD k 0=H[k]:=by simp [List.getD,hk]
 apply H2
 ·simp [cP]
 ·intro i h1 h2;rw [cP] at h1;rw [J2,p6 n H (k+1) h1,kE,hkd,e];by_cases e2:U=i
  ·subst e2;rw [og O,og O,p6 n H k h1]
  ·rw [ga e2,ga OC,xd,p6 n H k h1]
theorem Hl (n:Nat) (H:List Int) (k:Nat) {U:Nat} (h:U<(lsP (hsT n H k)).length):((lsP (hsT n H k))[U]).length<=k:=by
 have h2:U<(hsT n H k).length:=by rwa [cZ] at h
 have e:(lsP (hsT n H k))[U]=(hsT n H k)[U].map fun i=>PV.int .i64 i:=by simp [lsP]
 rw [e,rJ,p6 n H k (by rwa [cP] at h2)];exact jI H k _
end
section
open Mk
theorem ve {S:Sch} {G:List B64} (hV:Valid S) (h:IsG S G):GOk G:=by
 have h1:G=gr S:=uw hV h;subst h1;have h2:=hV.n2;have e:=A8 hV;exact ⟨by rw [fR];omega,by rw [e];exact L8 S,by rw [e,fR];intro a b h;have:=(ow hV h.2).2;omega⟩
theorem uM (n:Nat) (hn:n<=63):InB n (gI n):=fun i hi=>by rw [fB OC,BX] at hi;exact hi
structure LInv (G:List B64) (most:Nat) (L:List Int) (rest:B64):Prop where
 inb:InB G.length rest
 wid:widV G rest<=most
 len:L.length+cC rest=G.length
 lst:L++leastF G most (cC rest) rest=leastL G
 nd:L.Nodup
 mem:∀ x∈L,∃ a:Nat,a<G.length/\x=(a:Int)/\rest.getLsbD a=false
 cov:∀ a,a<G.length->(a:Int)∈L\/rest.getLsbD a=true
theorem LInv.first {G:List B64} (hG:GOk G):LInv G (widV G (gI G.length)) [] (gI G.length):=by
 have h12:=hG.n;have hp:=Ac (n:=G.length) OC;exact ⟨uM _ OC,qT _,by simp [hp],by rw [hp];rfl,OG,OG,fun a ha=> .inr (by rw [fB OC];simpa using ha)⟩
theorem LInv.next {G:List B64} (hG:GOk G) {most:Nat} {L:List Int} {rest:B64} (h:LInv G most L rest) {k:Nat} (hk:k<G.length) (hno:∀ b,b<k->¬ (rest.getLsbD b=true/\widV G (compB G rest b&&& ~~~(BitVec.twoPow 64 b))<=most))
  (h1:rest.getLsbD k=true) (h2:widV G (compB G rest k&&& ~~~(BitVec.twoPow 64 k))<=most):LInv G most (L++[(k:Int)]) (rest&&& ~~~(BitVec.twoPow 64 k)):=by
 have hp:=jK h1;have hfind:(List.range G.length).find? (fun a=>rest.getLsbD a&&decide (widV G (compB G rest a&&& ~~~(BitVec.twoPow 64 a))<=most))=some k:=by
  rw [List.find?_range_eq_some];refine ⟨by rw [h1];simpa using h2,by simpa using hk,fun j hj=>?_⟩;have:=hno j hj;cases e:rest.getLsbD j with
  | false=>rfl
  | true=>simp;exact Nat.lt_of_not_le fun h=>this ⟨e,h⟩
 refine ⟨h.inb.diff k,Gw hG h.inb h1 h.wid h2,by have:=h.len;simp;omega,?_,?_,fun x hx=>?_,fun a ha=>?_⟩
 ·rw [<-h.lst,<-hp];simp only [leastF,hfind,xJ,List.singleton_append]
 ·rw [List.nodup_append];refine ⟨h.nd,OG,fun x hx y hy e=>?_⟩;rw [fe] at hy;subst hy e;obtain ⟨a,_,e,hr⟩:=h.mem _ hx;have:k=a:=OC;subst this;rw [h1] at hr;cases hr
 ·rcases my.1 hx with hx | hx
  ·obtain ⟨a,ha,e,hr⟩:=h.mem x hx;exact ⟨a,ha,e,by rw [bA,hr];rfl⟩
  ·exact ⟨k,hk,fe.1 hx,by rw [bA];simp⟩
 ·rcases h.cov a ha with h3 | h3
  ·exact .inl (Lt _ h3)
  ·by_cases e:a=k
   ·subst e;exact .inl OG
   ·exact .inr (by rw [bA,h3];simpa using fun e'=>e e'.symm)
theorem LInv.last {G:List B64} {most:Nat} {L:List Int} (h:LInv G most L 0#64):L=leastL G/\L.Perm (upZ G.length):=by
 have h0:cC 0#64=0:=by unfold cC;simp
 have h1:=h.lst;rw [h0] at h1;simp only [leastF,xd] at h1;refine ⟨h1,cu h.nd (cJ _) fun x=>?_⟩;rw [bx];constructor
 ·intro hx;obtain ⟨a,ha,e,_⟩:=h.mem x hx;exact ⟨a,ha,e⟩
 ·rintro ⟨a,ha,rfl⟩;rcases h.cov a ha with h2 | h2
  ·exact h2
  ·simp at h2
theorem qw (S:Sch) (hS:SB S) (hV:Valid S):FnP Tryz.prog 85 [gK S] (fun v=>∃ G,IsG S G/\v=ak (leastL G)/\(leastL G).Perm (upZ G.length)):=by
 refine FnP.of func85 O ntmps85 OG fun m0 w0 F R0=>?_
 have hn12:=hV.n2;refine Z2 O O O<|Z1 O O ?_;refine RL.call O (dE call127 (iE S hS hV) O ?_);rintro _ ⟨G,rfl,hIG⟩;have hGl:=hIG.len;have hG:=ve hV hIG;have hw0:=sT G hG 64 (gI G.length) (jk _) (uM _ OC) [] (by intro p hp;cases hp);refine Rs 10 O O (fF 1 O)<|Y3 O O O<|Z2 O O O<|Rs 14 O O (ae call128 (qh G OC) O)<|A1 O<|Z2 O O O ?_;refine RL.call O (fA [1] 3 call129 hw0 O O O O ⟨O,OK⟩ OE O ?_);rintro _ _ ⟨M0,hM0,rfl,rfl⟩;refine A1 O<|Z1 O O<|Im (Iu 6 3 1 3 O O) ?_;refine Gl O (st:=fun x_0:List Int×B64×List (B64×Nat)=>mkS [(3,.ptr 2 0),(4,.pv (bz x_0.2.1)),(5,.pv (.int .i64 (widV G (gI G.length):Nat))),(6,.gsl 3 1 x_0.1.length)] [(1,Bq x_0.2.2),(2,.mix 190 [.pv (bS G),.map 1]),(3,.gro 3 (aE x_0.1))] 4)
  (I:=fun x_0=>LInv G (widV G (gI G.length)) x_0.1 x_0.2.1/\np G x_0.2.2) (μ:=fun x_0=>cC x_0.2.1) (x0:=([],gI G.length,M0)) (Io (aS O) (aO O) O O) (⟨LInv.first hG,hM0⟩) ?_
 rintro ⟨L,rest,M1⟩ ⟨hI,hM1⟩;try simp only at hI hM1 ⊢
 refine Z1 O O<|Rs 19 O O (nA (Y:=0#64) O O) ?_;refine Gp O O (fun hc19=>?_) (fun hc19=>?_)
 ·obtain ⟨a0,ha0,hra0,hwa0⟩:=xp hG hI.inb (D5 hc19) hI.wid;have hLl:=hI.len;have hsl:(aE L).length=L.length*1:=OG;refine Il<|Z4 O O O O O ?_;refine Gl O (st:=fun x_1:Nat×List (B64×Nat)=>mkS [(3,.ptr 2 0),(4,.pv (bz rest)),(5,.pv (.int .i64 (widV G (gI G.length):Nat))),(6,.gsl 3 1 L.length),(22,.pv (.int .i64 G.length)),(23,.pv (.int .i64 x_1.1))] [(1,Bq x_1.2),(2,.mix 190 [.pv (bS G),.map 1]),(3,.gro 3 (aE L))] 4)
   (I:=fun x_1=>x_1.1<=a0/\np G x_1.2/\∀ b,b<x_1.1->¬ (rest.getLsbD b=true/\widV G (compB G rest b&&& ~~~(BitVec.twoPow 64 b))<=widV G (gI G.length))) (μ:=fun x_1=>G.length-x_1.1) (x0:=(0,M1)) (Io (aS O) (aO O) O O) (⟨eF _,hM1,fun b hb=>absurd hb (Nat.not_lt_zero _)⟩) ?_
  rintro ⟨k,M2⟩ ⟨hk,hM2,hno⟩;try simp only at hk hM2 hno ⊢
  refine Z1 O O ?_;refine Gp O O (fun hc24=>?_) (fun hc24=>absurd hc24 OC);have hlt:k<G.length:=OC;have hhas:=lr rest k OC;have hof:=fi k OC;have hcs:=pj G OC rest k OC;refine Il<|Z2 O O O ?_;by_cases hb:rest.getLsbD k=true
  ·rw [hb] at hhas;have hcomp:=oW hG rest hb;have hin:InB G.length (compB G rest k&&& ~~~(BitVec.twoPow 64 k)):=InB.diff (fun i hi=>hI.inb i (hcomp.1.sub i hi)) k;have hwk:=sT G hG 64 _ (jk _) hin M2 hM2;have hnx:=fun h2=>hI.next hG hlt hno hb h2
   refine Ge O follows [0,1,2,3,4,5,6,7,8,9,10,11,12,14,13,15,16] OD ?_;iterate 2 refine D1 O O ?_
   refine Ds 28 [] O O O (fun τ h=>ae call130 hhas (h.bt O)) O OD ?_;iterate 6 refine D1 O O ?_
   refine Dg 35 [] O O O O (fun τ h=>ae call131 hcs (h.bt O)) O OD<|D1 O O<|Dg 37 [] O O O O (fun τ h=>ae call132 hof (h.bt O)) O OD<|Dg 38 [] O O O O (fun τ h=>tm (Ee h 0 O O) (Ee h 1 O O)) O OD<|D1 O O<|DL.relG (RO [1] 4 0 (QW G (widV G (compB G rest k&&& ~~~(BitVec.twoPow 64 k))))) [1] [] [1] O O O O (fun τ h=>relO [1] 4 call129 hwk (h.args.trans O) O O O ⟨Eo h 0 O O,OK⟩ OE O) O OD OD OD ?_;rintro _ ⟨_,_,⟨M3,hM3,rfl,rfl⟩,rfl⟩ _ _;iterate 2 refine D1 O O ?_
   refine ⟨OD,?_⟩;refine Gp O O (fun hc42=>?_) (fun hc42=>?_)
   ·refine Gr O ?_;iterate 5 refine A1 O ?_
    exact Z2 O O O<|Rs 49 O O (ae call132 hof O)<|Rs 50 O O (tm O O)<|A1 O<|Gx O<|⟨(L++[(k:Int)],rest&&& ~~~(BitVec.twoPow 64 k),M3),Ip [0,1,2,5] ⟨O,O,O,by simp only [a6,vt];rfl,OK⟩ ⟨ry (b:=some (Bq M3)) O O,O,af (fun c=>some (Ob.gro 3 c)) (yK L k).symm,OK⟩ O O OE O,⟨hnx OC,hM3⟩,by have:=jK hb;simp only;omega⟩
   ·exact Il<|Z2 O O O<|⟨(k+1,M3),Io (aS O) (aO O) O O,⟨by simp only;by_cases e:k=a0;subst e;exact absurd hwa0 OC;omega,hM3,fun b hb2=>by rcases DJ.1 hb2 with h1 | rfl;exact hno b h1;exact fun h=>by have:=h.2;omega⟩,OI⟩
  ·have hb':rest.getLsbD k=false:=by simpa using hb
   rw [hb'] at hhas;refine Ge O follows [0,1,2,3,4,5,6,7,8,9,10,11,12,13,14,15,16] OD ?_;iterate 2 refine D1 O O ?_
   refine Ds 28 [] O O O (fun τ h=>ae call130 hhas (h.bt O)) O OD ?_;iterate 14 refine D1 O O ?_
   refine ⟨OD,?_⟩;refine Gc O O (fun hc42=>absurd hc42 OE) (fun hc42=>?_);exact Il<|Z2 O O O<|⟨(k+1,M2),Io (aS O) (aO O) O O,⟨by simp only;by_cases e:k=a0;subst e;exact absurd hra0 hb;omega,hM2,fun b hb2=>by rcases DJ.1 hb2 with h1 | rfl;exact hno b h1;exact fun h=>hb h.1⟩,OI⟩
 ·have hz:rest=0#64:=CP hc19;subst hz;obtain ⟨hLe,hperm⟩:=hI.last;exact Gx O<|Im (Ir 3 O O)<|Z2 O O O<|Gt O<|⟨_,_,O,O,G,hIG,by rw [<-hLe];rfl,by rw [<-hLe];exact hperm⟩
noncomputable def lstL (S:Sch):List Int:=leastL (gr S)
theorem iN (S:Sch) (hS:SB S) (hV:Valid S):(lstL S).Perm (upZ S.attrs.length)/\FnP Tryz.prog 85 [gK S] (· =ak (lstL S)):=by
 have h:=qw S hS hV;have key:∀ {v:PV},(∃ G,IsG S G/\v=ak (leastL G)/\(leastL G).Perm (upZ G.length))->v=ak (lstL S)/\(lstL S).Perm (upZ S.attrs.length):=fun {v} ⟨G,hG,e,hp⟩=>by
  have:=uw hV hG;subst this;rw [fR] at hp;exact ⟨e,hp⟩
 refine ⟨?_,h.mono fun v hv=>(key hv).1⟩;have hG:IsG S (gr S):=⟨fR S,fun a ha b=>pC hV (by rwa [fR] at ha) b⟩;have hI:LInv (gr S) (widV (gr S) (gI (gr S).length)) [] (gI (gr S).length):=LInv.first (ve hV hG);have fin:∀ (k:Nat) (L:List Int) (rest:B64),cC rest=k->LInv (gr S) (widV (gr S) (gI (gr S).length)) L rest->(leastL (gr S)).Perm (upZ (gr S).length):=by
  intro k;induction k with
  | zero=>
    intro L rest hk hI;have hz:rest=0#64:=by apply Ku;intro i _;rw [oh hk i];simp
    subst hz;have:=hI.last;rw [<-this.1];exact this.2
  | succ k ih=>
    intro L rest hk hI;have hne:∃ i,rest.getLsbD i=true:=CP fun hn=>by
     have:cC rest=0:=by unfold cC;rw [List.countP_eq_zero];intro i _ hi;exact hn ⟨i,hi⟩
     omega
    obtain ⟨a,ha,h1,h2⟩:=xp (ve hV hG) hI.inb hne hI.wid;obtain ⟨b,hb⟩:∃ b,(List.range (gr S).length).find? (fun a=>rest.getLsbD a&&decide (widV (gr S) (compB (gr S) rest a&&& ~~~(BitVec.twoPow 64 a))<=widV (gr S) (gI (gr S).length)))=some b:=by
     cases hf:(List.range (gr S).length).find? (fun a=>rest.getLsbD a&&decide (widV (gr S) (compB (gr S) rest a&&& ~~~(BitVec.twoPow 64 a))<=widV (gr S) (gI (gr S).length))) with
     | some b=>exact ⟨b,O⟩
     | none=>
       have:=List.find?_eq_none.1 hf a (Hq.2 ha);simp [h1,h2] at this
    have hb2:=hb;rw [List.find?_range_eq_some] at hb2;obtain ⟨hb3,hb4,hb5⟩:=hb2;rw [cH,BX] at hb3;refine ih (L++[(b:Int)]) (rest&&& ~~~(BitVec.twoPow 64 b)) (by have:=jK hb3.1;omega) (hI.next (ve hV hG) (by simpa using hb4) (fun j hj h=>?_) hb3.1 hb3.2);have:=hb5 j hj;simp [h.1,h.2] at this
 have:=fin _ [] _ O hI;rw [fR] at this;exact this
end
end Go.Proofs.YtedfonppffochaaGreatDoor
