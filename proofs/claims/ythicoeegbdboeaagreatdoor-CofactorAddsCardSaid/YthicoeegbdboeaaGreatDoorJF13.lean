/- Lemmas. No condition. -/
import Derived.Test.YthicoeegbdboeaaGreatDoorJF12
set_option maxRecDepth 100000
set_option maxHeartbeats 4000000
open Go.RowKit Go.Proofs.Tryz
open Option renaming some→WB,none→WC
open Bool renaming true→YK,false→YL
namespace Go.Proofs.YthicoeegbdboeaaGreatDoor
variable{s d:er}{D l:List UInt8}{lo j k n:Nat}{c:UInt8}{α K:Type}
section
open Mk
theorem nG(s:er):gB s=(decide (0<s.size)&&(((s.data.toList.getD 0 0).toNat:Int)==45)):=by
 rw[gB,Lib.hasPrefix,Lib.size_eq];cases s.data.toList with
 |nil=>rfl
 | cons a l=>
   have h:((a.toNat:Int)==45)=(a==45):=by
    rw[V0,Xk,Xk];constructor
    .intro h;exact Yu.1 (show a.toNat=(45:UInt8).toNat from Int.ofNat_inj.1 h)
    .intro h;rw[h];rfl
   simp only[List.getD_cons_zero,VI,h];rw[VK Zi,Yb];show((45:UInt8)==a&&List.isPrefixOf [] l)=_;simp[Bool.beq_comm]
theorem C4(h:gB s=YK):s.extract 1 s.size=⟨(ay s).toArray⟩/\0<s.size:=by
 have q:=h;rw[nG,aJ,VJ]at q;refine⟨?_,q.1⟩;have e:ay s=s.data.toList.drop 1:=by rw[ay,Lib.trimPrefix];rw[gB]at h;rw[IT h];rfl
 have r:(s.extract 1 s.size).data.toList=s.data.toList.drop 1:=Lib.extract_to_end s 1;rw[e,<-r]
theorem Eg(h:gB s=YL):s=⟨(ay s).toArray⟩:=by
 have e:ay s=s.data.toList:=by rw[ay,Lib.trimPrefix];rw[gB]at h;rw[AS (by rw[h];decide)]
 rw[e]
def oK(x:er):Bool:=(((((x.size:Nat):Int)==0)||decide ((x.size:Int)>400))||((((x.data.toList.getD 0 0).toNat:Nat):Int)==48))
theorem tW(x:er):oK x=pd x:=by
 rw[oK,pd,mW,Lib.size_eq]
 congr 2
 cases x.data.toList with
 |nil=>rfl
 |cons a l=>simp;omega
theorem UY{x:er}(h:((((x.size:Nat):Int)==0)||decide ((x.size:Int)>400))=YL):0<x.size:=by grind
theorem LD(D:List UInt8)(k:Nat)(h:k<(⟨D.toArray⟩:er).size):(((⟨D.toArray⟩:er)[k]'h).toNat:Int)=((D.getD k 0).toNat:Int):=by rw[<-gq _ k h]
theorem qA(s:er):ZK prog 131 [.str s] (· = .bool (aQ s)):=by
 refine ZC func131 O ntmps131 λ_ _ _ _=>?_
 obtain⟨v,hv⟩:∃v,v=aQ s:=⟨_,O⟩;rw[<-hv];refine Z1 O<|Z2 O<|Gc O (λY=>?_) (λY=>?_)
 .exact Z1 O<|YR O<|ah PV.bool (hv.trans (qO Y)).symm
 have hs:v=pR (ay s):=hv.trans (lS Y);clear hv;clear Y;have U:=nG s;obtain⟨t,ht⟩:∃t:er,t=⟨(ay s).toArray⟩:=⟨_,O⟩;have W:t.data.toList=ay s:=by rw[ht]
 refine Vl<|Z2 O<|Z4 O ?_;apply Vx 4 11 15 [12,13,14] O Zs
 .intro hb3;have X:0<s.size:=by simpa using hb3
  exact A1 O<|Rg O (bp 0 aam O O O X)<|Rg O ((aY O O O).cast (v':= .pv (.bool ((((s.data.toList.getD 0 0).toNat:Nat):Int)==45))) (by rw[gq _ 0 X]))<|A1 O<|Vp Zr O O O
 .intro hb3;exact Ar 4 O<|Vp Zr O O O
 refine Gc O (λB=>?_) (λB=>?_)
 .have hng:gB s=YK:=by rw[U];simpa using B
  obtain⟨hD,X⟩:=C4 hng;refine Z1 O<|Rs O (XJ.cast (v':= .pv (.str t)) (eh (kl:= .i64) (kh:= .i64) (il:=1) (ih:=0) (WB _) WC 1 s.size aam O (by rintro _ ⟨⟩;exact⟨O,O⟩) Zm Zm (λ_=>rfl) Zi (BY _)) (ah (λx=>V.pv (.str x)) (hD.trans ht.symm))) ?_;refine A1 O ?_;have G:=@vK (ay s);have H:=@wQ (ay s);rw[<-ht,<-tW]at G H;clear hng B U;have aa:t.size=(ay s).length:=by rw[Lib.size_eq,W]
  generalize ay s=D at*;refine Z4 O ?_;apply Vv 4 21 25 [22,23,24] O Zs
  .intro hb3;exact Ar 4 O<|Vp Zr O O O
  .intro hb3;exact Ar 4 O<|Vp Zr O O O
  refine A1 O ?_;apply Vv 4 26 30 [27,28,29] O Zs
  .intro hb8;exact Ar 4 O<|Vp Zr O O O
  .intro hb8;have X:=UY hb8;exact A1 O<|Rg O (bp 0 aam O O O X)<|Rg O ((aY O O O).cast (v':= .pv (.bool ((((t.data.toList.getD 0 0).toNat:Nat):Int)==48))) (by rw[gq _ 0 X]))<|A1 O<|Vp Zr O O O
  refine Gc O (λr=>?_) (λr=>?_)
  .exact Z1 O<|YR O<|ah PV.bool (hs.trans (G (show oK t=YK from r))).symm
  obtain⟨hg2,hD0,hD4⟩:=H (show oK t=YL from r);refine Vl<|Z1 O<|Gz O (st:=λZq:Nat=>([(3,WC),(4,WB (ZI Zq))],[])) 0
   (I:=λZq=>Zq<=D.length/\∀j,j<Zq->kF (D.getD j 0)=YK) (μ:=λZq=>D.length-Zq) (x0:=0) (Vn (aS O) trivial O O) (⟨sh _,λj hj=>absurd hj (W9 _)⟩) ?_
  rintro k ⟨hk,hall⟩;refine Z4 O<|Gp O (λT=>?_) (λT=>?_)
  .have hlt:k<D.length:=Zi;have z:k<t.size:=Zi;have Z:=gq t k z;have L:=Ha hlt;have M:=Bc hlt;have q:t[k]'z=D[k]:=by rw[<-Z,W];simp[List.getD,hlt]
   refine Vl ?_
   repeat apply Vy
   refine AW.block ?_;generalize D[k]=c at L M q ⊢;refine Z2 O<|Rs O (XJ.cast (v':= .pv (.int .u8 c.toNat)) (bp k aam O O O z) (by rw[q]))<|Y2 O ?_;apply Vv 5 41 46 [42,43,44,45] O Zs
   .intro hb4;exact Ar 5 O<|Vp Zr O O O
   .intro hb4;exact Y2 O<|Rg O (XJ.cast (v':= .pv (.int .u8 c.toNat)) (bp k aam O O O z) (by rw[q]))<|Y2 O<|Vp Zr O O O
   refine Gc O (λu=>?_) (λu=>?_)
   .have hc:=L u;exact Z1 O<|YR O<|ah PV.bool (by rw[hs,hg2,hc])
   have hc:=M u;exact Vl<|Z3 O<|⟨(k+1),Vn (aS O) trivial O O,⟨Zi,λj hj=>by rcases V3.1 hj with h|rfl;exact hall j h;exact hc⟩,Zi⟩
  exact Gx O<|Z1 O<|YR O<|ah PV.bool (by rw[hs,hg2,Bu λj hj=>hall j Zi])
 have hng:gB s=YL:=by rw[U];simpa using B
 have ab:s=t:=(Eg hng).trans ht.symm;rw[ab];refine Vl ?_;have G:=@vK (ay s);have H:=@wQ (ay s);rw[<-ht,<-tW]at G H;clear hng B U;have aa:t.size=(ay s).length:=by rw[Lib.size_eq,W]
 generalize ay s=D at*;refine Z4 O ?_;apply Vv 4 21 25 [22,23,24] O Zs
 .intro hb3;exact Ar 4 O<|Vp Zr O O O
 .intro hb3;exact Ar 4 O<|Vp Zr O O O
 refine A1 O ?_;apply Vv 4 26 30 [27,28,29] O Zs
 .intro hb8;exact Ar 4 O<|Vp Zr O O O
 .intro hb8;have X:=UY hb8;exact A1 O<|Rg O (bp 0 aam O O O X)<|Rg O ((aY O O O).cast (v':= .pv (.bool ((((t.data.toList.getD 0 0).toNat:Nat):Int)==48))) (by rw[gq _ 0 X]))<|A1 O<|Vp Zr O O O
 refine Gc O (λr=>?_) (λr=>?_)
 .exact Z1 O<|YR O<|ah PV.bool (hs.trans (G (show oK t=YK from r))).symm
 obtain⟨hg2,hD0,hD4⟩:=H (show oK t=YL from r);refine Vl<|Z1 O<|Gz O (st:=λZq:Nat=>([(3,WC),(4,WB (ZI Zq))],[])) 0
  (I:=λZq=>Zq<=D.length/\∀j,j<Zq->kF (D.getD j 0)=YK) (μ:=λZq=>D.length-Zq) (x0:=0) (Vn (aS O) trivial O O) (⟨sh _,λj hj=>absurd hj (W9 _)⟩) ?_
 rintro k ⟨hk,hall⟩;refine Z4 O<|Gp O (λT=>?_) (λT=>?_)
 .have hlt:k<D.length:=Zi;have z:k<t.size:=Zi;have Z:=gq t k z;have L:=Ha hlt;have M:=Bc hlt;have q:t[k]'z=D[k]:=by rw[<-Z,W];simp[List.getD,hlt]
  refine Vl ?_
  repeat apply Vy
  refine AW.block ?_;generalize D[k]=c at L M q ⊢;refine Z2 O<|Rs O (XJ.cast (v':= .pv (.int .u8 c.toNat)) (bp k aam O O O z) (by rw[q]))<|Y2 O ?_;apply Vv 5 41 46 [42,43,44,45] O Zs
  .intro hb4;exact Ar 5 O<|Vp Zr O O O
  .intro hb4;exact Y2 O<|Rg O (XJ.cast (v':= .pv (.int .u8 c.toNat)) (bp k aam O O O z) (by rw[q]))<|Y2 O<|Vp Zr O O O
  refine Gc O (λu=>?_) (λu=>?_)
  .have hc:=L u;exact Z1 O<|YR O<|ah PV.bool (by rw[hs,hg2,hc])
  have hc:=M u;exact Vl<|Z3 O<|⟨(k+1),Vn (aS O) trivial O O,⟨Zi,λj hj=>by rcases V3.1 hj with h|rfl;exact hall j h;exact hc⟩,Zi⟩
 exact Gx O<|Z1 O<|YR O<|ah PV.bool (by rw[hs,hg2,Bu λj hj=>hall j Zi])
theorem EG(n:Int)(q: -9223372036854775808<=n)(r:n<=9223372036854775807):ZK prog 33 [ZU n] (· = .str ⟨(Lib.itoa n).toArray⟩):=by
 refine ZC func33 O ntmps33 λ_ _ _ _=>?_
 have hl:(ae n.natAbs).length<=3:=aW.2 Zi;exact Z1 O<|Z1 O<|Rs O (aa call70 (wq n q r) O)<|Rs O (aa call76 (oa n Zi) O)<|A1 O<|YR O O
theorem Ax(n:Int)(q: -9223372036854775808<=n)(r:n<=9223372036854775807):ZK prog 11 [ZU n] (· = .str ⟨(Lib.itoa n).toArray⟩):=by
 refine ZC func11 O ntmps11 λ_ _ _ _=>?_
 exact Z1 O<|Z1 O<|Rs O (aa call33 (EG n q r) O)<|A1 O<|YR O O
theorem y3(l:List UInt8)(c:UInt8):eJ (l++[c])=eJ l*10+(c.toNat-48):=by simp[eJ]
theorem xB(q:j<D.length)(r:lo<=j):eJ ((D.drop lo).take (j+1-lo))=eJ ((D.drop lo).take (j-lo))*10+((D.getD j 0).toNat-48):=by
 have e:(D.drop lo).take (j+1-lo)=(D.drop lo).take (j-lo)++[D.getD j 0]:=by
  rw[show j+1-lo=(j-lo)+1 by omega,AI Zn]
  congr 2
  simp[List.getD,q,show lo+(j-lo)=j by omega]
 rw[e,y3]
theorem Eu{z:Nat}(h:k<=z):(⟨(D.take z).toArray⟩:er).extract 0 k=⟨(D.take k).toArray⟩:=by
 rw[ByteArray.extract_mk]
 congr 1
 apply Array.ext';simp[List.extract_eq_take_drop,Yl,W6 h]
theorem KL(q:∀c∈D,kF c=YK)(h:j-lo<=9):eJ ((D.drop lo).take (j-lo))<1000000000:=by have r:=Bq (l:=(D.drop lo).take (j-lo)) (λc hc=>q c (Yh (X0 hc)));have t:10^((D.drop lo).take (j-lo)).length<=10^9:=WJ Zk Zn;omega
theorem kJ(s:er)(hd:∀c∈ay s,kF c=YK)(hl:(ay s).length<=1000000):ZK prog 75 [.str s] (· =lZ (rdZ s)):=by
 refine ZD func75 O ntmps75 λ_ _ _ _=>?_
 obtain⟨v,hv⟩:∃v,v=rdZ s:=⟨_,O⟩;rw[<-hv];obtain⟨ng,hng⟩:∃v,v=gB s:=⟨_,O⟩;have ab:=nG s;rw[rdZ]at hv;rw[<-hng]at hv ab;obtain⟨t,ht⟩:∃t:er,t=⟨(ay s).toArray⟩:=⟨_,O⟩;have htd:t.data.toList=ay s:=by rw[ht]
 have hne:(s.toList !=(⟨#[]⟩:er).toList)=decide (0<s.size):=by
  rw[bne,mW,Lib.size_eq];cases s.data.toList<;>simp
 refine Z1 O<|Z2 O<|Z3 O<|Vm (St.cD 1 1 2 1 3 O O O)<|Z1 O<|Rs O (XJ.cast (v':= .pv (.bool (decide (0<s.size)))) (lH O O O) (ah (λb=>V.pv (.bool b)) hne))<|A1 O ?_;apply Vx 4 12 16 [13,14,15] O Zs
 .intro Z;have hp:0<s.size:=by simpa using Z
  exact A1 O<|Rg O (bp 0 aam O O O hp)<|Rg O ((aY O O O).cast (v':= .pv (.bool ((((s.data.toList.getD 0 0).toNat:Nat):Int)==45))) (by rw[gq _ 0 hp]))<|A1 O<|Vp Zr O O O
 .intro Z;exact Ar 4 O<|Vp Zr O O O
 refine Gc O (λY=>?_) (λY=>?_)
 .have hn2:ng=YK:=by rw[ab];exact Y
  obtain⟨hD,hp⟩:=C4 (hng.symm.trans hn2);refine VC 5 O<|D1 O O<|YM O (λτ h=>XJ.cast (v':= .pv (.str t)) (eh (kl:= .i64) (kh:= .i64) (il:=1) (ih:=0) (WB _) WC 1 s.size aam (Ee h 0 O) (by rintro _ ⟨⟩;exact⟨O,O⟩) Zm Zm (λ_=>rfl) Zi (BY _)) (ah (λx=>V.pv (.str x)) (hD.trans ht.symm))) ?_;refine Dr 3 O ?_;refine⟨Zj,?_⟩;refine Gz O (st:=λZq:Nat×ee=>([(2,WC),(3,WB (.pv (.str ⟨((ay s).take Zq.1).toArray⟩))),(4,WC)],[(0,WC),(1,WB (.mix 95 [.pv (.bool ng),.bz 2 1 Zq.2.length])),(2,WB (.bD 3 (gP Zq.2)))])) 3
   (I:=λZq=>Zq.1<=(ay s).length/\Lok Zq.2/\Zq.2.length+Zq.1<=(ay s).length/\eJ (ay s)=eJ ((ay s).take Zq.1)*1000000000^Zq.2.length+val Zq.2) (μ:=λZq=>Zq.1) (x0:=((ay s).length,[])) (Vn ⟨O,ah (λx=>V.pv (.str x)) (by rw[ht,XD]),O,Zp⟩ ⟨O,by rw[hn2];rfl,O,Zp⟩ O O) (⟨BY _,λ_ h=>absurd h Zm,Zm,by simp[val]⟩) ?_
  rintro⟨z,l⟩ ⟨hz,hok,hll,hvl⟩;try simp only at hz hok hll hvl ⊢
  refine Z3 O<|Gp O (λr=>?_) (λr=>?_)
  .refine Vl ?_
   repeat apply Vy
   refine AW.block ?_;have L:0<z:=by
    have h1:(⟨((ay s).take z).toArray⟩:er).size=z:=by simp[ByteArray.size];omega
    rw[h1]at r;omega
   have G:(⟨((ay s).take z).toArray⟩:er).size=z:=by simp[ByteArray.size];omega
   have M:=read_step hz O hvl;rw[show eJ (List.take (z-(z-9)) (List.drop (z-9) (ay s)))=ma (ay s) z from O]at M;have hlt:=sL hd z;refine Z3 O<|Rs O (XJ.cast (v':= ZI ((z-9:Nat):Int)) (zT O O) (ah (λi=>ZI i) (by rw[G];split<;>omega)))<|A1 O<|Z1 O<|Z2 O ?_;refine Gz O (st:=λq:Nat=>([(2,WC),(3,WC),(4,WC),(5,WC),(6,WB (.pv (.int .i64 ((eJ (((ay s).drop (z-9)).take (q-(z-9))):Nat):Int)))),(7,WB (ZI (q:Int)))],[(0,WC),(1,WC),(2,WC)])) 3
    (I:=λq=>z-9<=q/\q<=z) (μ:=λq=>z-q) (x0:=(z-9)) (Vn ⟨O,O,O,O,ah (λn:Nat=>ZI n) (by simp[eJ]),O,Zp⟩ (aO O) O O) (⟨BY _,Zi⟩) ?_
   rintro j ⟨hj1,hj2⟩;refine Z4 O<|Gp O (λB=>?_) (λB=>?_)
   .refine Vl ?_
    repeat apply Vy
    refine AW.block ?_;have H:j<z:=by rw[G]at B;omega
    have T:j<(ay s).length:=Zi;have U:j<(⟨((ay s).take z).toArray⟩:er).size:=Zi;have W:=LD ((ay s).take z) j U;rw[show((ay s).take z).getD j 0=(ay s).getD j 0 by simp[List.getD,V2,H]]at W;have hdg:=hd ((ay s).getD j 0) (by simp[List.getD,T]);have hs2:=xB T hj1;have Z:=KL hd (lo:=z-9) (j:=j) Zi;simp only[kF,aJ,VJ]at hdg;generalize (ay s).getD j 0=c at*;generalize eJ (((ay s).drop (z-9)).take (j-(z-9)))=u at*;refine Z4 O<|Rs O (XJ.cast (v':= .pv (.int .u8 (c.toNat:Int))) (bp j aam O O O U) (ah (λi=>V.pv (.int .u8 i)) W))<|Rs O (XJ.cast (v':= .pv (.int .u8 ((c.toNat-48:Nat):Int))) (aY O O O) (ah (λi=>V.pv (.int .u8 i)) (by show((c.toNat:Int)-48)%256=_;omega))) ?_;exact Rs O (XJ.cast (v':= ZI ((c.toNat-48:Nat):Int)) (eX aau aan O) (ah (λi=>ZI i) (eS Zi)))<|Y2 O<|Z3 O<|⟨(j+1),Vn ⟨O,O,O,O,ah (λi:Int=>ZI i) (by rw[hs2];omega),O,Zp⟩ (aO O) O O,⟨Zi,Zi⟩,Zi⟩
   refine Gx O ?_;have H:j=z:=by rw[G]at B;omega
   rw[H,show eJ (List.take (z-(z-9)) (List.drop (z-9) (ay s)))=ma (ay s) z from O];generalize ma (ay s) z=u at*;refine Gr O<|Ar 7 O<|Z2 O<|Rs O (XJ.cast (v':= .pv (.str ⟨((ay s).take (z-9)).toArray⟩)) (eh (kl:= .i64) (kh:= .i64) (il:=0) (ih:=((z-9:Nat):Int)) WC (WB _) 0 (z-9) aam O Zm (λ_=>rfl) (by rintro _ ⟨⟩;exact⟨O,O⟩) Zm (sh _) (by rw[G];omega)) (ah (λx=>V.pv (.str x)) (Eu Zi))) ?_;exact A1 O<|⟨(z-9,l++[u]),Vo [0,1,4] (aT O) ⟨O,VT (b:=WB (.mix 95 [.pv (.bool ng),.bz 4 1 (l.length+1)])) Zj (ah (λn=>WB (Ob.mix 95 [.pv (.bool ng),.bz 4 1 n])) (cV l _)),ah (λc=>WB (Ob.bD 3 c)) (limI_snoc _ _),Zp⟩ O O Zk O,⟨Zi,hok.append (Lok.one hlt),by rw[Hb,VV];omega,by rw[Hb,VV,c8,val_one];exact M⟩,Zi⟩
  refine Gx O ?_;have L:z=0:=by
   have h1:(⟨((ay s).take z).toArray⟩:er).size=z:=by simp[ByteArray.size];omega
   rw[h1]at r;omega
  rw[L,Yc,show eJ []=0 from O,Zg,Wm]at hvl;have X:=cG (neg:=ng) l O Zi hok hvl.symm;rw[<-hv]at X;exact Vm (Vq 2 O O)<|Z1 O<|Rs O (aa call133 X O)<|A1 O<|YR O ⟨⟨ar ⟨_,aar,O⟩ Fb O O O,Zp⟩,O⟩
 have hn2:ng=YL:=by rw[ab];exact Y
 have hts:s=t:=(Eg (hng.symm.trans hn2)).trans ht.symm;rw[hts];refine Vl<|Gz O (st:=λZq:Nat×ee=>([(2,WC),(3,WB (.pv (.str ⟨((ay s).take Zq.1).toArray⟩))),(4,WC)],[(0,WC),(1,WB (.mix 95 [.pv (.bool ng),.bz 2 1 Zq.2.length])),(2,WB (.bD 3 (gP Zq.2)))])) 3
  (I:=λZq=>Zq.1<=(ay s).length/\Lok Zq.2/\Zq.2.length+Zq.1<=(ay s).length/\eJ (ay s)=eJ ((ay s).take Zq.1)*1000000000^Zq.2.length+val Zq.2) (μ:=λZq=>Zq.1) (x0:=((ay s).length,[])) (Vn ⟨O,ah (λx=>V.pv (.str x)) (by rw[ht,XD]),O,Zp⟩ ⟨O,by rw[hn2];rfl,O,Zp⟩ O O) (⟨BY _,λ_ h=>absurd h Zm,Zm,by simp[val]⟩) ?_
 rintro⟨z,l⟩ ⟨hz,hok,hll,hvl⟩;try simp only at hz hok hll hvl ⊢
 refine Z3 O<|Gp O (λr=>?_) (λr=>?_)
 .refine Vl ?_
  repeat apply Vy
  refine AW.block ?_;have L:0<z:=by
   have h1:(⟨((ay s).take z).toArray⟩:er).size=z:=by simp[ByteArray.size];omega
   rw[h1]at r;omega
  have G:(⟨((ay s).take z).toArray⟩:er).size=z:=by simp[ByteArray.size];omega
  have M:=read_step hz O hvl;rw[show eJ (List.take (z-(z-9)) (List.drop (z-9) (ay s)))=ma (ay s) z from O]at M;have hlt:=sL hd z;refine Z3 O<|Rs O (XJ.cast (v':= ZI ((z-9:Nat):Int)) (zT O O) (ah (λi=>ZI i) (by rw[G];split<;>omega)))<|A1 O<|Z1 O<|Z2 O ?_;refine Gz O (st:=λq:Nat=>([(2,WC),(3,WC),(4,WC),(5,WC),(6,WB (.pv (.int .i64 ((eJ (((ay s).drop (z-9)).take (q-(z-9))):Nat):Int)))),(7,WB (ZI (q:Int)))],[(0,WC),(1,WC),(2,WC)])) 3
   (I:=λq=>z-9<=q/\q<=z) (μ:=λq=>z-q) (x0:=(z-9)) (Vn ⟨O,O,O,O,ah (λn:Nat=>ZI n) (by simp[eJ]),O,Zp⟩ (aO O) O O) (⟨BY _,Zi⟩) ?_
  rintro j ⟨hj1,hj2⟩;refine Z4 O<|Gp O (λB=>?_) (λB=>?_)
  .refine Vl ?_
   repeat apply Vy
   refine AW.block ?_;have H:j<z:=by rw[G]at B;omega
   have T:j<(ay s).length:=Zi;have U:j<(⟨((ay s).take z).toArray⟩:er).size:=Zi;have W:=LD ((ay s).take z) j U;rw[show((ay s).take z).getD j 0=(ay s).getD j 0 by simp[List.getD,V2,H]]at W;have hdg:=hd ((ay s).getD j 0) (by simp[List.getD,T]);have hs2:=xB T hj1;have Z:=KL hd (lo:=z-9) (j:=j) Zi;simp only[kF,aJ,VJ]at hdg;generalize (ay s).getD j 0=c at*;generalize eJ (((ay s).drop (z-9)).take (j-(z-9)))=u at*;refine Z4 O<|Rs O (XJ.cast (v':= .pv (.int .u8 (c.toNat:Int))) (bp j aam O O O U) (ah (λi=>V.pv (.int .u8 i)) W))<|Rs O (XJ.cast (v':= .pv (.int .u8 ((c.toNat-48:Nat):Int))) (aY O O O) (ah (λi=>V.pv (.int .u8 i)) (by show((c.toNat:Int)-48)%256=_;omega))) ?_;exact Rs O (XJ.cast (v':= ZI ((c.toNat-48:Nat):Int)) (eX aau aan O) (ah (λi=>ZI i) (eS Zi)))<|Y2 O<|Z3 O<|⟨(j+1),Vn ⟨O,O,O,O,ah (λi:Int=>ZI i) (by rw[hs2];omega),O,Zp⟩ (aO O) O O,⟨Zi,Zi⟩,Zi⟩
  refine Gx O ?_;have H:j=z:=by rw[G]at B;omega
  rw[H,show eJ (List.take (z-(z-9)) (List.drop (z-9) (ay s)))=ma (ay s) z from O];generalize ma (ay s) z=u at*;refine Gr O<|Ar 7 O<|Z2 O<|Rs O (XJ.cast (v':= .pv (.str ⟨((ay s).take (z-9)).toArray⟩)) (eh (kl:= .i64) (kh:= .i64) (il:=0) (ih:=((z-9:Nat):Int)) WC (WB _) 0 (z-9) aam O Zm (λ_=>rfl) (by rintro _ ⟨⟩;exact⟨O,O⟩) Zm (sh _) (by rw[G];omega)) (ah (λx=>V.pv (.str x)) (Eu Zi))) ?_;exact A1 O<|⟨(z-9,l++[u]),Vo [0,1,4] (aT O) ⟨O,VT (b:=WB (.mix 95 [.pv (.bool ng),.bz 4 1 (l.length+1)])) Zj (ah (λn=>WB (Ob.mix 95 [.pv (.bool ng),.bz 4 1 n])) (cV l _)),ah (λc=>WB (Ob.bD 3 c)) (limI_snoc _ _),Zp⟩ O O Zk O,⟨Zi,hok.append (Lok.one hlt),by rw[Hb,VV];omega,by rw[Hb,VV,c8,val_one];exact M⟩,Zi⟩
 refine Gx O ?_;have L:z=0:=by
  have h1:(⟨((ay s).take z).toArray⟩:er).size=z:=by simp[ByteArray.size];omega
  rw[h1]at r;omega
 rw[L,Yc,show eJ []=0 from O,Zg,Wm]at hvl;have X:=cG (neg:=ng) l O Zi hok hvl.symm;rw[<-hv]at X;exact Vm (Vq 2 O O)<|Z1 O<|Rs O (aa call133 X O)<|A1 O<|YR O ⟨⟨ar ⟨_,aar,O⟩ Fb O O O,Zp⟩,O⟩
abbrev Ra(q:Rat):na:=[.bool (decide (q.num<0)),pli (ae q.num.natAbs),.bool (decide ((q.den:Int)<0)),pli (ae (q.den:Int).natAbs)]
abbrev cc(q:Rat):PV:= .agg (Ra q)
theorem r9(n:Int)(q: -9223372036854775808<=n)(r:n<=9223372036854775807):ZK prog 28 [ZU n] (· =cc (n:Rat)):=by
 refine ZD func28 O ntmps28 λ_ _ _ _=>?_
 exact Z1 O<|Z1 O<|Rs O (aa call70 (wq n q r) O)<|Rs O (aa call70 (wq 1 Zk Zk) O)<|Y2 O<|YR O ⟨⟨ar ⟨_,underlying97,O⟩ Rt O O O,Zp⟩,O⟩
theorem pr(x y:Int)(t:y≠0):
  (Rat.divInt x y).num=(if y<0 then-(x.tdiv (Int.gcd x y))else x.tdiv (Int.gcd x y))/\((Rat.divInt x y).den:Int)=(if y<0 then-(y.tdiv (Int.gcd x y))else y.tdiv (Int.gcd x y)):=by
 have r:(Int.gcd x y:Int)∣x:=Int.gcd_dvd_left x y;have q:(Int.gcd x y:Int)∣y:=Int.gcd_dvd_right x y;rw[Rat.num_divInt,Rat.den_divInt,AS t,Int.gcd_comm y x,Int.tdiv_eq_ediv_of_dvd r,Int.tdiv_eq_ediv_of_dvd q];by_cases h:y<0
 .rw[IT h,IT h,Int.sign_eq_neg_one_of_neg h];refine⟨by rw[Int.neg_mul,Int.one_mul,Int.neg_ediv_of_dvd r],?_⟩;rw[<-Int.neg_ediv_of_dvd q,Int.natCast_ediv,show((y.natAbs:Nat):Int)= -y by omega]
 grind
theorem Rb{x y:Int}(q:y≠0)(h:(ae y.natAbs).length<=k):(ae ((Int.gcd x y:Nat):Int).natAbs).length<=k:=by refine OF (b9 ?_) h;rw[VZ];exact Nat.le_of_dvd Zi (Nat.gcd_dvd_right _ _)
theorem xR{x y:Int}(q:y≠0):decide (y.tdiv (Int.gcd x y)<0)=decide (y<0):=by
 have r:=(pr x y q).2;have t:0<(Rat.divInt x y).den:=(Rat.divInt x y).den_pos;have:(y.tdiv (Int.gcd x y)<0)↔y<0:=by grind
 rw[V0,VJ,VJ];exact this
theorem zK(x y:Int)(Y:(ae x.natAbs).length<=100000)(I:(ae y.natAbs).length<=100000):ZK prog 127 [lZ x,lZ y] (· =cc (Rat.divInt x y)):=by
 refine ZD func127 O ntmps127 λ_ _ _ _=>?_
 have r:=pr x y;have u:=@xR x y;have H:∃q,q=Rat.divInt x y:=⟨_,O⟩;obtain⟨q,H⟩:=H;have X:y=0->q=((0:Int):Rat):=λe=>by rw[H,e,Rat.divInt_zero];rfl
 rw[<-H]at r ⊢;clear H;have B:=λW=>Rb (x:=x) (y:=y) W I
 have G:y≠0->((Int.gcd x y:Nat):Int)≠0:=λW h=>W (by have:=Int.gcd_eq_zero_iff.1 (Int.ofNat_inj.1 h);exact this.2)
 have L:=xr x y Y I;generalize ((Int.gcd x y:Nat):Int)=g at*;refine Z3 O<|Z4 O<|Gc O (λz=>?_) (λz=>?_)
 .have hy0:y=0:=by have:=bJ.1 (show(ae y.natAbs).length=0 by have:=sk z;omega);omega
  exact Gr O<|Rs O (aa call28 (r9 0 Zk Zk) O)<|A1 O<|YR O ⟨⟨ar ⟨_,underlying97,O⟩ Rt O O O,Zp⟩,by rw[X hy0];rfl⟩
 have hy0:y≠0:=λe=>by have:=lT z;rw[e]at this;simp[aV]at this
 have r:=r hy0;have u:=u hy0;have B:=B hy0;have G:=G hy0;have M:=zO x g Zi B G;have T:=zO y g Zi B G;have U:=yE (x.tdiv g);have V:=yE (y.tdiv g);generalize x.tdiv g=n at*;generalize y.tdiv g=d at*;refine Vl<|Z2 O<|Rs O (aa call132 L O)<|Y2 O<|Z2 O<|Rs O (aa call178 M O)<|Ar 7 O<|Z2 O<|Rs O (aa call178 T O)<|Ar 7 O<|Z2 O<|Gc O (λt=>?_) (λt=>?_)
 .have hneg:y<0:=by rw[u]at t;simpa using t
  refine VC 6 O<|D1 O O<|YM O (λτ h=>aa call179 U (h.aE O))<|D1 O O<|YM O (λτ h=>aa call179 V (h.aE O))<|Dr 2 O ⟨Zj,Z4 O<|Gt O ?_⟩;rw[IT hneg,IT hneg]at r;exact⟨_,_,O,O,⟨ar ⟨_,underlying97,O⟩ Rt O O O,Zp⟩,by rw[cc,Ra,r.1,r.2];rfl⟩
 have hneg:¬y<0:=by rw[u]at t;simpa using t
 refine Vl<|Z4 O<|Gt O ?_;rw[AS hneg,AS hneg]at r;exact⟨_,_,O,O,⟨ar ⟨_,underlying97,O⟩ Rt O O O,Zp⟩,by rw[cc,Ra,r.1,r.2];rfl⟩
def dU(n:Int):er:=⟨(Lib.itoa n).toArray⟩
theorem v8(n:Nat):eJ (Lib.decDigits n)=n:=by
 induction n using Nat.strongRecOn with
 | ind n ih=>
   by_cases h:n<10
   .rw[Lib.decDigits,dif_pos h];simp[eJ];omega
   rw[Lib.decDigits,dif_neg h,y3,ih _ Zi];simp;omega
theorem mJ(n:Nat):∀c∈Lib.decDigits n,kF c=YK:=by
 induction n using Nat.strongRecOn with
 | ind n ih=>
   intro c hc;have q:∀d,d<10->kF (UInt8.ofNat (48+d))=YK:=λd hd=>by simp[kF];omega
   by_cases h:n<10
   .rw[Lib.decDigits,dif_pos h,VH]at hc;rw[hc];exact q n h
   rw[Lib.decDigits,dif_neg h]at hc;rcases We.1 hc with e|e
   .exact ih _ Zi c e
   grind
theorem Kr{a b:Nat}(h:Lib.decDigits a=Lib.decDigits b):a=b:=by rw[<-v8 a,h,v8]
theorem Po(n:Nat):Lib.decDigits n≠[]:=by rw[Lib.decDigits];split<;>simp
theorem vV{a b:Int}(h:Lib.itoa a=Lib.itoa b):a=b:=by
 have q:∀(n:Nat)(l:List UInt8),Lib.decDigits n≠45::l:=λn l e=>by
  have:=mJ n 45 (by rw[e];simp);cases this
 rw[gg,gg]at h;by_cases ha:a<0<;>by_cases hb:b<0
 .grind[Kr,List.append_cancel_left]
 .grind
 .grind
 grind[Kr,List.append_cancel_left]
theorem vv(d:Nat):((dU d).toList==CW.toList)=decide (d=1):=by
 rw[Lib.toList_data,Lib.toList_data,V0,Xk,VJ];have q:Lib.itoa ((1:Nat):Int)=[49]:=by rw[gg,AS Zk,Lib.decDigits,dif_pos Zk];rfl
 show Lib.itoa d=[49]↔_;rw[<-q];exact⟨λh=>by have:=vV h;omega,λh=>by rw[h]⟩
def P8(q:Rat):Bool:=u0 q.num.natAbs||u0 q.den
def bk(q:Rat):er:=if q.den=1 then dU q.num else(dU q.num++⟨#[47]⟩)++dU q.den
theorem xO(n:Int)(h:u0 n.natAbs=YL):(dU n).size<=401:=by
 rw[u0,Xf]at h;have q:(dU n).size=(Lib.itoa n).length:=by simp[dU,ByteArray.size]
 rw[q,gg,Hb];have:(Lib.decDigits n.natAbs).length=lY n.natAbs:=rfl;split<;>simp<;>omega
theorem F9(q:Rat)(M:(ae q.num.natAbs).length<=1000000)(U:(ae q.den).length<=1000000):ZK prog 71 [cc q] (· = .bS [.str (if P8 q=YK then⟨#[]⟩else bk q),.int .i64 (if P8 q=YK then 3 else 0)]):=by
 refine ZC func71 O ntmps71 λ_ _ _ _=>?_
 have I:=ug q.num M;have H:=ug (q.den:Int) (by rw[VZ];exact U);have L:=bk.eq_1 q;have hB:=P8.eq_1 q;have ho:=vv q.den;have G:=xO q.num;have z:=xO (q.den:Int);rw[VZ]at H z;rw[show(⟨(Lib.itoa q.num).toArray⟩:er)=dU q.num from O]at I;rw[show(⟨(Lib.itoa (q.den:Int)).toArray⟩:er)=dU q.den from O]at H;generalize bk q=T at*;generalize P8 q=B at*;generalize dU q.num=tn at*;generalize dU (q.den:Int)=td at*;generalize u0 q.num.natAbs=c1 at*;generalize u0 q.den=c2 at*;refine Z3 O<|Z2 O<|Rs O (aa call130 I O)<|Ar 5 O<|Z2 O<|Rs O (aa call130 H O)<|Ar 5 O<|Z3 O ?_;apply Vv 3 22 25 [23,24] O Zs
 .intro hb2;exact Y3 O<|Vp Zr O O O
 .intro hb2;exact Y3 O<|Vp Zr O O O
 refine Gc O (λr=>?_) (λr=>?_)
 .have hB1:B=YK:=by rw[hB];cases c1<;>cases c2<;>simp at r ⊢
  exact Z2 O<|YR O<|by rw[IT hB1,IT hB1];rfl
 have hc:c1=YL/\c2=YL:=by cases c1<;>cases c2<;>simp at r ⊢
 obtain⟨rfl,rfl⟩:=hc;have u:¬B=YK:=by rw[hB];decide
 have G:=G O;have z:=z O;refine Vl<|Z1 O<|Rs O (XJ.cast (v':= .pv (.bool (decide (q.den=1)))) (lH O O O) (ah (λb=>V.pv (.bool b)) ho)) ?_;refine Gc O (λt=>?_) (λt=>?_)
 .exact Z3 O<|YR O<|by rw[AS u,AS u,L,IT (by simpa using t)];rfl
 refine Vl ?_;have W:(⟨#[47]⟩:er).size=1:=rfl;refine Z1 O<|Rs O (rS O O (by show tn.size+_<=_;omega)) ?_;refine A1 O<|Rs O (rS O O (by show(tn++_).size+td.size<=_;rw[X8];omega)) ?_;exact Y2 O<|YR O<|by rw[AS u,AS u,L,AS (by simpa using t)];rfl
theorem GA{i:Nat}(h:Lib.indexByte s.data.toList 47=(i:Int)):gk s=s.extract 0 i/\kN s=s.extract (i+1) s.size/\bC s=YK:=by
 have e:Lib.index s.data.toList [47]=(i:Int):=by rw[Lib.index_one];exact h
 have hc:Lib.cut s.data.toList [47]=(s.data.toList.take i,s.data.toList.drop (i+1),YK):=by rw[Lib.cut,e,IT Zi];rfl
 have q:(s.extract (i+1) s.size).data.toList=s.data.toList.drop (i+1):=Lib.extract_to_end s (i+1);refine⟨?_,?_,?_⟩
 .rw[gk,hc];apply ByteArray.ext;apply Array.ext';simp[List.extract_eq_take_drop]
 .rw[kN,hc];show(⟨(s.data.toList.drop (i+1)).toArray⟩:er)=_;rw[<-q]
 rw[bC,hc]
theorem wW(h:Lib.indexByte s.data.toList 47= -1):gk s=s/\bC s=YL:=by
 have e:Lib.index s.data.toList [47]= -1:=by rw[Lib.index_one];exact h
 have hc:Lib.cut s.data.toList [47]=(s.data.toList,[],YL):=by rw[Lib.cut,e,AS Zi]
 exact⟨by rw[gk,hc],by rw[bC,hc]⟩
theorem D9(r:k<l.length)(u:∀j,j<k->l.getD j 0≠47)(t:l.getD k 0=47):Lib.indexByte l 47=(k:Int):=by
 rw[<-Lib.index_one];have q:∀j,Lib.occAt l [47] j=(decide (j<l.length)&&(l.getD j 0==47)):=λj=>by
  rw[Lib.occAt];by_cases hj:j<l.length
  .rw[V1 hj];simp[List.isPrefixOf,List.getD,hj,Bool.beq_comm]
  grind[Wy,List.isPrefixOf]
 refine Lib.index_first Zi ?_ λj hj=>?_
 .rw[q,t];simp[r]
 grind
theorem DX(h:∀j,j<l.length->l.getD j 0≠47):Lib.indexByte l 47= -1:=by
 rcases Int.lt_or_le (Lib.indexByte l 47) 0 with e|e
 .have:=Lib.indexByte_ge l 47;omega
 obtain⟨i,hi⟩:=VG e;have q:=(Lib.indexByte_some hi).1;obtain⟨hlt,h2⟩:=VR.1 q;exact absurd (by simp[List.getD,hlt,h2]) (h i hlt)
def pY(s:er):er:=if bC s=YK then kN s else CW
theorem u8_47(x:UInt8):(((x.toNat:Nat):Int)==47)=YK↔x=47:=by
 rw[Xk];constructor
 .intro h;exact Yu.1 (show x.toNat=(47:UInt8).toNat from Int.ofNat_inj.1 h)
 .intro h;rw[h];rfl
theorem sF(s:er)(hs:s.size<=1000000000):ZK prog 74 [.str s] (· = .bS [.str (gk s),.str (pY s),.bool (bC s)]):=by
 refine ZC func74 O ntmps74 λ_ _ _ _=>?_
 have z:s.size=s.data.toList.length:=Lib.size_eq s;refine Z3 O<|Z1 O<|Gz O (st:=λZq:Nat=>([(0,WC),(5,WB (ZI Zq))],[])) 0
  (I:=λZq=>Zq<=s.size/\∀j,j<Zq->s.data.toList.getD j 0≠47) (μ:=λZq=>s.size-Zq) (x0:=0) (Vn (aS O) trivial O O) (⟨sh _,λj hj=>absurd hj (W9 _)⟩) ?_
 rintro k ⟨hk,hall⟩;refine Z4 O<|Gp O (λt=>?_) (λt=>?_)
 .have hlt:k<s.size:=Zi;have u:=u8_47 (s.data.toList.getD k 0);have r:=gq s k hlt;refine Vl<|Z2 O<|Rs O (bp k aam O O O hlt)<|Rs O ((aY O O O).cast (v':= .pv (.bool ((((s.data.toList.getD k 0).toNat:Nat):Int)==47))) (by rw[r]))<|Gc O (λq=>?_) (λq=>?_)
  .have hc:=D9 Zi hall (u.1 q);obtain⟨c1,c2,c3⟩:=GA hc;refine VC 10 O<|Dr 2 O<|YM O (λτ h=>XJ.cast (v':= .pv (.str (gk s))) (eh (kl:= .i64) (kh:= .i64) (il:=0) (ih:=(k:Int)) WC (WB _) 0 k aam (Ee h 0 O) Zm (λ_=>rfl) (by rintro _ ⟨⟩;exact⟨(Ee h 1 O),O⟩) Zm (sh _) Zi) (ah (λx=>V.pv (.str x)) c1.symm)) ?_;refine Dr 3 O<|YM O (λτ h=>XJ.cast (v':= .pv (.str (kN s))) (eh (kl:= .i64) (kh:= .i64) (il:=((k:Int)+1)) (ih:=0) (WB _) WC (k+1) s.size aam (Ee h 0 O) (by rintro _ ⟨⟩;exact⟨(Ee h 1 O),Zi⟩) Zm Zm (λ_=>rfl) Zi (BY _)) (ah (λx=>V.pv (.str x)) c2.symm)) ?_;refine Dr 3 O ⟨Zj,YR O<|by rw[pY,c3];rfl⟩
  exact Vl<|Z3 O<|⟨(k+1),Vn (aS O) trivial O O,⟨Zi,λj hj=>by rcases V3.1 hj with h|rfl;exact hall j h;exact λe=>by have:=u.2 e;rw[q]at this;cases this⟩,Zi⟩
 refine Gx O<|Z4 O<|Gt O ?_;have hc:=DX (l:=s.data.toList) (λj hj=>hall j Zi);obtain⟨c1,c2⟩:=wW hc;exact⟨_,_,O,O,by rw[pY,c1,c2];rfl⟩
theorem Nr(r:∀x∈c::l,kF x=YK)(t:c≠48):10^l.length<=eJ (c::l):=by
 have hc:=r c Zm;simp only[kF,aJ,VJ]at hc;have q:1<=c.toNat-48:=by
  have:c.toNat≠48:=λe=>t (Yu.1 e)
  omega
 have e:eJ (c::l)=(c.toNat-48)*10^l.length+eJ l:=by
  rw[eJ,W5,yf];simp
 rw[e];have:=WK (10^l.length) q;omega
theorem r7(h:aQ d=YK):decide (rdZ d<=1)=(((d.toList==CW.toList)||(d.toList==AK.toList))||(((d.data.toList.getD 0 0).toNat:Int)==45)):=by
 have t:∀x y:er,(x.toList==y.toList)=(x.data.toList==y.data.toList):=λx y=>by rw[Lib.toList_data,Lib.toList_data]
 have q:=nG d;rw[aQ,t,Wr]at h;rw[t,t];rcases h with h|h
 .have h2:d.data.toList=[48]:=by simpa using h
  have B:rdZ d=0:=by rw[rdZ,ay,gB,h2];decide
  rw[B,h2];rfl
 simp only[pR,aJ,VJ,IN,XF,bne_iff_ne]at h;obtain⟨⟨⟨hne,hle⟩,h0⟩,hd⟩:=h;cases hD:ay d with
 |nil=>rw[hD]at hne;cases hne
 | cons c l=>
   rw[hD]at h0 hd;have I:=Nr hd (by simpa using h0);have G:1<=10^l.length:=Nat.pow_pos Zk;by_cases hng:gB d=YK
   .have u:rdZ d<=1:=by rw[rdZ,hng,hD];show-((eJ (c::l):Nat):Int)<=1;omega
    rw[VK u];rw[hng]at q;have:=(aJ _ _▸q.symm:_/\_).2;rw[this,YY]
   have hng:gB d=YL:=by simpa using hng
   have r:d.data.toList=c::l:=by rw[<-hD,ay,Lib.trimPrefix,AS (by rw[gB]at hng;rw[hng];decide)]
   have u:rdZ d=(eJ (c::l):Int):=by rw[rdZ,hng,hD];rfl
   have z:(((d.data.toList.getD 0 0).toNat:Int)==45)=YL:=by
    rw[hng]at q;have hs:0<d.size:=by rw[Lib.size_eq,r];simp
    rw[VK hs,Yb]at q;exact q.symm
   rw[z,Xu,u,r];have H:((c::l)==AK.data.toList)=YL:=by
    rw[Xo];intro e;have:c=48:=by injection e
    exact absurd this (by simpa using h0)
   rw[H,Xu,V0,VJ,Xk];constructor
   .intro hle1;have:l.length=0:=by grind[WG,WJ]
    have hl:l=[]:=Wl this;subst hl;have hc:=hd c Zm;simp only[kF,aJ,VJ]at hc;have B:eJ [c]=c.toNat-48:=by simp[eJ]
    have L:c.toNat≠48:=λe=>absurd (Yu.1 e) (by simpa using h0)
    have:c.toNat=49:=Zi;rw[Yu.1 (show c.toNat=(49:UInt8).toNat from this)];rfl
   .intro e;rw[e];decide
theorem oW(h:aQ d=YK):d.size<=401/\(1<rdZ d->d.size<=400):=by
 have q:=bI h;have hs:d.size=d.data.toList.length:=Lib.size_eq d;by_cases hng:gB d=YK
 .have e:ay d=d.data.toList.drop 1:=by rw[ay,Lib.trimPrefix];rw[gB]at hng;rw[IT hng];rfl
  rw[e]at q;refine⟨by have:=q.2;simp at this;omega,λr=>?_⟩;rw[rdZ,hng]at r;simp[sgn]at r;omega
 have e:ay d=d.data.toList:=by rw[ay,Lib.trimPrefix];rw[gB]at hng;rw[AS hng]
 rw[e]at q;have:=q.2;exact⟨Zi,λ_=>by omega⟩
theorem J6{d:er}(h:aQ d=YK):0<d.size:=by
 rcases WG d.size with e|e
 .have h0:d.data.toList=[]:=Wl (by have:=Lib.size_eq d;omega);rw[aQ,Lib.toList_data,Lib.toList_data,h0,pR,ay,h0]at h;cases h
 exact e
theorem qw(s:er)(h:aQ (gk s)=YL\/aQ (pY s)=YL):di s=YL:=by grind[di,bC,aQ,pY,iP,kN,LX,gk]
theorem uf(s:er)(hs:bC s=YL)(h:aQ (gk s)=YK):di s=YK:=by rw[di,hs,h];rfl
theorem yW (s:er) (hs:bC s=YK) (q:aQ (gk s)=YK) (r:aQ (pY s)=YK):
  di s= !(((((gk s).toList==AK.toList)||((pY s).toList==CW.toList))||((pY s).toList==AK.toList))||((((pY s).data.toList.getD 0 0).toNat:Int)==45)|| !decide (Int.gcd (rdZ (gk s)) (rdZ (pY s))=1)):=by grind[pY,kN,r7,di,LX,gk]
theorem M8(s:er):s.size=(gk s).size+(if bC s=YK then 1+(kN s).size else 0):=by
 rcases Int.lt_or_le (Lib.indexByte s.data.toList 47) 0 with e|e
 .have:=Lib.indexByte_ge s.data.toList 47;obtain⟨c1,c2⟩:=wW (s:=s) Zi;rw[c1,c2];simp
 obtain⟨i,hi⟩:=VG e;have q:=(Lib.indexByte_some hi).1;have r:=(VR.1 q).1;have t:=Lib.size_eq s;obtain⟨c1,c2,c3⟩:=GA (s:=s) hi;rw[c1,c2,c3,IT O];simp;omega
theorem yr(s:er)(h:di s=YK):s.size<=802:=by
 have hc:=M8 s;cases hs:bC s with
 | false=>
   have q:aQ (gk s)=YK:=by grind[aQ,gk,qw]
   have:=(oW q).1;rw[hs,AS Zk]at hc;omega
 | true=>
   have q:aQ (gk s)=YK:=by grind[aQ,gk,qw]
   have r:aQ (pY s)=YK:=by grind[aQ,pY,qw]
   have z:=yW s hs q r;have B:=r7 r;have t:pY s=kN s:=by rw[pY,hs,IT O]
   rw[hs,IT O,<-t]at hc;have G:=(oW q).1;have u:1<rdZ (pY s):=by grind
   have:=(oW r).2 u;omega
theorem B0(s:er)(hs:s.size<=1000000000):ZK prog 73 [.str s] (· = .bS [.str (if di s=YK then gk s else⟨#[]⟩),.str (if di s=YK then pY s else⟨#[]⟩),.bool (di s)]):=by
 refine ZC func73 O ntmps73 λ_ _ _ _=>?_
 have M:=sF s hs;have f1:=yr s;have f2:=qw s;have f3:=uf s;have f4:=yW s;have T:=qA (gk s);have U:=qA (pY s);have z:=@bI (gk s);have B:=@bI (pY s);have G:=@nK (gk s);have H:=@nK (pY s);have V:=@J6 (pY s);generalize di s=v at*;generalize gk s=nu at*;generalize pY s=de at*;generalize bC s=sb at*;refine Z3 O<|Z3 O<|Gp O (λL=>?_) (λL=>?_)
 .refine Z3 O<|Gt O ?_;have u:v=YL:=by cases u:v with|false=>rfl|true=>have:=f1 u;omega
  exact⟨_,_,O,O,by rw[u];rfl⟩
 refine Vl<|Z1 O<|Rs O (aa call74 M O)<|Ar 7 O<|Z1 O<|Rs O (aa call131 T O)<|Y2 O ?_;apply Vv 4 20 24 [21,22,23] O Zs
 .intro hb3;exact Ar 4 O<|Vp Zr O O O
 .intro hb3;exact A1 O<|Rg O (aa call131 U O)<|Y2 O<|Vp Zr O O O
 refine Gc O (λq=>?_) (λq=>?_)
 .refine Z3 O<|Gt O ?_;have u:v=YL:=f2 (by cases h1:aQ nu with|false=>exact .inl rfl|true=>right;rw[h1]at q;simpa using q);exact⟨_,_,O,O,by rw[u];rfl⟩
 have hin:aQ nu=YK:=by simp only[V8]at q;simpa using q.1
 have t:aQ de=YK:=by simp only[V8]at q;simpa using q.2
 have hp:=V t;have W:=kJ nu (z hin).1 (by have:=(z hin).2;omega);have X:=kJ de (B t).1 (by have:=(B t).2;omega);have Y:=xr (rdZ nu) (rdZ de) (by have:=G hin;omega) (by have:=H t;omega);have Z:(ae ((Int.gcd (rdZ nu) (rdZ de):Nat):Int).natAbs).length<=1000000:=by
  rw[VZ];have h1:=G hin;have h2:=H t;by_cases h0:rdZ nu=0
  .rw[h0,Int.gcd_zero_left];omega
  exact OF (b9 (Nat.le_of_dvd Zi (Nat.gcd_dvd_left _ _))) Zi
 have ab:=oa ((Int.gcd (rdZ nu) (rdZ de):Nat):Int) Z;have I:((⟨(Lib.itoa ((Int.gcd (rdZ nu) (rdZ de):Nat):Int)).toArray⟩:er).toList==CW.toList)=decide (Int.gcd (rdZ nu) (rdZ de)=1):=vv _;refine Vl ?_;by_cases hS:sb=YK
 .have hf:=f4 hS hin t;subst hS;refine Gr O<|Ar 5 O ?_;apply Vv 3 29 32 [30,31] O Zs
  .intro hb4;exact Y3 O<|Vp Zr O O O
  .intro hb4;exact Y3 O<|Vp Zr O O O
  refine A1 O ?_;apply Vv 3 33 36 [34,35] O Zs
  .intro hb8;exact Y3 O<|Vp Zr O O O
  .intro hb8;exact Y3 O<|Vp Zr O O O
  refine A1 O ?_;apply Vv 4 37 41 [38,39,40] O Zs
  .intro hb12;exact Ar 4 O<|Vp Zr O O O
  .intro hb12;exact A1 O<|Rg O (bp 0 aam O O O hp)<|Rg O ((aY O O O).cast (v':= .pv (.bool ((((de.data.toList.getD 0 0).toNat:Nat):Int)==45))) (by rw[gq _ 0 hp]))<|A1 O<|Vp Zr O O O
  refine A1 O ?_;apply Vv 8 42 50 [43,44,45,46,47,48,49] O Zs
  .intro hb17;exact Ar 8 O<|Vp Zr O O O
  .intro hb17;exact A1 O<|Rg O (aa call75 W O)<|A1 O<|Rg O (aa call75 X O)<|Rg O (aa call132 Y O)<|Rg O (aa call76 ab O)<|Y2 O<|Vp Zr O O O
  refine A1 O<|Gc O (λr=>?_) (λr=>?_)
  .refine Z3 O<|Gt O ?_;have u:v=YL:=by
    rw[hf,<-I];rw[Bool.not_eq_false'];exact r
   exact⟨_,_,O,O,by rw[u];rfl⟩
  refine Vl<|Gr O<|Ar 5 O<|Gt O ?_;have u:v=YK:=by
   rw[hf,<-I];rw[XF];exact r
  exact⟨_,_,O,O,by rw[u];rfl⟩
 have hf:=f3 (by simpa using hS) hin;obtain rfl:sb=YL:=by simpa using hS
 refine Gr O<|Ar 27 O<|Gc O (λr=>absurd r Zm) (λr=>?_);exact Vl<|Gr O<|Ar 5 O<|YR O<|by rw[hf];rfl
theorem HL(s:er)(hs:s.size<=1000000000):ZK prog 30 [.str s] (· = .bool (di s)):=by
 refine ZC func30 O ntmps30 λ_ _ _ _=>?_
 exact Z1 O<|Z1 O<|Rs O (aa call73 (B0 s hs) O)<|Ar 7 O<|Z2 O<|YR O O
theorem Agr.Vg{ops:YZ}{σ τ:St}{s:OS}{rd:ee}{y:Operand}{xs:Array Operand}{ts:Array TypeId}{dst:YX}{ty:TypeId}{pos:String}{after:Y4}{gd:Option (Nat×Bool)}
  (h:Agr n ops ⟨dst,.call { callee:= .value y,args:=xs,argTypes:=ts },ty,pos,after,gd⟩ σ τ s rd) {ps:na} (hp:(V.args (λ_=>WC) (xs.toList.map (σ.ev n))).map PV.fgA=WB ps):
  (V.args (λ_=>WC) (xs.toList.map (τ.ev n))).map PV.fgA=WB ps:=by
 have e:xs.toList.map (τ.ev n)=xs.toList.map (σ.ev n):=by
  apply V9;intro x hx;obtain⟨i,hi⟩:=WO hx;exact h.e (i+1) x (by simpa[Op.operands,Call.operands,XA]using hi)
 rw[e];exact hp
def ROk(s:er):Prop:=s.size<4294967281/\(aQ (gk s)=YK->LX s=YL->Ny (rdZ (gk s)) (rdZ (kN s)))
def POk(p:ZM):Prop:=(-9223372036854775808<=p.f/\p.f<=9223372036854775807)/\p.c.size<4294967281
def U8:er:=⟨#[]⟩
def wo(p:ZM):Bool:=decide (p.f>= -1)&&((p.c.toList==U8.toList)||fJ p.c)
def Ah(s:er):Bool:=di s&& !(s.toList==AK.toList)
theorem nZ(p:ZM)(r:POk p):ZK prog 139 [.agg (pO p)] (· = .bool (wo p)):=by
 refine ZC func139 O ntmps139 λ_ _ _ _=>?_
 have q:=q9 p.c (by have:=r.2;omega);refine Z2 O<|Z4 O ?_;apply Vx 9 6 15 [7,8,9,10,11,12,13,14] O Zs
 .intro hb3;refine Ar 4 O ?_;apply Vv 4 10 14 [11,12,13] O Zs
  .intro hb7;exact Ar 4 O<|Vp Zr O O O
  .intro hb7;exact Y2 O<|Rg O (aa call192 q O)<|A1 O<|Vp Zr O O O
  exact A1 O<|Vp Zr O O O
 .intro hb3;exact Ar 9 O<|Vp Zr O O O
 exact A1 O<|YR O O
theorem uE(s:er)(hs:ROk s):ZK prog 140 [.str s] (· = .bool (Ah s)):=by
 refine ZC func140 O ntmps140 λ_ _ _ _=>?_
 have q:=jj s hs.1 hs.2;refine Z1 O<|Z1 O<|Rs O (aa call137 q O)<|A1 O ?_;apply Vx 3 5 8 [6,7] O Zs
 .intro hb2;exact Y3 O<|Vp Zr O O O
 .intro hb2;exact Y3 O<|Vp Zr O O O
 exact A1 O<|YR O O
def SN(a b:Trm):Bool:=gG a.p b.p
def QJ(a b:Prr):Bool:=gG a.a b.a||(jF a.a b.a&&gG a.b b.b)
theorem F3(p q:Prr):ZK prog 146 ([]++[.agg (tX p),.agg (tX q)]++[]) (· = .bool (QJ p q)):=by
 refine ZC func146 O ntmps146 λ_ _ _ _=>?_
 refine Z3 O<|Z4 O<|Rs O (aa call84 (jJ p.a q.a) O)<|A1 O ?_;apply Vv 13 10 23 [11,12,13,14,15,16,17,18,19,20,21,22] O Zs
 .intro hb5;exact Ar 13 O<|Vp Zr O O O
 .intro hb5;refine Ar 4 O<|Rg O (jm (p:=p.a) (q:=q.a) O O O)<|A1 O ?_;apply Vx 6 16 22 [17,18,19,20,21] O Zs
  .intro hb11;exact Ar 4 O<|Rg O (aa call84 (jJ p.b q.b) O)<|A1 O<|Vp Zr O O O
  .intro hb11;exact Ar 6 O<|Vp Zr O O O
  exact A1 O<|Vp Zr O O O
 exact A1 O<|YR O O
theorem FX(p q:Trm):ZK prog 144 ([]++[.agg (ui p),.agg (ui q)]++[]) (· = .bool (SN p q)):=by
 refine ZC func144 O ntmps144 λ_ _ _ _=>?_
 exact Z3 O<|Z4 O<|Rs O (aa call84 (jJ p.p q.p) O)<|A1 O<|YR O O
def badT(t:Trm):Bool:= !wo t.p|| !Ah t.v
def badQ(t:Prr):Bool:=(((!wo t.a|| !wo t.b)||gG t.b t.a)|| !Ah t.v)
theorem He(t:Trm)(h:POk t.p/\ROk t.v):ZK prog 138 ([]++[.agg (ui t)]++[]) (· = .bool (badT t)):=by
 refine ZC func138 O ntmps138 λ_ _ _ _=>?_
 have q:=nZ t.p h.1;have r:=uE t.v h.2;refine Z2 O<|Z2 O<|Rs O (aa call139 q O)<|Y2 O ?_;apply Vv 5 7 12 [8,9,10,11] O Zs
 .intro hb4;exact Ar 5 O<|Vp Zr O O O
 .intro hb4;exact Y2 O<|Rg O (aa call140 r O)<|Y2 O<|Vp Zr O O O
 exact A1 O<|YR O O
theorem KR(t:Prr)(h:POk t.a/\POk t.b/\ROk t.v):ZK prog 142 ([]++[.agg (tX t)]++[]) (· = .bool (badQ t)):=by
 refine ZC func142 O ntmps142 λ_ _ _ _=>?_
 have q:=nZ t.a h.1;have r:=nZ t.b h.2.1;have u:=jJ t.b t.a;have z:=uE t.v h.2.2;refine Z2 O<|Z2 O<|Rs O (aa call139 q O)<|Y2 O ?_;apply Vv 5 7 12 [8,9,10,11] O Zs
 .intro hb4;exact Ar 5 O<|Vp Zr O O O
 .intro hb4;exact Y2 O<|Rg O (aa call139 r O)<|Y2 O<|Vp Zr O O O
 refine A1 O ?_;apply Vv 6 13 19 [14,15,16,17,18] O Zs
 .intro hb10;exact Ar 6 O<|Vp Zr O O O
 .intro hb10;exact Ar 4 O<|Rg O (aa call84 u O)<|A1 O<|Vp Zr O O O
 refine A1 O ?_;apply Vv 5 20 25 [21,22,23,24] O Zs
 .intro hb17;exact Ar 5 O<|Vp Zr O O O
 .intro hb17;exact Y2 O<|Rg O (aa call140 z O)<|Y2 O<|Vp Zr O O O
 exact A1 O<|YR O O
def bB(l:List Trm):na:=l.flatMap ui
def bM(l:List Prr):na:=l.flatMap tX
theorem rz(l:List Trm):(bB l).length=l.length*3:=cg _ 3 (λ_=>rfl) l
theorem rb(l:List Prr):(bM l).length=l.length*5:=cg _ 5 (λ_=>rfl) l
theorem wN{l:List Trm}(h:k<l.length):((bB l).drop (k*3)).take 3=ui l[k]:=eZ _ 3 (λ_=>rfl) l k h
theorem u7{l:List Prr}(h:k<l.length):((bM l).drop (k*5)).take 5=tX l[k]:=eZ _ 5 (λ_=>rfl) l k h
theorem I7{l:List Trm}(h:k<l.length):bB l≠[]:=λe=>by have:=rz l;rw[e]at this;simp at this;omega
theorem G7{l:List Prr}(h:k<l.length):bM l≠[]:=λe=>by have:=rb l;rw[e]at this;simp at this;omega
def Kt{α:Type}(less:α->α->Bool):List α->Bool
 |a::b::l=>less a b&&Kt less (b::l)
 |_=>YK
theorem qv{less:α->α->Bool}:∀{l:List α},Kt less l=YK↔∀(j:Nat)(h:j+1<l.length),less l[j] l[j+1]=YK
 |[]=>by simp[Kt]
 |[a]=>by simp[Kt]
 | a::b::l=>by
   rw[Kt,aJ,qv];constructor
   .rintro⟨h1,h2⟩ j hj;cases j with
    |zero=>exact h1
    |succ j=>exact h2 j (by simpa using hj)
   .intro h;exact⟨h 0 Zm,λj hj=>h (j+1) (by simpa using hj)⟩
theorem Kq{less:α->α->Bool}{l:List α}(h:j+1<l.length)(q:less l[j] l[j+1]=YL):Kt less l=YL:=by
 cases e:Kt less l with
 |false=>rfl
 |true=>rw[qv.1 e j h]at q;cases q
theorem yL(l:List Trm)(g:FuncId)(cp:na)(p:Trm->Bool)(hl:l.length<=1000000)(hc:bS prog g)(B:∀f∈l,ZK prog g ([]++[.agg (ui f)]++cp) (· = .bool (p f))):
  ZK prog 147 [.sl WC l.length (bB l),.fn (.func g) [] cp] (λv=>∃i:Int,v= ZU i/\decide (0<=i)=l.any p):=by
 refine ZC func147 O ntmps147 λ_ _ _ _=>?_
 refine Z1 O<|Z3 O<|Gz O (st:=λZq:Nat=>((ZZ Zq),[])) 0
  (I:=λZq=>Zq<=l.length/\(l.take Zq).any p=YL) (μ:=λZq=>l.length-Zq) (x0:=0) (Vn (aS O) trivial O O) (⟨sh _,O⟩) ?_
 rintro k ⟨hk,hno⟩;refine Z1 O<|Gp O (λu=>?_) (λu=>?_)
 .have hlt:k<l.length:=Zi;have r:=wN hlt;have z:=I7 hlt;have t:=B _ (ak hlt);refine Vl<|Z2 O<|Z4 O<|Rs O (aD ⟨_,aaB,O⟩ ix O r O)<|Rs O (bX hc O t O)<|Gc O (λq=>?_) (λq=>?_)
  .exact Z2 O<|YR O ⟨_,O,by rw[sW hlt q];exact VK Zi⟩
  exact Vl<|Z2 O<|⟨(k+1),Vn (aS O) trivial O O,⟨Zi,fM hlt hno q⟩,Zi⟩
 exact Gx O<|Z1 O<|YR O ⟨_,O,by rw[aG Zi]at hno;rw[hno];rfl⟩
theorem iM(l:List Trm)(g:FuncId)(cp:na)(p:Trm->Bool)(hl:l.length<=1000000)(hc:bS prog g)(q:∀f∈l,ZK prog g ([]++[.agg (ui f)]++cp) (· = .bool (p f))):
  ZK prog 79 [.sl WC l.length (bB l),.fn (.func g) [] cp] (· = .bool (l.any p)):=by
 refine ZC func79 O ntmps79 λ_ _ _ _=>?_
 refine Z1 O<|Z2 O<|RL.call O (cT call147 (yL l g cp p hl hc q) O ?_);rintro _ ⟨i,rfl,hi⟩;exact Y2 O<|YR O<|ah PV.bool hi
theorem pQ (l:List Trm) (g:FuncId) (p:Trm->Bool) (hl:l.length<=1000000) (hc:bS prog g) (q:∀ f∈l,ZK prog g ([]++[.agg (ui f)]++[]) (· = .bool (p f))):
  ZK prog 79 [.sl WC l.length (bB l),.fn (.func g) [] []] (· = .bool (l.any p)):=iM l g [] p hl hc q
theorem BM(l:List Trm)(g:FuncId)(less:Trm->Trm->Bool)(hl:l.length<=1000000)(hc:bS prog g)(L:∀a b,ZK prog g ([]++[.agg (ui a),.agg (ui b)]++[]) (· = .bool (less a b))):
  ZK prog 143 [.sl WC l.length (bB l),.fn (.func g) [] []] (· = .bool (Kt less l)):=by
 refine ZC func143 O ntmps143 λ_ _ _ _=>?_
 refine Z1 O<|Z1 O<|Gz O (st:=λZq:Nat=>([(0,WC),(1,WC),(5,WB (ZI ((Zq:Int)+1)))],[])) 0
  (I:=λZq=>(Zq<l.length\/Zq=0)/\∀(j:Nat)(h:j+1<l.length),j<Zq->less l[j] l[j+1]=YK) (μ:=λZq=>l.length-Zq) (x0:=0) (Vn (aS O) trivial O O) (⟨.inr O,λj _ hj=>absurd hj (W9 _)⟩) ?_
 rintro k ⟨hk,hall⟩;refine Z4 O<|Gp O (λG=>?_) (λG=>?_)
 .have hlt:k+1<l.length:=Zi;have u:k<l.length:=Zi;have t:=wN hlt;have r:=wN u;have H:=I7 hlt;have z:=L l[k] l[k+1];have B:((k:Int)+1-1)=((k:Nat):Int):=Zi;refine Vl<|VC 12 O<|Dr 3 O<|YM O (λτ h=>XJ.cast (v':= ZI ((k:Nat):Int)) (CF (Ee h 0 O) (Ee h 1 O) Zi) (ah (λi=>ZI i) B))<|D1 O O<|YM O (λτ h=>aD ⟨_,aaB,O⟩ ix (Ee h 0 O) r O)<|Dr 3 O<|YM O (λτ h=>aD ⟨_,aaB,O⟩ ix (Ee h 0 O) t O)<|YM O (λτ h=>bX hc (Ee h 0 O) z (h.Vg O))<|D1 O O ⟨Zj,Gc O (λq=>?_) (λq=>?_)⟩
  .exact Z1 O<|YR O<|ah PV.bool (Kq hlt (by simpa using q)).symm
  exact Vl<|Z3 O<|⟨(k+1),Vn (aS O) trivial O O,⟨.inl hlt,λj hj hjk=>by rcases V3.1 hjk with e|rfl;exact hall j hj e;simpa using q⟩,Zi⟩
 exact Gx O<|Z1 O<|YR O<|ah PV.bool (qv.2 λj hj=>hall j hj Zi).symm
theorem z8(l:List Prr)(g:FuncId)(p:Prr->Bool)(hl:l.length<=1000000)(hc:bS prog g)(B:∀f∈l,ZK prog g ([]++[.agg (tX f)]++[]) (· = .bool (p f))):
  ZK prog 193 [.sl WC l.length (bM l),.fn (.func g) [] []] (λv=>∃i:Int,v= ZU i/\decide (0<=i)=l.any p):=by
 refine ZC func193 O ntmps193 λ_ _ _ _=>?_
 refine Z1 O<|Z3 O<|Gz O (st:=λZq:Nat=>((ZZ Zq),[])) 0
  (I:=λZq=>Zq<=l.length/\(l.take Zq).any p=YL) (μ:=λZq=>l.length-Zq) (x0:=0) (Vn (aS O) trivial O O) (⟨sh _,O⟩) ?_
 rintro k ⟨hk,hno⟩;refine Z1 O<|Gp O (λu=>?_) (λu=>?_)
 .have hlt:k<l.length:=Zi;have r:=u7 hlt;have z:=G7 hlt;have t:=B _ (ak hlt);refine Vl<|Z2 O<|Z4 O<|Rs O (aD ⟨_,aaC,O⟩ jz O r O)<|Rs O (bX hc O t O)<|Gc O (λq=>?_) (λq=>?_)
  .exact Z2 O<|YR O ⟨_,O,by rw[sW hlt q];exact VK Zi⟩
  exact Vl<|Z2 O<|⟨(k+1),Vn (aS O) trivial O O,⟨Zi,fM hlt hno q⟩,Zi⟩
 exact Gx O<|Z1 O<|YR O ⟨_,O,by rw[aG Zi]at hno;rw[hno];rfl⟩
theorem pM(l:List Prr)(g:FuncId)(p:Prr->Bool)(hl:l.length<=1000000)(hc:bS prog g)(q:∀f∈l,ZK prog g ([]++[.agg (tX f)]++[]) (· = .bool (p f))):
  ZK prog 141 [.sl WC l.length (bM l),.fn (.func g) [] []] (· = .bool (l.any p)):=by
 refine ZC func141 O ntmps141 λ_ _ _ _=>?_
 refine Z1 O<|Z2 O<|RL.call O (cT call193 (z8 l g p hl hc q) O ?_);rintro _ ⟨i,rfl,hi⟩;exact Y2 O<|YR O<|ah PV.bool hi
theorem Bp(l:List Prr)(g:FuncId)(less:Prr->Prr->Bool)(hl:l.length<=1000000)(hc:bS prog g)(L:∀a b,ZK prog g ([]++[.agg (tX a),.agg (tX b)]++[]) (· = .bool (less a b))):
  ZK prog 145 [.sl WC l.length (bM l),.fn (.func g) [] []] (· = .bool (Kt less l)):=by
 refine ZC func145 O ntmps145 λ_ _ _ _=>?_
 refine Z1 O<|Z1 O<|Gz O (st:=λZq:Nat=>([(0,WC),(1,WC),(5,WB (ZI ((Zq:Int)+1)))],[])) 0
  (I:=λZq=>(Zq<l.length\/Zq=0)/\∀(j:Nat)(h:j+1<l.length),j<Zq->less l[j] l[j+1]=YK) (μ:=λZq=>l.length-Zq) (x0:=0) (Vn (aS O) trivial O O) (⟨.inr O,λj _ hj=>absurd hj (W9 _)⟩) ?_
 rintro k ⟨hk,hall⟩;refine Z4 O<|Gp O (λG=>?_) (λG=>?_)
 .have hlt:k+1<l.length:=Zi;have u:k<l.length:=Zi;have t:=u7 hlt;have r:=u7 u;have H:=G7 hlt;have z:=L l[k] l[k+1];have B:((k:Int)+1-1)=((k:Nat):Int):=Zi;refine Vl<|VC 12 O<|Dr 3 O<|YM O (λτ h=>XJ.cast (v':= ZI ((k:Nat):Int)) (CF (Ee h 0 O) (Ee h 1 O) Zi) (ah (λi=>ZI i) B))<|D1 O O<|YM O (λτ h=>aD ⟨_,aaC,O⟩ jz (Ee h 0 O) r O)<|Dr 3 O<|YM O (λτ h=>aD ⟨_,aaC,O⟩ jz (Ee h 0 O) t O)<|YM O (λτ h=>bX hc (Ee h 0 O) z (h.Vg O))<|D1 O O ⟨Zj,Gc O (λq=>?_) (λq=>?_)⟩
  .exact Z1 O<|YR O<|ah PV.bool (Kq hlt (by simpa using q)).symm
  exact Vl<|Z3 O<|⟨(k+1),Vn (aS O) trivial O O,⟨.inl hlt,λj hj hjk=>by rcases V3.1 hjk with e|rfl;exact hall j hj e;simpa using q⟩,Zi⟩
 exact Gx O<|Z1 O<|YR O<|ah PV.bool (qv.2 λj hj=>hall j hj Zi).symm
theorem mG(n:Int):ay (dU n)=Lib.decDigits n.natAbs/\gB (dU n)=decide (n<0):=by
 have e:(dU n).data.toList=(if n<0 then [45]else [])++Lib.decDigits n.natAbs:=gg n;by_cases h:n<0
 .rw[IT h]at e;have q:Lib.hasPrefix (dU n).data.toList [45]=YK:=by rw[e];rfl
  refine⟨by rw[ay,Lib.trimPrefix,IT q,e];rfl,by rw[gB,q,VK h]⟩
 rw[AS h,WZ]at e;have q:Lib.hasPrefix (dU n).data.toList [45]=YL:=by
  rw[e,Lib.hasPrefix];cases hd:Lib.decDigits n.natAbs with
  |nil=>rfl
  | cons c l=>
    have:=mJ n.natAbs c (by rw[hd];simp);have hc:((45:UInt8)==c)=YL:=by
     rw[Xo];intro e;rw[<-e]at this;cases this
    show((45:UInt8)==c&&List.isPrefixOf [] l)=YL;rw[hc];rfl
 refine⟨by rw[ay,Lib.trimPrefix,AS (by rw[q];decide),e],by rw[gB,q,VL h]⟩
theorem kz(n:Int):rdZ (dU n)=n:=by rw[rdZ,(mG n).1,(mG n).2,v8];exact B7 n
theorem IB(h:n≠0):(Lib.decDigits n).getD 0 0≠48:=by
 induction n using Nat.strongRecOn with
 | ind n ih=>
   by_cases h2:n<10
   .rw[Lib.decDigits,dif_pos h2];intro e;have:=ah UInt8.toNat e;simp at this;omega
   rw[Lib.decDigits,dif_neg h2];have:=ih (n/10) Zi Zi;cases hd:Lib.decDigits (n/10)with
   |nil=>exact absurd hd (Po _)
   |cons c l=>rw[hd]at this;simpa using this
theorem jh(n:Int):aQ (dU n)= !u0 n.natAbs:=by
 have q:=mG n;by_cases h:n=0
 .grind[dU,nv,aQ,u0,cN]
 have hz:((dU n).toList==(⟨#[48]⟩:er).toList)=YL:=by
  rw[Lib.toList_data,Lib.toList_data,Xo];intro e;exact h (vV (e.trans nv.symm))
 have r:(Lib.decDigits n.natAbs).isEmpty=YL:=by
  cases e:Lib.decDigits n.natAbs with
  |nil=>exact absurd e (Po _)
  |cons a l=>rfl
 have t:((Lib.decDigits n.natAbs).getD 0 0 !=48)=YK:=by
  rw[bne_iff_ne];exact IB Zi
 have u:(Lib.decDigits n.natAbs).all kF=YK:=IN.2 (mJ _);rw[lS hz,pR,q.1,r,t,u,u0];rw[V0];simp[lY];exact⟨λh=>VL Zi,λh=>by have:=Xx h;omega⟩
theorem oY(n:Int):∀c∈(dU n).data.toList,c=45\/kF c=YK:=λc hc=>by
 have e:(dU n).data.toList=(if n<0 then [45]else [])++Lib.decDigits n.natAbs:=gg n;rw[e]at hc;rcases We.1 hc with h|h
 .grind
 exact .inr (mJ _ c h)
theorem w9(h:c=45\/kF c=YK):c≠47:=by
 rcases h with rfl|h
 .decide
 .intro e;subst e;cases h
theorem sc(h:∀c∈s.data.toList,c≠47):gk s=s/\bC s=YL/\kN s=⟨#[]⟩:=by
 have q:Lib.indexByte s.data.toList 47= -1:=DX λj hj e=>h _ (ak hj) (by rw[VO,AT hj]at e;exact e)
 obtain⟨c1,c2⟩:=wW q;refine⟨c1,c2,?_⟩;have e:Lib.index s.data.toList [47]= -1:=by rw[Lib.index_one];exact q
 rw[kN,Lib.cut,e];rfl
theorem rj{a b:er}(h:∀c∈a.data.toList,c≠47):gk ((a++⟨#[47]⟩)++b)=a/\bC ((a++⟨#[47]⟩)++b)=YK/\kN ((a++⟨#[47]⟩)++b)=b:=by
 have hl:((a++(⟨#[47]⟩:er))++b).data.toList=a.data.toList++47::b.data.toList:=Zm;have q:Lib.indexByte ((a++(⟨#[47]⟩:er))++b).data.toList 47=(a.data.toList.length:Int):=by
  rw[hl];refine D9 Zm (λj hj e=>?_) (by simp[List.getD]);simp only[List.getD,List.getElem?_append_left hj,AT hj,Xg]at e;exact h _ (ak hj) e
 have e:Lib.index ((a++(⟨#[47]⟩:er))++b).data.toList [47]=(a.data.toList.length:Int):=by rw[Lib.index_one];exact q
 have hc:Lib.cut ((a++(⟨#[47]⟩:er))++b).data.toList [47]=(a.data.toList,b.data.toList,YK):=by
  rw[Lib.cut,e,IT Zi,hl];simp only[Wh,Prod.mk.injEq,and_true];refine⟨Zm,?_⟩;rw[show([47]:List UInt8).length=1 from O,List.drop_append];simp
 exact⟨by rw[gk,hc],by rw[bC,hc],by rw[kN,hc]⟩
theorem sI(q:Rat)(h:P8 q=YL):di (bk q)=YK:=by
 rw[P8,V8]at h;have u:aQ (dU q.num)=YK:=by rw[jh,h.1];rfl
 have z:aQ (dU (q.den:Int))=YK:=by rw[jh,VZ,h.2];rfl
 have r:∀c∈(dU q.num).data.toList,c≠47:=λc hc=>w9 (oY _ c hc)
 by_cases h1:q.den=1
 .grind[bk,sc,uf]
 rw[bk,AS h1];obtain⟨c1,c2,c3⟩:=rj (b:=dU (q.den:Int)) r;rw[di,c2,c1,u,AS Zk,LX,c1,c3,z,kz,kz];have B:((dU q.num).toList==AK.toList)=YL:=by
  rw[Lib.toList_data,Lib.toList_data,Xo];intro e;have G:q.num=0:=vV (e.trans nv.symm);have:=Rat.num_eq_zero.1 G;rw[this]at h1;exact h1 O
 have H:=q.den_pos;rw[B,VL Zi];have t:=q.reduced;simp only[Nat.Coprime]at t;simp[Int.gcd,t]
end
section
open Mk Jn
theorem rL(n:Nat)(T:n≠0)(U:n<1000000000)(hl:(Lib.decDigits n).length<=1000):ZK prog 172 [fb (-(n:Int))] (· = .str ⟨(45::Lib.decDigits n).toArray⟩):=by
 refine ZC func172 O ntmps172 λ_ _ _ _=>?_
 have L:decide (-(n:Int)<0)=YK:=VK Zi;have r:=js n Zi;have q:=G0 n;have t:ae n=[n]:=by rw[ae,AS T,show n/1000000000=0 by omega,aV,X5 U]
 rw[show fb (-(n:Int))= .agg [.bool YK,.sl WC 1 (b7 [n])] by show PV.agg [.bool (decide (-(n:Int)<0)),bE ((-(n:Int)).natAbs)]=_;rw[L,Int.natAbs_neg,VZ,bE,t];rfl];have u:(b7 [n])[0]? =WB (.int .u64 (n:Int)):=rfl;generalize hD:Lib.decDigits n=D at*;have M:D≠[]:=λe=>by rw[e]at q;simp at q
 have z:=ub ⟨#[45]⟩ Zk Zk;have B:=y9 [45] ⟨D.toArray⟩ Zm (show [(45:UInt8)].length+D.length<=1000000000 by simp;omega);have G:=qH (45::D) Zm Zn;have H:(1:Int)>0:=Zk;refine Z2 O<|Z4 O<|Gc O (λhc=>absurd hc Zm) (λhc=>?_);refine Vl<|Z1 O<|Vm (St.cD 1 1 2 1 5 O O O)<|Z2 O<|Gc O (λhc=>?_) (λhc=>absurd hc Zm);refine Gr O<|Rs O (az [1,2] 3 call222 z O O O O ⟨O,O,Zp⟩ Zk O)<|Gr O<|Ar 5 O<|Gl O (st:=λb:Bool=>bif b then ZT [(1,.ptr 0 0),(3,.ptr 1 0),(4,ZI 0)] [(0,.mix 82 [.pv (.bool YK),.pv (.sl WC 1 (b7 [n]))]),(1,.mix 308 [.ptr 1 0,.bz 2 1 1]),(2,.bD 5 (aF [45]))] 3 else ZT [(1,.ptr 0 0),(3,.ptr 1 0),(4,ZI (-1))] [(0,.mix 82 [.pv (.bool YK),.pv (.sl WC 1 (b7 [n]))]),(1,.mix 308 [.ptr 1 0,.bz 2 1 (45::D).length]),(2,.bD 5 (aF (45::D)))] 3)
  (I:=λ_=>True) (μ:=λb=>bif b then 1 else 0) (x0:=YK) (Vo [0,1,3] (aT O) (aP Zj) O O Zk O) trivial ?_
 rintro(_|_) _
 .simp only[Wo];refine Z2 O<|Gp O (λhc=>absurd hc Zk) (λhc=>?_);exact Gx O<|Gr O<|Rs O (az [1,2] 3 call223 G O O O O ⟨O,O,Zp⟩ Zk O)<|A1 O<|YR O O
 simp only[Xe];refine Z2 O<|Gp O (λhc=>?_) (λhc=>absurd hc Zk);refine Vl<|Z3 O<|Rs O (ai 0 aaq iK O O O Zk (by simp[b7]))<|Rs O (aC ⟨_,aaE,O⟩ O u)<|Rs O (aa call171 r O)<|A1 O<|Gr O<|Ar 6 O<|Gp O (λhc=>absurd hc Zm) (λhc=>?_);exact Vl<|Z1 O<|Rs O (az [1,2] 3 call222 B O O O O ⟨O,O,Zp⟩ Zk O)<|Z3 O<|⟨YL,Vo [0,1,3] (aT O) (aP Zj) O O Zk O,Zp,Zk⟩
theorem iG(h:n<1000000000):(Lib.decDigits n).length<=9:=vx Zk Zi
theorem ky(n:Int):(dU n).size<=(Lib.decDigits n.natAbs).length+1:=by
 have q:(dU n).size=(Lib.itoa n).length:=by simp[dU,ByteArray.size]
 rw[q,gg,Hb];split<;>simp<;>omega
theorem uj(z:Int)(q:z.natAbs<1000000000):ZK prog 172 [fb z] (· = .str (dU z)):=by
 have hl:=iG q;by_cases h:z<0
 .have hs:=rL z.natAbs Zi q Zi;have e:dU z=⟨(45::Lib.decDigits z.natAbs).toArray⟩:=by rw[dU,gg,IT h];rfl
  rw[show-((z.natAbs:Nat):Int)=z by omega,<-e]at hs;exact hs
 grind[tq,dU,gg]
structure F1(q:Rat):Prop where
 n:q.num.natAbs<1000000000
 d:q.den<31622
theorem F1.ok{q:Rat}(h:F1 q):FOk q:=⟨h.d,OF (PC h.n) Zk⟩
theorem Jd(q:Rat)(h:F1 q):ZK prog 117 [frP q] (· = .str (bk q)):=by
 refine ZC func117 O ntmps117 λ_ _ _ _=>?_
 have B:=im q h.ok;have t:=uj q.num h.n;have u:=uj (q.den:Int) (by rw[VZ];have:=h.d;omega);have G:(dU q.num).size<=10:=by have:=ky q.num;have:=iG h.n;omega
 have H:(dU (q.den:Int)).size<=10:=by have I:=ky (q.den:Int);have L:=iG (n:=q.den) (by have:=h.d;omega);rw[VZ]at I;omega
 have z:((dU q.num)++⟨#[47]⟩:er).size=(dU q.num).size+1:=X8;refine Z2 O<|Z1 O<|Rs O (aa call159 B O)<|Gc O (λr=>?_) (λr=>?_)
 .have e:bk q=dU q.num:=IT (by simpa using r);exact Z2 O<|Rs O (aa call172 t O)<|A1 O<|YR O<|by rw[e];rfl
 have e:bk q=(dU q.num++⟨#[47]⟩)++dU (q.den:Int):=AS (by simpa using r);refine Vl<|VC 9 O<|Dr 2 O<|YM O (λτ h=>aa call172 t (h.aE O))<|YM O (λτ h=>rS (Ee h 0 O) (Ee h 1 O) (by show(dU q.num).size+1<=_;omega)) ?_;refine Dr 2 O<|YM O (λτ h=>aa call172 u (h.aE O))<|YM O (λτ h=>rS (Ee h 0 O) (Ee h 1 O) (by rw[show((dU q.num)++⟨#[47]⟩:er).size=(dU q.num).size+1 from z];omega)) ?_;refine D1 O O ⟨Zj,YR O<|by rw[e];rfl⟩
theorem o8(z:Int)(B:z.natAbs<1000000000):ZK prog 116 [fb z] (· = ZU ((Lib.decDigits z.natAbs).length:Nat)):=by
 refine ZC func116 O ntmps116 λ_ _ _ _=>?_
 have r:=js z.natAbs Zi;have hl:=iG B;by_cases h0:z.natAbs=0
 .have t:bE z.natAbs= .sl WC 0 []:=by rw[h0];exact x6
  have G:(Lib.decDigits z.natAbs).length=1:=by rw[h0];exact cN Zk
  rw[show fb z= .agg [.bool (decide (z<0)),.sl WC 0 []] by show PV.agg [.bool (decide (z<0)),bE z.natAbs]=_;rw[t]];refine Z2 O<|Z4 O<|Gc O (λq=>?_) (λq=>absurd q Zm);exact Z1 O<|YR O<|by rw[G];rfl
 have hlm:ae z.natAbs=[z.natAbs]:=eY h0 B;have t:bE z.natAbs= .sl WC 1 [.int .u64 (z.natAbs:Int)]:=by rw[bE,hlm];rfl
 rw[show fb z= .agg [.bool (decide (z<0)),.sl WC 1 [.int .u64 (z.natAbs:Int)]] by show PV.agg [.bool (decide (z<0)),bE z.natAbs]=_;rw[t]];have u:(⟨(Lib.decDigits z.natAbs).toArray⟩:er).size=(Lib.decDigits z.natAbs).length:=by simp[ByteArray.size]
 generalize (Lib.decDigits z.natAbs)=D at*;refine Z2 O<|Z4 O<|Gc O (λq=>absurd q Zm) (λq=>?_);exact Vl<|Gr O<|Ar 5 O<|Gr O<|Ar 5 O<|Rs O (ai 0 aaq iK O O O Zk Zm)<|Rs O (aC ⟨_,aaE,O⟩ O O)<|Rs O (aa call171 r O)<|Y3 O<|YR O<|by rw[show(⟨D.toArray⟩:er).size=D.length from u];show PV.int .i64 (0+(D.length:Int))=_;rw[Int.zero_add]
theorem ES(q:Rat)(h:F1 q):ZK prog 56 [frP q] (· = .bS [.str (bk q),ZU 0]):=by
 refine ZC func56 O ntmps56 λ_ _ _ _=>?_
 have t:=o8 q.num h.n;have u:=o8 (q.den:Int) (by rw[VZ];have:=h.d;omega);have z:=iG h.n;have B:=iG (n:=(q.den:Int).natAbs) (by rw[VZ];have:=h.d;omega);have G:=Jd q h;have H:decide (((Lib.decDigits q.num.natAbs).length:Int)>400)=YL:=VL Zi;have I:decide (((Lib.decDigits (q.den:Int).natAbs).length:Int)>400)=YL:=VL Zi;refine Z3 O<|Z2 O<|Rs O (aa call116 t O)<|Rs O (jA O O O H)<|Y3 O<|Rg O (aa call116 u O)<|Rg O (jA O O O I)<|A1 O<|Gc O (λr=>absurd r Zm) (λr=>?_);exact Vl<|Z1 O<|Rs O (aa call117 G O)<|Y2 O<|YR O O
structure QOk(s:er)(q:Rat):Prop where
 sz:s.size<4294967281
 n:aQ (gk s)=YK/\rdZ (gk s)=q.num
 d:if bC s=YK then aQ (kN s)=YK/\rdZ (kN s)=(q.den:Int)else q.den=1
theorem tF(s:er)(q:Rat)(h:QOk s q):ZK prog 108 [.str s] (· =frP q):=by
 refine ZD func108 O ntmps108 λ_ _ _ _=>?_
 have u:=IW s ⟨#[47]⟩ h.sz;have B:=fO (gk s) (bI h.n.1).1 (by have:=(bI h.n.1).2;omega);rw[h.n.2]at B;have t:=h.d;refine Z1 O<|Z1 O<|Rs O (aa call167 u O)<|Ar 7 O<|Z2 O<|Gc O (λr=>?_) (λr=>?_)
 .have hs:bC s=YL:=by have G:(!bC s)=YK:=r;simpa using G
  rw[AS (by rw[hs];decide)]at t;have z:=fO CW (bI iP).1 (by have:=(bI iP).2;omega);rw[vo,show(1:Int)=((q.den:Nat):Int) by rw[t];rfl]at z;exact Z1 O<|Z1 O<|Rs O (aa call168 B O)<|A1 O<|Rs O (aa call168 z O)<|Y2 O<|YR O ⟨⟨ar ⟨_,aaF,O⟩ L2 O O O,Zp⟩,O⟩
 have hs:bC s=YK:=by have G:(!bC s)=YL:=r;simpa using G
 rw[IT hs]at t;have z:=fO (kN s) (bI t.1).1 (by have:=(bI t.1).2;omega);rw[t.2]at z;exact Vl<|Z1 O<|Rs O (aa call168 B O)<|A1 O<|Rs O (aa call168 z O)<|Y2 O<|YR O ⟨⟨ar ⟨_,aaF,O⟩ L2 O O O,Zp⟩,O⟩
theorem qn(q:Rat)(h:F1 q):QOk (bk q) q:=by
 have u:=iG h.n;have B:=iG (n:=q.den) (by have:=h.d;omega);have I:=ky q.num;have G:=ky (q.den:Int);rw[VZ]at G;have H:∀n:Nat,(Lib.decDigits n).length<=9->u0 n=YL:=λn hn=>by grind[lY,u0]
 have r:aQ (dU q.num)=YK:=by rw[jh,H _ u];rfl
 have L:aQ (dU (q.den:Int))=YK:=by rw[jh,VZ,H _ B];rfl
 have t:∀z:Int,∀c∈(dU z).data.toList,c≠47:=λz c hc=>w9 (oY _ c hc)
 by_cases hd:q.den=1
 .have e:bk q=dU q.num:=IT hd;obtain⟨c1,c2,c3⟩:=sc (t q.num);rw[e];refine⟨Zi,by rw[c1];exact⟨r,kz _⟩,?_⟩;rw[c2,AS Zk];exact hd
 have e:bk q=(dU q.num++⟨#[47]⟩)++dU (q.den:Int):=AS hd;obtain⟨c1,c2,c3⟩:=rj (a:=dU q.num) (b:=dU (q.den:Int)) (t q.num);rw[e];refine⟨?_,by rw[c1];exact⟨r,kz _⟩,?_⟩
 .rw[X8,X8];have:(⟨#[47]⟩:er).size=1:=rfl;omega
 grind[kz]
end
section
open Go.RowKit Mk Jn Mm
theorem C6[BEq K][LawfulBEq K]{f:K->PV}(q:∀a b,keq (f a) (f b)=WB (a==b)){l:List (K×Rat)}(r:(l.map (·.1)).Nodup):GO (aq f l):=by grind[GO,aq]
theorem xy(f:K->PV)(l:List (K×Rat)):(aq f l).length=l.length:=by simp[aq]
def mcZ(m:MC):Bool:=(decide (m.c=0)&&decide (m.s.length=0))&&decide (m.p.length=0)
theorem O6(m:MC)(hs:(m.s.map (·.1)).Nodup)(z:(m.p.map (·.1)).Nodup):ZK prog 49 [mcP m] (· = .bool (mcZ m)):=by
 refine ZC func49 O ntmps49 λ_ _ _ _=>?_
 have q:=fQ m.c;have r:(m.c.num.sign==0)=decide (m.c=0):=iN;have t:=C6 cu hs;have u:=C6 dd z;have l1:(((aq bu m.s).length:Int)==0)=decide (m.s.length=0):=by rw[xy,V0,Xk,VJ];omega
 have l2:(((aq ppP m.p).length:Int)==0)=decide (m.p.length=0):=by rw[xy,V0,Xk,VJ];omega
 by_cases hc:m.c=0
 .rw[VK hc]at r;by_cases h1:m.s.length=0
  .rw[VK h1]at l1;exact Z2 O<|Z2 O<|Rs O (aa call102 q O)<|Rs O (fE O O O r)<|Y3 O<|Rg O (BI aax (.inr (.inl ⟨O,t⟩)))<|Rg O (fE O O O l1)<|Ar 4 O<|Rg O (BI aaD (.inr (.inl ⟨O,u⟩)))<|Y3 O<|YR O<|ah PV.bool (by rw[mcZ,VK hc,VK h1];exact l2)
  rw[VL h1]at l1;exact Z2 O<|Z2 O<|Rs O (aa call102 q O)<|Rs O (fE O O O r)<|Y3 O<|Rg O (BI aax (.inr (.inl ⟨O,t⟩)))<|Rg O (jA O O O l1)<|Ar 8 O<|YR O<|ah PV.bool (by rw[mcZ,VK hc,VL h1];rfl)
 rw[VL hc]at r;exact Z2 O<|Z2 O<|Rs O (aa call102 q O)<|Rs O (jA O O O r)<|Ar 13 O<|YR O<|ah PV.bool (by rw[mcZ,VL hc];rfl)
open Classical in
theorem Uj{W:Nat}{x:ZB}(u:SOk W k x):ZK prog 49 [momP x] (· = .bool (decide (x=Mm.Sem.zero))):=by
 obtain⟨h1,h2,_,_⟩:=u.cn;have h:=O6 (cn x) h1.s.nd h1.p.nd;have e:mcZ (cn x)=decide (x=Mm.Sem.zero):=by
  rw[V0,VJ];constructor
  .intro hz;simp only[mcZ,aJ,VJ]at hz;obtain⟨⟨h3,h4⟩,h5⟩:=hz;rw[<-h2];have q:=XY.1 h4;have r:=XY.1 h5;exact Sem.same h3 (λx=>by show lk _ _=_;rw[q];rfl) (λx y=>by show lk _ _=_;rw[r];rfl)
  rintro rfl;have t:cn Mm.Sem.zero=⟨((0:Nat):Int),[],[]⟩:=tJ 0;rw[t];decide+kernel
 rw[e]at h;exact h
theorem Fp(f:Int×Int×Int)(a:Int):ZK prog 106 [.agg (BW f),.rp [ZU a] 0] (· = .bool (f.1==a)):=by
 refine ZC func106 O ntmps106 λ_ _ _ _=>?_
 exact Z2 O<|Gr O<|Ar 5 O<|YR O O
def OR{α:Type}(p:α->Bool)(l:List α):Int:=match l.findIdx? p with|some i=>(i:Int)|none=> -1
theorem findIdx_take{l:List α}{p:α->Bool}(r:k<l.length)(h:(l.take k).any p=YL)(t:p l[k]=YK):l.findIdx? p=WB k:=by rw[XT];refine⟨r,t,λj hj=>?_⟩;have q:=Yr.1 h (l[j]'Zi) (XQ.2 ⟨j,Zi,O⟩);simpa using q
theorem EI(l:List (Int×Int×Int))(g:FuncId)(caps:na)(p:Int×Int×Int->Bool)(hl:l.length<=1000000)(hc:bS prog g)(B:∀f∈l,ZK prog g ([]++[.agg (BW f)]++caps) (· = .bool (p f))):
  ZK prog 105 [.sl WC l.length (aK l),.fn (.func g) [] caps] (· = ZU (OR p l)):=by
 refine ZC func105 O ntmps105 λ_ _ _ _=>?_
 refine Z1 O<|Z3 O<|Gz O (st:=λZq:Nat=>((ZZ Zq),[])) 0
  (I:=λZq=>Zq<=l.length/\(l.take Zq).any p=YL) (μ:=λZq=>l.length-Zq) (x0:=0) (Vn (aS O) trivial O O) (⟨sh _,O⟩) ?_
 rintro k ⟨hk,hno⟩;refine Z1 O<|Gp O (λu=>?_) (λu=>?_)
 .have hlt:k<l.length:=Zi;have r:=kW hlt;have z:=oD hlt;have t:=B _ (ak hlt);refine Vl<|Z2 O<|Z4 O<|Rs O (aD ⟨_,underlying60,O⟩ KS O r O)<|Rs O (bX hc O t O)<|Gc O (λq=>?_) (λq=>?_)
  .exact Z2 O<|YR O<|by rw[OR,findIdx_take hlt hno q];rfl
  exact Vl<|Z2 O<|⟨(k+1),Vn (aS O) trivial O O,⟨Zi,fM hlt hno q⟩,Zi⟩
 exact Gx O<|Z1 O<|YR O<|by rw[aG Zi]at hno;rw[OR,List.findIdx?_eq_none_iff.2 (λx hx=>by have:=Yr.1 hno x hx;simpa using this)];rfl
open Classical in
noncomputable def liftS(q:er->Rat)(S:ZN)(a:Int)(v:er):ZB:=
 if a=S.label then(if v=⟨#[]⟩then cnt (0:Nat)else lft ⟨-1,⟨#[]⟩⟩ (q v))
 else match S.bo.findIdx? (λf=>f.1==a)with
  |none=>cnt (1:Nat)
  |some i=>if(S.bo.getD i default).2.1=2 then lft ⟨i,v⟩ 1 else if v=⟨#[]⟩then(if(S.bo.getD i default).2.2=1 then cnt (0:Nat)else cnt (1:Nat))else lft ⟨i,⟨#[]⟩⟩ (q v)
structure VQ(q:er->Rat)(v:er):Prop where
 ok:QOk v (q v)
 i:dR 6 (q v)
 b:bg 3 (q v)
theorem FP(v:er):(v.toList==(⟨#[]⟩:er).toList)=decide (v=⟨#[]⟩):=by rw[V0,VJ,Xk];exact⟨bytes_inj,λe=>by rw[e]⟩
theorem Hr(q:er->Rat)(S:ZN)(a:Int)(v:er)(hl:S.bo.length<=1000000)(hq:v≠⟨#[]⟩->(a=S.label\/∃i,S.bo.findIdx? (λf=>f.1==a)=WB i/\(S.bo.getD i default).2.1≠2)->VQ q v):
  ZK prog 52 [fp S,ZU a,.str v] (· =momP (liftS q S a v)):=by
 refine ZD func52 O ntmps52 λ_ _ _ _=>?_
 have W:=EI S.bo 106 [.rp [.int .i64 a] 0] (λf=>f.1==a) hl call106 (λf _=>Fp f a);have X:=qk 0 Zk;have Y:=qk 1 Zk;have hof:=p8 1 Zk Zk;have V:=FP v;refine Z3 O<|Vm (St.gR 1 O O)<|Z3 O<|Rs O (aa call105 W O)<|A1 O<|Gr O<|Ar 5 O ?_;apply Vx 3 18 21 [19,20] O Zs
 .intro hb4;exact Y3 O<|Vp Zr O O O
 .intro hb4;exact Y3 O<|Vp Zr O O O
 refine A1 O<|Gc O (λr=>?_) (λr=>?_)
 .have h21:a=S.label/\v=⟨#[]⟩:=by rw[V]at r;simpa using r
  have e:liftS q S a v=cnt (0:Nat):=by rw[liftS,IT h21.1,IT h21.2]
  exact Gr O<|Rs O (aa call46 X O)<|A1 O<|YR O ⟨⟨ar ⟨_,aap,O⟩ s0 O O O,Zp⟩,by rw[e];rfl⟩
 have h21:¬ (a=S.label/\v=⟨#[]⟩):=λh=>by rw[V]at r;simp[h.1,h.2]at r
 refine Gr O<|Ar 5 O<|Gc O (λB=>?_) (λB=>?_)
 .have h27:a=S.label:=by simpa using B
  have hv:v≠⟨#[]⟩:=λh=>h21 ⟨h27,h⟩
  have M:=hq hv (.inl h27);have T:=tF v (q v) M.ok;have U:=IY ⟨-1,⟨#[]⟩⟩ (q v) M.i M.b;have e:liftS q S a v=lft ⟨-1,⟨#[]⟩⟩ (q v):=by rw[liftS,IT h27,AS hv]
  exact Z2 O<|Rs O (aa call108 T O)<|Rs O (aa call107 U O)<|A1 O<|YR O ⟨⟨ar ⟨_,aap,O⟩ s0 O O O,Zp⟩,by rw[e];rfl⟩
 have h27:¬a=S.label:=by simpa using B
 refine Z3 O<|Gp O (λG=>?_) (λG=>?_)
 .have h32:OR (λf=>f.1==a) S.bo<0:=by simpa using G
  have L:S.bo.findIdx? (λf=>f.1==a)=WC:=by
   unfold OR at h32;cases hx:S.bo.findIdx? (λf=>f.1==a)with
   |none=>rfl
   |some i=>rw[hx]at h32;simp only at h32;omega
  have e:liftS q S a v=cnt (1:Nat):=by rw[liftS,AS h27,L]
  exact Gr O<|Rs O (aa call46 Y O)<|A1 O<|YR O ⟨⟨ar ⟨_,aap,O⟩ s0 O O O,Zp⟩,by rw[e];rfl⟩
 have h32:¬OR (λf=>f.1==a) S.bo<0:=by simpa using G
 obtain⟨i,L⟩:∃i,S.bo.findIdx? (λf=>f.1==a)=WB i:=by
  unfold OR at h32;cases hx:S.bo.findIdx? (λf=>f.1==a)with
  |none=>rw[hx]at h32;simp only at h32;omega
  |some i=>exact⟨i,O⟩
 have hii:OR (λf=>f.1==a) S.bo=(i:Int):=by rw[OR,L]
 have u:i<S.bo.length:=(XT.1 L).1;have Z:=kW u;have hne:=oD u;have z:S.bo.getD i default=S.bo[i]:=by simp[List.getD,u]
 have ab:∀c,ZK prog 107 [bu ⟨(i:Int),c⟩,frP ((1:Int):Rat)] (· =momP (lft ⟨(i:Int),c⟩ 1)):=λc=>IY ⟨i,c⟩ 1 (dR.ofInt 6 1) ⟨by decide+kernel,by decide+kernel⟩
 refine Vl ?_;rw[hii];refine Z3 O<|Rs O (ai i underlying28 KS O O O u hne)<|Rs O (aD ⟨_,underlying60,O⟩ KS O Z O)<|Y2 O<|Z4 O<|Gc O (λH=>?_) (λH=>?_)
 .have h41:S.bo[i].2.1=2:=by simpa using H
  have e:liftS q S a v=lft ⟨(i:Int),v⟩ 1:=by rw[liftS,AS h27,L];simp only;rw[z,IT h41]
  exact Z3 O<|Rs O (aa call95 hof O)<|Rs O (aa call107 (ab v) O)<|A1 O<|YR O ⟨⟨ar ⟨_,aap,O⟩ s0 O O O,Zp⟩,by rw[e];rfl⟩
 have h41:¬S.bo[i].2.1=2:=by simpa using H
 refine Z3 O ?_;apply Vx 4 53 57 [54,55,56] O Zs
 .intro hb2;exact Ar 4 O<|Vp Zr O O O
 .intro hb2;exact Ar 4 O<|Vp Zr O O O
 refine A1 O<|Gc O (λt=>?_) (λt=>?_)
 .have h50:v=⟨#[]⟩/\S.bo[i].2.2=1:=by rw[V]at t;simpa using t
  have e:liftS q S a v=cnt (0:Nat):=by rw[liftS,AS h27,L];simp only;rw[z,AS h41,IT h50.1,IT h50.2]
  exact Gr O<|Rs O (aa call46 X O)<|A1 O<|YR O ⟨⟨ar ⟨_,aap,O⟩ s0 O O O,Zp⟩,by rw[e];rfl⟩
 have h50:¬ (v=⟨#[]⟩/\S.bo[i].2.2=1):=λh=>by rw[V]at t;simp[h.1,h.2]at t
 refine Z3 O<|Gc O (λI=>?_) (λI=>?_)
 .have h59:v=⟨#[]⟩:=by have h9:(v.toList==(⟨#[]⟩:er).toList)=YK:=I;rw[V]at h9;simpa using h9
  have e:liftS q S a v=cnt (1:Nat):=by rw[liftS,AS h27,L];simp only;rw[z,AS h41,IT h59,AS (λh=>h50 ⟨h59,h⟩)]
  exact Gr O<|Rs O (aa call46 Y O)<|A1 O<|YR O ⟨⟨ar ⟨_,aap,O⟩ s0 O O O,Zp⟩,by rw[e];rfl⟩
 have h59:¬v=⟨#[]⟩:=by have h9:(v.toList==(⟨#[]⟩:er).toList)=YL:=I;rw[V]at h9;simpa using h9
 have M:=hq h59 (.inr ⟨i,L,by rw[z];exact h41⟩);have T:=tF v (q v) M.ok;have U:=IY ⟨i,⟨#[]⟩⟩ (q v) M.i M.b;have e:liftS q S a v=lft ⟨(i:Int),⟨#[]⟩⟩ (q v):=by rw[liftS,AS h27,L];simp only;rw[z,AS h41,AS h59]
 exact Vl<|Z3 O<|Rs O (aa call108 T O)<|Rs O (aa call107 U O)<|A1 O<|YR O ⟨⟨ar ⟨_,aap,O⟩ s0 O O O,Zp⟩,by rw[e];rfl⟩
end
section
open Mk Jn
open Mm (SOk cnt bH aM cn ZB)
noncomputable abbrev momC(x:ZB):nR:=[.pv (.bool (decide ((cn x).c.num<0))),.pv (bE (cn x).c.num.natAbs),.pv (.bool (decide (((cn x).c.den:Int)<0))),.pv (bE ((cn x).c.den:Int).natAbs),.pv (.mp (aq bu (cn x).s) (bm (cn x).s)),.pv (.mp (aq ppP (cn x).p) (bm (cn x).p))]
noncomputable abbrev momW(x:ZB):V:= .agg (momC x)
noncomputable abbrev momO(x:ZB):Ob:= .mix 88 (momC x)
abbrev UH(n:Nat):nR:=[.pv (.bool YL),.pv (bE n),.pv (.bool YL),.pv (bE 1),.pv (.mp [] []),.pv (.mp [] [])]
theorem Di(n:Nat):momC (cnt (n:Int))=UH n:=by unfold momC;rw[Mm.tJ];have q:(((n:Int):Rat)).num=(n:Int):=rfl;have r:(((n:Int):Rat)).den=1:=rfl;simp only[q,r,VZ];rw[show decide ((n:Int)<0)=YL from VL Zi];rfl
theorem HK:momO aM.zero= .mix 88 (UH 0):=ah _ (Di 0)
theorem N1:momO aM.one= .mix 88 (UH 1):=ah _ (Di 1)
structure MD where
 lf:Int->er->ZB
 B:Nat
 L:PV
 caps:na
 X:Nat->er->Prop
abbrev gM(J:JD)(P:cP)(E:MD):Int->vb->ZB:=gJ aM E.lf cnt J P
abbrev wdM(D:VD)(E:MD):WD:=⟨cB D.chs,cB D.kes,cB D.hos,al D.wa,.any,.any,.any,.any,.any,.any,.any,E.L,.fn (.func 46) [] []⟩
structure CtxM(J:JD)(P:cP)(D:VD)(E:MD):Prop where
 c:CtxV J P D
 w:WOk J E.B
 l:∀v x,SOk 1 1 (E.lf v x)
 b:Hd J P E.B<=10^50
 p:P.length<=50
 b1:E.B<=10^50
 b2:E.B<=1000000000
 x:∀(v:Nat) σ,∀y∈cA (RJ J) sdS (v:Int) σ,E.X v y
 f:E.L= .fn (.func 51) [] E.caps
 t:∀(v:Nat) y,v<P.length->E.X v y->ZK prog 51 ([ZU v,.str y]++E.caps) (· =momP (E.lf v y))
 hs:∀v (hv:v<D.hos.length),D.hos[v]=hoL J.S P (v:Int)
theorem CtxM.ge{J:JD}{P:cP}{D:VD}{E:MD}(h:CtxM J P D E):GEx (gM J P E) J P (EJ J P):=Ui aM E.lf cnt h.c.ord h.c.wv
section
variable {J:JD}{P:cP}{D:VD}{E:MD}(h:CtxM J P D E)
include h
theorem CtxM.hb{m:Nat}(q:m<=J.S.aU.length):(E.B^4)^m<=10^50:=OF (homB h.w.b q) h.b
end
end
end Go.Proofs.YthicoeegbdboeaaGreatDoor
