/- Lemmas. No condition. -/
import Derived.ChangeKeysEq
import Derived.Test.YthicoeegbdboeaaGreatDoorJF15
set_option maxRecDepth 100000
set_option maxHeartbeats 4000000
open Go.RowKit Go.Proofs.Tryz
open Option renaming some→WB,none→WC
open Bool renaming true→YK,false→YL
namespace Go.Proofs.YthicoeegbdboeaaGreatDoor
variable{K α:Type}{B s k id sz W o m:Nat}{q c:Rat}{P A:cP}{T e:TypeId}{kk:IntKind}{i D v:Int}{S:ZN}{x:er}
section
theorem fZ(x y:Int)(hx:(ae x.natAbs).length<=1000000)(hy:(ae y.natAbs).length<=1000000):ZK prog 128 [lZ x,lZ y] (· =lZ (x*y)):=by
 refine ZD func128 O ntmps128 λ_ _ _ _=>?_
 have L:=Ix x y;obtain⟨nx,hnx⟩:∃b,b=decide (x<0):=⟨_,O⟩;obtain⟨ny,hny⟩:∃b,b=decide (y<0):=⟨_,O⟩;obtain⟨a,haa⟩:∃a,a=x.natAbs:=⟨_,O⟩;obtain⟨b,hbb⟩:∃b,b=y.natAbs:=⟨_,O⟩;rw[show lZ x= .agg [.bool nx,pli (ae a)] by rw[hnx,haa],show lZ y= .agg [.bool ny,pli (ae b)] by rw[hny,hbb]];rw[<-hnx,<-hny,<-haa,<-hbb]at L;rw[<-haa]at hx;rw[<-hbb]at hy;obtain⟨la,hla⟩:∃n:Nat,n=(ae a).length:=⟨_,O⟩;obtain⟨lb,hlb⟩:∃n:Nat,n=(ae b).length:=⟨_,O⟩;clear hnx hny haa hbb;refine Z3 O<|Gr O<|Ar 10 O<|Z1 O<|Gz O (st:=λZq:Nat×ee=>([(2,WC),(3,WC),(4,WC),(5,WC),(6,WB (ZI Zq.1))],[(0,WC),(1,WC),(2,WC),(3,WB (.cells 3 (gP Zq.2)))])) 4
  (I:=λZq=>(Zq.1<=la/\Zq.2.length=la+lb+1)/\Lok Zq.2/\val Zq.2=sm (lim (ae a)) Zq.1*b/\∀j,Zq.1+lb<=j->lim Zq.2 j=0) (μ:=λZq=>la-Zq.1) (x0:=(0,List.replicate ((ae a).length+(ae b).length+1) 0)) (Vn (aS O) ⟨Zj,Zj,Zj,ah (λc=>WB (Ob.cells 3 c)) ((ct (.int .i64 0) (((ae a).length+(ae b).length+1)*1)).trans (by simp[gP])),Zp⟩ O O) (⟨⟨sh _,by simp[hla,hlb]⟩,Lok.replicate _,by rw[val_zero (λi=>by simp only[List.getD,Yi];split<;>rfl)];simp[sm],λj _=>by simp only[lim,List.getD,Yi];split<;>rfl⟩) ?_
 rintro⟨i,o⟩ ⟨⟨hi,hol⟩,hok,hv,hz⟩;try simp only at hi hol hok hv hz ⊢
 refine Gr O<|Ar 5 O<|Gp O (λU=>?_) (λU=>?_)
 .have hia:i<(ae a).length:=Zi;have X:=cj hia;have Y:=dm hia;have Z:=cK (a6 a) i;have ab:sm (lim (ae a)) (i+1)=sm (lim (ae a)) i+1000000000^i*lim (ae a) i:=rfl;generalize lim (ae a) i=u at*;refine Vl<|Z1 O<|Z1 O<|Gz O (st:=λt:Nat×ee×Nat=>([(2,WC),(3,WC),(4,WC),(5,WC),(6,WC),(7,WB (ZI t.2.2)),(8,WB (ZI t.1))],[(0,WC),(1,WC),(2,WC),(3,WB (.cells 3 (gP t.2.1)))])) 4
   (I:=λt=>((t.1<=lb+1/\t.2.1.length=la+lb+1)/\(t.1=lb+1->t.2.2=0))/\(Lok t.2.1/\t.2.2<1000000000)/\val t.2.1+1000000000^(i+t.1)*t.2.2=sm (lim (ae a)) i*b+1000000000^i*(u*sm (lim (ae b)) t.1)/\(∀j,i+1+lb<=j->lim t.2.1 j=0)/\(t.1<=lb->lim t.2.1 (i+lb)=0)) (μ:=λt=>lb+1-t.1) (x0:=(0,o,0)) (Vn (aS O) (aO Zj) O O) (⟨⟨⟨sh _,hol⟩,λh=>by omega⟩,⟨hok,Nat.zero_lt_succ 999999999⟩,by rw[hv];simp[sm],λj hj=>hz j Zi,λ_=>hz _ (BY _)⟩) ?_
  rintro⟨k,q,c⟩ ⟨⟨⟨hk,hql⟩,hkc⟩,⟨hqk,hc⟩,he,hz2,hz3⟩;try simp only at hk hql hkc hqk hc he hz2 hz3 ⊢
  refine Gr O<|Ar 6 O ?_;apply Vv 3 30 33 [31,32] O Zs
  .intro hb5;exact Y3 O<|Vp Zr O O O
  .intro hb5;exact Y3 O<|Vp Zr O O O
  refine Gc O (λG=>?_) (λG=>?_)
  .have hk1:k<=lb:=by
    simp only[Wr,VJ]at G;rcases G with e|e<;>omega
   have E:i+k<q.length:=Zi;have au:=cj E;have ax:=dm E;have ac:=cK (a6 b) k;have H:=DZ (y:=lim (ae b) k) E he;have ad:sm (lim (ae b)) (k+1)=sm (lim (ae b)) k+1000000000^k*lim (ae b) k:=rfl;rw[<-ad]at H;have ay:=cK hqk (i+k);have az:=wJ q;have aA:=C2 Z ac;have af:k=lb->lim q (i+k)=0:=λe=>by rw[e];exact hz3 Zi
   generalize lim q (i+k)=z at*;refine Vl<|Gr O<|Ar 5 O<|Rs O (ag (i+k) aal sz3 O O O O Zi)<|A2 O Zl ?_;refine Rs O (XJ.cast (v':= ZI ((c+z:Nat):Int)) (lx O O Zi) O)<|A1 O<|Gr O<|Ar 5 O ?_;refine Gp O (λV=>?_) (λV=>?_)
   .have hkb:k<(ae b).length:=Zi;have al:=cj hkb;have am:=dm hkb;generalize lim (ae b) k=y0 at*;rw[show z+u*y0+c=c+z+u*y0 by omega]at H;refine VC 14 O<|Dr 4 O<|YM O (λτ h=>ai i aal sz3 (Ee h 0 O) (Ee h 1 O) O hia Y)<|YM O (λτ h=>aC ⟨_,aan,O⟩ (Ee h 0 O) X)<|Dr 3 O<|YM O (λτ h=>ai k aal sz3 (Ee h 0 O) (Ee h 1 O) O hkb am)<|YM O (λτ h=>aC ⟨_,aan,O⟩ (Ee h 0 O) al)<|YM O (λτ h=>XJ.cast (v':= ZI ((u*y0:Nat):Int)) (yO (Ee h 0 O) (Ee h 1 O) (by rw[<-XK];omega)) (ah (λi=>ZI i) (XK u y0).symm))<|YM O (λτ h=>XJ.cast (v':= ZI ((c+z+u*y0:Nat):Int)) (lx (Ee h 0 O) (Ee h 1 O) Zi) O)<|D1 O O ⟨Zj,Gr O<|Ar 5 O<|Rs O (XJ.cast (v':= ZI (((c+z+u*y0)%1000000000:Nat):Int)) (fC O O Zk) O)<|Rs O (ag (i+k) aal sz3 O O O O Zi)<|A1 O<|Z1 O<|Rs O (XJ.cast (v':= ZI (((c+z+u*y0)/1000000000:Nat):Int)) (dw O O Zk) (ah (λi=>ZI i) (yu Zi)))<|A1 O<|Z3 O<|⟨(k+1,q.set (i+k) ((c+z+u*y0)%1000000000),(c+z+u*y0)/1000000000),Vn (aS O) ⟨Zj,Zj,Zj,ah (λc=>WB (Ob.cells 3 c)) (by rw[VY,gU]),Zp⟩ O O,⟨⟨⟨Zo,by simp only[VN];exact hql⟩,λh=>by simp only at h ⊢; omega⟩,⟨hqk.rV _ _,Zo⟩,H,λj hj=>by rw[jf E,AS Zi];exact hz2 j hj,λh=>by simp only at h ⊢; rw[jf E,AS Zi];exact hz3 hk1⟩,Zo⟩⟩
   have hkb:k=lb:=Zi;have an:lim (ae b) k=0:=ju Zi;have ao:=af hkb;subst ao;rw[an,Zb,show 0+0+c=c+0 by omega]at H;exact Vl<|Gr O<|Ar 5 O<|Rs O (XJ.cast (v':= ZI (((c+0)%1000000000:Nat):Int)) (fC O O Zk) O)<|Rs O (ag (i+k) aal sz3 O O O O Zi)<|A1 O<|Z1 O<|Rs O (XJ.cast (v':= ZI (((c+0)/1000000000:Nat):Int)) (dw O O Zk) (ah (λi=>ZI i) (yu Zi)))<|A1 O<|Z3 O<|⟨(k+1,q.set (i+k) ((c+0)%1000000000),(c+0)/1000000000),Vn (aS O) ⟨Zj,Zj,Zj,ah (λc=>WB (Ob.cells 3 c)) (by rw[VY,gU]),Zp⟩ O O,⟨⟨⟨Zo,by simp only[VN];exact hql⟩,λh=>by simp only at h ⊢; omega⟩,⟨hqk.rV _ _,Zo⟩,H,λj hj=>by rw[jf E,AS Zi];exact hz2 j hj,λh=>by simp only at h ⊢; rw[jf E,AS Zi];exact hz3 hk1⟩,Zo⟩
  have hc2:c=0/\lb<=k:=by
   simp only[V8,Xf]at G;omega
  rw[hc2.1,Zb,XG,eL (ae b) Zi,aH]at he;exact Gx O<|Z3 O<|⟨(i+1,q),Vn (aS O) (aO Zj) O O,⟨⟨Zo,hql⟩,hqk,by simp only;rw[he,ab,Nat.add_mul,Xr],λj hj=>hz2 j (by simp only at hj;omega)⟩,Zo⟩
 refine Gx O ?_;obtain rfl:i=la:=Zi;have ap:val o=a*b:=by rw[hv,eL (ae a) (Xz hla.symm),aH]
 have M:=cG (neg:=nx !=ny) o (show o.length=(ae a).length+(ae b).length+1 by omega) Zi hok ap;rw[L]at M;exact Vm (Vq 3 O O)<|Gr O<|Ar 7 O<|Rs O (aa call133 M O)<|A1 O<|YR O ⟨⟨ar ⟨_,aar,O⟩ Fb O O O,Zp⟩,O⟩
structure RSm(q:Rat):Prop where
 n:(ae q.num.natAbs).length<=1000
 d:(ae q.den).length<=1000
theorem nN(a b:Rat)(I:RSm a)(L:RSm b):ZK prog 67 [cc a,cc b] (· =cc (a*b)):=by
 refine ZD func67 O ntmps67 λ_ _ _ _=>?_
 have t:=I.n;have u:=L.n;have z:=I.d;have E:=L.d;have G:=fZ a.num b.num Zi Zi;have H:=fZ (a.den:Int) (b.den:Int) (by rw[VZ];omega) (by rw[VZ];omega);have M:=jR t u;have U:=jR z E;have j:=zK (a.num*b.num) ((a.den:Int)*(b.den:Int)) (by rw[YD];omega) (by rw[<-XK,VZ];omega);have e:=Lv a b;rw[XK]at e;rw[e]at j;refine Z3 O<|VC 12 O<|Dr 4 O<|YM O (λτ h=>aa call128 G (h.aE O))<|Dr 4 O<|YM O (λτ h=>aa call128 H (h.aE O))<|YM O (λτ h=>aa call127 j (h.aE O))<|D1 O O ⟨Zj,YR O ⟨⟨ar ⟨_,underlying97,O⟩ Rt O O O,Zp⟩,O⟩⟩
theorem oE(a b:Rat)(M:RSm a)(U:RSm b):ZK prog 66 [cc a,cc b] (· =cc (a+b)):=by
 refine ZD func66 O ntmps66 λ_ _ _ _=>?_
 have z:=M.n;have E:=U.n;have t:=M.d;have u:=U.d;have G:=fZ a.num (b.den:Int) Zi (by rw[VZ];omega);have H:=fZ b.num (a.den:Int) Zi (by rw[VZ];omega);have I:=fZ (a.den:Int) (b.den:Int) (by rw[VZ];omega) (by rw[VZ];omega);have V:=jR z u;have X:=jR E t;have Y:=jR t u;have g1:(ae (a.num*(b.den:Int)).natAbs).length<=2000:=by rw[YD,VZ];omega
 have g2:(ae (b.num*(a.den:Int)).natAbs).length<=2000:=by rw[YD,VZ];omega
 have L:=B5 (a.num*(b.den:Int)) (b.num*(a.den:Int)) Zi Zi;have Z:(ae (a.num*(b.den:Int)+b.num*(a.den:Int)).natAbs).length<=2001:=OF (b9 (Int.natAbs_add_le _ _)) (Ck g1 g2);have j:=zK (a.num*(b.den:Int)+b.num*(a.den:Int)) ((a.den:Int)*(b.den:Int)) Zi (by rw[<-XK,VZ];omega);have e:=HM a b;rw[XK]at e;rw[e]at j;refine Z3 O<|VC 18 O<|Dr 4 O<|YM O (λτ h=>aa call128 G (h.aE O))<|Dr 4 O<|YM O (λτ h=>aa call128 H (h.aE O))<|YM O (λτ h=>aa call129 L (h.aE O))<|Dr 4 O<|YM O (λτ h=>aa call128 I (h.aE O))<|YM O (λτ h=>aa call127 j (h.aE O))<|D1 O O ⟨Zj,YR O ⟨⟨ar ⟨_,underlying97,O⟩ Rt O O O,Zp⟩,O⟩⟩
end
section
open Go.RowKit Mk Mm
theorem Od(p q:ZM):gG p q=(decide (p.f<q.f)||(p.f==q.f&&Op.bytesLess p.c.toList q.c.toList)):=by
 rw[gG,bY,orI];rcases Int.lt_trichotomy p.f q.f with h|h|h
 .grind[s7]
 .have e:s7 p.f q.f=0:=by rw[s7,AS Zi,AS Zi]
  have j:(p.f==q.f)=YK:=by simpa using h
  have t:decide (p.f<q.f)=YL:=VL Zi;rw[e,t,j,Bool.false_or,Yb,w4];by_cases h1:Op.bytesLess p.c.toList q.c.toList=YK
  .rw[IT h1,h1];rfl
  grind
 grind[s7]
theorem iC(p q:ZM):ZK prog 64 [bu p,bu q] (· = .bool (gG p q)):=by
 refine ZC func64 O ntmps64 λ_ _ _ _=>?_
 have j:=Od p q;refine Z3 O ?_;by_cases hlt:p.f<q.f
 .exact Z4 O<|Rs O (fE O O O (VK hlt))<|Ar 15 O<|YR O<|ah PV.bool (by rw[j,VK hlt];rfl)
 refine Z4 O<|Rs O (jA O O O (VL hlt))<|Ar 7 O ?_;apply Vx 6 16 22 [17,18,19,20,21] O Zs
 .intro hb11;exact Ar 6 O<|Vp Zr O O O
 .intro hb11;exact Ar 6 O<|Vp Zr O O O
 exact Y2 O<|YR O<|ah PV.bool (by rw[j,VL hlt,Bool.false_or])
theorem TQ(n:Int)(h:n.natAbs<1000000000):(∀c∈ay (dU n),kF c=YK)/\(ay (dU n)).length<=1000000:=by rw[(mG n).1];exact⟨mJ _,OF (iG h) Zk⟩
theorem ql(q:Rat)(h:F1 q):ZK prog 32 [.str (bk q)] (· =cc q):=by
 refine ZD func32 O ntmps32 λ_ _ _ _=>?_
 have G:=TQ q.num h.n;have H:=TQ (q.den:Int) (by rw[VZ];have:=h.d;omega);have t:∀c∈(dU q.num).data.toList,c≠47:=λc hc=>w9 (oY _ c hc)
 have j:gk (bk q)=dU q.num/\pY (bk q)=dU (q.den:Int):=by
  unfold pY bk;by_cases j:q.den=1
  .rw[IT j];obtain⟨c1,c2,_⟩:=sc t;rw[c1,c2,j];exact⟨O,(AS Zk).trans (gZ (by rw[kM];exact(vv 1).trans O)).symm⟩
  rw[AS j];obtain⟨c1,c2,c3⟩:=rj (b:=dU (q.den:Int)) t;rw[c1,c2,c3];exact⟨O,O⟩
 have I:(bk q).size<=1000000000:=by
  have L:=ky q.num;have a2:=ky (q.den:Int);have a3:=iG h.n;have a4:=iG (n:=(q.den:Int).natAbs) (by rw[VZ];have:=h.d;omega);unfold bk;split
  .omega
  rw[X8,X8];have:(⟨#[47]⟩:er).size=1:=rfl;omega
 have u:=sF (bk q) I;rw[j.1,j.2]at u;have z:=kJ (dU q.num) G.1 G.2;have E:=kJ (dU (q.den:Int)) H.1 H.2;rw[kz]at z E;exact Z1 O<|Z1 O<|Rs O (aa call74 u O)<|Ar 7 O<|Z1 O<|Rs O (aa call75 z O)<|A1 O<|Rs O (aa call75 E O)<|Y2 O<|YR O ⟨⟨ar ⟨_,underlying97,O⟩ Rt O O O,Zp⟩,O⟩
theorem rB(q:Rat):ZK prog 72 [cc q] (· = .bool (decide (q=0))):=by
 refine ZC func72 O ntmps72 λ_ _ _ _=>?_
 have j:((((ae q.num.natAbs).length:Nat):Int)==0)=decide (q=0):=by
  rw[V0,Xk,VJ,<-Rat.num_eq_zero];by_cases h:q.num=0
  .rw[h];simp[aV]
  have:ae q.num.natAbs≠[]:=by rw[ae,AS Zi];simp
  have:=Ww.2 this;constructor
  .intro e;omega
  .intro e;exact absurd e h
 exact Z2 O<|Gr O<|Ar 6 O<|YR O<|ah PV.bool j
theorem Pq:∃i,prog.info? 111=WB i:=⟨_,O⟩
theorem PS:prog.cellsOf 111=2:=Zj
theorem eqPA(k:Nat)(a b a' b':Int)(s t s' t':er)(w:World):(Op.equalIn (k+3) 164 (.agg #[.int .i64 a,.string s,.int .i64 a',.string s']) (.agg #[.int .i64 b,.string t,.int .i64 b',.string t'])).run prog w= .ok ((a==b&&s.toList==t.toList)&&(a'==b'&&s'.toList==t'.toList)) w:=by
 have j:=λw=>wV k a b s t w
 have u:=λw=>wV k a' b' s' t' w
 obtain⟨i,hi⟩:=Pq;rw[run_equalIn_array w (k+2) _ _ aaJ hi,PS];show(Op.eqItems (k+2) 111 2 _ _ [0,1]).run prog w=_;simp only[Op.eqItems]
 go_simp
 by_cases h1:a=b<;>by_cases j:s.toList=t.toList<;>by_cases h4:a'=b'<;>by_cases h5:s'.toList=t'.toList<;>simp[h1,j,h4,h5]
theorem ckPA(k:Nat)(e:Bool)(a b:Int)(s t:er)(w:World):(Instr.checkKey e (k+3) 164 (.agg #[.int .i64 a,.string s,.int .i64 b,.string t])).run prog w= .ok () w:=by
 have j:=aaJ;have u:=λa s w=>Q1 k e a s w
 obtain⟨i,hi⟩:=Pq;have hc:=PS;unfold Instr.checkKey;simp only[Sem.run_bind,run_underlying j,Result.andThen];simp only[Std.Legacy.Range.forIn_eq_forIn_range',Std.Legacy.Range.size,Nat.sub_zero,Nat.add_one_sub_one,Nat.div_one,List.range',List.forIn_cons,List.forIn_nil,Sem.run_bind,run_sizeOf w hi,Result.andThen_ok,hc]
 go_simp
theorem K7:KeyOk prog 164 (λk=>∃x:PP,k=ppP x) where
 und:=⟨_,aaJ,λus y=>by cases y<;>rfl⟩
 check:=by
  rintro w R k u e ⟨p,rfl⟩ h;rw[uL h];exact ckPA 9997 e _ _ _ _ w
 ask:=by
  rintro w R k x u y b ⟨p,rfl⟩ h1 h2 h3;obtain⟨q,rfl⟩:=CG h3;rw[dd]at h3;cases h3;rw[uL h1,uL h2];exact eqPA 9997 p.1.f q.1.f p.2.f q.2.f p.1.c q.1.c p.2.c q.2.c w
 agg:=by rintro k ⟨p,rfl⟩;exact⟨_,O⟩
abbrev aN{K:Type}(l:List (K×Rat)):na:=jE cc l
noncomputable section
open Mk Jn Mm
abbrev aai(a:List (PP×Rat)):Nat×Ob:=(9001,.mp (aq ppP a) (aN a))
abbrev ZY(a:List (ZM×Rat))(b:List (PP×Rat)):List (Nat×Ob):=[(big,.mp (aq bu a) (aN a)),(9001,.mp (aq ppP b) (aN b))]
end
theorem La[BEq K](l:List (K×Rat))(k:K)(x:Rat):note YL l k x=oV l k (KF x (tx l k)):=by unfold note tx oV;cases l.findIdx? (λe=>e.1==k)<;>simp[KF]
abbrev Q8(q:Rat):nR:=[.pv (.bool (decide (q.num<0))),.pv (pli (ae q.num.natAbs)),.pv (.bool (decide ((q.den:Int)<0))),.pv (pli (ae (q.den:Int).natAbs))]
abbrev frcZ:PV:= .agg [.bool YL,.sl (WB YK) 0 [],.bool YL,.sl (WB YK) 0 []]
abbrev dO(c:Rat)(a b:Nat):nR:=[.pv (.bool (decide (c.num<0))),.pv (pli (ae c.num.natAbs)),.pv (.bool (decide ((c.den:Int)<0))),.pv (pli (ae (c.den:Int).natAbs)),.map a,.map b]
theorem qJ(n:Int)(t: -9223372036854775808<=n)(u:n<=9223372036854775807):ZS prog 31 0 2 [ZI n] [] (λv ob'=>v= .agg (dO (n:Rat) 0 1)/\ob'=au aaf):=by
 refine ZF func31 O ntmps31 λ_ _ _ _=>?_
 have j:=r9 n t u;exact Z1 O<|Z1 O<|Rs O (aa call28 j O)<|Rs O (cY 1 O)<|Rs O (cY 2 O)<|Y2 O<|Gt O<|⟨[(2,.ptr 2 0)],[(0,.mp [] []),(1,.mp [] []),(2,.mix 101 (dO (n:Rat) 0 1))],[.agg (dO (n:Rat) 0 1)],aaf,3,Vo [1,2,0] (aT O) (aP Zj) O O Zk O,O,⟨ar ⟨_,underlying101,O⟩ Tq O O O,Zp⟩,O,O,λi o h=>kK aaf [(2,.mix 101 (dO (n:Rat) 0 1))] i o h,Zk,O,O⟩
theorem lz(j:dR 36 q)(t:bg B q)(hB:B<=Gg):RSm q:=
 ⟨OF (DS j t hB).2 Zk,OF (PC (by have:=(DS j t hB).1;omega)) Zk⟩
theorem KD(c:Rat)(l:List (ZM×Rat))(ps:List (PP×Rat))(k:ZM)(x:Rat)(H:RSm x)(hl:∀e∈l,RSm e.2):ZS prog 68 2 0 [.agg (dO c big 9001),.pv (bu k),.pv (cc x)] [(big,.mp (aq bu l) (aN l)),(aai ps)]
  (λv ob'=>v= .bS []/\ob'=au [(big,.mp (aq bu (note YL l k x)) (aN (note YL l k x))),(aai ps)]):=by
 refine ZE func68 O ntmps68 λ_ _ _ _=>?_
 have t:=kr (g:=cc) cu l k;obtain⟨r,hr⟩:=iF cu l k;have E:=La l k x;refine Z3 O ?_;by_cases ho:tx l k=WC
 .rw[ho]at t E;have u:=e6 cu l k x;have z:=e9 (g:=cc) cu l k x;refine Z3 O<|Rs O (dI (zp:=frcZ) (r:=WC) (b:=YL) iI underlying98 (.inl ⟨big,O,O⟩) O ⟨k,O⟩ Dh O t O O)<|Ar 6 O<|Z1 O<|Gc O (λj=>absurd j Zm) (λj=>?_);exact Vl<|Z4 O<|RL.step (d:=WC) O O (br iI underlying98 O O O O ⟨k,O⟩ hr u z)<|⟨[],[(big,.mp (aq bu (oV l k x)) (aN (oV l k x))),(aai ps)],[],Vn trivial (aO Zj) O O,O,O,O,O,by rw[E];rfl⟩
 obtain⟨o,ho⟩:=Option.ne_none_iff_exists'.1 ho;rw[ho]at t E;obtain⟨e,he,hoe⟩:=qj ho;have G:=oE x o H (hoe▸hl e he);have u:=e6 cu l k (x+o);have z:=e9 (g:=cc) cu l k (x+o);refine Z3 O<|Rs O (dI (zp:=frcZ) (r:=WB (cc o)) (b:=YK) iI underlying98 (.inl ⟨big,O,O⟩) O ⟨k,O⟩ Dh O t O O)<|Ar 6 O<|Z1 O<|Gc O (λj=>?_) (λj=>absurd j Zm);exact Z2 O<|Rs O (aa call66 G O)<|A1 O<|Z4 O<|RL.step (d:=WC) O O (br iI underlying98 O O O O ⟨k,O⟩ hr u z)<|⟨[],[(big,.mp (aq bu (oV l k (x+o))) (aN (oV l k (x+o)))),(aai ps)],[],Vn trivial (aO Zj) O O,O,O,O,O,by rw[E];rfl⟩
theorem H9(p q:ZM):dD p q=if gG q p=YK then(q,p)else(p,q):=by
 have h:=iW p q;unfold dD gG;by_cases h1:bY p q>0
 .rw[IT h1,IT Zn]
 rw[AS h1,AS Zn]
theorem vI(c:Rat)(s:List (ZM×Rat))(l:List (PP×Rat))(p q:ZM)(x:Rat)(X:RSm x)(hl:∀e∈l,RSm e.2):ZS prog 69 2 0 [.agg (dO c big 9001),.pv (bu p),.pv (bu q),.pv (cc x)] (ZY s l)
  (λv ob'=>v= .bS []/\ob'=au [(big,.mp (aq bu s) (aN s)),(9001,.mp (aq ppP (note YL l (dD p q) x)) (aN (note YL l (dD p q) x)))]):=by
 refine ZE func69 O ntmps69 λ_ _ _ _=>?_
 have M:=iC q p;have G:=H9 p q;generalize gG q p=b at M G;refine Z4 O<|AW.cut (st:=λt:PP=>ZT [(4,.ptr 0 0),(5,.ptr 1 0),(6,.ptr 2 0),(7,.ptr 3 0)] [(big,.mp (aq bu s) (aN s)),(0,.mix 101 (dO c big 9001)),(1,.mix 111 [ZI t.1.f,.pv (.str t.1.c)]),(2,.mix 111 [ZI t.2.f,.pv (.str t.2.c)]),(3,.mix 97 (Q8 x)),(aai l)] 4)
  (I:=λt=>dD p q=t) ?_ ?_
 .refine Z2 O<|Rs O (aa call64 M O) ?_;refine Gc O (λz=>?_) (λz=>?_)
  .exact Z4 O<|⟨((q,p)),Vn (aS O) (aO Zj) O O,by rw[G,z];rfl⟩
  exact Vl<|⟨((p,q)),Vn (aS O) (aO Zj) O O,by rw[G,z];rfl⟩
 rintro u hu;rw[hu];have E:=kr (g:=cc) dd l u;obtain⟨r,hr⟩:=iF dd l u;have U:=La l u x;refine Gr O<|Ar 5 O ?_;by_cases ho:tx l u=WC
 .rw[ho]at E U;have H:=e6 dd l u x;have L:=e9 (g:=cc) dd l u x;refine Z3 O<|Rs O (dI (zp:=frcZ) (r:=WC) (b:=YL) K7 underlying99 (.inl ⟨9001,O,O⟩) O ⟨u,O⟩ Dh O E O O)<|Ar 6 O<|Z1 O<|Gc O (λj=>absurd j Zm) (λj=>?_);exact Vl<|Z4 O<|RL.step (d:=WC) O O (br K7 underlying99 O O O O ⟨u,O⟩ hr H L)<|⟨[],[(big,.mp (aq bu s) (aN s)),(9001,.mp (aq ppP (oV l u x)) (aN (oV l u x)))],[],Vn trivial (aO Zj) O O,O,O,O,O,by rw[U];rfl⟩
 obtain⟨o,ho⟩:=Option.ne_none_iff_exists'.1 ho;rw[ho]at E U;obtain⟨e,he,hoe⟩:=qj ho;have V:=oE x o X (hoe▸hl e he);have H:=e6 dd l u (x+o);have L:=e9 (g:=cc) dd l u (x+o);refine Z3 O<|Rs O (dI (zp:=frcZ) (r:=WB (cc o)) (b:=YK) K7 underlying99 (.inl ⟨9001,O,O⟩) O ⟨u,O⟩ Dh O E O O)<|Ar 6 O<|Z1 O<|Gc O (λj=>?_) (λj=>absurd j Zm);exact Z2 O<|Rs O (aa call66 V O)<|A1 O<|Z4 O<|RL.step (d:=WC) O O (br K7 underlying99 O O O O ⟨u,O⟩ hr H L)<|⟨[],[(big,.mp (aq bu s) (aN s)),(9001,.mp (aq ppP (oV l u (x+o))) (aN (oV l u (x+o))))],[],Vn trivial (aO Zj) O O,O,O,O,O,by rw[U];rfl⟩
end
noncomputable section
open Mk Jn Mm
abbrev aak(a:MC):List (Nat×Ob):=[(0,.mp (aq bu a.s) (aN a.s)),(1,.mp (aq ppP a.p) (aN a.p))]
end
section
open Go.RowKit Mk Mm
theorem yv(m:MC)(hs:(m.s.map (·.1)).Nodup)(hp:(m.p.map (·.1)).Nodup)(U:MF1 m):ZS prog 26 0 2 [.pv (pP m)] [] (λv ob'=>v= .agg (dO m.c 0 1)/\ob'=au (aak m)):=by
 refine ZF func26 O ntmps26 λ_ _ _ _=>?_
 have V:=qJ 0 Zk Zk;have X:=ql m.c U.c;have Y:=U.ls;have Z:=U.lp;refine Z2 O<|Gr O<|Rs O (az [] 2 call31 V O O O O trivial Zk O)<|Y2 O<|Z2 O<|Rs O (aa call32 X O)<|Y2 O<|Z4 O<|Gz O (st:=λZq:Nat=>([(1,WC),(2,WC),(3,WC),(14,WC),(15,WC),(16,WB (ZI Zq))],[(0,WC),(1,WC),(2,WB (.mp (aq bu (m.s.take Zq)) (aN (m.s.take Zq)))),(3,WC),(4,WC)])) 5
  (I:=λZq=>Zq<=m.s.length) (μ:=λZq=>m.s.length-Zq) (x0:=0) (Vn (aS O) (aO Zj) O O) (sh _) ?_
 rintro i hi;refine Z1 O<|Gp O (λL=>?_) (λL=>?_)
 .have hlt:i<m.s.length:=Zi;have u:=uD hlt;have G:=ER hlt;have H:=ql m.s[i].2 (U.s _ (ak hlt));obtain⟨r,hr⟩:=iF cu (m.s.take i) m.s[i].1;have z:=e6 cu (m.s.take i) m.s[i].1 m.s[i].2;have E:=e9 (g:=cc) cu (m.s.take i) m.s[i].1 m.s[i].2;rw[Cf hs hlt]at z E;refine Vl<|Gr O<|Rs O (ai i aaG ix O O O hlt G)<|Rs O (aD ⟨_,aaB,O⟩ ix O u O)<|Y2 O<|VC 8 O<|Dr 6 O<|YM O (λτ h=>aa call32 H (h.aE O))<|DL.step (d:=WC) [2] O O O (λτ h=>br iI underlying98 (Ee h 0 O) (Eo h 0 O) (Ee h 1 O) (Ee h 2 O) ⟨m.s[i].1,O⟩ hr z E) O Zj ⟨Zj,Z2 O<|⟨(i+1),Vn (aS O) (aO Zj) O O,hlt,Zi⟩⟩
 have hie:m.s.take i=m.s:=aG Zi;rw[hie];refine Gx O<|Z4 O<|Gz O (st:=λt:Nat=>([(2,WC),(3,WC),(29,WC),(30,WC),(31,WB (ZI t))],[(1,WC),(2,WC),(3,WB (.mp (aq ppP (m.p.take t)) (aN (m.p.take t)))),(4,WC)])) 5
  (I:=λt=>t<=m.p.length) (μ:=λt=>m.p.length-t) (x0:=0) (Vn (aS O) (aO Zj) O O) (sh _) ?_
 rintro j hj;refine Z1 O<|Gp O (λM=>?_) (λM=>?_)
 .have hlt:j<m.p.length:=Zi;have u:=tV hlt;have G:=Fy hlt;have H:=ql m.p[j].2 (U.p _ (ak hlt));obtain⟨r,hr⟩:=iF dd (m.p.take j) m.p[j].1;have z:=e6 dd (m.p.take j) m.p[j].1 m.p[j].2;have E:=e9 (g:=cc) dd (m.p.take j) m.p[j].1 m.p[j].2;rw[Cf hp hlt]at z E;refine Vl<|Gr O<|Rs O (ai j aaI jz O O O hlt G)<|Rs O (aD ⟨_,aaC,O⟩ jz O u O)<|Y2 O<|VC 11 O<|Dr 9 O<|YM O (λτ h=>aa call32 H (h.aE O))<|DL.step (d:=WC) [3] O O O (λτ h=>br K7 underlying99 (Ee h 0 O) (Eo h 0 O) (Ee h 1 O) (Ee h 2 O) ⟨m.p[j].1,O⟩ hr z E) O Zj ⟨Zj,Z2 O<|⟨(j+1),Vn (aS O) (aO Zj) O O,hlt,Zi⟩⟩
 have hje:m.p.take j=m.p:=aG Zi;rw[hje];exact Gx O<|Z2 O<|Gt O<|⟨[(2,.ptr 2 0)],[(0,.mp (aq bu m.s) (aN m.s)),(1,.mp (aq ppP m.p) (aN m.p)),(2,.mix 101 (dO (m.c) 0 1))],[.agg (dO (m.c) 0 1)],(aak m),3,Vo [2,3,1] (aT Zj) (aP Zj) O O Zk O,O,⟨ar ⟨_,underlying101,O⟩ Tq O O O,Zp⟩,O,O,λi o h=>kK (aak m) [(2,.mix 101 (dO (m.c) 0 1))] i o h,Zk,O,O⟩
section
variable {C:Ctx}{n:Nat}{σ:St}{x y:Operand}{dst:YX}{ty:TypeId}{pos:String}{after:Y4}{gd:Option (Nat×Bool)}
theorem xZ{P:Program}{j:Nat}(t:P.underlying T=WB (.array k e))(hs:b8 P e s)(u:i=(j:Int))(z:j<k)(w:World)(b off:Nat):
  (Instr.indexAt T (.pointer (WB ⟨b,off,WC⟩)) (.int kk i)).run P w= .ok (.pointer (WB ⟨b,off+j*s,WC⟩)) w:=by
 subst u;have E:((j:Int))<(k:Int):=Zi;simp[Instr.indexAt,asIntOf,run_underlying t,hs.run,z,Addr.add_lit,Instr.sureAddr]
theorem fG{off:Nat}{ob:Ob}(j:Nat)(E:C.P.underlying T=WB (.array k e))(hs:b8 C.P e s)(z:σ.ev n x= .ptr id off)(ho:σ.ob id=WB ob)(G:σ.ev n y= .pv (.int kk i))(H:i=(j:Int))(I:j<k)(u:ob.real=YK:=by rfl):
  XJ C n ⟨dst,.indexAddr T x y,ty,pos,after,gd⟩ σ ⟨.ptr id (off+j*s),[],[]⟩:=
 .val λa w m R hw=>by
  obtain⟨b,N,he,hm,_⟩:=hw.ptr z ho u;have t:=hw.ev x;rw[z]at t;simp only[Rel]at t;refine⟨_,by simp only[execOp,he,hw.int G,Sem.run_bind,xZ E hs H I,Result.andThen_ok];rfl,?_⟩;simp only[Rel];exact⟨t.1,λb' N' e=>by rw[hm]at e;cases e;rfl⟩
end
theorem Mm.LOk.ff{l:List (K×Rat)}(h:LOk YK D l):LOk YL D l:=⟨h.nd,λe=>absurd e Zk,h.it⟩
theorem xv(c:Rat)(sb:List (ZM×Rat))(pb:List (PP×Rat))(w:MC)(k:Rat)(hB:B+smB*smB<=Gg)(V:MSmB B ⟨c,sb,pb⟩)(H:MSm w)(Z:∃z:Int,k=(z:Rat))(L:bg smB k):
  ZS prog 27 4 0 [.agg (dO c big 9001),.agg (dO w.c 9002 9003),.pv (cc k)] [(big,.mp (aq bu sb) (aN sb)),(aai pb),(9002,.mp (aq bu w.s) (aN w.s)),(9003,.mp (aq ppP w.p) (aN w.p))]
   (λr ob'=>∃s' p',IncR YL c sb pb w k (c+w.c*k) s' p'/\r= .agg (dO (c+w.c*k) big 9001)/\ob'=au (ZY s' p')):=by
 refine ZF func27 O ntmps27 λ_ _ _ _=>?_
 have X:=lz (dR.int 36 Z) L sm0;have ad:=nN w.c k (lz (dR.int 36 H.ci) H.cb sm0) X;have af:=oE c (w.c*k) (lz (dR.int 36 V.ci) V.cb (OF (Yz _ _) hB)) (lz ((dR.int 36 H.ci).C9 Z) (H.cb.mul L) sm2);refine Z4 O<|Vm (St.dZ (ks:=aq bu w.s) (vs:=aN w.s) 9002 Zj (PI _ _) (WH _))<|Vm (St.dZ (ks:=aq ppP w.p) (vs:=aN w.p) 9003 Zj (PI _ _) (WH _))<|VC 9 O<|Dr 5 O<|YM O (λτ h=>aa call67 ad (h.aE O))<|YM O (λτ h=>aa call66 af (h.aE O))<|Dr 2 O ?_;refine⟨Zj,?_⟩;refine Z2 O<|Rs O (fo 4 underlying98 O O)<|Gz O (st:=λZq:List (ZM×Rat)×List (ZM×Rat)×na=>([(3,WC),(4,WC),(5,WC),(6,WC),(21,WC)],[(big,WB (.mp (aq bu Zq.2.1) (aN Zq.2.1))),(0,WC),(1,WC),(2,WC),(3,WC),(4,WB (.mi Zq.2.2 (aq bu Zq.1) (aN Zq.1))),(9001,WC)])) 5
  (I:=λZq=>Inc YL 6 sb w.s k Zq.1 Zq.2.1) (μ:=λZq=>Zq.1.length) (x0:=(w.s,sb,[])) (Vn (aS O) (aO Zj) O O) (Inc.start V.s.ff w.s k) ?_
 rintro⟨todo,acc,cur⟩ hI;try simp only at hI ⊢
 refine Gr O<|RL.call O (gH O O ?_);rintro b rest cur2 ks2 vs2 hN;refine Rs O (cE O O)<|Gc O (λt=>?_) (λt=>?_)
 .obtain⟨_,l1,e,l2,rfl,rfl,rfl,rfl,rfl⟩:=(gE.ofE hN).resolve_left (by rintro⟨h,_⟩;rw[h]at t;cases t);have G:=hI.mem (e:=e) Zm;have E:=H.s.it e G;have M:=H.sb e G;have Y:=nN e.2 k (lz E.Mb M sm0) X;have U:=KD (c+w.c*k) acc pb e.1 (e.2*k) (lz (E.C9 Z).Mb (M.mul L) sm2) (λx hx=>lz (hI.ok.it x hx).Mb (hI.abs V.s.ff H.s V.sb H.sb L x hx) hB);refine Vl<|Gr O<|Rs O (fe O O)<|Ar 6 O<|VC 6 O<|Dr 4 O<|YM O (λτ h=>aa call67 Y (h.aE O))<|YQ [big,9001] O (λτ h=>az [big,9001] 7 call68 U (h.args.trans O) O O O ⟨(Eo h 0 O),(Eo h 1 O),Zp⟩ Zk O) ⟨Zj,⟨(l1++l2,note YL acc e.1 (e.2*k),[bu e.1,cc e.2]),Vn (aS O) (aO Zj) O O,hI.step (E.C9 Z),Zm⟩⟩
 obtain⟨_,rfl,_⟩:=(gE.ofE hN).resolve_right (by rintro⟨h,_⟩;rw[h]at t;cases t);have ag:=hI.end;have ab:=hI.ok;refine Gx O<|Z2 O<|Rs O (fo 5 underlying99 O O)<|Gz O (st:=λj:List (PP×Rat)×List (PP×Rat)×na=>([(3,WC),(5,WC),(6,WC),(35,WC)],[(big,WC),(0,WC),(2,WC),(3,WC),(5,WB (.mi j.2.2 (aq ppP j.1) (aN j.1))),(9001,WB (.mp (aq ppP j.2.1) (aN j.2.1)))])) 6
  (I:=λj=>Inc YL 36 pb w.p k j.1 j.2.1/\∀e∈j.2.1,bY e.1.1 e.1.2<=0) (μ:=λj=>j.1.length) (x0:=(w.p,pb,[])) (Vn (aS O) (aO Zj) O O) (⟨Inc.start V.p.ff w.p k,V.po⟩) ?_
 rintro⟨todo2,acc2,cur3⟩ ⟨hI2,hpo⟩;try simp only at hI2 hpo ⊢
 refine Gr O<|RL.call O (gH O O ?_);rintro b2 rest2 cur4 ks4 vs4 hN2;refine Rs O (cE O O)<|Gc O (λu=>?_) (λu=>?_)
 .obtain⟨_,l1,e,l2,rfl,rfl,rfl,rfl,rfl⟩:=(gE.ofE hN2).resolve_left (by rintro⟨h,_⟩;rw[h]at u;cases u);have G:=hI2.mem (e:=e) Zm;have E:=H.p.it e G;have M:=H.pb e G;have Y:=nN e.2 k (lz E M sm0) X;have U:=vI (c+w.c*k) acc acc2 e.1.1 e.1.2 (e.2*k) (lz (E.C9 Z) (M.mul L) sm2) (λx hx=>lz (hI2.ok.it x hx) (hI2.abs V.p.ff H.p V.pb H.pb L x hx) hB);have ah:dD e.1.1 e.1.2=e.1:=eu (H.po e G);have ac:=JE (δ:=YL) hpo e.1.1 e.1.2 (e.2*k);rw[ah]at U ac;refine Vl<|Gr O<|Rs O (fe O O)<|Ar 6 O<|VC 9 O<|D1 O O<|YQ [6] O (λτ h=>fG 0 aaJ k9 (Ee h 0 O) (Eo h 0 O) O O Zk)<|D1 O O<|YQ [6] O (λτ h=>fG 1 aaJ k9 (Ee h 0 O) (Eo h 0 O) O O Zk)<|Dr 3 O<|YM O (λτ h=>aa call67 Y (h.aE O))<|YQ [big,9001] O (λτ h=>az [big,9001] 8 call69 U (h.args.trans O) O O O ⟨(Eo h 0 O),(Eo h 1 O),Zp⟩ Zk O) ⟨Zj,⟨(l1++l2,note YL acc2 e.1 (e.2*k),[ppP e.1,cc e.2]),Vn (aS O) (aO Zj) O O,⟨hI2.step (E.C9 Z),ac⟩,Zm⟩⟩
 obtain⟨_,rfl,_⟩:=(gE.ofE hN2).resolve_right (by rintro⟨h,_⟩;rw[h]at u;cases u);exact Gx O<|Z2 O<|Gt O<|⟨[(6,.ptr 0 0)],[(big,.mp (aq bu acc) (aN acc)),(aai acc2),(0,.mix 101 (dO (c+w.c*k) big 9001))],[.agg (dO (c+w.c*k) big 9001)],(ZY acc acc2),1,Vo [3] (aT Zj) (aP Zj) O O Zk O,O,⟨ar ⟨_,underlying101,O⟩ Tq O O O,Zp⟩,O,O,λi o h=>kK (ZY acc acc2) [(0,.mix 101 (dO (c+w.c*k) big 9001))] i o h,Zk,acc,acc2,⟨O,ab,hI2.ok,λ_=>hpo,ag,hI2.end⟩,O,O⟩
end

def St.gsC(σ:St)(pid j id sz k:Nat)(T T':TypeId)(cs:na)(vs:nR):St:=⟨σ.sl,obL [(pid,WB (.mix T' (vs.set j (.bz id sz k)))),(id,WB (.bD T cs))] σ.ob,σ.av⟩
theorem St.PA{σ:St}{T':TypeId}{cs:na}{vs:nR}(pid j:Nat)(z:σ.ob pid=WB (.mix T' vs))(E:vs[j]? =WB (.bJ id sz k))(ho:σ.ob id=WB (.cells T cs))(G:0<k)(hc:cs≠[]):σ.le (σ.gsC pid j id sz k T T' cs vs):=
 St.vO λt=>⟨t.sl,λp hp=>by
  rcases By.1 hp with rfl|hp
  .refine⟨_,_,z,O,O,λb N _ ⟨arr,q1,q2,q3,q4⟩=>⟨arr,q1,q2,by rw[VN];exact q3,?_⟩⟩;rw[VN];refine ZJ.setG j q4 E λu hu=>?_
   simp only[Rel]at hu ⊢;obtain⟨b2,N2,hm,_⟩:=t.live ho;obtain⟨h0,h3⟩:=hu;obtain⟨c,he,h4,h5,h6⟩:=h3 b2 N2 hm;exact⟨h0,_,c,he,h4,h5,λe=>by omega,λ_ b' N' hm'=>by rw[hm]at hm';cases hm';exact⟨O,h6⟩⟩
  obtain rfl:=VH.1 hp;exact⟨_,_,ho,O,cQ hc,λ_ _ _ h=>h⟩⟩
def St.nilC(σ:St)(pid j:Nat)(T':TypeId)(vs:nR):St:=⟨σ.sl,obL [(pid,WB (.mix T' (vs.set j (.pv nS))))] σ.ob,σ.av⟩
theorem St.GI{σ:St}{T':TypeId}{vs:nR}(pid j:Nat)(z:σ.ob pid=WB (.mix T' vs))(E:vs[j]? =WB (.bz id sz 0)):σ.le (σ.nilC pid j T' vs):=
 St.vO λt=>⟨t.sl,λp hp=>by
  obtain rfl:=VH.1 hp;refine⟨_,_,z,O,O,λb N _ ⟨arr,q1,q2,q3,q4⟩=>⟨arr,q1,q2,by rw[VN];exact q3,?_⟩⟩;rw[VN];refine ZJ.setG j q4 E λu hu=>?_
  simp only[Rel,ZH]at hu ⊢;obtain⟨_,A,c,he,h1,h2,h3,_⟩:=hu;obtain⟨rfl,rfl,_⟩:=h3 trivial;exact⟨WC,0,he,h1,h2,(λ_ e=>by cases e;rfl),(λ_=>rfl),λe=>absurd O e⟩⟩
noncomputable section
open Mk Jn Mm
abbrev Z9(a:MC):List V:=[.pv (.str (bk a.c)),.pv (.sl WC a.s.length (bB (tmL a.s))),.pv (.sl WC a.p.length (bM (prL a.p)))]
end
section
open Go.RowKit Mk Mm
theorem rF(p q:Prr):ZK prog 65 [.agg (tX p),.agg (tX q)] (· = .bool (decide (cy (p.a,p.b) (q.a,q.b)<0))):=by
 refine ZC func65 O ntmps65 λ_ _ _ _=>?_
 have j:decide (cy (p.a,p.b) (q.a,q.b)<0)=(gG p.a q.a||(jF p.a q.a&&gG p.b q.b)):=by
  have e:cy (p.a,p.b) (q.a,q.b)=if bY p.a q.a≠0 then bY p.a q.a else bY p.b q.b:=UP _ _
  have u:jF p.a q.a=decide (bY p.a q.a=0):=by
   show(p.a==q.a)=_;rw[V0,Xk,VJ,fa]
  rw[e,u];unfold gG;by_cases h:bY p.a q.a=0
  .rw[AS Zi,VK h,VL (show ¬bY p.a q.a<0 by omega)];simp
  rw[IT h,VL h];simp
 have t:=iC p.a q.a;have z:=iC p.b q.b;generalize gG p.a q.a=b1 at*;generalize gG p.b q.b=b2 at*;refine Z3 O ?_;by_cases hb:b1=YK
 .subst hb;exact Z4 O<|Rs O (aa call64 t O)<|Ar 15 O<|YR O<|ah PV.bool (by rw[j];rfl)
 obtain rfl:b1=YL:=XB hb;refine Z4 O<|Rs O (aa call64 t O)<|Ar 5 O<|Rg O (jm (p:=p.a) (q:=q.a) O O O)<|A1 O ?_;apply Vx 6 16 22 [17,18,19,20,21] O Zs
 .intro hb11;exact Ar 4 O<|Rg O (aa call64 z O)<|A1 O<|Vp Zr O O O
 .intro hb11;exact Ar 6 O<|Vp Zr O O O
 exact Y2 O<|YR O<|ah PV.bool (by rw[j];rfl)
section
variable {α:Type}(f:α->na)(c:Nat)(h:∀a,(f a).length=c)
include h
theorem MP(l:List α)(k:Nat):(l.flatMap f).take (k*c)=(l.take k).flatMap f/\(l.flatMap f).drop (k*c)=(l.drop k).flatMap f:=by
 have e:l.flatMap f=(l.take k).flatMap f++(l.drop k).flatMap f:=by rw[<-Xn,WV]
 rcases XE l.length k with h1|h1
 .have hl:=cg f c h l;have:l.length*c<=k*c:=WK c Zi;rw[aG Zi,aG Zi,List.drop_eq_nil_of_le Zi,List.drop_eq_nil_of_le Zi];exact⟨O,O⟩
 have hl:((l.take k).flatMap f).length=k*c:=by rw[cg f c h,Vz,W6 h1]
 constructor
 .grind
 grind
end
abbrev Ux(c:Nat)(cs xs:na)(i k:Nat):na:=(xs++cs.drop (i*c)).take ((1+(k-i))*c)
abbrev Uc(c:Nat)(cs xs:na)(i k:Nat):na:=cs.take (i*c)++Ux c cs xs i k
theorem PF{β:Type}(g:β->α)(f:α->na)(c:Nat)(h:∀a,(f a).length=c)(t:∀a,∀v∈f a,v.leaf=YK){l l':List β}{x:β}{i:Nat}(z:i<=l.length)(u:l'=l.take i++x::l.drop i):
  (((l.map g).flatMap f).drop (i*c)).length=(l.length-i)*c/\(Ux c ((l.map g).flatMap f) (f (g x)) i l.length).length=(1+(l.length-i))*c/\(∀v∈Ux c ((l.map g).flatMap f) (f (g x)) i l.length,v.leaf=YK)/\
  Uc c ((l.map g).flatMap f) (f (g x)) i l.length=(l'.map g).flatMap f/\i+(1+(l.length-i))=l'.length:=by
 obtain⟨c1,c2⟩:=MP f c h (l.map g) i;have j:(g x::(l.map g).drop i).flatMap f=Ux c ((l.map g).flatMap f) (f (g x)) i l.length:=by
  show _=(f (g x)++_).take _;rw[c2,<-Wc,aG];rw[cg f c h,VI,Xb,IS,XA];exact BY _
 refine⟨by rw[c2,cg f c h,Xb,IS],?_,?_,?_,?_⟩
 .rw[<-j,cg f c h,VI,Xb,IS,XA]
 .rw[<-j];intro v hv;obtain⟨a,_,hv⟩:=V6.1 hv;exact t a v hv
 .show _++Ux c ((l.map g).flatMap f) (f (g x)) i l.length=_;rw[<-j,c1,u,Wf,ed,Zd,List.map_drop,Xn]
 rw[u,Hb,VI,Vz,Xb];omega
theorem B8:∀t:Trm,∀c∈ui t,c.leaf=YK:=λt c h=>by
 simp at h;rcases h with rfl|rfl|rfl<;>rfl
theorem DH:∀t:Prr,∀c∈tX t,c.leaf=YK:=λt c h=>by
 simp at h;rcases h with rfl|rfl|rfl|rfl|rfl<;>rfl
theorem Dk(l:List Trm):∀c∈bB l,c.leaf=YK:=λc hc=>by
 obtain⟨t,_,h⟩:=V6.1 hc;exact B8 t c h
theorem Cp(l:List Prr):∀c∈bM l,c.leaf=YK:=λc hc=>by
 obtain⟨t,_,h⟩:=V6.1 hc;exact DH t c h
section
variable {K:Type}{cmp:K->K->Int}{e:K×Rat}
theorem mQ:∀{i:Nat}{out:List (K×Rat)},i<=out.length->(∀j (t:j<out.length),j<i->decide (cmp out[j].1 e.1<0)=YK)->(∀(h:i<out.length),decide (cmp out[i].1 e.1<0)=YL)->pT cmp e out=out.take i++e::out.drop i
 |0,[],_,_,_=>rfl
 |0,y::l,_,_,h2=>by grind[pT]
 |i+1,[],h,_,_=>absurd h Zm
 | i+1,y::l,h,h1,h2=>by
   have h3:=h1 0 Zm Zi;rw[pT,IT (by simpa using h3),mQ (by simpa using h) (λj t hji=>h1 (j+1) (by simpa using t) Zi) (λhl=>h2 (by simpa using hl))];rfl
def nzL(l:List (K×Rat)):List (K×Rat):=l.filter λe=>decide (e.2≠0)
structure GvI(cmp:K->K->Int)(w todo out:List (K×Rat)):Prop where
 ex:∃d,(d++nzL todo).Perm w/\out.Perm d
 sr:Mm.Asc cmp out
variable {w todo out l1 l2:List (K×Rat)}
theorem A8:nzL (l1++e::l2)=nzL l1++(if e.2=0 then []else [e])++nzL l2:=by by_cases h:e.2=0<;>simp[nzL,h]
theorem GvI.start(h:(nzL todo).Perm w):GvI cmp w todo []:=⟨⟨[],h,WH _⟩,List.Pairwise.nil⟩
theorem GvI.skip(h:GvI cmp w (l1++e::l2) out)(j:e.2=0):GvI cmp w (l1++l2) out:=by obtain⟨d,h1,h2⟩:=h.ex;rw[A8,IT j]at h1;exact⟨⟨d,by simpa[nzL]using h1,h2⟩,h.sr⟩
theorem GvI.mem(h:GvI cmp w todo out)(j:e∈todo)(t:e.2≠0):e∈w:=by obtain⟨d,h1,_⟩:=h.ex;exact h1.subset (List.mem_append_right _ (VU.2 ⟨j,VK t⟩))
theorem GvI.step(hc:Cmp cmp)(h:GvI cmp w (l1++e::l2) out)(t:e.2≠0)(u:(w.map (·.1)).Nodup):GvI cmp w (l1++l2) (pT cmp e out):=by
 obtain⟨d,h1,h2⟩:=h.ex;rw[A8,AS t,XO,YE]at h1;have j:=(h1.map (·.1)).nodup_iff.2 u;rw[Wf,XL]at j;refine⟨⟨d++[e],?_,?_⟩,wu hc h.sr λx hx e2=>?_⟩
 .refine List.Perm.trans ?_ h1;rw[XO,show nzL (l1++l2)=nzL l1++nzL l2 from Xc ..];exact List.Perm.append_left d (List.perm_middle (l₁:=nzL l1)).symm
 .exact(l9 cmp e out).trans ((List.Perm.cons e h2).trans (List.perm_append_singleton e d).symm)
 grind
theorem GvI.end(hc:Cmp cmp)(h:GvI cmp w [] out)(j:Mm.Asc cmp w):out=w:=by obtain⟨d,h1,h2⟩:=h.ex;rw[show nzL ([]:List (K×Rat))=[]from O,W7]at h1;exact iL hc h.sr j (h2.trans h1)
theorem GvI.snoc(h:GvI cmp w (l1++e::l2) out)(j:e.2≠0):out.length+1<=w.length:=by obtain⟨d,h1,h2⟩:=h.ex;rw[A8,AS j]at h1;have:=h1.length_eq;have:=h2.length_eq;simp at*;omega
end
theorem F1.fits(h:F1 q):P8 q=YL:=by rw[P8,u0,u0,V8];exact⟨VL (by have:=iG h.n;show ¬400<(Lib.decDigits _).length;omega),VL (by have:=iG (n:=q.den) (by have:=h.d;omega);show ¬400<(Lib.decDigits _).length;omega)⟩
theorem wC(h:F1 q):ZK prog 71 [cc q] (· = .bS [.str (bk q),ZU 0]):=by have:=F9 q (OF (PC h.n) Zk) (OF (PC (YU h.d Zk)) Zk);rw[h.fits]at this;exact this
theorem Bh(m:MC)(s:List (ZM×Rat))(p:List (PP×Rat))(hs:(nzL s).Perm m.s)(hp:(nzL p).Perm m.p)(sa:Mm.Asc bY m.s)(ap:Mm.Asc cy m.p)(h1:MF1 m):
  ZS prog 29 2 0 [.agg (dO m.c big 9001)] (ZY s p)
   (λv ob'=>v= .bS [.agg (Z9 m),ZI 0]/\ob'=au []):=by
 refine ZF func29 O ntmps29 λ_ _ _ _=>?_
 have hgc:=wC h1.c;have hns:=vA eM sa;have hnp:=vA cZ ap;have hls:=h1.ls;have hlp:=h1.lp;refine Z3 O<|Vm (St.dZ (ks:=aq bu s) (vs:=aN s) big Zj (PI _ _) (WH _))<|Vm (St.dZ (ks:=aq ppP p) (vs:=aN p) 9001 Zj (PI _ _) (WH _))<|Z2 O<|Rs O (aa call71 hgc O)<|Ar 5 O<|Z4 O<|Vm (St.cD (T':=46) (cs:=[.pv (.str (bk m.c)),.pv nS,.pv nS]) 2 1 3 3 113 Zj O O)<|Vm (St.cD (T':=46) (cs:=[.pv (.str (bk m.c)),.bz 3 3 0,.pv nS]) 2 2 4 5 115 Zj O O)<|Z2 O<|Gc O (λac=>absurd ac Zm) (λac=>?_);refine Vl<|Z2 O<|Rs O (fo 5 underlying98 O O)<|Gz O (st:=λZq:List (ZM×Rat)×List (ZM×Rat)×na=>([(1,WC),(2,WC),(6,WC),(33,WC)],[(0,WC),(1,WC),(2,WB (.mix 46 [.pv (.str (bk m.c)),.bz 3 3 Zq.2.1.length,.bz 4 5 0])),(3,WB (.bD 113 (bB (tmL Zq.2.1)))),(4,WC),(5,WB (.mi Zq.2.2 (aq bu Zq.1) (aN Zq.1)))])) 6
  (I:=λZq=>GvI bY m.s Zq.1 Zq.2.1) (μ:=λZq=>Zq.1.length) (x0:=(s,[],[])) (Vn (aS O) (aO Zj) O O) (GvI.start hs) ?_
 rintro⟨todo,out,cur⟩ hI;try simp only at hI ⊢
 refine Gr O<|RL.call O (gH O O ?_);rintro b rest cur2 ks2 vs2 hN;refine Rs O (cE O O)<|Gc O (λL=>?_) (λL=>?_)
 .obtain⟨_,l1,e,l2,rfl,rfl,rfl,rfl,rfl⟩:=(gE.ofE hN).resolve_left (by rintro⟨h,_⟩;rw[h]at L;cases L);have hz:=rB e.2;refine Vl<|Gr O<|Rs O (fe O O)<|Ar 6 O<|Z1 O<|Rs O (aa call72 hz O)<|Gc O (λZ=>?_) (λZ=>?_)
  .have h0:e.2=0:=by simpa using Z
   exact Gx O<|⟨(l1++l2,out,[bu e.1,cc e.2]),Vn (aS O) (aO Zj) O O,hI.skip h0,Zm⟩
  have h0:¬e.2=0:=by simpa using Z
  have ag:=hI.mem (e:=e) Zm h0;have hsn:=hI.snoc h0;have X:=hI.step eM h0 hns;have ai:=wC (h1.s e ag);have al:=rz (tmL out);rw[wb]at al;refine Vl<|Z1 O<|Rs O (aa call71 ai O)<|Ar 5 O<|Z2 O<|Gc O (λad=>absurd ad Zm) (λad=>?_);refine Vl<|Gr O<|Ar 5 O ?_;by_cases he:out=[]
  .have hl0:out.length=0:=by rw[he];rfl
   rw[hl0];refine Vm (St.GI (id:=3) (sz:=3) (T':=46) (vs:=[.pv (.str (bk m.c)),.bz 3 3 0,.bz 4 5 0]) 2 1 Zj O)<|Z1 O<|Gz O (st:=λE:Nat=>([(1,WC),(2,WC),(6,WC),(7,WC),(11,WC),(12,WB (ZI E)),(33,WC)],[(0,WC),(1,WC),(2,WC),(4,WC),(5,WC),(6,WC),(8,WC)])) 9
    (I:=λE=>E<=out.length/\∀j (hj:j<out.length),j<E->gG out[j].1 e.1=YK) (μ:=λE=>out.length-E) (x0:=0) (Vn (aS O) (aO Zj) O O) (⟨sh _,λj _ h=>absurd h Zi⟩) ?_
   rintro i ⟨hi,hall⟩;refine VC 15 O<|Dr 4 O<|YM O (λτ h=>jA (Ee h 0 O) (Ee h 1 O) O (VL Zi))<|Dr 10 O ⟨Zj,Gc O (λz=>absurd z Zm) (λz=>?_)⟩;refine Gx O ?_;obtain rfl:i=0:=Zi;have u:pT bY e out=[e]:=by rw[he];rfl
   refine VC 14 O<|Dr 10 O<|YQ [_] O (λτ h=>gz 10 el43 (Ee h 0 O) (Eo h 0 O) O (.inl ⟨_,(Ee h 1 O)⟩) O Zm Zi (h.n 0 _ O))<|YQ [_] O (λτ h=>lK 11 el43 (Ee h 0 O) (.inr ⟨_,_,_,_,(Ee h 1 O),(Eo h 0 O),O⟩) O (Dk [⟨e.1,bk e.2⟩]) Zi (h.n 0 _ O))<|Dr 2 O ⟨Zj,⟨(l1++l2,pT bY e out,[bu e.1,cc e.2]),Vo [0,1,2,11,4,5] (aT O) ⟨Zj,Zj,ah (λn=>WB (Ob.mix 46 [.pv (.str (bk m.c)),.bz 11 3 n,.bz 4 5 0])) (show 1=(pT bY e out).length by rw[u];rfl),VT (b:=WB (.bD 113 (ui ⟨e.1,bk e.2⟩))) Zj (ah (λc=>WB (Ob.bD 113 c)) (show ui ⟨e.1,bk e.2⟩=bB (tmL (pT bY e out)) by rw[u];rfl)),Zj,Zj,Zp⟩ O O Zk O,X,Zm⟩⟩
  have hpos:0<out.length:=Ww.2 he;have Y:bB (tmL out)≠[]:=ER hpos;refine Vm (St.JN (id:=3) (sz:=3) (k:=out.length) (T:=113) (T':=46) (cs:=bB (tmL out)) (vs:=[.pv (.str (bk m.c)),.bz 3 3 out.length,.bz 4 5 0]) 2 1 Zj O Zj hpos Y)<|Z1 O<|AW.cut (st:=λM:Nat=>ZT [(1,.ptr 0 0),(2,.ptr 1 0),(6,.ptr 2 0),(11,.ptr 8 0),(12,ZI M),(33,.ptr 5 0)] [(0,.mix 101 [.pv (.bool (decide (m.c.num<0))),.pv (pli (ae m.c.num.natAbs)),.pv (.bool (decide ((m.c.den:Int)<0))),.pv (pli (ae (m.c.den:Int).natAbs)),.pv (.mp (aq bu s) (aN s)),.pv (.mp (aq ppP p) (aN p))]),(1,.mix 46 [.pv (.str ⟨#[]⟩),.pv nS,.pv nS]),(2,.mix 46 [.pv (.str (bk m.c)),.bJ 3 3 out.length,.bz 4 5 0]),(3,.cells 113 (bB (tmL out))),(4,.bD 115 (bM [])),(5,.mi [bu e.1,cc e.2] (aq bu (l1++l2)) (aN (l1++l2))),(8,.mix 113 [ZI e.1.f,.pv (.str e.1.c),.pv (.str (bk e.2))])] 9)
   (I:=λM=>M<=out.length/\pT bY e out=out.take M++e::out.drop M) ?_ ?_
  .refine Gz O (st:=λE:Nat=>([(1,WC),(2,WC),(6,WC),(7,WC),(11,WC),(12,WB (ZI E)),(33,WC)],[(0,WC),(1,WC),(2,WC),(3,WC),(4,WC),(5,WC),(6,WC),(8,WC)])) 9
        (I:=λE=>E<=out.length/\∀j (hj:j<out.length),j<E->gG out[j].1 e.1=YK) (μ:=λE=>out.length-E) (x0:=0) (Vn (aS O) (aO Zj) O O) (⟨sh _,λj _ h=>absurd h Zi⟩) ?_
   rintro i ⟨hi,hall⟩;by_cases hi2:i<out.length
   .have hov:((bB (tmL out)).drop (i*3)).take 2=[.int .i64 out[i].1.f,.str out[i].1.c]:=by have:=ah (List.take 2) (uD hi2);rw[Yl]at this;exact this
    have am:=iC out[i].1 e.1;refine VC 15 O<|Dr 4 O<|YM O (λτ h=>fE (Ee h 0 O) (Ee h 1 O) O (VK Zi))<|Dr 6 O<|Dg [_] O (λτ h=>qQ ⟨_,aaA,O⟩ k9 (Ee h 0 O) (Eo h 0 O) hov O) O Zj<|D1 O O<|Dg [] O (λτ h=>aa call64 am (h.aE O)) O Zj<|D1 O O ⟨Zj,Gc O (λz=>?_) (λz=>?_)⟩
    .exact Vl<|Z3 O<|⟨(i+1),Vn (aS O) (aO Zj) O O,⟨Zi,λj hj hji=>if h:j<i then hall j hj h else(by obtain rfl:j=i:=Zi;exact z)⟩,Zi⟩
    exact Gx O<|⟨(i),Vn (aS O) (aO Zj) O O,⟨hi,mQ hi hall (λ_=>z)⟩⟩
   refine VC 15 O<|Dr 4 O<|YM O (λτ h=>jA (Ee h 0 O) (Ee h 1 O) O (VL Zi))<|Dr 10 O ⟨Zj,Gc O (λz=>absurd z Zm) (λz=>?_)⟩;exact Gx O<|⟨(i),Vn (aS O) (aO Zj) O O,⟨hi,mQ hi hall (λh=>absurd h hi2)⟩⟩
  rintro j ⟨hi,u⟩;obtain⟨hdl,hnl,hnf,hcs,hil⟩:=PF (β:=ZM×Rat) (λe=>⟨e.1,bk e.2⟩) ui 3 (λ_=>rfl) B8 hi u;refine VC 14 O<|Dr 3 O<|YQ [_] O (λτ h=>gj j aaG ix (Ee h 0 O) (Eo h 0 O) (Ee h 1 O) O hi)<|Dr 5 O<|YQ [_] O (λτ h=>gw j aaG ix (Ee h 0 O) (Eo h 0 O) (Ee h 1 O) O hi)<|YQ [_,_] O (λτ h=>c6 10 el43 (Ee h 0 O) (Eo h 0 O) (BY _) (PK.tsl (Ee h 1 O) (Eo h 1 O) O hdl) hdl (λc hc=>Dk (tmL out) c (Yh hc)) Zi (h.n 0 _ O))<|YQ [_,_] O (λτ h=>c6 11 el43 (Ee h 0 O) (Eo h 0 O) Zi (oR.any (.inr ⟨_,_,_,_,(Ee h 1 O),(Eo h 1 O),O⟩)) hnl hnf Zi (h.n 0 _ O))<|Dr 2 O ⟨Zj,⟨(l1++l2,pT bY e out,[bu e.1,cc e.2]),St.le.trans (St.PA (id:=11) (sz:=3) (k:=j+(1+(out.length-j))) (T:=113) (T':=46) (vs:=[.pv (.str (bk m.c)),.bJ 11 3 (j+(1+(out.length-j))),.bz 4 5 0]) (cs:=Uc 3 (bB (tmL out)) (ui ⟨e.1,bk e.2⟩) j out.length) 2 1 Zj O Zj Zi (λe0=>ER (l:=pT bY e out) (k:=0) Zi (hcs.symm.trans e0))) (Vo [0,1,2,11,4,5] (aT O) ⟨Zj,Zj,ah (λn=>WB (Ob.mix 46 [.pv (.str (bk m.c)),.bz 11 3 n,.bz 4 5 0])) hil,VT (b:=WB (.bD 113 (Uc 3 (bB (tmL out)) (ui ⟨e.1,bk e.2⟩) j out.length))) Zj (ah (λc=>WB (Ob.bD 113 c)) hcs),Zj,Zj,Zp⟩ O O Zk O),X,Zm⟩⟩
 obtain⟨_,rfl,_⟩:=(gE.ofE hN).resolve_right (by rintro⟨h,_⟩;rw[h]at L;cases L);have an:=hI.end eM sa;rw[an];refine Gx O<|Z2 O<|Rs O (fo 6 underlying99 O O)<|Gz O (st:=λH:List (PP×Rat)×List (PP×Rat)×na=>([(2,WC),(6,WC),(85,WC)],[(1,WC),(2,WB (.mix 46 [.pv (.str (bk m.c)),.bz 3 3 m.s.length,.bz 4 5 H.2.1.length])),(3,WC),(4,WB (.bD 115 (bM (prL H.2.1)))),(6,WB (.mi H.2.2 (aq ppP H.1) (aN H.1)))])) 7
  (I:=λH=>GvI cy m.p H.1 H.2.1) (μ:=λH=>H.1.length) (x0:=(p,[],[])) (Vn (aS O) (aO Zj) O O) (GvI.start hp) ?_
 rintro⟨todo,out,cur⟩ hI;try simp only at hI ⊢
 refine Gr O<|RL.call O (gH O O ?_);rintro b rest cur2 ks2 vs2 hN;refine Rs O (cE O O)<|Gc O (λU=>?_) (λU=>?_)
 .obtain⟨_,l1,e,l2,rfl,rfl,rfl,rfl,rfl⟩:=(gE.ofE hN).resolve_left (by rintro⟨h,_⟩;rw[h]at U;cases U);have hz:=rB e.2;refine Vl<|Gr O<|Rs O (fe O O)<|Ar 6 O<|Z1 O<|Rs O (aa call72 hz O)<|Gc O (λab=>?_) (λab=>?_)
  .have h0:e.2=0:=by simpa using ab
   exact Gx O<|⟨(l1++l2,out,[ppP e.1,cc e.2]),Vn (aS O) (aO Zj) O O,hI.skip h0,Zm⟩
  have h0:¬e.2=0:=by simpa using ab
  have ag:=hI.mem (e:=e) Zm h0;have hsn:=hI.snoc h0;have X:=hI.step cZ h0 hnp;have ai:=wC (h1.p e ag);have al:=rb (prL out);rw[vU]at al;refine Vl<|Z1 O<|Rs O (aa call71 ai O)<|Ar 5 O<|Z2 O<|Gc O (λaf=>absurd af Zm) (λaf=>?_);refine Vl<|Gr O<|Rs O (fG 0 aaJ k9 O O O O Zk)<|A1 O<|Rs O (fG 1 aaJ k9 O O O O Zk)<|Ar 5 O ?_;by_cases he:out=[]
  .have hl0:out.length=0:=by rw[he];rfl
   rw [hl0];refine Vm (St.GI (id:=4) (sz:=5) (T':=46) (vs:=[.pv (.str (bk m.c)),.bz 3 3 m.s.length,.bz 4 5 0]) 2 2 Zj O)<|Z1 O<|Gz O (st:=λG:Nat=>([(2,WC),(6,WC),(17,WC),(18,WB (ZI G)),(85,WC)],[(1,WC),(2,WC),(3,WC),(6,WC),(9,WC)])) 10
        (I:=λG=>G<=out.length/\∀j (hj:j<out.length),j<G->decide (cy out[j].1 e.1<0)=YK) (μ:=λG=>out.length-G) (x0:=0) (Vn (aS O) (aO Zj) O O) (⟨sh _,λj _ h=>absurd h Zi⟩) ?_
   rintro i ⟨hi,hall⟩;refine VC 14 O<|Dr 4 O<|YM O (λτ h=>jA (Ee h 0 O) (Ee h 1 O) O (VL Zi))<|Dr 9 O ⟨Zj,Gc O (λt=>absurd t Zm) (λt=>?_)⟩;refine Gx O ?_;obtain rfl:i=0:=Zi;have u:pT cy e out=[e]:=by rw[he];rfl
   refine VC 14 O<|Dr 10 O<|YQ [_] O (λτ h=>gz 11 el44 (Ee h 0 O) (Eo h 0 O) O (.inl ⟨_,(Ee h 1 O)⟩) O Zm Zi (h.n 0 _ O))<|YQ [_] O (λτ h=>lK 12 el44 (Ee h 0 O) (.inr ⟨_,_,_,_,(Ee h 1 O),(Eo h 0 O),O⟩) O (Cp [⟨e.1.1,e.1.2,bk e.2⟩]) Zi (h.n 0 _ O))<|Dr 2 O ⟨Zj,⟨(l1++l2,pT cy e out,[ppP e.1,cc e.2]),Vo [0,1,2,3,12,5,6] (aT O) ⟨Zj,ah (λn=>WB (Ob.mix 46 [.pv (.str (bk m.c)),.bz 3 3 m.s.length,.bz 12 5 n])) (show 1=(pT cy e out).length by rw[u];rfl),Zj,VT (b:=WB (.bD 115 (tX ⟨e.1.1,e.1.2,bk e.2⟩))) Zj (ah (λc=>WB (Ob.bD 115 c)) (show tX ⟨e.1.1,e.1.2,bk e.2⟩=bM (prL (pT cy e out)) by rw[u];rfl)),Zj,Zp⟩ O O Zk O,X,Zm⟩⟩
  have hpos:0<out.length:=Ww.2 he;have Y:bM (prL out)≠[]:=Fy hpos;refine Vm (St.JN (id:=4) (sz:=5) (k:=out.length) (T:=115) (T':=46) (cs:=bM (prL out)) (vs:=[.pv (.str (bk m.c)),.bz 3 3 m.s.length,.bz 4 5 out.length]) 2 2 Zj O Zj hpos Y)<|Z1 O<|AW.cut (st:=λV:Nat=>ZT [(2,.ptr 1 0),(6,.ptr 2 0),(17,.ptr 9 0),(18,ZI V),(85,.ptr 6 0)] [(1,.mix 46 [.pv (.str ⟨#[]⟩),.pv nS,.pv nS]),(2,.mix 46 [.pv (.str (bk m.c)),.bz 3 3 m.s.length,.bJ 4 5 out.length]),(3,.bD 113 (bB (tmL m.s))),(4,.cells 115 (bM (prL out))),(6,.mi [ppP e.1,cc e.2] (aq ppP (l1++l2)) (aN (l1++l2))),(9,.mix 115 [ZI e.1.1.f,.pv (.str e.1.1.c),ZI e.1.2.f,.pv (.str e.1.2.c),.pv (.str (bk e.2))])] 10)
       (I:=λV=>V<=out.length/\pT cy e out=out.take V++e::out.drop V) ?_ ?_
  .refine Gz O (st:=λG:Nat=>([(2,WC),(6,WC),(17,WC),(18,WB (ZI G)),(85,WC)],[(1,WC),(2,WC),(3,WC),(4,WC),(6,WC),(9,WC)])) 10
        (I:=λG=>G<=out.length/\∀j (hj:j<out.length),j<G->decide (cy out[j].1 e.1<0)=YK) (μ:=λG=>out.length-G) (x0:=0) (Vn (aS O) (aO Zj) O O) (⟨sh _,λj _ h=>absurd h Zi⟩) ?_
   rintro i ⟨hi,hall⟩;by_cases hi2:i<out.length
   .have hov:=tV hi2;have am:=rF ⟨out[i].1.1,out[i].1.2,bk out[i].2⟩ ⟨e.1.1,e.1.2,bk e.2⟩;refine VC 14 O<|Dr 4 O<|YM O (λτ h=>fE (Ee h 0 O) (Ee h 1 O) O (VK Zi))<|Dr 5 O<|Dg [_] O (λτ h=>qQ ⟨_,aaC,O⟩ jz (Ee h 0 O) (Eo h 0 O) hov O) O Zj<|D1 O O<|Dg [] O (λτ h=>aa call65 am (h.aE O)) O Zj<|D1 O O ⟨Zj,Gc O (λt=>?_) (λt=>?_)⟩
    .exact Vl<|Z3 O<|⟨(i+1),Vn (aS O) (aO Zj) O O,⟨Zi,λj hj hji=>if h:j<i then hall j hj h else(by obtain rfl:j=i:=Zi;exact t)⟩,Zi⟩
    exact Gx O<|⟨(i),Vn (aS O) (aO Zj) O O,⟨hi,mQ hi hall (λ_=>t)⟩⟩
   refine VC 14 O<|Dr 4 O<|YM O (λτ h=>jA (Ee h 0 O) (Ee h 1 O) O (VL Zi))<|Dr 9 O ⟨Zj,Gc O (λt=>absurd t Zm) (λt=>?_)⟩;exact Gx O<|⟨(i),Vn (aS O) (aO Zj) O O,⟨hi,mQ hi hall (λh=>absurd h hi2)⟩⟩
  rintro j ⟨hi,u⟩;obtain⟨hdl,hnl,hnf,hcs,hil⟩:=PF (β:=PP×Rat) (λe=>⟨e.1.1,e.1.2,bk e.2⟩) tX 5 (λ_=>rfl) DH hi u;refine VC 14 O<|Dr 3 O<|YQ [_] O (λτ h=>gj j aaI jz (Ee h 0 O) (Eo h 0 O) (Ee h 1 O) O hi)<|Dr 5 O<|YQ [_] O (λτ h=>gw j aaI jz (Ee h 0 O) (Eo h 0 O) (Ee h 1 O) O hi)<|YQ [_,_] O (λτ h=>c6 11 el44 (Ee h 0 O) (Eo h 0 O) (BY _) (PK.tsl (Ee h 1 O) (Eo h 1 O) O hdl) hdl (λc hc=>Cp (prL out) c (Yh hc)) Zi (h.n 0 _ O))<|YQ [_,_] O (λτ h=>c6 12 el44 (Ee h 0 O) (Eo h 0 O) Zi (oR.any (.inr ⟨_,_,_,_,(Ee h 1 O),(Eo h 1 O),O⟩)) hnl hnf Zi (h.n 0 _ O))<|Dr 2 O ⟨Zj,⟨(l1++l2,pT cy e out,[ppP e.1,cc e.2]),St.le.trans (St.PA (id:=12) (sz:=5) (k:=j+(1+(out.length-j))) (T:=115) (T':=46) (vs:=[.pv (.str (bk m.c)),.bz 3 3 m.s.length,.bJ 12 5 (j+(1+(out.length-j)))]) (cs:=Uc 5 (bM (prL out)) (tX ⟨e.1.1,e.1.2,bk e.2⟩) j out.length) 2 2 Zj O Zj Zi (λe0=>Fy (l:=pT cy e out) (k:=0) Zi (hcs.symm.trans e0))) (Vo [0,1,2,3,12,5,6] (aT O) ⟨Zj,ah (λn=>WB (Ob.mix 46 [.pv (.str (bk m.c)),.bz 3 3 m.s.length,.bz 12 5 n])) hil,Zj,VT (b:=WB (.bD 115 (Uc 5 (bM (prL out)) (tX ⟨e.1.1,e.1.2,bk e.2⟩) j out.length))) Zj (ah (λc=>WB (Ob.bD 115 c)) hcs),Zj,Zp⟩ O O Zk O),X,Zm⟩⟩
 obtain⟨_,rfl,_⟩:=(gE.ofE hN).resolve_right (by rintro⟨h,_⟩;rw[h]at U;cases U);have an:=hI.end cZ ap;rw[an];exact Gx O<|Vm (Vq (o:= .bD 113 (bB (tmL m.s))) 3 Zj O)<|Vm (Vq (o:= .bD 115 (bM (prL m.p))) 4 Zj O)<|Z3 O<|Gt O<|⟨[(2,.ptr 0 0),(3,ZI 0)],[(0,.mix 46 (Z9 m))],[.agg (Z9 m),ZI 0],[],1,Vo [1] (aT Zj) (aP Zj) O O Zk O,O,⟨ar ⟨_,underlying46,O⟩ Tv O O O,Zp⟩,O,O,λi o h=>by simp[au]at h,Zk,O,O⟩
end
section
open Go.RowKit Mk Mm
structure NmOk(p:ZM):Prop where
 f: -1<=p.f
 c:p.c=⟨#[]⟩\/fJ p.c=YK
 z:p.c.size<=1000
theorem n9(p:ZM)(h:NmOk p):ZK prog 63 [bu p] (· = .bool YK):=by
 refine ZC func63 O ntmps63 λ_ _ _ _=>?_
 have j:=oQ p.c (by have:=h.z;omega);have t:=h.f;have u:((p.c.toList==(⟨#[]⟩:er).toList)||fJ p.c)=YK:=by
  rcases h.c with e|e
  .rw[e,WE];rfl
  rw[e,YY]
 refine Z2 O<|Z2 O<|Rs O (fE O O O (VK t))<|Ar 5 O ?_;apply Vv 4 10 14 [11,12,13] O Zs
 .intro hb7;exact Ar 4 O<|Vp Zr O O O
 .intro hb7;exact Y2 O<|Rg O (aa call126 j O)<|A1 O<|Vp Zr O O O
 exact Y2 O<|YR O<|ah PV.bool u
structure V10(m:MC):Prop where
 f:MF1 m
 sa:Mm.Asc bY m.s
 pa:Mm.Asc cy m.p
 sz:∀e∈m.s,e.2≠0
 pz:∀e∈m.p,e.2≠0
 po:∀e∈m.p,gG e.1.2 e.1.1=YL
 sn:∀e∈m.s,NmOk e.1
 pn:∀e∈m.p,NmOk e.1.1/\NmOk e.1.2
theorem F1.val(h:F1 q):ZK prog 30 [.str (bk q)] (· = .bool YK):=by have j:=(qn q h).sz;have:=HL (bk q) (by have:=yr (bk q) (sI q h.fits);omega);rwa [sI q h.fits]at this
theorem Fz:bk ((0:Int):Rat)=⟨#[48]⟩:=by decide+kernel
theorem Kf(h:F1 q)(z:q≠0):((bk q).toList==(⟨#[48]⟩:er).toList)=YL:=by
 cases e:((bk q).toList==(⟨#[48]⟩:er).toList)with
 |false=>rfl
 | true=>
   have t:bk q=bk ((0:Int):Rat):=(bytes_inj (eq_of_beq e)).trans Fz.symm;have j:=qn q h;have u:=qn ((0:Int):Rat) ⟨by decide+kernel,by decide+kernel⟩;rw[t]at j;have:q.num=0:=j.n.2.symm.trans u.n.2;exact absurd (Rat.num_eq_zero.1 this) z
theorem oz(m:MC)(h:V10 m):ZK prog 25 [pP m] (· = .bool YK):=by
 refine ZC func25 O ntmps25 λ_ _ _ _=>?_
 have af:=h.f.c.val;have hls:=h.f.ls;have hlp:=h.f.lp;refine Z2 O<|Z2 O<|Rs O (aa call30 af O)<|A1 O<|Gc O (λU=>absurd U Zk) (λU=>?_);refine Vl<|Z4 O<|Gz O (st:=λZq:Nat=>([(1,WC),(12,WC),(13,WC),(14,WB (ZI Zq))],[(0,WC)])) 1
  (I:=λZq=>Zq<=m.s.length) (μ:=λZq=>m.s.length-Zq) (x0:=0) (Vn (aS O) (aO Zj) O O) (sh _) ?_
 rintro i hi;refine Z1 O<|Gp O (λac=>?_) (λac=>?_)
 .have hlt:i<m.s.length:=Zi;have H:=uD hlt;have L:=ER hlt;have t:=ak hlt;have V:=(h.f.s _ t).val;have hn:=n9 m.s[i].1 (h.sn _ t);have X:=Kf (h.f.s _ t) (h.sz _ t);refine Vl<|Z1 O<|Rs O (ai i aaG ix O O O hlt L)<|Rs O (aD ⟨_,aaB,O⟩ ix O H O)<|Y3 O ?_;by_cases hp:0<i
  .have hj:i-1<m.s.length:=Zi;have E:((bB (tmL m.s)).drop ((i-1)*3)).take 2=[.int .i64 m.s[i-1].1.f,.str m.s[i-1].1.c]:=by have:=ah (List.take 2) (uD hj);rw[Yl]at this;exact this
   have G:=iC m.s[i-1].1 m.s[i].1;rw[show gG m.s[i-1].1 m.s[i].1=YK from VK (Wz.1 h.sa (i-1) i hj hlt Zi)]at G;refine VC 32 O<|Dr 2 O<|YM O (λτ h=>aa call63 hn (h.aE O))<|Dr 4 O<|Dg [] O (λτ h=>aa call30 V (h.aE O)) O Zj<|Dr 5 O<|Dg [] O (λτ h=>pj (Ee h 0 O) (Ee h 1 O) O X) O Zj<|Dr 3 O<|Dg [] O (λτ h=>fE (Ee h 0 O) (Ee h 1 O) O (VK (show((i:Nat):Int)>0 by omega))) O Zj ?_;refine Dr 5 O<|Dg [] O (λτ h=>ai (i-1) aaG ix (Ee h 0 O) (Ee h 1 O) Zi hj L) O Zj<|D1 O O<|Dg [] O (λτ h=>aD ⟨_,aaA,O⟩ k9 (Ee h 0 O) E O) O Zj<|Dr 2 O<|Dg [] O (λτ h=>aa call64 G (h.aE O)) O Zj<|Dr 3 O ⟨Zj,Gc O (λz=>absurd z Zk) (λz=>?_)⟩;exact Vl<|Z2 O<|⟨(i+1),Vn (aS O) (aO Zj) O O,hlt,Zi⟩
  refine VC 32 O<|Dr 2 O<|YM O (λτ h=>aa call63 hn (h.aE O))<|Dr 4 O<|Dg [] O (λτ h=>aa call30 V (h.aE O)) O Zj<|Dr 5 O<|Dg [] O (λτ h=>pj (Ee h 0 O) (Ee h 1 O) O X) O Zj<|Dr 3 O<|Dg [] O (λτ h=>jA (Ee h 0 O) (Ee h 1 O) O (VL (show ¬ ((i:Nat):Int)>0 by omega))) O Zj ?_;refine Dr 14 O ⟨Zj,Gc O (λz=>absurd z Zk) (λz=>?_)⟩;exact Vl<|Z2 O<|⟨(i+1),Vn (aS O) (aO Zj) O O,hlt,Zi⟩
 refine Gx O<|Z4 O ?_;refine Gz O (st:=λM:Nat=>([(1,WC),(53,WC),(54,WC),(55,WB (ZI M))],[(0,WC)])) 1
  (I:=λM=>M<=m.p.length) (μ:=λM=>m.p.length-M) (x0:=0) (Vn (aS O) (aO Zj) O O) (sh _) ?_
 rintro j hj;refine Z1 O<|Gp O (λad=>?_) (λad=>?_)
 .have hlt:j<m.p.length:=Zi;have H:=tV hlt;have L:=Fy hlt;have t:=ak hlt;have V:=(h.f.p _ t).val;have Y:=n9 m.p[j].1.1 (h.pn _ t).1;have Z:=n9 m.p[j].1.2 (h.pn _ t).2;have G:=iC m.p[j].1.2 m.p[j].1.1;rw[h.po _ t]at G;have X:=Kf (h.f.p _ t) (h.pz _ t);refine Vl<|Z1 O<|Rs O (ai j aaI jz O O O hlt L)<|Rs O (aD ⟨_,aaC,O⟩ jz O H O)<|Y3 O ?_;by_cases hp:0<j
  .have hj2:j-1<m.p.length:=Zi;have E:=tV hj2;have ab:=rF ⟨m.p[j-1].1.1,m.p[j-1].1.2,bk m.p[j-1].2⟩ ⟨m.p[j].1.1,m.p[j].1.2,bk m.p[j].2⟩;rw[show decide (cy ((⟨m.p[j-1].1.1,m.p[j-1].1.2,bk m.p[j-1].2⟩:Prr).a,(⟨m.p[j-1].1.1,m.p[j-1].1.2,bk m.p[j-1].2⟩:Prr).b) ((⟨m.p[j].1.1,m.p[j].1.2,bk m.p[j].2⟩:Prr).a,(⟨m.p[j].1.1,m.p[j].1.2,bk m.p[j].2⟩:Prr).b)<0)=YK from VK (Wz.1 h.pa (j-1) j hj2 hlt Zi)]at ab;refine VC 43 O<|Dr 2 O<|YM O (λτ h=>aa call63 Y (h.aE O))<|Dr 4 O<|Dg [] O (λτ h=>aa call63 Z (h.aE O)) O Zj<|Dr 7 O<|Dg [] O (λτ h=>aa call64 G (h.aE O)) O Zj<|Dr 4 O<|Dg [] O (λτ h=>aa call30 V (h.aE O)) O Zj<|Dr 5 O<|Dg [] O (λτ h=>pj (Ee h 0 O) (Ee h 1 O) O X) O Zj<|Dr 3 O<|Dg [] O (λτ h=>fE (Ee h 0 O) (Ee h 1 O) O (VK (show((j:Nat):Int)>0 by omega))) O Zj ?_;refine Dr 5 O<|Dg [] O (λτ h=>ai (j-1) aaI jz (Ee h 0 O) (Ee h 1 O) Zi hj2 L) O Zj<|Dg [] O (λτ h=>aD ⟨_,aaC,O⟩ jz (Ee h 0 O) E O) O Zj<|D1 O O<|Dg [] O (λτ h=>aa call65 ab (h.aE O)) O Zj<|Dr 3 O ⟨Zj,Gc O (λu=>absurd u Zk) (λu=>?_)⟩;exact Vl<|Z2 O<|⟨(j+1),Vn (aS O) (aO Zj) O O,hlt,Zi⟩
  refine VC 43 O<|Dr 2 O<|YM O (λτ h=>aa call63 Y (h.aE O))<|Dr 4 O<|Dg [] O (λτ h=>aa call63 Z (h.aE O)) O Zj<|Dr 7 O<|Dg [] O (λτ h=>aa call64 G (h.aE O)) O Zj<|Dr 4 O<|Dg [] O (λτ h=>aa call30 V (h.aE O)) O Zj<|Dr 5 O<|Dg [] O (λτ h=>pj (Ee h 0 O) (Ee h 1 O) O X) O Zj<|Dr 3 O<|Dg [] O (λτ h=>jA (Ee h 0 O) (Ee h 1 O) O (VL (show ¬ ((j:Nat):Int)>0 by omega))) O Zj ?_;refine Dr 12 O ⟨Zj,Gc O (λu=>absurd u Zk) (λu=>?_)⟩;exact Vl<|Z2 O<|⟨(j+1),Vn (aS O) (aO Zj) O O,hlt,Zi⟩
 exact Gx O<|Z1 O<|YR O O
theorem o6(p:ZM):jF p p=YK:=by unfold jF;rw[WE,WE];rfl
theorem sZ(m:MC)(Y:m.s.length<=1000000)(Z:m.p.length<=1000000):ZK prog 12 [pP m,pP m] (· = .bool YK):=by
 refine ZC func12 O ntmps12 λ_ _ _ _=>?_
 have X:(!((bk m.c).toList==(bk m.c).toList))=YL:=by rw[WE];rfl
 refine Z3 O<|Z4 O<|Rs O (pj O O O X)<|Ar 7 O<|Rg O (jA O O O (bne_self_eq_false _))<|Ar 8 O<|Rg O (jA O O O (bne_self_eq_false _))<|A1 O<|Gc O (λE=>absurd E Zk) (λE=>?_);refine Vl<|Z4 O<|Gz O (st:=λZq:Nat=>([(2,WC),(3,WC),(32,WC),(33,WB (ZI Zq))],[(0,WC),(1,WC)])) 2
  (I:=λZq=>Zq<=m.s.length) (μ:=λZq=>m.s.length-Zq) (x0:=0) (Vn (aS O) (aO Zj) O O) (sh _) ?_
 rintro i hi;refine Z1 O<|Gp O (λL=>?_) (λL=>?_)
 .have hlt:i<m.s.length:=Zi;have t:=uD hlt;have u:=ER hlt;have U:(!FT ⟨m.s[i].1,bk m.s[i].2⟩ ⟨m.s[i].1,bk m.s[i].2⟩)=YL:=by unfold FT;rw[o6,WE];rfl
  refine Vl<|Z2 O<|VC 11 O<|Dr 3 O<|YM O (λτ h=>ai i aaG ix (Ee h 0 O) (Ee h 1 O) O hlt u)<|YM O (λτ h=>aD ⟨_,aaB,O⟩ ix (Ee h 0 O) t O)<|Dr 3 O<|YM O (λτ h=>ai i aaG ix (Ee h 0 O) (Ee h 1 O) O hlt u)<|YM O (λτ h=>aD ⟨_,aaB,O⟩ ix (Ee h 0 O) t O)<|YM O (λτ h=>XJ.cast (v':= .pv (.bool YL)) (Ph (p:=⟨m.s[i].1,bk m.s[i].2⟩) (q:=⟨m.s[i].1,bk m.s[i].2⟩) O (Ee h 0 O) (Ee h 1 O)) (ah (λb=>V.pv (.bool b)) U)) ⟨Zj,Gc O (λG=>absurd G Zk) (λG=>?_)⟩;exact Vl<|Z2 O<|⟨(i+1),Vn (aS O) (aO Zj) O O,hlt,Zi⟩
 refine Gx O<|Z4 O ?_;refine Gz O (st:=λz:Nat=>([(2,WC),(3,WC),(50,WC),(51,WB (ZI z))],[(0,WC),(1,WC)])) 2
  (I:=λz=>z<=m.p.length) (μ:=λz=>m.p.length-z) (x0:=0) (Vn (aS O) (aO Zj) O O) (sh _) ?_
 rintro j hj;refine Z1 O<|Gp O (λM=>?_) (λM=>?_)
 .have hlt:j<m.p.length:=Zi;have t:=tV hlt;have u:=Fy hlt;have U:(!E3 ⟨m.p[j].1.1,m.p[j].1.2,bk m.p[j].2⟩ ⟨m.p[j].1.1,m.p[j].1.2,bk m.p[j].2⟩)=YL:=by unfold E3;rw[o6,o6,WE];rfl
  refine Vl<|Z2 O<|VC 11 O<|Dr 3 O<|YM O (λτ h=>ai j aaI jz (Ee h 0 O) (Ee h 1 O) O hlt u)<|YM O (λτ h=>aD ⟨_,aaC,O⟩ jz (Ee h 0 O) t O)<|Dr 3 O<|YM O (λτ h=>ai j aaI jz (Ee h 0 O) (Ee h 1 O) O hlt u)<|YM O (λτ h=>aD ⟨_,aaC,O⟩ jz (Ee h 0 O) t O)<|YM O (λτ h=>XJ.cast (v':= .pv (.bool YL)) (OY (p:=⟨m.p[j].1.1,m.p[j].1.2,bk m.p[j].2⟩) (q:=⟨m.p[j].1.1,m.p[j].1.2,bk m.p[j].2⟩) O (Ee h 0 O) (Ee h 1 O)) (ah (λb=>V.pv (.bool b)) U)) ⟨Zj,Gc O (λH=>absurd H Zk) (λH=>?_)⟩;exact Vl<|Z2 O<|⟨(j+1),Vn (aS O) (aO Zj) O O,hlt,Zi⟩
 exact Gx O<|Z1 O<|YR O O
end




section
open Go.RowKit Mk Jn Mm Vw
theorem Sq:∀p∈QM S,NmOk p:=by
 have hc:∀t∈Q0,(t=⟨#[]⟩\/fJ t=YK)/\t.size<=1000:=by
  intro t ht;simp only[Q0,MF,By,Xv,Y0]at ht;rcases ht with rfl|rfl|rfl|rfl
  .exact⟨.inl O,Zk⟩
  .exact⟨.inr Zt,Zk⟩
  .exact⟨.inr Zt,Zk⟩
  exact⟨.inr Zt,Zk⟩
 intro p hp;unfold QM at hp;rcases By.1 hp with rfl|hp
 .exact⟨Zk,.inl O,Zk⟩
 obtain⟨i,_,hp⟩:=V6.1 hp;obtain⟨t,ht,rfl⟩:=VS.1 hp;exact⟨by show(-1:Int)<=(i:Int);omega,(hc t ht).1,(hc t ht).2⟩
theorem TW{g:Gv}(h:GvOk (QM S) g)(z:MF1 (cn g.m)):V10 (cn g.m):=by
 obtain⟨h1,h2,h3,h4⟩:=h.s.cn;refine⟨z,h3,h4,h1.s.nz O,h1.p.nz O,λe he=>?_,λe he=>?_,λe he=>?_⟩
 .have:=h1.po e he;have j:=iW e.1.1 e.1.2;exact VL Zi
 .refine Sq (S:=S) e.1 (V5 λt=>?_);have j:=h.q.s _ t;rw[<-h2]at j;exact h1.s.nz O e he ((fD h1.s.nd he).symm.trans j)
 have j:(cn g.m).sem.p e.1.1 e.1.2=e.2:=by
  show lk (cn g.m).p (dD e.1.1 e.1.2)=_;rw[eu (h1.po e he)];exact fD h1.p.nd he
 have u:g.m.p e.1.1 e.1.2≠0:=by rw[<-h2,j];exact h1.p.nz O e he
 exact⟨Sq (S:=S) _ (V5 λt=>u (h.q.p _ _ (.inl t))),Sq (S:=S) _ (V5 λt=>u (h.q.p _ _ (.inr t)))⟩
theorem Nk{l:List (K×Rat)}(h:LOk YL D l):LOk YK D (nzL l):=
 ⟨h.nd.sublist (WN.map _),λ_ e he=>Xh (VU.1 he).2,λe he=>h.it e (VU.1 he).1⟩
theorem NC[BEq K](l:List (K×Rat))(k:K):lk (nzL l) k=lk l k:=by
 induction l with
 |nil=>rfl
 | cons e l ih=>
   have h:nzL (e::l)=if e.2=0 then nzL l else e::nzL l:=by
    by_cases h:e.2=0<;>simp[nzL,h]
   rw[h];split
   .rename_i h0;rw[ih,lk,h0];split<;>grind
   rw[lk,lk,ih]
structure FulR(x:ZB)(c:Rat)(s:List (ZM×Rat))(p:List (PP×Rat)):Prop where
 c:c=(cn x).c
 s:(nzL s).Perm (cn x).s
 p:(nzL p).Perm (cn x).p
theorem FulR.of{x:ZB}{s:List (ZM×Rat)}{p:List (PP×Rat)}(h:MOk W k ⟨c,nzL s,nzL p⟩)(e:MC.sem ⟨c,nzL s,nzL p⟩=x):FulR x c s p:=by obtain⟨h1,h2,h3⟩:=h.perms;rw[e]at h1 h2 h3;exact⟨h1.symm,h2.symm,h3.symm⟩
structure GS(S:ZN)(g:Gv):Prop where
 ok:GvOk (QM S) g
 w:g.w<=40000
 k:g.k<=8
section
variable {S:ZN}{g h:Gv}(hQ:(QM S).length<=1000)
include hQ
theorem GS.mf1(j:GS S g):MF1 (cn g.m):=Tm j.ok hQ j.w j.k
theorem GS.v10(j:GS S g):V10 (cn g.m):=TW j.ok (j.mf1 hQ)
omit hQ in
theorem GS.msm(j:GS S g):MSm (cn g.m):=j.ok.s.cn.1.msm (OF j.w Zk) (OF j.k Zk)
theorem GS.give(j:GS S g){s:List (ZM×Rat)}{p:List (PP×Rat)}(h:FulR g.m c s p):ZS prog 29 2 0 [.agg (dO c big 9001)] (ZY s p) (λv ob'=>v= .bS [.agg [.pv (.str (bk (cn g.m).c)),.pv (.sl WC (cn g.m).s.length (bB (tmL (cn g.m).s))),.pv (.sl WC (cn g.m).p.length (bM (prL (cn g.m).p)))],ZI 0]/\ob'=au []):=by obtain⟨_,_,h3,h4⟩:=j.ok.s.cn;rw[h.c];exact Bh (cn g.m) s p h.s h.p h3 h4 (j.mf1 hQ)
theorem GS.read(j:GS S g):ZS prog 26 0 2 [.pv (pP (cn g.m))] [] (λv ob'=>v= .agg (dO (cn g.m).c 0 1)/\ob'=au [(0,.mp (aq bu (cn g.m).s) (aN (cn g.m).s)),(1,.mp (aq ppP (cn g.m).p) (aN (cn g.m).p))]):=
 yv (cn g.m) j.ok.s.cn.1.s.nd j.ok.s.cn.1.p.nd (j.mf1 hQ)
omit hQ in
theorem J8(t:GS S g)(u:GS S h):ZS prog 27 4 0 [.agg (dO (cn g.m).c big 9001),.agg (dO (cn h.m).c 9002 9003),.pv (cc ((1:Int):Rat))] [(big,.mp (aq bu (cn g.m).s) (aN (cn g.m).s)),(9001,.mp (aq ppP (cn g.m).p) (aN (cn g.m).p)),(9002,.mp (aq bu (cn h.m).s) (aN (cn h.m).s)),(9003,.mp (aq ppP (cn h.m).p) (aN (cn h.m).p))]
   (λr ob'=>∃c s p,FulR (g.add h).m c s p/\r= .agg (dO c big 9001)/\ob'=au (ZY s p)):=by
 have j:bg smB ((1:Int):Rat):=bg.up (B:=1) ⟨by decide+kernel,by decide+kernel⟩ Zt;refine(xv (cn g.m).c (cn g.m).s (cn g.m).p (cn h.m) ((1:Int):Rat) sm1 t.msm u.msm ⟨1,O⟩ j).mono ?_;rintro r ob' ⟨s,p,hm,rfl,rfl⟩;have m1:=t.ok.s.cn.1.up (BY _) (Nat.le_max_left g.k h.k);have m2:=u.ok.s.cn.1.up (BY _) (Nat.le_max_right g.k h.k);obtain⟨e,h1⟩:=MOk.add m1 m2 (m:=⟨(cn g.m).c+(cn h.m).c*((1:Int):Rat),nzL s,nzL p⟩) (by rw[jn,Rat.mul_one]) (Nk hm.s) (Nk hm.p) (λe he=>hm.po m1.po e (VU.1 he).1) (λx=>by simp only[NC];rw[hm.es,jn,Rat.mul_one]) (λx=>by simp only[NC];rw[hm.ep,jn,Rat.mul_one]);rw[t.ok.s.cn.2.1,u.ok.s.cn.2.1]at e;exact⟨_,s,p,.of h1 e,O,O⟩
end
end
section
open Go.RowKit Jn Mk Vw
set_option autoImplicit false
section
open Mm (SOk cnt bH aM cn ZB)
noncomputable def gC(J:JD)(P:cP)(W:Nat):Gv:=⟨qg aM (lfJ J.S) cnt J P,1,W,5⟩
theorem gC_gs{J:JD}{D:VD}(j:Made J.S 5 o)(h:CtxV J P D)(t:∀r∈J.S.aU,r.2.Nodup)(u:∀l∈J.T,l.Pairwise λa b=>a.v≠b.v)(z:∀l∈J.T,∀x∈l,0<=x.w)
  (E:dj ((uQ J.S J.T).map λp=>y8 p.2)<=W) (G:W<=40000) (H:P.length<=5):GS J.S (gC J P W):=
 ⟨⟨(Np h t u (Gs j.fs) z).up E H,C1 (Lo j.fs) J P⟩,G,by show 5<=8;decide⟩
variable {J J1 J2:JD}{P:cP}{D:VD}{r W W1 W2:Nat}
theorem Vd(h:CtxV J P D)(j:r<J.S.aU.length)(t:CtxV J1 P D)(u:CtxV J2 P D)(e1:J1.S=J.S)(e2:J2.S=J.S)(t1:∀q,q≠r->bW J1 q=bW J q)(t2:∀q,q≠r->bW J2 q=bW J q)
  (hs:Spl (bW J r) (bW J1 r) (bW J2 r)) (z:(bW J r).Pairwise λx y=>x.v≠y.v):(gC J P W).m=((gC J1 P W1).add (gC J2 P W2)).m:=by
 show qg aM (lfJ J.S) cnt J P=aM.add (qg aM (lfJ J1.S) cnt J1 P) (qg aM (lfJ J2.S) cnt J2 P);rw[e1,e2];exact OI h j Lh t u e1 e2 t1 t2 hs z
theorem Vj(h:CtxV J P D)(j:r<J.S.aU.length)(t:CtxV J1 P D)(e1:J1.S=J.S)(t1:∀q,q≠r->bW J1 q=bW J q)(m:Nat)(u:bW J1 r=iz (m:Int) (bW J r))(z:(bW J r).Pairwise λx y=>x.v≠y.v):(gC J1 P W1).m=((Gv.whole m).mul (gC J P W)).m:=by show qg aM (lfJ J1.S) cnt J1 P=aM.mul (cnt (m:Int)) (qg aM (lfJ J.S) cnt J P);rw[e1];exact OX h j t e1 t1 (m:Int) u (λx _=>Mm.Sem.same (by show((x.w*(m:Int):Int):Rat)=((m:Int):Rat)*(x.w:Rat);rw[Ye,Rat.mul_comm]) (λp=>by show(0:Rat)=_*0+_*0;grind) λp q=>by show(0:Rat)=_*0+_*0+(0*0+0*0);grind) z
end
end
section
open Go.RowKit Mk Jn Vw
open Mm (SOk cnt bH aM cn ZB)
section
variable {S:ZN}{d:Gk}{k:Nat}{l l':om}
theorem Jk{d:List α}{k r:Nat}{x:α}(h:r<(d.set k x).length):(d.set k x)[r]=if k=r then x else d[r]'(by rwa [VN]at h):=YB h
theorem DbOk.setT(h:DbOk S d)(j:k<S.aU.length)(hl:l'.length<=12)(u:TblOk S S.aU[k].2 1 l')(z:∀x∈l',∀y∈x.v,Zf y/\y.size<=10000):DbOk S (d.set k l') where
 hB:=h.hB
 hc:=h.hc
 hS:=h.hS
 n:=by rw[VN];exact h.n
 l:=λq hq=>by
  rcases Xm hq with h1|rfl
  .exact h.l q h1
  exact hl
 t:=λr hr h2=>by
  rw[Jk];split
  .rename_i e;subst e;exact u
  exact h.t r _ h2
 zf:=λq hq=>by
  rcases Xm hq with h1|rfl
  .exact h.zf q h1
  exact z
theorem TblOk.sub(h:TblOk S A 1 l)(hs:List.Sublist l' l):TblOk S A 1 l':=⟨λx hx=>h.row x (hs.subset hx),WY hs h.asc⟩
theorem TblOk.mul(h:TblOk S A 1 l)(t:∀x∈l,x.w<=20)(E:1<=m)(G:m<=5):TblOk S A 1 (iz m l):=by
 refine⟨λx hx=>?_,?_⟩
 .obtain⟨y,hy,rfl⟩:=VS.1 hx;have u:=t y hy;have j:=h.row y hy;have z:=j.w;refine⟨j.l,j.v,?_⟩;have:m=1\/m=2\/m=3\/m=4\/m=5:=Zi;rcases this with rfl|rfl|rfl|rfl|rfl<;>(simp only;omega)
 have:=h.asc;unfold QR iz at*;rw[YV];exact this
structure Wd13(S:ZN)(d:Gk):Prop where
 db:DbOk S d
 n:∀l∈d,l.length<=4
 v:∀r (h:r<d.length) (h2:r<S.aU.length),∀x∈d[r],MdV S S.aU[r].2 x.v
 w:∀l∈d,k6 l<=20
theorem yd(u:Made S 5 o)(t:MdD S 4 S.aU.length d):Wd13 S d:=by
 have pos:∀{A:cP}{l0:om},(∀x∈l0,MdR S A x)->∀z∈l0,0<z.w:=λh z hz=>by have:=(h z hz).1;omega
 have j:∀l∈d,∃(A:cP)(l0:om),l=qZ l0/\l0.length<=4/\∀x∈l0,MdR S A x:=λl hl=>by
  obtain⟨r,hr,rfl⟩:=WR.1 hl;obtain⟨l0,h1,h2,h3⟩:=t.2 r hr (by have:=t.1;omega);exact⟨_,l0,h1,h2,h3⟩
 refine⟨Ro u t,λl hl=>?_,λr h h2 x hx=>?_,λl hl=>?_⟩
 .obtain⟨A,l0,rfl,h1,h2⟩:=j l hl;exact OF (pZ (pos h2)).len h1
 .obtain⟨l0,e,h1,h3⟩:=t.2 r h h2;rw[e]at hx;obtain⟨z,hz,ez⟩:=(pZ (pos h3)).val x hx;rw[ez];exact(h3 z hz).2
 obtain⟨A,l0,rfl,h1,h2⟩:=j l hl;rw[(pZ (pos h2)).tot];have E:k6 l0<=5*l0.length:=Lx λz hz=>(h2 z hz).1.2
 omega
theorem G8(h:List.Sublist l' l)(t:∀x∈l,0<=x.w):k6 l'<=k6 l:=by
 induction h with
 |slnil=>exact Int.le_refl _
 | cons a h ih=>
   have j:=ih λx hx=>t x (by simp[hx])
   have u:=t a Zm;simp only[k6,ed,Xt]at j ⊢;omega
 | cons_cons a h ih=>
   have j:=ih λx hx=>t x (by simp[hx])
   simp only[k6,ed,Xt]at j ⊢;omega
theorem Wd13.pos(h:Wd13 S d):∀l∈d,∀x∈l,1<=x.w/\x.w<=100:=λl hl x hx=>by
 obtain⟨r,hr,rfl⟩:=WR.1 hl;exact((h.db.t r hr (by have:=h.db.n;omega)).row x hx).w.2
theorem Wd13.sub(h:Wd13 S d)(z:k<d.length)(hs:List.Sublist l' d[k]):Wd13 S (d.set k l'):=by
 have j:k<S.aU.length:=by have:=h.db.n;omega
 have u:=ak z;refine⟨h.db.setT j (OF hs.length_le (h.db.l _ u)) ((h.db.t k z j).sub hs) λx hx=>h.db.zf _ u x (hs.subset hx),λq hq=>?_,λr hr h2=>?_,λq hq=>?_⟩
 .rcases Xm hq with h1|rfl
  .exact h.n q h1
  exact OF hs.length_le (h.n _ u)
 .rw[Jk];split
  .rename_i e;subst e;exact λx hx=>h.v k z j x (hs.subset hx)
  exact h.v r _ h2
 rcases Xm hq with h1|rfl
 .exact h.w q h1
 exact Int.le_trans (G8 hs λx hx=>by have:=h.pos _ u x hx;omega) (h.w _ u)
theorem Qf:∀{l:om},(∀x∈l,0<=x.w)->∀x∈l,x.w<=k6 l
 | y::l,h,x,hx=>by
   have h1:=h y Zm;have t:0<=k6 l:=by
    have:∀{m:om},(∀x∈m,0<=x.w)->0<=k6 m:=fun{m}=>by
     induction m with
     |nil=>intro _;exact Int.le_refl _
     | cons a m ih=>
       intro hm;have j:=ih λx hx=>hm x (by simp[hx])
       have a2:=hm a Zm;simp only[k6,ed,Xt]at j ⊢;omega
    exact this λx hx=>h x (by simp[hx])
   have e:k6 (y::l)=y.w+k6 l:=by simp only[k6,ed,Xt]
   rcases By.1 hx with rfl|hx
   .omega
   have:=Qf (λx hx=>h x (by simp[hx])) x hx;omega
theorem Wd13.mul(h:Wd13 S d)(z:k<d.length)(E:1<=m)(I:m<=5):DbOk S (d.set k (iz m d[k]))/\(∀l∈d.set k (iz m d[k]),l.length<=4)/\∀r (h:r<(d.set k (iz m d[k])).length) (G:r<S.aU.length),∀x∈(d.set k (iz m d[k]))[r],MdV S S.aU[r].2 x.v:=by
 have j:k<S.aU.length:=by have:=h.db.n;omega
 have u:=ak z;have H:∀x∈d[k],0<=x.w:=λx hx=>by have:=h.pos _ u x hx;omega
 refine⟨h.db.setT j (by unfold iz;rw[IS];exact h.db.l _ u) ((h.db.t k z j).mul (λx hx=>Int.le_trans (Qf H x hx) (h.w _ u)) E I) λx hx=>?_,λq hq=>?_,λr hr G=>?_⟩
 .obtain⟨y,hy,rfl⟩:=VS.1 hx;exact h.db.zf _ u y hy
 .rcases Xm hq with E|rfl
  .exact h.n q E
  unfold iz;rw[IS];exact h.n _ u
 rw[Jk];split
 .rename_i e;subst e;intro x hx;obtain⟨y,hy,rfl⟩:=VS.1 hx;exact h.v k z j y hy
 exact h.v r _ G
theorem DJ(t:d.length=S.aU.length)(j:k<S.aU.length):dA S (d.set k l')=(dA S d).set k (jy S S.aU[k].2 l'):=by
 apply WU
 .simp[dA]
 .intro i h1 h2;simp only[dA,List.getElem_zipWith,YB];split
  .rename_i e;subst e;rfl
  .rfl
theorem Il{q:Nat}(t:d.length=S.aU.length)(j:k<S.aU.length)(u:q≠k):bW (jdD S (d.set k l')) q=bW (jdD S d) q:=by show(dA S (d.set k l')).getD q []=(dA S d).getD q [];rw[DJ t j,VO,VO,Xs (Ne.symm u)]
theorem LA(t:d.length=S.aU.length)(j:k<S.aU.length):bW (jdD S (d.set k l')) k=jy S S.aU[k].2 l':=by show(dA S (d.set k l')).getD k []=_;rw[DJ t j,VO,List.getElem?_set_self (by rw[jY t];exact j)];rfl
theorem Ky(t:d.length=S.aU.length)(j:k<S.aU.length)(u:k<d.length):bW (jdD S d) k=jy S S.aU[k].2 d[k]:=by show(dA S d).getD k []=_;rw[VO,AT (by rw[jY t];exact j),qe u j];rfl
theorem Hz:∀{l:ee},(∀x∈l,x<=20)->dj l<=20^l.length
 |[],_=>BY _
 | x::l,h=>by
   rw[dj,VI,Wt,Wq];exact Xa (Hz λy hy=>h y (by simp[hy])) (h x Zm)
noncomputable abbrev mdE(S:ZN):MD:=⟨lfJ S,100,.fn (.func 51) [] [ML S],[ML S],λv y=>y∈XM S v⟩
theorem iH(G:cW S.aj S.bo S.label S.aj.length)(I:S.aj.length<=5)(z:S.aU.length<=3)(h:DbOk S d)(L:∀l∈d,l.length<=4)(M:∀r (h:r<d.length) (j:r<S.aU.length),∀x∈d[r],MdV S S.aU[r].2 x.v):CtxM (jdD S d) (ordL S (lstL S)) (planS S) (mdE S) where
 c:=h.ctx
 w:=⟨by show 1<=100;decide,λl hl x hx=>by have:=h.wts l hl x hx;exact⟨x.w.toNat,Zi,by show x.w.toNat<=100;omega⟩,λl hl=>by
  obtain⟨l',u,j⟩:=nA hl;exact OF j.length_le (L l' u)⟩
 l:=λv x=>Gs G v x
 b:=by
  have u:(ordL S (lstL S)).length<=5:=by have:=h.ord.len;omega
  have H:Hd (jdD S d) (ordL S (lstL S)) 100<=12^5*(100^4)^3:=Xa (WJ Zk u) (WJ Zk z);exact OF H Zt
 p:=by have:=h.ord.len;omega
 b1:=by show 100<=10^50;decide+kernel
 b2:=by show 100<=1000000000;decide
 x:=λv σ y hy=>Lc (J:=jdD S d) (λr u j x hx=>by
  have E:r<d.length:=by rw[h.n];exact j
  have e:(jdD S d).T[r]=jy S S.aU[r].2 d[r]:=qe E j u;rw[e]at hx;exact M r E j x (VU.1 hx).1) (jY h.n) hy
 f:=rfl
 t:=λv y _ hy=>Bx S v y _ (by
  show ZK _ _ _ (· =momP (lfJ S v y));rw[TN hy];exact E4 G I v y hy)
 hs:=h.hho
noncomputable abbrev gD(S:ZN)(d:Gk)(W:Nat):Gv:=gC (jdD S d) (ordL S (lstL S)) W
theorem RC(j:Made S 5 o):∀r∈S.aU,r.2.Nodup:=λr hr=>by
 obtain⟨i,hi,rfl⟩:=WR.1 hr;exact(j.rs i hi).2.2.1.imp λh e=>by omega
theorem Wd13.gs(t:Made S 5 o)(h:Wd13 S d):GS S (gD S d 8000):=by
 refine gC_gs (J:=jdD S d) t h.db.ctx (RC t) h.db.dist (λl hl x hx=>by have:=h.db.wts l hl x hx;omega) ?_ Zk (by have:=h.db.ord.len;have:=t.a2;omega);refine OF (Hz λx hx=>?_) (OF (WJ (show 20>0 by decide) (show _<=3 from ?_)) (show 20^3<=8000 by decide))
 .obtain⟨p,hp,rfl⟩:=VS.1 hx;obtain⟨l',h1,h2⟩:=nA (List.of_mem_zip hp).2;have j:∀x∈l',0<=x.w:=λx hx=>by have:=h.pos l' h1 x hx;omega
  have u:=ym λx hx=>j x (h2.subset hx)
  have z:=G8 h2 j;have E:=h.w l' h1;show(p.2.map λx=>x.w.toNat).sum<=20;omega
 rw[IS];have:(uQ S (dA S d)).length<=S.aU.length:=by unfold uQ;rw[List.length_zip,IS];exact Nat.min_le_left _ _
 have:=t.r2;exact OF ‹_› Zi
theorem K0(t:Made S 5 o)(X:MdD S 4 S.aU.length d)(z:k<d.length)(M:P.length<=1000000)(U:FK S P=0)(Y:1<=m)(Z:m<=5){la lb:om}(hs:Jn.Spl d[k] la lb):
  ∃ga gb g:Gv,GS S ga/\GS S gb/\GS S g/\GS S (ga.add gb)/\GS S ((Gv.whole m).mul g)/\(ga.add gb).m=g.m/\ZK prog 8 [fp S,l7 P,dbP d] (· = .bS [pP (cn g.m),ZU 0])/\ZK prog 8 [fp S,l7 P,dbP (d.set k la)] (· = .bS [pP (cn ga.m),ZU 0])/\
   ZK prog 8 [fp S,l7 P,dbP (d.set k lb)] (· = .bS [pP (cn gb.m),ZU 0])/\ZK prog 8 [fp S,l7 P,dbP (d.set k (iz m d[k]))] (· = .bS [pP (cn ((Gv.whole m).mul g).m),ZU 0]):=by
 have h:=yd t X;have E:=h.sub z hs.subL;have G:=h.sub z hs.subR;obtain⟨c1,c2,c3⟩:=h.mul z Y Z;have j:k<S.aU.length:=by have:=h.db.n;omega
 have L:(QM S).length<=1000:=by rw[Hy];have:=eW t.fs;have:=t.a2;omega
 have u:S.aU.length<=3:=by have:=t.r2;omega
 have g0:=h.gs t;have g1:=E.gs t;have g2:=G.gs t;have g3:GS S ((gD S (d.set k la) 8000).add (gD S (d.set k lb) 8000)):=⟨g1.ok.add g2.ok,by show 8000+8000<=40000;decide,by show max 5 5<=8;decide⟩;have g4:GS S ((Gv.whole m).mul (gD S d 8000)):=⟨(GvOk.whole _ m).mul g0.ok,by show m*8000<=40000;omega,by show 0+5<=8;decide⟩;have V:(bW (jdD S d) k).Pairwise λx y=>x.v≠y.v:=by
  rw[Ky h.db.n j z];have e:=qe z j (by rw[jY h.db.n];exact j);rw[<-e];exact h.db.dist _ (ak _)
 have H:(gD S d 8000).m=((gD S (d.set k la) 8000).add (gD S (d.set k lb) 8000)).m:=Vd h.db.ctx j E.db.ctx G.db.ctx O O (λq hq=>Il h.db.n j hq) (λq hq=>Il h.db.n j hq) (by rw[Ky h.db.n j z,LA h.db.n j,LA h.db.n j];exact MH S _ hs) V;have I:(gD S (d.set k (iz m d[k])) 8000).m=((Gv.whole m).mul (gD S d 8000)).m:=Vj h.db.ctx j c1.ctx O (λq hq=>Il h.db.n j hq) m (by rw[LA h.db.n j,Ky h.db.n j z];exact GQ S _ m _) V;refine⟨_,_,_,g1,g2,g0,g3,g4,H.symm,?_,?_,?_,?_⟩
 .exact kX h.db P M U (mdE S) O (iH t.fs t.a2 u h.db h.n h.v) _ O g0.ok.s (g0.mf1 L)
 .exact kX E.db P M U (mdE S) O (iH t.fs t.a2 u E.db E.n E.v) _ O g1.ok.s (g1.mf1 L)
 .exact kX G.db P M U (mdE S) O (iH t.fs t.a2 u G.db G.n G.v) _ O g2.ok.s (g2.mf1 L)
 exact kX c1 P M U (mdE S) O (iH t.fs t.a2 u c1 c2 c3) _ I.symm g4.ok.s (g4.mf1 L)
end
end
section
open Go.RowKit Mk Jn Vw
open Mm (SOk cnt bH aM cn lft ZB)
abbrev k2:er:=⟨#[50]⟩
abbrev k3:er:=⟨#[51]⟩
abbrev z5:er:=⟨#[53]⟩
abbrev z10:er:=⟨#[49,48]⟩
abbrev z15:er:=⟨#[49,53]⟩
abbrev z20:er:=⟨#[50,48]⟩
abbrev z30:er:=⟨#[51,48]⟩
abbrev sS:ZN:=⟨[(⟨#[120]⟩,2),(⟨#[121]⟩,2)],[(⟨#[114]⟩,[0,1])],[(0,1,0)],1⟩
abbrev sP:cP:=[-1,0]
abbrev sR:Rw:=⟨[k2,k3],5⟩
abbrev pL:ZM:=⟨-1,⟨#[]⟩⟩
abbrev pF:ZM:=⟨0,⟨#[]⟩⟩
def sM:Mm.MC:=⟨((5:Int):Rat),[(pL,15),(pF,10)],[((pL,pL),45),((pL,pF),30),((pF,pF),20)]⟩
theorem s_sb:SB sS:=⟨Zk,Zk,Zk,Zk,Zk,Zk⟩
theorem s_ok:bF sS=0:=Zk
theorem s_sj:SJn sS:=⟨Zk,Zk,Zk,Zk⟩
theorem T6:FK sS sP=0:=Zk
theorem s_fs:cW sS.aj sS.bo sS.label sS.aj.length:=by
 refine⟨Zk,λf hf=>?_,.inr ⟨1,O,Zk,Zk⟩⟩;obtain rfl:f=(0,1,0):=by simpa using hf
 exact⟨0,Zk,Zk,Zk,.inl Zk⟩
theorem s_kd:∀a∈sS.aj,a.2=1\/a.2=2\/a.2=3:=Zk
theorem s_m2:k2∈ig 2:=by simp[ig,DY]
theorem s_m3:k3∈ig 2:=by simp[ig,DY]
theorem UT:MdR sS [0,1] sR:=⟨Zk,O,λi h h2=>by
 match i,h with
 |0,_=>exact s_m2
 |1,_=>exact s_m3⟩
theorem Rn:DbOk sS [[]]:=qG s_sb s_ok s_sj s_kd (show 4<=12 by decide) O λi h h2=>by
 match i,h with
 |0,_=>exact⟨[],O,Zk,λx hx=>absurd hx Zm⟩
theorem QK:DbOk sS [[sR]]:=qG s_sb s_ok s_sj s_kd (show 4<=12 by decide) O λi h h2=>by
 match i,h with
 |0,_=>exact⟨[sR],O,Zk,λx hx=>by rw[VH.1 hx];exact UT⟩
theorem Uf(h:OrdOk sS P):P=[-1,0]\/P=[1, -1]:=by
 have hl:=h.len;match P,hl with
 | [a,b],_=>
   have j:=h.rng a Zm;have t:=h.rng b Zm;simp only[VI,XS]at j t;have u:a= -1\/a=0\/a=1:=Zi;have z:b= -1\/b=0\/b=1:=Zi;rcases u with rfl|rfl|rfl<;>rcases z with rfl|rfl|rfl<;>first|exact .inl O|exact .inr O|exact absurd (h.up 0 Zk) Zk|exact absurd (h.up 1 Zk) Zk|exact absurd (h.rt _ (List.mem_singleton_self _)) Zk
theorem s_c0:CtxM (jdD sS [[]]) (ordL sS (lstL sS)) (planS sS) (mdE sS):=iH s_fs Zk Zk Rn Zk λr h h2 x hx=>by
 match r,h with
 |0,_=>exact absurd hx Zm
theorem s_c1:CtxM (jdD sS [[sR]]) (ordL sS (lstL sS)) (planS sS) (mdE sS):=iH s_fs Zk Zk QK Zk λr h h2 x hx=>by
 match r,h with
 | 0,_=>
   obtain rfl:x=sR:=by simpa using hx
   exact UT.2
theorem Qe:aM.mul aM.zero aM.one=cnt 0:=Mm.Sem.same (by show(0:Rat)*1=((0:Int):Rat);decide+kernel) (λx=>by show(0:Rat)*0+1*0=0;decide+kernel) λx y=>by show(0:Rat)*0+1*0+(0*0+0*0)=0;decide+kernel
theorem Qn:qg aM (mdE sS).lf cnt (jdD sS [[]]) (ordL sS (lstL sS))=cnt 0:=by
 unfold qg fk;rcases Uf Rn.ord with e|e<;>rw[e]
 .rw[show aB [-1,0] (-1)=[0] by decide,ed,Wd,show bG [-1,0] [(-1:Int),0].length 0= .node 0 [.node 1 []]from O,valL,Jn.val,valL];rw[show cA (RJ (jdD sS [[]])) sdS 0 (λ_=>WC)=[] by kernel_rfl,Wd,du];exact Qe
 rw[show aB [1, -1] (-1)=[1] by decide,ed,Wd,show bG [1, -1] [(1:Int), -1].length 1= .node 1 [.node 0 []]from O,valL,Jn.val,valL];rw[show cA (RJ (jdD sS [[]])) sdS 1 (λ_=>WC)=[] by kernel_rfl,Wd,du];exact Qe
theorem UN:lfJ sS 0 k2=lft pF 2:=by have h:k2∈XM sS ((0:Int).toNat):=s_m2;unfold lfJ;rw[IT h];show liftS qM sS 0 k2=_;unfold liftS;rw[AS Zk,show sS.bo.findIdx? (λf=>f.1==0)=WB 0 by decide];simp only;rw[AS Zk,AS Zk,show qM k2=2 by decide+kernel];rfl
theorem Vf:lfJ sS 1 k3=lft pL 3:=by have h:k3∈XM sS ((1:Int).toNat):=s_m3;unfold lfJ;rw[IT h];show liftS qM sS 1 k3=_;unfold liftS;rw[IT Zk,AS Zk,show qM k3=3 by decide+kernel]
open Classical in
theorem s_bq(p x:ZM):(p==x)=decide (x=p):=by
 by_cases h:x=p
 .rw[VK h,h,WE]
 rw[VL h];exact beq_false_of_ne λe=>h e.symm
open Classical in
theorem Sy(a b x y:ZM):((a,b)==(x,y))=(decide (x=a)&&decide (y=b)):=by show((a==x)&&(b==y))=_;rw[s_bq,s_bq]
open Classical in
theorem U1:aM.mul (lft pF 2) (aM.mul (lft pL 3) (cnt 5))=sM.sem:=by
 have t:pF≠pL:=Zm;have j:pL≠pF:=Zm;refine Mm.Sem.same (by show(1:Rat)*(1*((5:Int):Rat))=((5:Int):Rat);decide+kernel) (λx=>?_) λx y=>?_
 .show(1:Rat)*(1*0+((5:Int):Rat)*(if x=pL then 3 else 0))+(1*((5:Int):Rat))*(if x=pF then 2 else 0)=(if pL==x then 15 else 0)+((if pF==x then 10 else 0)+0);rw[s_bq,s_bq];by_cases h1:x=pL
  .subst h1;simp only[j,YJ,Yo,Yk,Yd,Wj];decide+kernel
  by_cases h2:x=pF
  .subst h2;simp only[t,YJ,Yo,Yk,Yd,Wj];decide+kernel
  simp only[h1,h2,Yo,Yd,Wj];decide+kernel
 show(1:Rat)*(1*0+((5:Int):Rat)*(if x=pL/\y=pL then 3*3 else 0)+((if x=pL then 3 else 0)*0+(if y=pL then 3 else 0)*0))+(1*((5:Int):Rat))*(if x=pF/\y=pF then 2*2 else 0)+((if x=pF then 2 else 0)*(1*0+((5:Int):Rat)*(if y=pL then 3 else 0))+(if y=pF then 2 else 0)*(1*0+((5:Int):Rat)*(if x=pL then 3 else 0)))=Mm.lk [((pL,pL),45),((pL,pF),30),((pF,pF),20)] (Mm.dD x y);have ho:Mm.dD x y=(x,y)\/Mm.dD x y=(y,x):=by unfold Mm.dD;split<;>simp
 have u:Mm.dD pL pF=(pL,pF):=Zj;have z:Mm.dD pF pL=(pL,pF):=Zj;have E:Mm.dD pL pL=(pL,pL):=Zj;have G:Mm.dD pF pF=(pF,pF):=Zj;by_cases h1:x=pL
 .subst h1;by_cases h3:y=pL
  .subst h3;rw[E];simp only[Mm.lk,Sy,j,YJ,Yo,Yk,Yd,Wj,and_self,Bool.and_self,Ya,Yq,and_false,false_and];decide+kernel
  by_cases h4:y=pF
  .subst h4;rw[u];simp only[Mm.lk,Sy,t,j,YJ,Yo,Yk,Yd,Wj,and_self,Bool.and_self,Ya,Yq,and_false,false_and];decide+kernel
  rcases ho with e|e<;>rw[e]<;>simp only[Mm.lk,Sy,j,h3,h4,YJ,Yo,Yk,Yd,Wj,Ya,Yq,and_false,false_and]<;>decide+kernel
 by_cases h2:x=pF
 .subst h2;by_cases h3:y=pL
  .subst h3;rw[z];simp only[Mm.lk,Sy,t,j,YJ,Yo,Yk,Yd,Wj,and_self,Bool.and_self,Ya,Yq,and_false,false_and];decide+kernel
  by_cases h4:y=pF
  .subst h4;rw[G];simp only[Mm.lk,Sy,t,YJ,Yo,Yk,Yd,Wj,and_self,Bool.and_self,Ya,Yq,and_false,false_and];decide+kernel
  rcases ho with e|e<;>rw[e]<;>simp only[Mm.lk,Sy,t,h3,h4,YJ,Yo,Yk,Yd,Wj,Ya,Yq,and_false,false_and]<;>decide+kernel
 rcases ho with e|e<;>rw[e]<;>simp only[Mm.lk,Sy,h1,h2,Yo,Yd,Wj,Ya,Yq,false_and]<;>grind
theorem s_gj{σ:vb}{y:ZB}(j:0<=v/\v<P.length)(t:σ v=WB x)(hl:lfJ sS v x=y)(u:hoN sS P v=[]):gJ aM (mdE sS).lf cnt (jdD sS [[sR]]) P v σ=y:=by unfold gJ gV;rw[IT j,t,show hoN (jdD sS [[sR]]).S P v=[]from u,Wd,eP,e8];exact hl
theorem s_gh{σ:vb}{y:ZB}(j:0<=v/\v<P.length)(t:σ v=WB x)(hl:lfJ sS v x=y)(u:hoN sS P v=[0])(z:(bW (jdD sS [[sR]]) 0).filter (λx=>agr ((RJ (jdD sS [[sR]])).at 0) σ x.v)=[sR]):gJ aM (mdE sS).lf cnt (jdD sS [[sR]]) P v σ=aM.mul y (cnt 5):=by unfold gJ gV;rw[IT j,t,show hoN (jdD sS [[sR]]).S P v=[0]from u,ed,Wd,eP,eP,e8];unfold gW;rw[z,ed,Wd,eP,eP,e8];show aM.mul (lfJ sS v x) _=_;rw[hl]
theorem Qs:qg aM (mdE sS).lf cnt (jdD sS [[sR]]) (ordL sS (lstL sS))=sM.sem:=by
 unfold qg fk;rcases Uf QK.ord with e|e<;>rw[e]
 .rw[show aB [-1,0] (-1)=[0] by decide,ed,Wd,show bG [-1,0] [(-1:Int),0].length 0= .node 0 [.node 1 []]from O,valL,Jn.val,valL];rw[show cA (RJ (jdD sS [[sR]])) sdS 0 (λ_=>WC)=[k2] by kernel_rfl,ed,Wd,du,du,valL,Jn.val,valL];rw[show cA (RJ (jdD sS [[sR]])) sdS 1 (Jn.put (λ_=>WC) 0 k2)=[k3] by kernel_rfl,ed,Wd,du,du,valL];rw[s_gj Zk Zt UN Zk,s_gh Zk Zt Vf Zk Zj];simp only[e8,aM.add_zero];exact U1
 rw[show aB [1, -1] (-1)=[1] by decide,ed,Wd,show bG [1, -1] [(1:Int), -1].length 1= .node 1 [.node 0 []]from O,valL,Jn.val,valL];rw[show cA (RJ (jdD sS [[sR]])) sdS 1 (λ_=>WC)=[k3] by kernel_rfl,ed,Wd,du,du,valL,Jn.val,valL];rw[show cA (RJ (jdD sS [[sR]])) sdS 0 (Jn.put (λ_=>WC) 1 k3)=[k2] by kernel_rfl,ed,Wd,du,du,valL];rw[s_gj Zk Zt Vf Zk,s_gh Zk Zt UN Zk Zj];simp only[e8,aM.add_zero];rw[<-aM.mul_assoc,aM.mul_comm (lft pL 3),aM.mul_assoc];exact U1
theorem s_se{e:ZM×Rat}(j:e∈sM.s):e=(pL,15)\/e=(pF,10):=by simpa[sM]using j
theorem s_pe{e:Mm.PP×Rat}(j:e∈sM.p):e=((pL,pL),45)\/e=((pL,pF),30)\/e=((pF,pF),20):=by simpa[sM]using j
theorem QT:Mm.MOk 5 2 sM:=by
 refine⟨⟨5,O⟩,⟨by simp[sM],λ_ e he=>?_,λe he=>?_⟩,⟨by simp[sM],λ_ e he=>?_,λe he=>?_⟩,λe he=>?_,⟨by decide+kernel,by decide+kernel⟩,λe he=>?_,λe he=>?_⟩
 .rcases s_se he with rfl|rfl<;>decide+kernel
 .rcases s_se he with rfl|rfl
  .exact⟨90,by decide+kernel⟩
  exact⟨60,by decide+kernel⟩
 .rcases s_pe he with rfl|rfl|rfl<;>decide+kernel
 .rcases s_pe he with rfl|rfl|rfl
  .exact⟨1620,by decide+kernel⟩
  .exact⟨1080,by decide+kernel⟩
  exact⟨720,by decide+kernel⟩
 .rcases s_pe he with rfl|rfl|rfl<;>decide+kernel
 .rcases s_se he with rfl|rfl<;>exact⟨by decide+kernel,by decide+kernel⟩
 rcases s_pe he with rfl|rfl|rfl<;>exact⟨by decide+kernel,by decide+kernel⟩
theorem s_cn:cn sM.sem=sM:=Mm.Og QT Zt Zt
theorem s_mf{d:Gk}{x:ZB}(j:qg aM (mdE sS).lf cnt (jdD sS d) (ordL sS (lstL sS))=x)(t:SOk 5 2 x):MF1 (cn x):=PB t (by rw[<-j];exact C1 (Lo s_fs) _ _) (by rw[Hy];decide) Zk Zk Zk
end
section
open Go.RowKit Mk Jn Mm
def ta{α:Type}(q:α->Bool)(g:α->er):List α->er
 |[]=>⟨#[48]⟩
 |a::l=>if q a=YK then g a else ta q g l
theorem rG{q:α->Bool}{g:α->er}:∀{l:List α}{i:Nat}(h:i<l.length),(∀j (t:j<l.length),j<i->q l[j]=YL)->q l[i]=YK->ta q g l=g l[i]
 |a::l,0,_,_,e=>by rw[ta];exact IT e
 | a::l,i+1,h,k,e=>by
   have h0:q a=YL:=k 0 Zm Zi;rw[ta,AS (by rw[h0];decide)];exact rG (l:=l) (i:=i) (by simpa using h) (λj t hji=>k (j+1) (by simpa using t) Zi) e
theorem w3{q:α->Bool}{g:α->er}:∀{l:List α},(∀j (t:j<l.length),q l[j]=YL)->ta q g l=⟨#[48]⟩
 |[],_=>rfl
 | a::l,k=>by
   have h0:q a=YL:=k 0 Zm;rw[ta,AS (by rw[h0];decide)];exact w3 λj t=>k (j+1) (by simpa using t)
theorem Ji{q:α->Bool}{l:List α}{i:Nat}(h:i<l.length)(k:∀j (t:j<l.length),j<i->q l[j]=YL)(e:q l[i]=YL):∀j (t:j<l.length),j<i+1->q l[j]=YL:=λj t hji=>by
 rcases V3.1 hji with h1|h1
 .exact k j t h1
 subst h1;exact e
theorem tB(a b:hC)(M:a.length<=1000000)(U:b.length<=1000000):ZK prog 16 [bh a,bh b] (· = .bool (decide (a=b))):=by
 refine ZC func16 O ntmps16 λ_ _ _ _=>?_
 refine Z1 O<|Gr O<|Ar 5 O<|Gc O (λj=>?_) (λj=>?_)
 .exact Z1 O<|YR O<|ah PV.bool (VL (λe=>by rw[e]at j;simp at j)).symm
 have hl:a.length=b.length:=by simp at j;omega
 refine Vl<|Z3 O<|Gz O (st:=λZq:Nat=>([(0,WC),(1,WC),(12,WC),(13,WB (ZI Zq))],[])) 0
  (I:=λZq=>Zq<=a.length/\a.take Zq=b.take Zq) (μ:=λZq=>a.length-Zq) (x0:=0) (Vn (aS O) trivial O O) (⟨sh _,O⟩) ?_
 rintro i ⟨hi,ht⟩;refine Z1 O<|Gp O (λz=>?_) (λz=>?_)
 .have ha1:i<a.length:=Zi;have u:i<b.length:=Zi;have E:=bD ha1;have G:=cz ha1;have H:=bD u;have L:=cz u;refine Vl<|Z2 O<|VC 9 O<|Dr 3 O ?_;first|refine D2 O O Zl ?_|refine D1 O O ?_
  refine Dr 3 O ?_;first|refine D2 O O Zl ?_|refine D1 O O ?_
  refine D1 O O ⟨Zj,Gc O (λt=>?_) (λt=>?_)⟩
  .exact Z1 O<|YR O<|ah PV.bool (VL (λe=>by subst e;simp at t)).symm
  exact Vl<|Z2 O<|⟨(i+1),Vn (aS O) trivial O O,⟨Zi,by rw[AI ha1,AI u,ht,show a[i]=b[i]from baT (by simpa using t)]⟩,Zi⟩
 exact Gx O<|Z1 O<|YR O<|ah PV.bool (VK (by rwa [aG Zi,aG Zi]at ht)).symm
abbrev T4(m:List hC):PV:= .sl WC m.length (m.map bh)
theorem HO{m:List hC}(h:k<m.length):(m.map bh)[k*1]? =WB (bh m[k]):=by simp[h]
theorem GG{m:List hC}(h:k<m.length):m.map bh≠[]:=λe=>by have:=ah List.length e;simp at this;rw[this]at h;simp at h
theorem z6(a b:List hC)(U:a.length<=1000000)(V:b.length<=1000000)(ka:∀l∈a,l.length<=1000000)(kb:∀l∈b,l.length<=1000000):ZK prog 15 [T4 a,T4 b] (· = .bool (decide (a=b))):=by
 refine ZC func15 O ntmps15 λ_ _ _ _=>?_
 refine Z1 O<|Gr O<|Ar 5 O<|Gc O (λj=>?_) (λj=>?_)
 .exact Z1 O<|YR O<|ah PV.bool (VL (λe=>by rw[e]at j;simp at j)).symm
 have hl:a.length=b.length:=by simp at j;omega
 refine Vl<|Z3 O<|Gz O (st:=λZq:Nat=>([(0,WC),(1,WC),(12,WC),(13,WB (ZI Zq))],[])) 0
  (I:=λZq=>Zq<=a.length/\a.take Zq=b.take Zq) (μ:=λZq=>a.length-Zq) (x0:=0) (Vn (aS O) trivial O O) (⟨sh _,O⟩) ?_
 rintro i ⟨hi,ht⟩;refine Z1 O<|Gp O (λz=>?_) (λz=>?_)
 .have ha1:i<a.length:=Zi;have u:i<b.length:=Zi;have G:=HO ha1;have H:=GG ha1;have L:=HO u;have M:=GG u;have E:=tB a[i] b[i] (ka _ (ak ha1)) (kb _ (ak u));refine Vl<|Z2 O<|VC 10 O<|Dr 3 O ?_;first|refine D2 O O Zl ?_|refine D1 O O ?_
  refine Dr 3 O ?_;first|refine D2 O O Zl ?_|refine D1 O O ?_
  refine YM O (λτ h=>aa call16 E (h.aE O))<|D1 O O ⟨Zj,Gc O (λt=>?_) (λt=>?_)⟩
  .exact Z1 O<|YR O<|ah PV.bool (VL (λe=>by subst e;simp at t)).symm
  exact Vl<|Z2 O<|⟨(i+1),Vn (aS O) trivial O O,⟨Zi,by rw[AI ha1,AI u,ht,show a[i]=b[i]from by simpa using t]⟩,Zi⟩
 exact Gx O<|Z1 O<|YR O<|ah PV.bool (VK (by rwa [aG Zi,aG Zi]at ht)).symm
theorem JS(m:MC)(p:ZM)(hl:m.s.length<=1000000):ZK prog 35 [pP m,bu p] (· = .str (ta (λe=>e.1==p) (λe=>bk e.2) m.s)):=by
 refine ZC func35 O ntmps35 λ_ _ _ _=>?_
 refine Z3 O<|Z4 O<|Gz O (st:=λZq:Nat=>([(3,WC),(8,WC),(9,WC),(10,WB (ZI Zq))],[(1,WC)])) 2
  (I:=λZq=>Zq<=m.s.length/\∀j (hj:j<m.s.length),j<Zq->(m.s[j].1==p)=YL) (μ:=λZq=>m.s.length-Zq) (x0:=0) (Vn (aS O) (aO Zj) O O) (⟨sh _,λ_ _ h=>absurd h Zi⟩) ?_
 rintro i ⟨hi,hno⟩;refine Z1 O<|Gp O (λz=>?_) (λz=>?_)
 .have hlt:i<m.s.length:=Zi;have u:=uD hlt;have E:=ER hlt;have G:=λe=>rG (q:=λe:ZM×Rat=>e.1==p) (g:=λe=>bk e.2) hlt hno e
  refine Vl<|Gr O<|Rs O (ai i aaG ix O O O hlt E)<|Rs O (aD ⟨_,aaB,O⟩ ix O u O)<|Y2 O<|Z3 O<|Rs O (jm (p:=m.s[i].1) (q:=p) O O O)<|Gc O (λt=>?_) (λt=>?_)
  .exact Z3 O<|YR O<|ah PV.str (G t).symm
  exact Vl<|Z2 O<|⟨(i+1),Vn (aS O) (aO Zj) O O,⟨Zi,Ji (q:=λe:ZM×Rat=>e.1==p) hlt hno t⟩,Zi⟩
 exact Gx O<|Z1 O<|YR O<|ah PV.str (w3 λj hj=>hno j hj Zi).symm
end
end Go.Proofs.YthicoeegbdboeaaGreatDoor
