/- Lemmas. No condition. -/
import Derived.Handed
import Derived.LaidMore
import Derived.LaidLaws
import Derived.LaidHandle
import Derived.MakeChecks
import Derived.Lib.LaidTab
import Derived.Deep.Slices
import Derived.ChangeArms
import Derived.OpenShut
import Derived.Test.YthicoeegbdboeaaGreatDoorJF16
set_option maxRecDepth 100000
set_option maxHeartbeats 4000000
open Go.RowKit Go.Proofs.Tryz
open Option renaming some→WB,none→WC
open Bool renaming true→YK,false→YL
namespace Go.Proofs.YthicoeegbdboeaaGreatDoor
variable{k n g:Nat}{t:er}{w W:World}{R:ew}{u:Value}{α:Type}
section
open Go.RowKit Mk Jn Mm
def r5(l:List (Int×Int×Int))(k:Nat):cP:=((List.range k).filter λi=>(l.getD i default).2.1==1).map Int.ofNat
theorem Jc{l:List (Int×Int×Int)}(h:k<l.length)(e:l[k].2.1=1):r5 l (k+1)=r5 l k++[(k:Int)]:=by unfold r5;rw[XC,Xc,WL,IT (by simp[List.getD,h,e])];simp
theorem MA{l:List (Int×Int×Int)}(h:k<l.length)(e:l[k].2.1≠1):r5 l (k+1)=r5 l k:=by unfold r5;rw[XC,Xc,WL,AS (by simp[List.getD,h,e])];simp
theorem I2(l:List (Int×Int×Int))(k:Nat):(r5 l k).length<=k:=by unfold r5;rw[IS];exact OF (Wx ..) (by rw[List.length_range];exact BY _)
theorem FE(m:MC)(p q:ZM)(hl:m.p.length<=1000000)(T:gG q p=YL):ZK prog 36 [pP m,bu p,bu q] (· = .str (ta (λe=>e.1.1==p&&e.1.2==q) (λe=>bk e.2) m.p)):=by
 refine ZC func36 O ntmps36 λ_ _ _ _=>?_
 have E:=jJ q p;rw[T]at E;refine Z4 O<|Z2 O<|Rs O (aa call84 E O)<|Gc O (λB=>absurd B Zk) (λB=>?_);refine Vl<|Z4 O<|Gz O (st:=λZq:Nat=>([(4,WC),(5,WC),(15,WC),(16,WC),(17,WB (ZI Zq))],[(1,WC),(2,WC)])) 3
  (I:=λZq=>Zq<=m.p.length/\∀j (hj:j<m.p.length),j<Zq->(m.p[j].1.1==p&&m.p[j].1.2==q)=YL) (μ:=λZq=>m.p.length-Zq) (x0:=0) (Vn (aS O) (aO Zj) O O) (⟨sh _,λ_ _ h=>absurd h Zi⟩) ?_
 rintro i ⟨hi,hno⟩;refine Z1 O<|Gp O (λL=>?_) (λL=>?_)
 .have hlt:i<m.p.length:=Zi;have G:=tV hlt;have M:=Fy hlt;have D:=λe=>rG (q:=λe:PP×Rat=>e.1.1==p&&e.1.2==q) (g:=λe=>bk e.2) hlt hno e
  have z:=λe=>Ji (q:=λe:PP×Rat=>e.1.1==p&&e.1.2==q) hlt hno e
  refine Vl<|Gr O<|Rs O (ai i aaI jz O O O hlt M)<|Rs O (aD ⟨_,aaC,O⟩ jz O G O)<|Y2 O ?_;by_cases hb:(m.p[i].1.1==p)=YK
  .rw[hb]at D z;refine Z3 O<|Rs O (XJ.cast (v:= .pv (.bool (jF m.p[i].1.1 p))) (v':= .pv (.bool YK)) (jm (p:=m.p[i].1.1) (q:=p) O O O) (ah (λb=>V.pv (.bool b)) hb))<|Ar 4 O<|Rg O (jm (p:=m.p[i].1.2) (q:=q) O O O)<|A1 O ?_;refine Gc O (λs=>?_) (λs=>?_)
   .exact Z3 O<|YR O<|ah PV.str (D s).symm
   exact Vl<|Z2 O<|⟨(i+1),Vn (aS O) (aO Zj) O O,⟨Zi,z s⟩,Zi⟩
  rw[XB hb]at D z;refine Z3 O<|Rs O (XJ.cast (v:= .pv (.bool (jF m.p[i].1.1 p))) (v':= .pv (.bool YL)) (jm (p:=m.p[i].1.1) (q:=p) O O O) (ah (λb=>V.pv (.bool b)) (XB hb)))<|Ar 6 O ?_;refine Gc O (λs=>absurd s Zm) (λs=>?_);exact Vl<|Z2 O<|⟨(i+1),Vn (aS O) (aO Zj) O O,⟨Zi,z O⟩,Zi⟩
 exact Gx O<|Z1 O<|YR O<|ah PV.str (w3 λj hj=>hno j hj Zi).symm
theorem xT(S:ZN)(hS:SB S)(hc:bF S=0)(hl:S.bo.length<=1000):ZK prog 82 [fp S] (· =al (r5 S.bo S.bo.length)):=by
 refine ZC func82 O ntmps82 λ_ _ _ _=>?_
 have q:=mH S hS;rw[hc]at q;refine Z2 O<|Z1 O<|Rs O (aa call77 q O)<|A1 O<|Gc O (λz=>absurd z Zk) (λz=>?_);refine Vl<|Z1 O<|Vm (Vs 3 1 1 3 O O)<|Z4 O<|Gz O (st:=λZq:Nat×cP=>([(3,WB (.bz 1 1 Zq.2.length)),(10,WC),(11,WC),(12,WB (ZI Zq.1))],[(1,WB (.bD 3 (aI Zq.2)))])) 2
  (I:=λZq=>Zq.1<=S.bo.length/\Zq.2=r5 S.bo Zq.1) (μ:=λZq=>S.bo.length-Zq.1) (x0:=(0,[])) (Vn (aS O) (aO Zj) O O) (⟨sh _,O⟩) ?_
 rintro⟨i,L⟩ ⟨hi,hL⟩;try simp only at hi hL ⊢
 refine Z1 O<|Gp O (λB=>?_) (λB=>?_)
 .have hlt:i<S.bo.length:=Zi;have s:=kW hlt;have D:=oD hlt;have M:=Jc hlt;have T:=MA hlt;have E:=I2 S.bo i;rw[<-hL]at M T E;have U:(aI L).length=L.length*1:=Zm;have G:aI L++[.int .i64 ((i:Nat):Int)]=aI (L++[(i:Int)]):=Zm;generalize S.bo[i]=f at*;refine Vl<|Z1 O<|Rs O (ai i underlying28 KS O O O hlt D)<|Rs O (aD ⟨_,underlying60,O⟩ KS O s O)<|Y3 O<|Z3 O<|Gc O (λj=>?_) (λj=>?_)
  .exact Gr O<|Ar 5 O<|Z2 O<|⟨(i+1,L++[(i:Int)]),Vo [0,4] ⟨VT (b:=V.bz 4 1 (L.length+1)) O (ah (V.bz 4 1) (fv L (i:Int))),O,O,O,Zp⟩ ⟨VT (b:=WB (.bD 3 (aI L++[.int .i64 ((i:Nat):Int)]))) Zj (ah (λc=>WB (Ob.bD 3 c)) G),Zp⟩ O O Zk O,⟨Zi,(M (by simpa using j)).symm⟩,Zo⟩
  exact Vl<|Z2 O<|⟨(i+1,L),Vn (aS O) (aO Zj) O O,⟨Zi,(T (by simpa using j)).symm⟩,Zo⟩
 have hil:i=S.bo.length:=Zi;exact Gx O<|Vm (Vq (o:= .bD 3 (aI L)) 1 Zj O)<|Z2 O<|YR O<|by rw[hL,hil];rfl
end
noncomputable section
open Mk Jn Mm
abbrev Z0:List PV:=[.int .i64 0,.str ⟨#[]⟩]
abbrev aac:List PV:=[.str ⟨#[48]⟩,.sl WC 0 [],.sl WC 0 []]
end
section
open Mk Jn
open Mm (SOk cnt bH aM cn ZB)
theorem roI{s:er}(h:s.size<4294967281)(j:LX s=YK):ROk s:=⟨h,λ_ h2=>by rw[j]at h2;cases h2⟩
theorem Ez{q:Rat}(h:q∈[(5:Rat),15,10,45,30,20]):ROk (bk q):=by simp only[By,Xv,Y0]at h;rcases h with rfl|rfl|rfl|rfl|rfl|rfl<;>exact roI Zt Zt
theorem yn{p:ZM}(h:p∈[pL,pF]):POk p:=by simp only[By,Xv,Y0]at h;rcases h with rfl|rfl<;>exact⟨Zk,Zk⟩
theorem RA:ZK prog 78 [pP sM] (· = .bool YK):=by
 refine ZC func78 O ntmps78 λ_ _ _ _=>?_
 have E:=Ez (q:=5) Zm;have G:=jj (bk 5) E.1 E.2;rw[show di (bk 5)=YK by decide+kernel]at G;have U:∀t∈tmL sM.s,POk t.p/\ROk t.v:=λt j=>by
  have j:t=⟨pL,bk 15⟩\/t=⟨pF,bk 10⟩:=by simpa[tmL,sM]using j
  rcases j with rfl|rfl
  .exact⟨yn Zm,Ez (q:=15) Zm⟩
  exact⟨yn Zm,Ez (q:=10) Zm⟩
 have X:∀t∈prL sM.p,POk t.a/\POk t.b/\ROk t.v:=λt j=>by
  have j:t=⟨pL,pL,bk 45⟩\/t=⟨pL,pF,bk 30⟩\/t=⟨pF,pF,bk 20⟩:=by simpa[prL,sM]using j
  rcases j with rfl|rfl|rfl
  .exact⟨yn Zm,yn Zm,Ez (q:=45) Zm⟩
  .exact⟨yn Zm,yn Zm,Ez (q:=30) Zm⟩
  exact⟨yn Zm,yn Zm,Ez (q:=20) Zm⟩
 have I:=pQ (tmL sM.s) 138 badT Zk call138 (λt j=>He t (U t j));have L:=pM (prL sM.p) 142 badQ Zk call142 (λt j=>KR t (X t j));have M:=BM (tmL sM.s) 144 SN Zk call144 FX;have T:=Bp (prL sM.p) 146 QJ Zk call146 F3;rw[show(tmL sM.s).any badT=YL by decide+kernel]at I;rw[show(prL sM.p).any badQ=YL by decide+kernel]at L;rw[show Kt SN (tmL sM.s)=YK by decide+kernel]at M;rw[show Kt QJ (prL sM.p)=YK by decide+kernel]at T;refine Z2 O<|Z2 O<|Rs O (aa call137 G O)<|A1 O<|Gc O (λB=>absurd B Zk) (λB=>?_);refine Vl<|Z2 O<|Rs O (aa call79 I O)<|Gc O (λD=>absurd D Zk) (λD=>?_);refine Vl<|Z2 O<|Rs O (aa call141 L O)<|Gc O (λz=>absurd z Zk) (λz=>?_);exact Vl<|Z2 O<|Rs O (aa call143 M O)<|Y3 O<|Rg O (aa call145 T O)<|Y2 O<|YR O O
theorem s_bel(b:Bool):ZK prog 81 [fp sS,bu (if b=YK then pL else pF)] (· = .bool YK):=by
 refine ZC func81 O ntmps81 λ_ _ _ _=>?_
 have z:(aK sS.bo)[0*3+1]? =WB (.int .i64 1):=rfl;have s:aK sS.bo≠[]:=by simp[aK]
 cases b
 .have hp:bu (if YL=YK then pL else pF)= .agg Z0:=rfl;rw[hp];refine Z3 O<|Z4 O<|Gc O (λj=>absurd j Zk) (λj=>?_);refine Gr O<|Ar 7 O<|Gp O (λq=>absurd q Zk) (λq=>?_);exact Vl<|Z4 O<|Rs O (ai 0 underlying28 KS O O O Zk s)<|A1 O<|Rs O (aC ⟨_,aan,O⟩ O z)<|Ar 7 O<|YR O<|ah PV.bool (WE _)
 have hp:bu (if YK=YK then pL else pF)= .agg [.int .i64 (-1),.str ⟨#[]⟩]:=rfl;rw[hp];refine Z3 O<|Z4 O<|Gc O (λj=>?_) (λj=>absurd j Zk);exact Gr O<|Ar 9 O<|YR O<|ah PV.bool (WE _)
theorem PW(t:Trm)(b:Bool)(q:t.p=if b=YK then pL else pF):ZK prog 80 ([]++[.agg (ui t)]++[ML sS]) (· = .bool YL):=by
 refine ZC func80 O ntmps80 λ_ _ _ _=>?_
 have j:=s_bel b;rw[<-q]at j;clear q;refine Z2 O<|Gr O ?_;first|refine A1 O ?_|refine A3 O Zl ?_
 exact Y2 O<|Rs O (aa call81 j O)<|Y2 O<|YR O O
theorem Mw:ZK prog 34 [fp sS,pP sM] (· = .bS [.sl WC 1 (p7 [pF]),ZU 0]):=by
 refine ZC func34 O ntmps34 λ_ _ _ _=>?_
 have T:=mH sS s_sb;rw[s_ok]at T;have ab:=RA;have U:=iM (tmL sM.s) 80 [ML sS] (λ_=>YL) Zk call80 (λt ht=>by
  have ht:t=⟨pL,bk 15⟩\/t=⟨pF,bk 10⟩:=by simpa[tmL,sM]using ht
  rcases ht with rfl|rfl
  .exact PW _ YK O
  exact PW _ YL O)
 rw[show(tmL sM.s).any (λ_=>YL)=YL from O]at U;have X:=xT sS s_sb s_ok Zk;rw[show r5 sS.bo sS.bo.length=[0] by decide]at X;have hv0:=bo (l:=[(0:Int)]) (k:=0) Zk;have hn0:=aU (l:=[(0:Int)]) (k:=0) Zk;have hk:(aK sS.bo)[0*3+1]? =WB (.int .i64 1):=rfl;have hfe:aK sS.bo≠[]:=by simp[aK]
 have Y:bB (tmL sM.s)≠[]:=by simp[bB,tmL,sM]
 have hso:=uC [pF] Zk;refine Z4 O<|Z1 O<|Rs O (aa call77 T O)<|Y2 O<|Gc O (λE=>absurd E Zk) (λE=>?_);refine Z1 O<|Rs O (aa call78 ab O)<|Y2 O<|Gc O (λG=>absurd G Zk) (λG=>?_);refine Vm (St.gR 0 O O)<|Z3 O<|Rs O (aa call79 U O)<|A1 O<|Gc O (λL=>absurd L Zk) (λL=>?_);refine Vl<|Z1 O<|Vm (Vs 6 2 2 111 O O)<|Z1 O<|Rs O (aa call82 X O)<|Y2 O ?_
 repeat apply Vy
 refine AW.block ?_
 repeat apply Vy
 refine AW.Su (ZT [(2,.pv (ML sS)),(3,.ptr 1 0),(6,.bz 2 2 1),(28,.pv (al [0])),(29,ZI 1),(30,ZI 1)] [(1,.mix 46 [.pv (.str (bk 5)),.pv (.sl WC 2 (bB (tmL sM.s))),.pv (.sl WC 3 (bM (prL sM.p)))]),(2,.bD 111 (p7 [pF]))] 3) ?_ ?_
 .refine Z1 O ?_;refine Gp O (λq=>?_) (λq=>absurd q Zk);exact Vl<|Gr O<|Rs O (ai 0 aal sz3 O O O Zk hn0)<|Rs O (aC ⟨_,aan,O⟩ O hv0)<|A1 O<|Gr O<|Ar 6 O<|Z2 O<|Vo [0,1,4] (aT O) (aP Zj) O O Zk O
 refine Z1 O ?_;refine Gp O (λq=>absurd q Zk) (λq=>?_);refine Gx O<|Z4 O<|Gz O (st:=λD:Nat=>([(2,WC),(6,WC),(41,WC),(42,WC),(43,WB (ZI D))],[(2,WC)])) 3
  (I:=λD=>D<=2) (μ:=λD=>2-D) (x0:=0) (Vn (aS O) (aO Zj) O O) Zk ?_
 rintro j hj;refine Z1 O<|Gp O (λZ=>?_) (λZ=>?_)
 .have hlt:j<2:=Zi;refine Vl ?_
  repeat apply Vy
  refine AW.block ?_;by_cases hz:j=0
  .have B:((bB (tmL sM.s)).drop (j*3)).take 3=[.int .i64 (-1),.str ⟨#[]⟩,.str (bk 15)]:=by subst hz;rfl
   refine Gr O<|Rs O (ai j aaG ix O O O hlt Y)<|Rs O (aD ⟨_,aaB,O⟩ ix O B O)<|Y2 O<|Z4 O<|Gr O<|Ar 11 O<|Gc O (λz=>absurd z Zk) (λz=>?_);exact Vl<|Z2 O<|⟨(j+1),Vn (aS O) (aO Zj) O O,hlt,Zi⟩
  have hj1:j=1:=Zi;have B:((bB (tmL sM.s)).drop (j*3)).take 3=[.int .i64 0,.str ⟨#[]⟩,.str (bk 10)]:=by subst hj1;rfl
  refine Gr O<|Rs O (ai j aaG ix O O O hlt Y)<|Rs O (aD ⟨_,aaB,O⟩ ix O B O)<|Y2 O<|Z4 O<|Gr O<|Ar 6 O<|Rg O (ai 0 underlying28 KS O O O Zk hfe)<|A1 O<|Rg O (aC ⟨_,aan,O⟩ O hk)<|Y2 O<|Gc O (λz=>absurd z Zk) (λz=>?_);exact Vl<|Z2 O<|⟨(j+1),Vn (aS O) (aO Zj) O O,hlt,Zi⟩
 refine Gx O<|Z3 O ?_;refine Gp O (λM=>absurd M Zk) (λM=>?_);refine Vl<|Z1 O<|RL.call O (cf [2] 3 call83 O O O O (by exact⟨Zj,Zp⟩) Zk O hso ?_);rintro _ _ ⟨l',hp,hs,rfl,rfl⟩;obtain rfl:=List.perm_singleton.1 hp;exact Vm (Vq (o:= .bD 111 (p7 [pF])) 2 Zj O)<|Z3 O<|YR O O
abbrev sC:PV:= .agg [.str z5,.sl WC 2 (bB (tmL sM.s)),.sl WC 3 (bM (prL sM.p))]
theorem s_eC:pP sM=sC:=ah (λs=>PV.agg [.str s,.sl WC 2 (bB (tmL sM.s)),.sl WC 3 (bM (prL sM.p))]) (show bk 5=z5 by decide+kernel)
theorem Vb{p:ZM}(e:ta (λe:ZM×Rat=>e.1==p) (λe=>bk e.2) sM.s=t):ZK prog 35 [sC,bu p] (· = .str t):=by have h:=JS sM p Zk;rwa [e,s_eC]at h
theorem Px{p q:ZM}(hl:gG q p=YL)(e:ta (λe:Mm.PP×Rat=>e.1.1==p&&e.1.2==q) (λe=>bk e.2) sM.p=t):ZK prog 36 [sC,bu p,bu q] (· = .str t):=by have h:=FE sM p q Zk hl;rwa [e,s_eC]at h
abbrev mtP:PV:=T4 [[z5,z10],[z10,z20]]
theorem Pe:ZK prog 13 [fp sS,sC] (· = .bS [.agg [.sl WC 1 (p7 [pF]),mtP,bh [z15,z30]],ZU 0]):=by
 refine ZK.fg2 (ZD func13 O ntmps13 λ_ _ _ _=>?_);have G:=Mw;rw[s_eC]at G;have M:=Vb (p:=pL) (t:=z15) Zt;have I:=Vb (p:=pF) (t:=z10) Zt;have U:=Px (p:=pF) (q:=pF) (t:=z20) Zt Zt;have X:=Px (p:=pL) (q:=pF) (t:=z30) Zt Zt;have B:((Z0:na).drop (0*2)).take 2=Z0:=rfl;have L:(Z0:na)≠[]:=Zm;refine Z4 O<|Z2 O<|Rs O (aa call34 G O)<|Ar 5 O<|Z2 O<|Gc O (λD=>absurd D Zk) (λD=>?_);refine Vl<|Z3 O<|Gp O (λE=>absurd E Zk) (λE=>?_);refine Vl<|Z3 O<|VC 12 O<|Dr 4 O<|YQ [4] O (λτ h=>tr 5 el63 (h.n 0 _ O) (Ee h 0 O) (Eo h 0 O))<|Dr 2 O<|YM O (λτ h=>aa call35 M (h.aE O))<|Dr 4 O ⟨Zj,Z3 O ?_⟩
 repeat apply Vy
 refine AW.block ?_
 repeat apply Vy
 refine AW.Su (ZT [(3,.ptr 1 0),(4,.ptr 2 0),(6,.pv (.sl WC 1 Z0)),(8,.ptr 3 0),(9,.ptr 7 0),(40,.pv (.sl WC 1 Z0)),(41,ZI 1),(42,ZI 1)] [(1,.mix 46 [.pv (.str z5),.pv (.sl WC 2 (bB (tmL sM.s))),.pv (.sl WC 3 (bM (prL sM.p)))]),(2,.mix 66 [.pv nS,.pv nS,.pv nS]),(3,.mix 111 [ZI (-1),.pv (.str ⟨#[]⟩)]),(5,.cells 64 [bh [z5,z10],bh [z10,z20]]),(6,.cells 42 [.str z15,.str z30]),(7,.mix 66 [.pv (.sl WC 1 Z0),.bJ 5 1 2,.bJ 6 1 2])] 8) ?_ ?_
 .refine Z1 O ?_;refine Gp O (λj=>?_) (λj=>absurd j Zk);refine Vl<|Gr O<|Rs O (ai 0 underlying61 k9 O O O Zk L)<|Rs O (aD ⟨_,aaA,O⟩ k9 O B O)<|Y2 O<|VC 13 O<|Dr 5 O ?_;first|refine D2 O O Zl ?_|refine D1 O O ?_
  refine Dr 2 O<|YM O (λτ h=>aa call35 I (h.aE O))<|Dr 4 O ⟨Zj,Z2 O<|Rs O (aa call35 I O)<|Y2 O<|Z3 O ?_⟩
  repeat apply Vy
  refine AW.block ?_
  repeat apply Vy
  refine AW.Su (ZT [(3,.ptr 1 0),(4,.ptr 2 0),(6,.pv (.sl WC 1 Z0)),(8,.ptr 3 0),(9,.ptr 7 0),(11,.ptr 8 0),(12,.bJ 11 1 2),(40,.pv (.sl WC 1 Z0)),(41,ZI 1),(42,ZI 0),(62,.pv (.sl WC 1 Z0)),(63,ZI 1),(64,ZI 1)] [(1,.mix 46 [.pv (.str z5),.pv (.sl WC 2 (bB (tmL sM.s))),.pv (.sl WC 3 (bM (prL sM.p)))]),(2,.mix 66 [.pv nS,.pv nS,.pv nS]),(3,.mix 111 [ZI (-1),.pv (.str ⟨#[]⟩)]),(5,.mix 64 [.bJ 10 1 2]),(6,.cells 42 [.str z15]),(7,.mix 66 [.pv (.sl WC 1 Z0),.bJ 5 1 1,.bJ 6 1 1]),(8,.mix 111 [ZI 0,.pv (.str ⟨#[]⟩)]),(10,.cells 42 [.str z5,.str z10]),(11,.cells 42 [.str z10,.str z20])] 12) ?_ ?_
  .refine Z1 O ?_;refine Gp O (λz=>?_) (λz=>absurd z Zk);exact Vl<|Gr O<|Rs O (ai 0 underlying61 k9 O O O Zk L)<|Rs O (aD ⟨_,aaA,O⟩ k9 O B O)<|Y2 O<|Z4 O<|Rs O (aa call36 U O)<|Y3 O<|Z2 O<|Vo [0,1,2,3,4,5,6,7,8,9,10,14] (aT O) (aP Zj) O O Zk O
  refine Z1 O ?_;refine Gp O (λz=>absurd z Zk) (λz=>?_);refine Gx O<|Vm (Vq (o:= .cells 42 [.str z10,.str z20]) 11 Zj O)<|Vm (Vq (o:= .cells 42 [.str z5,.str z10]) 10 Zj O)<|Vm (St.oP (id:=5) (T:=64) (vs:=[.pv (.sl (WB YL) 2 [.str z5,.str z10])]) (cs:=[.sl (WB YL) 2 [.str z5,.str z10]]) Zj O)<|Vm (St.Qc (id:=5) (T:=64) (cs:=[.sl (WB YL) 2 [.str z5,.str z10]]) Zj)<|Vm (St.rE [12])<|Z4 O<|Rs O (nU (cs:=[bh [z5,z10]]) 13 el63 O O O O O O O Zi O)<|Y2 O<|VC 10 O<|Dr 5 O<|YM O (λτ h=>aa call36 X (h.aE O))<|Dr 4 O ⟨Zj,Z2 O<|Vo [0,1,2,3,4,13,15,7] (aT O) (aP Zj) O O Zk O⟩
 refine Z1 O ?_;refine Gp O (λj=>absurd j Zk) (λj=>?_);exact Gx O<|Vm (Vq (o:= .cells 64 [bh [z5,z10],bh [z10,z20]]) 5 Zj O)<|Vm (Vq (o:= .cells 42 [.str z15,.str z30]) 6 Zj O)<|Z3 O<|YR O ⟨⟨ar ⟨_,underlying66,O⟩ sz66 O O O,Zp⟩,O⟩
theorem RU:ZK prog 14 [] (· = .agg aac):=by refine ZK.fg2 (ZD func14 O ntmps14 λ_ _ _ _=>?_);exact Z1 O<|Z2 O<|YR O ⟨⟨ar ⟨_,underlying46,O⟩ Tv O O O,Zp⟩,O⟩
theorem s_of0:ZK prog 8 [fp sS,l7 sP,dbP [[]]] (· = .bS [.agg aac,.int .i64 0]):=by
 have h:=kX Rn sP Zk T6 (mdE sS) O s_c0 _ Qn.symm (bH 0) (s_mf Qn ((bH 0).up Zk Zk));rw[show cn (cnt 0)=⟨((0:Int):Rat),[],[]⟩from Mm.tJ 0]at h;refine h.mono λv e=>e.trans ?_
 show PV.bS [.agg [.str (bk ((0:Int):Rat)),.sl WC 0 [],.sl WC 0 []],_]=_;rw[show bk ((0:Int):Rat)=⟨#[48]⟩ by decide+kernel]
theorem s_of1:ZK prog 8 [fp sS,l7 sP,dbP [[sR]]] (· = .bS [sC,ZU 0]):=by have h:=kX QK sP Zk T6 (mdE sS) O s_c1 _ Qs.symm QT.sok (s_mf Qs QT.sok);rwa [s_cn,s_eC]at h
theorem Ve{b:YO}{cs:na}(hc:cs≠[])(h:ZH w R (.sl b n cs) u):ZH w R (.sl b n (PV.fgL cs)) u:=by simp only[ZH]at h ⊢;obtain⟨A,c,e,h1,h2,h3,h4,h5⟩:=h;refine⟨A,c,e,h1,h2,h3,h4,λ_=>?_⟩;obtain⟨b',off,us,e1,e2,e3⟩:=h5 hc;exact⟨b',off,us,e1,e2.fgL,e3⟩
theorem Uk:ZK prog 4 [] (· = .bool YK):=by
 refine ZC func4 O ntmps4 λ_ _ _ _=>?_
 have j:ZK prog 8 [fp sS,l7 sP,.sl WC 1 [.sl (WB YK) 0 []]] (· = .bS [.agg aac,.int .i64 0]):=λw R us h0 h1 D=>s_of0 w R us h0 h1 (by
  simp only[ZG]at D ⊢;obtain⟨u1,v1,e1,r1,u2,v2,e2,r2,u3,v3,e3,r3,e4⟩:=D;exact⟨u1,v1,e1,r1,u2,v2,e2,r2,u3,v3,e3,Ve (cs:=[.sl (WB YK) 0 []]) Zm r3,e4⟩)
 have q:=s_of1;have E:=Pe;have I:=RU;have s:=sZ ⟨((0:Int):Rat),[],[]⟩ Zk Zk;have G:ZK prog 12 [.agg aac,.agg aac] (· = .bool YK):=by
  have e:bk ((0:Int):Rat)=⟨#[48]⟩:=by decide+kernel
  have D:ZK prog 12 [.agg [.str (bk ((0:Int):Rat)),.sl WC 0 [],.sl WC 0 []],.agg [.str (bk ((0:Int):Rat)),.sl WC 0 [],.sl WC 0 []]] (· = .bool YK):=s;rwa [e]at D
 have z:=z6 [[z5,z10],[z10,z20]] [[z5,z10],[z10,z20]] Zk Zk Zk Zk;rw[VK O]at z;have B:=tB [z15,z30] [z15,z30] Zk Zk;rw[VK O]at B;clear s;refine Z1 O<|Z2 O<|Rs O (ax WC Zm el26 O Zk Zk O O)<|Rs O (ax WC Zm xg O Zk Zk O O)<|A1 O<|Rs O (ax WC Zm el27 O Zk Zk O O)<|A1 O<|Rs O (ax WC Zm el28 O Zk Zk O O)<|Y3 O<|Gr O<|Rs O (ax WC Zm xg O Zk Zk O O)<|Y3 O<|Z2 O<|Rs O (ax WC Zm Vc O Zk Zk O O)<|Rs O (aa call8 j O)<|Ar 6 O<|Z2 O<|Rs O (ax WC Zm Qu O Zk Zk O O)<|A1 O<|Rs O (ax WC Zm LO O Zk Zk O O)<|Rs O (ax WC Zm Vc O Zk Zk O O)<|Rs O (aa call8 q O)<|Ar 6 O<|Z2 O<|Rs O (aa call13 E O)<|Ar 6 O<|VC 35 O<|Dr 4 O<|Dg [] O (λτ h=>aa call14 I (h.aE O)) O Zj<|Dg [] O (λτ h=>aa call12 G (h.aE O)) O Zj<|Dr 8 O<|Dg [] O (λτ h=>wZ (Ee h 0 O) (Ee h 1 O) O (WE _)) O Zj<|Dr 8 O<|Dg [] O (λτ h=>ax WC Zm el64 O Zk Zk (h.uU O O) O) O Zj<|Dg [] O (λτ h=>ax WC Zm el64 O Zk Zk (h.uU O O) O) O Zj<|Dg [] O (λτ h=>ax WC Zm el63 O Zk Zk (h.uU O O) O) O Zj<|Dg [] O (λτ h=>aa call15 z (h.aE O)) O Zj<|Dr 4 O<|Dg [] O (λτ h=>ax WC Zm el64 O Zk Zk (h.uU O O) O) O Zj<|Dg [] O (λτ h=>aa call16 B (h.aE O)) O Zj<|Dr 2 O ⟨Zj,YR O O⟩
end
section
open Mk Jn
def mxR(d:Gk)(k:Nat)(v:V):nR:=((bO d).map V.pv).set k v
section
variable {d:Gk}{k:Nat}{v v':V}
theorem QV:(mxR d k v).length=d.length*1:=by unfold mxR;rw[VN,IS,cL]
theorem Jr(j:k<d.length):(mxR d k v)[k*1]? =WB v:=by have:=cL d;unfold mxR;rw[VY,YI,IT O,IT (by rw[IS];omega)]
theorem Rc(x:PV):(((bO d).set (k*1) x).map V.pv).set k v=mxR d k v:=by unfold mxR;rw[VY,Wp,List.set_set]
theorem wK(ρ:Nat->Nat):∀vs:nR,V.renL ρ vs=vs.map (V.ren ρ)
 |[]=>rfl
 |v::vs=>by rw[V.renL,wK ρ vs,ed]
theorem oA(ρ:Nat->Nat):V.renL ρ (mxR d k v)=mxR d k (v.ren ρ):=by unfold mxR;rw[wK,Wp,<-wK,rv]
theorem Jg(n:Nat):∀vs:nR,V.okL n vs=vs.all (V.okA n)
 |[]=>rfl
 |v::vs=>by rw[V.okL,Jg n vs,Xi]
theorem Ht(h:v.okA n=YK):V.okL n (mxR d k v)=YK:=by
 have j:=CE n (bO d);rw[Jg]at j ⊢;rw[IN]at j ⊢;intro x hx;unfold mxR at hx;rcases Xm hx with hx|rfl
 .exact j x hx
 exact h
theorem AA(id:Nat)(l':om)(s:k<d.length):V.pubL id YL (aL l') (mxR d k (.bz id 2 l'.length))=(bO (d.set k l')).map V.pv:=by
 unfold mxR;rw[p6,Wp,XX];have j:(V.pubV id YL (aL l')∘V.pv)=V.pv:=rfl;have q:V.pubV id YL (aL l') (.bz id 2 l'.length)= .pv (nB l'):=by
  simp only[V.pubV,Zh,Xe]
 rw[j,q,<-Wp];unfold bO;simp only[Wp]
theorem vl(id j:Nat)(z:Nat.beq j id=YL)(cs:na)(n:Nat):V.pubL id YL cs (mxR d k (.bz j 2 n))=mxR d k (.bz j 2 n):=by
 unfold mxR;rw[p6,Wp,XX];have q:(V.pubV id YL cs∘V.pv)=V.pv:=rfl;have s:V.pubV id YL cs (.bz j 2 n)= .bz j 2 n:=by
  simp only[V.pubV,z,Wo]
 rw[q,s]
theorem Ma(j:k<d.length):k7 (mxR d k v) (k*1) [v']=mxR d k v':=by
 have:=cL d;simp only[k7,VV,VY];unfold mxR;rw[XU,XU,IT (by rw[IS];omega),IT (by rw[IS];omega)];have hl:((bO d).map V.pv).length=d.length:=by rw[IS];omega
 rw[List.take_left' (by rw[Vz];omega),List.drop_append];simp[Vz,hl,show min k d.length=k by omega,show k+1-k=1 by omega]
end
section
variable {C:Ctx}{n:Nat}{σ:St}{ty:TypeId}{pos:String}{after:Y4}{gd:Option (Nat×Bool)}{x y:Operand}
theorem kT{T T':TypeId}{id i sz j:Nat}{d:Gk}{v0:V}(hs:b8 C.P T 1)(q:σ.ev n x= .ptr id (k*1))(ho:σ.ob id=WB (.mix T' (mxR d k v0)))(s:σ.ev n y= .bz i sz j)(z:k<d.length):
  XJ C n ⟨WC,.store T x y,ty,pos,after,gd⟩ σ ⟨.pv .any,[(id,WB (.mix T' (mxR d k (.bz i sz j))))],[]⟩:=by
 have h:=mY (pos:=pos) (after:=after) (gd:=gd) (ty:=ty) hs q ho s O (by rw[QV];omega) O O;have e:k7 (mxR d k v0) (k*1) (V.bz i sz j).cells=mxR d k (.bz i sz j):=Ma z;rw[e]at h;exact h
end
end
section
open Go.RowKit Mk Jn Mm Vw
theorem Ot{S:ZN}{g h:Gv}(q:(QM S).length<=1000)(L:GS S g)(M:GS S h)(U:GS S (g.add h)):ZK prog 9 [pP (cn g.m),pP (cn h.m)] (· = .bS [pP (cn (g.add h).m),ZU 0]):=by
 refine ZD func9 O ntmps9 λ_ _ _ _=>?_
 have z:=oz _ (L.v10 q);have B:=oz _ (M.v10 q);have D:=L.read q;have E:=M.read q;have G:=r9 1 Zk Zk;have T:=J8 L M;have I:=fun{c s p}=>U.give q (c:=c) (s:=s) (p:=p)
 generalize hx:cn (g.add h).m=m3 at*;generalize cn g.m=m1 at*;generalize cn h.m=m2 at*;refine Z4 O<|Z1 O<|Rs O (aa call25 z O)<|Y3 O<|Rg O (aa call25 B O)<|Y2 O<|Gc O (λj=>absurd j Zk) (λj=>?_);refine Vl<|VC 11 O<|D1 O O<|YM O (λτ h=>az [] 3 call26 D (h.args.trans O) O O O trivial Zk (by show(τ.av 3&&(τ.av 4&&YK))=YK;rw[h.n 0 _ O,h.n 1 _ O];rfl)) ?_;refine D1 O O<|YM O (λτ h=>az [] 5 call26 E (h.args.trans O) O O O trivial Zk (by show(τ.av 5&&(τ.av 6&&YK))=YK;rw[h.n 0 _ O,h.n 1 _ O];rfl)) ?_;refine YM O (λτ h=>aa call28 G (h.aE O))<|DL.rel (RO [3,4,5,6] 7 0 (λr ob'=>∃c s p,FulR (g.add h).m c s p/\r= .agg (dO c big 9001)/\ob'=au (ZY s p))) [3,4,5,6] [] [3,4,5,6] O O O (λτ h=>Tu [3,4,5,6] 7 call27 T (h.args.trans Zj) O O O ⟨(h.o 0 _ O).trans Zj,(h.o 1 _ O).trans Zj,(h.o 2 _ O).trans Zj,(h.o 3 _ O).trans Zj,Zp⟩ Zk O) O Zj Zj Zj ?_;rintro _ ⟨_,_,⟨c3,s3,p3,hF,rfl,rfl⟩,rfl⟩ _ _;refine YQ [3,4] O (λτ h=>az [3,4] 7 call29 (I hF) (h.args.trans Zj) O O O ⟨((h.o 0 _ O).trans (VT (b:=WB (.mp (aq bu s3) (aN s3))) Zj Zj)),((h.o 1 _ O).trans (VT (b:=WB (.mp (aq ppP p3) (aN p3))) Zj Zj)),Zp⟩ Zk O)<|Dr 4 O ⟨Zj,YR O ⟨⟨ar ⟨_,underlying46,O⟩ Tv O O O,Zp⟩,O⟩⟩
end
section
open Go.RowKit Mk Jn Mm Vw
section
variable {S:ZN}{g:Gv}
theorem S3(S:ZN):GS S (Gv.whole 0):=⟨GvOk.whole _ 0,Zk,Zk⟩
theorem IJ(q:GS S g)(n:Nat)(D:n<=1000):ZS prog 27 4 0 [.agg (dO ((0:Int):Rat) big 9001),.agg (dO (cn g.m).c 9002 9003),.pv (cc ((n:Int):Rat))] [(big,.mp [] []),(9001,.mp [] []),(9002,.mp (aq bu (cn g.m).s) (aN (cn g.m).s)),(9003,.mp (aq ppP (cn g.m).p) (aN (cn g.m).p))]
   (λr ob'=>∃c s p,FulR ((Gv.whole n).mul g).m c s p/\r= .agg (dO c big 9001)/\ob'=au (ZY s p)):=by
 have j:bg smB ((n:Int):Rat):=bg.up (vD n).cb (OF D Zt);have z:=(S3 S).msm;have B:cn (Gv.whole 0).m=⟨((0:Int):Rat),[],[]⟩:=tJ 0;rw[B]at z;refine(xv ((0:Int):Rat) [] [] (cn g.m) ((n:Int):Rat) sm1 z q.msm ⟨n,O⟩ j).mono ?_;rintro r ob' ⟨s,p,hm,rfl,rfl⟩;obtain⟨e,h1⟩:=MOk.mul (vD n) q.ok.s.cn.1 (m:=⟨((0:Int):Rat)+(cn g.m).c*((n:Int):Rat),nzL s,nzL p⟩) (by simp only;grind) (Nk hm.s) (Nk hm.p) (λe he=>hm.po (λ_ h=>absurd h Zm) e (VU.1 he).1) (λx=>by simp only[NC];rw[hm.es];simp only[lk];grind) (λx y=>by simp only[NC];rw[hm.ep];simp only[lk];grind);rw[q.ok.s.cn.2.1]at e;exact⟨_,s,p,.of h1 e,O,O⟩
theorem NZ(I:(QM S).length<=1000)(L:GS S g)(n:Nat)(U:n<=1000)(X:GS S ((Gv.whole n).mul g)):ZK prog 10 [pP (cn g.m),.str (bk ((n:Int):Rat))] (· = .bS [pP (cn ((Gv.whole n).mul g).m),ZU 0]):=by
 refine ZD func10 O ntmps10 λ_ _ _ _=>?_
 have M:F1 ((n:Int):Rat):=⟨by show(n:Int).natAbs<_;omega,by show(1:Nat)<31622;decide⟩;have T:=oz _ (L.v10 I);have q:=M.val;have z:=qJ 0 Zk Zk;have B:=L.read I;have D:=ql ((n:Int):Rat) M;have E:=IJ L n U;have G:=fun{c s p}=>X.give I (c:=c) (s:=s) (p:=p)
 generalize hx:cn ((Gv.whole n).mul g).m=m3 at*;generalize cn g.m=m at*;refine Z3 O<|Z1 O<|Rs O (aa call25 T O)<|Y3 O<|Rg O (aa call30 q O)<|Y2 O<|Gc O (λj=>absurd j Zk) (λj=>?_);refine Vl<|VC 11 O<|YM O (λτ h=>az [] 2 call31 z (h.args.trans O) O O O trivial Zk (by show(τ.av 2&&(τ.av 3&&YK))=YK;rw[h.n 0 _ O,h.n 1 _ O];rfl)) ?_;refine D1 O O<|YM O (λτ h=>az [] 4 call26 B (h.args.trans O) O O O trivial Zk (by show(τ.av 4&&(τ.av 5&&YK))=YK;rw[h.n 0 _ O,h.n 1 _ O];rfl)) ?_;refine D1 O O<|YM O (λτ h=>aa call32 D (h.aE O))<|DL.rel (RO [2,3,4,5] 6 0 (λr ob'=>∃c s p,FulR ((Gv.whole n).mul g).m c s p/\r= .agg (dO c big 9001)/\ob'=au (ZY s p))) [2,3,4,5] [] [2,3,4,5] O O O (λτ h=>Tu [2,3,4,5] 6 call27 E (h.args.trans Zj) O O O ⟨(h.o 0 _ O).trans Zj,(h.o 1 _ O).trans Zj,(h.o 2 _ O).trans Zj,(h.o 3 _ O).trans Zj,Zp⟩ Zk O) O Zj Zj Zj ?_;rintro _ ⟨_,_,⟨c3,s3,p3,hF,rfl,rfl⟩,rfl⟩ _ _;refine YQ [2,3] O (λτ h=>az [2,3] 6 call29 (G hF) (h.args.trans Zj) O O O ⟨((h.o 0 _ O).trans (VT (b:=WB (.mp (aq bu s3) (aN s3))) Zj Zj)),((h.o 1 _ O).trans (VT (b:=WB (.mp (aq ppP p3) (aN p3))) Zj Zj)),Zp⟩ Zk O)<|Dr 4 O ⟨Zj,YR O ⟨⟨ar ⟨_,underlying46,O⟩ Tv O O O,Zp⟩,O⟩⟩
end
end
section
open Go.RowKit Mk Jn Mm Vw
theorem x3(t:cP)(k0:Nat)(D:t.length<=600)(s:k0<=t.length):ZS prog 6 1 0 [.ptr big 0] [(big,xe t k0)] (λv ob'=>∃(S:ZN)(q:cP)(d:Gk)(k':Nat),Made S 5/\q.Perm (upZ S.aj.length)/\MdD S 4 S.aU.length d/\k'<=t.length/\
  v= .bS [.agg (sCc S),.agg [.pv (al (ordL S q))],.pv (dbP d)]/\ob'=au [(big,xe t k')]):=by
 refine ZF func6 O ntmps6 λ_ _ _ _=>?_
 refine Z3 O<|Z1 O<|RL.call O (kL call17 (Ab t k0 5 Zi s Zi Zi) O O ?_);rintro _ _ ⟨⟨S,hM,rfl⟩,k1,hk1,rfl⟩;have z:=ko hM Zi;have j:=Jz hM Zi;have hS:=DT hM;have B:=hM.r2;refine Y2 O<|Ge O follows [0,1,2,4,5,3,6,7,8,9] Zj<|Dr 5 O<|DL.rel (RM 73 big (λv c=>(∃q:cP,q.Perm (upZ S.aj.length)/\v=l7 (ordL S q))/\∃k',k'<=t.length/\c=jo t k')) [big] [] [big] O O O (λτ h=>relM call18 (xq t k1 Zi hk1 S j z) (h.args.trans O) (Eo h 0 O)) O Zj Zj Zj ?_;rintro _ ⟨_,_,⟨⟨q,hq,rfl⟩,k2,hk2,rfl⟩,rfl⟩ _ _;refine DL.rel (RM 73 big (λv c=>(∃d,MdD S 4 S.aU.length d/\v=dbP d)/\∃k',k'<=t.length/\c=jo t k')) [big] [] [big] O O O (λτ h=>relM call19 (vq t k2 Zi hk2 S 4 Zk Zi (λr hr=>⟨hS.l r hr,hS.b r hr⟩)) (h.args.trans O) (Eo h 0 O)) O Zj Zj Zj ?_;rintro _ ⟨_,_,⟨⟨d,hd,rfl⟩,k3,hk3,rfl⟩,rfl⟩ _ _;refine Dr 3 O ⟨Zj,Gt O<|⟨[(2,.ptr 0 0),(3,.ptr 1 0),(4,.pv (dbP d))],[(big,xe t k3),(0,oZ S),(1,.mix 32 [.pv (al (ordL S q))])],[.agg (sCc S),.agg [.pv (al (ordL S q))],.pv (dbP d)],[(big,xe t k3)],2,Vn (aS Zj) (aO Zj) O O,O,⟨ar ⟨_,underlying30,O⟩ sz30 O O O,ar ⟨_,aaH,O⟩ MQ O O O,Zp⟩,O,O,λi o h=>by simp only[au]at h ⊢; cases hb:Nat.beq i big<;>simp_all,sh _,S,q,d,k3,hM,hq,hd,hk3,O,O⟩⟩
theorem S5(n:Nat)(h:n<=25):ZK prog 11 [ZU n] (· = .str (bk ((n:Int):Rat))):=by have:=Ax (n:Int) Zi Zi;rwa [show(⟨(Lib.itoa (n:Int)).toArray⟩:er)=bk ((n:Int):Rat)from(IT (show(((n:Nat):Int):Rat).den=1 from O)).symm]at this
theorem Lb{z:Int}{m:Nat}(h:1<=z/\z<=100)(j:m<=5): -9223372036854775808<=z*(m:Int)/\z*(m:Int)<=9223372036854775807:=by have:m=0\/m=1\/m=2\/m=3\/m=4\/m=5:=Zi;rcases this with rfl|rfl|rfl|rfl|rfl|rfl<;>omega
theorem pub3{d:Gk}(q:k<d.length)(la lb lc:om)(c1 c2 c3:na):V.pubL 8 YL c3 (V.pubL 7 YL c2 (V.pubL 6 YL (aL la) (mxR d k (.bz 6 2 la.length))))=(bO (d.set k la)).map V.pv/\V.pubL 8 YL c3 (V.pubL 7 YL (aL lb) (V.pubL 6 YL c1 (mxR d k (.bz 7 2 lb.length))))=(bO (d.set k lb)).map V.pv/\V.pubL 8 YL (aL lc) (V.pubL 7 YL c2 (V.pubL 6 YL c1 (mxR d k (.bz 8 2 lc.length))))=(bO (d.set k lc)).map V.pv:=by
 have j:∀(id:Nat)(r:Bool)(cs ps:na),V.pubL id r cs (ps.map V.pv)=ps.map V.pv:=λid r cs ps=>by rw[p6,XX];rfl
 exact⟨by rw[AA 6 la q,j,j],by rw[vl 6 7 O,AA 7 lb q,j],by rw[vl 6 8 O,vl 7 8 O,AA 8 lc q]⟩
theorem oO(t:cP)(q0:Int)(hq0:0<=q0/\q0<=255):ZK prog 3 [al t,.int .u8 q0] (· = .bool YK):=by
 refine ZC func3 O ntmps3 λ_ _ _ _=>?_
 have hsa:=Uk;obtain⟨m,hm⟩:∃m:Nat,(m:Int)=2+q0.tmod 4:=⟨(2+q0.tmod 4).toNat,by have:=Int.tmod_nonneg 4 hq0.1;omega⟩;have hm2:2<=m/\m<=5:=by
  have h1:=Int.tmod_nonneg 4 hq0.1;have h2:=Int.tmod_lt_of_pos q0 (show(0:Int)<4 by decide);omega
 have hw0:IntKind.i64.wrap q0=q0:=eS Zi;refine Z1 O<|Z3 O<|Gp O (λhc30=>?_) (λhc30=>?_)
 .exact Gr O<|Rs O (aa call4 hsa O)<|A1 O<|YR O O
 have hL:t.length<=400:=Zi;refine Vl<|Z1 O<|RL.call O (iD [] 0 call5 (Oq t Zi) O O O O trivial Zk O ?_);rintro _ _ ⟨rfl,rfl⟩;refine A1 O<|Z1 O<|RL.call O (cf [0] 1 call6 O O O O (by exact⟨Zj,Zp⟩) Zk O (x3 t 0 Zi (sh _)) ?_);rintro _ _ ⟨S,q,d,k1,hM,hq,hd,hk1,rfl,rfl⟩;refine Ar 9 O ?_;have h0:=ko hM Zi;have hV:=ji h0;have hO:OrdOk S (ordL S q):=(wj hV hq).ok hV hq;have hlen:=hO.len;have hP0:=HC.2 ⟨h0,hO⟩;have hW:=yd hM hd;have hdn:=hW.db.n;have hr1:=hM.r1;have hr2:=hM.r2;have ha2:=hM.a2;have hnn:=gu t k1 d.length Zi hk1 Zi Zi;have af:=j1 t k1 d.length Zi;obtain⟨k,hk⟩:=VG af.1;rw[hk]at hnn;have s:k<d.length:=by have:=af.2;omega
 clear af hk;have hPn:(ordL S q).length<=1000000:=Zi;have hQ:(QM S).length<=1000:=by rw[Hy];have:=eW hM.fs;omega
 have hk2:=gn hk1;have hwh:=S5 m Zi;have am:0<d.length:=Zi;have htl:=cL d;have an:(((bO d).set (k*1) nS).map V.pv)[k]? =WB (.pv nS):=by rw[VY,Xw,YI,IT O,IT Zi];rfl
 have z:=λv:V=>Rc (d:=d) (k:=k) (v:=v) nS
 have B:∀j,V.okL 9 (mxR d k (.bz 6 2 j))=YK:=λj=>Ht O
 have D:∀j,V.okL 9 (mxR d k (.bz 7 2 j))=YK:=λj=>Ht O
 have E:∀j,V.okL 9 (mxR d k (.bz 8 2 j))=YK:=λj=>Ht O
 refine Z3 O<|RL.call O (kL call7 hnn O O ?_);rintro _ _ ⟨rfl,rfl⟩;refine A1 O ?_;generalize sNk t k1=k2 at*;refine Z1 O<|Rs O (ir 3 Vc O (.inl ⟨WC,O⟩) Zi (wM d) Zi am O)<|A1 O<|Rs O (ir 4 Vc O (.inl ⟨WC,O⟩) Zi (wM d) Zi am O)<|A1 O<|Rs O (ir 5 Vc O (.inl ⟨WC,O⟩) Zi (wM d) Zi am O)<|Y3 O<|Gr O<|Ar 6 O<|Rs O (ag k aay tu O O O O s)<|A1 O<|Rs O (ag k aay tu O O O O s)<|A1 O<|Rs O (ag k aay tu O O O O s)<|A1 O<|Vm (St.jN (T:=38) (cs:=(bO d).set (k*1) nS) 3 Zj)<|Vm (St.cD (T':=38) (cs:=((bO d).set (k*1) nS).map V.pv) 3 k 6 2 41 Zj an O)<|Vm (St.jN (T:=38) (cs:=(bO d).set (k*1) nS) 4 Zj)<|Vm (St.cD (T':=38) (cs:=((bO d).set (k*1) nS).map V.pv) 4 k 7 2 41 Zj an O)<|Vm (St.jN (T:=38) (cs:=(bO d).set (k*1) nS) 5 Zj)<|Vm (St.cD (T':=38) (cs:=((bO d).set (k*1) nS).map V.pv) 5 k 8 2 41 Zj an O)<|Z1 O<|Rs O (XJ.cast (v':= ZI q0) (eX aau aan O) (ah (λi=>ZI i) hw0))<|Rs O (fC O O Zk)<|Rs O (XJ.cast (v':= ZI (m:Int)) (lx O O Zi) (ah (λi=>ZI i) hm.symm))<|A1 O ?_;have htr:=kG s;have htn:=nV s;obtain⟨l,hl⟩:∃l,d[k]=l:=⟨_,O⟩;have hll:l.length<=4:=by rw[<-hl];exact hW.n _ (ak s)
 have hlw:∀x∈l,1<=x.w/\x.w<=100:=by rw[<-hl];exact hW.pos _ (ak s)
 rw[hl]at htr;refine Z2 O<|Rs O (ai k aay tu O O O s htn)<|Rs O (aC ⟨_,aas,O⟩ O htr)<|Y2 O<|Gl O (st:=λZq:Nat×Nat×om×om=>ZT [(5,.ptr 0 0),(6,.ptr 1 0),(7,.ptr 2 0),(8,.pv (dbP d)),(9,ZI k),(10,.bJ 3 1 d.length),(11,.bJ 4 1 d.length),(12,.bJ 5 1 d.length),(13,ZI m),(66,.pv (nB l)),(67,ZI l.length),(68,ZI Zq.1)] [(0,xe t Zq.2.1),(1,oZ S),(2,.mix 32 [.pv (al (ordL S q))]),(3,.mix 38 (mxR d k (.bz 6 2 Zq.2.2.1.length))),(4,.mix 38 (mxR d k (.bz 7 2 Zq.2.2.2.length))),(5,.mix 38 (mxR d k (.bz 8 2 Zq.1))),(6,.bD 41 (aL Zq.2.2.1)),(7,.bD 41 (aL Zq.2.2.2)),(8,.bD 41 (aL (iz (m:Int) (l.take Zq.1))))] 9)
  (I:=λZq=>Zq.1<=l.length/\Zq.2.1<=t.length/\Jn.Spl (l.take Zq.1) Zq.2.2.1 Zq.2.2.2) (μ:=λZq=>l.length-Zq.1) (x0:=(0,k2,[],[])) (Vn (aS O) ⟨Zj,Zj,Zj,VT (b:=WB (.mix 38 ((((bO d).set (k*1) nS).map V.pv).set k (.bz 6 2 0)))) Zj (ah (λc=>WB (Ob.mix 38 c)) (z _)),VT (b:=WB (.mix 38 ((((bO d).set (k*1) nS).map V.pv).set k (.bz 7 2 0)))) Zj (ah (λc=>WB (Ob.mix 38 c)) (z _)),VT (b:=WB (.mix 38 ((((bO d).set (k*1) nS).map V.pv).set k (.bz 8 2 0)))) Zj (ah (λc=>WB (Ob.mix 38 c)) (z _)),Zj,Zj,Zj,Zp⟩ O (by simp only[Xi,Yp,XV,Ob.okA,VI,XS,Wm,Nat.reduceAdd,B,D,E];rfl)) (⟨sh _,hk2,.nil⟩) ?_
 rintro⟨i,kk,la,lb⟩ ⟨hi,hkk,hsp⟩;try simp only at hi hkk hsp ⊢
 refine Z1 O<|Gp O (λhc69=>?_) (λhc69=>?_)
 .have hlt:i<l.length:=Zi;have hrow:=dy hlt;have hne:=dW hlt;have hmb:=Lb (hlw _ (ak hlt)) hm2.2;have hata:=Jr (v:= .bz 6 2 la.length) s;have hatb:=Jr (v:= .bz 7 2 lb.length) s;have M:=Jr (v:= .bz 8 2 i) s;have hgla:=bL la;have hglb:=bL lb;have hlal:la.length<=4:=by have:=hsp.subL.length_le;rw[Vz]at this;omega
  have hlbl:lb.length<=4:=by have:=hsp.subR.length_le;rw[Vz]at this;omega
  have U:(aL (iz (m:Int) (l.take i))).length=i*2:=by rw[bL,iz,IS,Vz,W6 Zi]
  have hsna:=kE la l[i];have hsnb:=kE lb l[i];have G:=kE (iz (m:Int) (l.take i)) ⟨l[i].v,l[i].w*(m:Int)⟩;rw[<-JZ,<-AI hlt]at G;have X:=hsp.snocL l[i];have Y:=hsp.snocR l[i];rw[<-AI hlt]at X Y;have hn2:=gu t kk 2 Zi hkk Zi Zi;have hk3:=gn hkk;generalize l[i]=x at*;refine Vl<|Gr O<|Rs O (ai i aas R3 O O O hlt hne)<|Rs O (aD ⟨_,underlying41,O⟩ R3 O hrow O)<|Y2 O<|Z1 O<|RL.call O (kL call7 hn2 O O ?_);rintro _ _ ⟨rfl,rfl⟩;refine A1 O<|Gc O (λhc74=>?_) (λhc74=>?_)
  .refine VC 11 O<|Dr 4 O<|YQ [3] O (λτ h=>ag k aay tu (Ee h 0 O) (Eo h 0 O) (Ee h 1 O) O s)<|YQ [3] O (λτ h=>gN ⟨_,aas,O⟩ (Ee h 0 O) (Eo h 0 O) hata)<|Dr 2 O<|YQ [_,_] O (λτ h=>cU 11 LO (Ee h 0 O) (Eo h 0 O) hgla (Ee h 1 O) (Eo h 1 O) O O Zi (h.n 0 _ O))<|YQ [3] O (λτ h=>ag k aay tu (Ee h 0 O) (Eo h 0 O) (Ee h 1 O) O s)<|DL.step (d:=WC) [3] O O O (λτ h=>kT tu (Ee h 0 O) (Eo h 0 O) (Ee h 1 O) s) O Zj ⟨Zj,VC 17 O<|Dr 4 O<|YQ [5] O (λτ h=>ag k aay tu (Ee h 0 O) (Eo h 0 O) (Ee h 1 O) O s)<|YQ [5] O (λτ h=>gN ⟨_,aas,O⟩ (Ee h 0 O) (Eo h 0 O) M)<|Dr 5 O<|YM O (λτ h=>yO (Ee h 0 O) (Ee h 1 O) hmb)<|Dr 2 O<|YQ [_,_] O (λτ h=>cU 13 LO (Ee h 0 O) (Eo h 0 O) U (Ee h 1 O) (Eo h 1 O) O O Zi (h.n 0 _ O))<|YQ [5] O (λτ h=>ag k aay tu (Ee h 0 O) (Eo h 0 O) (Ee h 1 O) O s)<|DL.step (d:=WC) [5] O O O (λτ h=>kT tu (Ee h 0 O) (Eo h 0 O) (Ee h 1 O) s) O Zj ?_⟩;refine⟨Zj,?_⟩;exact Z2 O<|⟨(i+1,sNk t kk,la++[x],lb),Vo [0,1,2,3,4,5,11,7,13] (aT O) ⟨Zj,Zj,Zj,VT (b:=WB (.mix 38 (mxR d k (.bz 11 2 (la.length+1))))) Zj (ah (λc=>WB (Ob.mix 38 c)) ((ah (λn=>mxR d k (.bz 11 2 n)) (fv la x)).trans (oA (pG [0,1,2,3,4,5,11,7,13]) (d:=d) (k:=k) (v:= .bz 6 2 (la++[x]).length)).symm)),VT (b:=WB (.mix 38 (mxR d k (.bz 7 2 lb.length)))) Zj (ah (λc=>WB (Ob.mix 38 c)) (oA (pG [0,1,2,3,4,5,11,7,13]) (d:=d) (k:=k) (v:= .bz 7 2 lb.length)).symm),VT (b:=WB (.mix 38 (mxR d k (.bz 13 2 (i+1))))) Zj (ah (λc=>WB (Ob.mix 38 c)) (oA (pG [0,1,2,3,4,5,11,7,13]) (d:=d) (k:=k) (v:= .bz 8 2 (i+1))).symm),VT (b:=WB (.bD 41 (aL la++[bh x.v,.int .i64 x.w]))) Zj (ah (λc=>WB (Ob.bD 41 c)) hsna),Zj,VT (b:=WB (.bD 41 (aL (iz (m:Int) (l.take i))++[bh x.v,.int .i64 (x.w*(m:Int))]))) Zj (ah (λc=>WB (Ob.bD 41 c)) G),Zp⟩ O (by simp only[Xi,Yp,XV,Ob.okA,VI,XS,Wm,Nat.reduceAdd,B,D,E];rfl) Zk O,⟨hlt,hk3,X⟩,Zi⟩
  refine VC 11 O<|Dr 4 O<|YQ [4] O (λτ h=>ag k aay tu (Ee h 0 O) (Eo h 0 O) (Ee h 1 O) O s)<|YQ [4] O (λτ h=>gN ⟨_,aas,O⟩ (Ee h 0 O) (Eo h 0 O) hatb)<|Dr 2 O<|YQ [_,_] O (λτ h=>cU 11 LO (Ee h 0 O) (Eo h 0 O) hglb (Ee h 1 O) (Eo h 1 O) O O Zi (h.n 0 _ O))<|YQ [4] O (λτ h=>ag k aay tu (Ee h 0 O) (Eo h 0 O) (Ee h 1 O) O s)<|DL.step (d:=WC) [4] O O O (λτ h=>kT tu (Ee h 0 O) (Eo h 0 O) (Ee h 1 O) s) O Zj ⟨Zj,VC 17 O<|Dr 4 O<|YQ [5] O (λτ h=>ag k aay tu (Ee h 0 O) (Eo h 0 O) (Ee h 1 O) O s)<|YQ [5] O (λτ h=>gN ⟨_,aas,O⟩ (Ee h 0 O) (Eo h 0 O) M)<|Dr 5 O<|YM O (λτ h=>yO (Ee h 0 O) (Ee h 1 O) hmb)<|Dr 2 O<|YQ [_,_] O (λτ h=>cU 13 LO (Ee h 0 O) (Eo h 0 O) U (Ee h 1 O) (Eo h 1 O) O O Zi (h.n 0 _ O))<|YQ [5] O (λτ h=>ag k aay tu (Ee h 0 O) (Eo h 0 O) (Ee h 1 O) O s)<|DL.step (d:=WC) [5] O O O (λτ h=>kT tu (Ee h 0 O) (Eo h 0 O) (Ee h 1 O) s) O Zj ?_⟩;refine⟨Zj,?_⟩;exact Z2 O<|⟨(i+1,sNk t kk,la,lb++[x]),Vo [0,1,2,3,4,5,6,11,13] (aT O) ⟨Zj,Zj,Zj,VT (b:=WB (.mix 38 (mxR d k (.bz 6 2 la.length)))) Zj (ah (λc=>WB (Ob.mix 38 c)) (oA (pG [0,1,2,3,4,5,6,11,13]) (d:=d) (k:=k) (v:= .bz 6 2 la.length)).symm),VT (b:=WB (.mix 38 (mxR d k (.bz 11 2 (lb.length+1))))) Zj (ah (λc=>WB (Ob.mix 38 c)) ((ah (λn=>mxR d k (.bz 11 2 n)) (fv lb x)).trans (oA (pG [0,1,2,3,4,5,6,11,13]) (d:=d) (k:=k) (v:= .bz 7 2 (lb++[x]).length)).symm)),VT (b:=WB (.mix 38 (mxR d k (.bz 13 2 (i+1))))) Zj (ah (λc=>WB (Ob.mix 38 c)) (oA (pG [0,1,2,3,4,5,6,11,13]) (d:=d) (k:=k) (v:= .bz 8 2 (i+1))).symm),Zj,VT (b:=WB (.bD 41 (aL lb++[bh x.v,.int .i64 x.w]))) Zj (ah (λc=>WB (Ob.bD 41 c)) hsnb),VT (b:=WB (.bD 41 (aL (iz (m:Int) (l.take i))++[bh x.v,.int .i64 (x.w*(m:Int))]))) Zj (ah (λc=>WB (Ob.bD 41 c)) G),Zp⟩ O (by simp only[Xi,Yp,XV,Ob.okA,VI,XS,Wm,Nat.reduceAdd,B,D,E];rfl) Zk O,⟨hlt,hk3,Y⟩,Zi⟩
 obtain rfl:i=l.length:=Zi;rw[XD]at hsp ⊢;have Z:=K0 hM hd s hPn hP0 (m:=m) Zi hm2.2 (la:=la) (lb:=lb) (by rw[hl];exact hsp);rw[hl]at Z;obtain⟨ga,gb,g,s1,s2,s3,s4,s5,hadd,hof,hoa,hob,hoc⟩:=Z;have had:=Ot hQ s1 s2 s4;rw[hadd]at had;have hsc:=NZ hQ s3 m Zi s5;have hs0:=sZ (cn g.m) (s3.mf1 hQ).ls (s3.mf1 hQ).lp;have hsm:=sZ (cn ((Gv.whole m).mul g).m) (s5.mf1 hQ).ls (s5.mf1 hQ).lp;have ab:ZK prog 8 [fp S,l7 (ordL S q),.sl WC (d.set k la).length (bO (d.set k la))] (· = .bS [pP (cn ga.m),ZU 0]):=hoa;have ac:ZK prog 8 [fp S,l7 (ordL S q),.sl WC (d.set k lb).length (bO (d.set k lb))] (· = .bS [pP (cn gb.m),ZU 0]):=hob;have ad:ZK prog 8 [fp S,l7 (ordL S q),.sl WC (d.set k (iz (m:Int) l)).length (bO (d.set k (iz (m:Int) l)))] (· = .bS [pP (cn ((Gv.whole m).mul g).m),ZU 0]):=hoc;rw[VN]at ab ac ad;clear s1 s2 s3 s4 s5 hadd hoa hob hoc;generalize cn ((Gv.whole m).mul g).m=cm at*;generalize cn ga.m=ca at*;generalize cn gb.m=cb at*;generalize cn g.m=c0 at*;have hml:(iz (m:Int) l).length=l.length:=by unfold iz;exact IS ..
 obtain⟨p1,p2,p3⟩:=pub3 s la lb (iz (m:Int) l) (aL la) (aL lb) (aL (iz (m:Int) l));rw[hml]at p3;have t1:(bO (d.set k la)).length=d.length*1:=by rw[cL,VN]
 have t2:(bO (d.set k lb)).length=d.length*1:=by rw[cL,VN]
 have t3:(bO (d.set k (iz (m:Int) l))).length=d.length*1:=by rw[cL,VN]
 generalize ordL S q=P at*;refine Gx O<|Vm (Vq (o:= .bD 41 (aL la)) 6 Zj O)<|Vm (Vq (o:= .bD 41 (aL lb)) 7 Zj O)<|Vm (Vq (o:= .bD 41 (aL (iz (m:Int) l))) 8 Zj O)<|Vm (St.oP (id:=3) (T:=38) (vs:=V.pubL 8 YL (aL (iz (m:Int) l)) (V.pubL 7 YL (aL lb) (V.pubL 6 YL (aL la) (mxR d k (.bz 6 2 la.length))))) (cs:=bO (d.set k la)) Zj p1)<|Vm (St.oP (id:=4) (T:=38) (vs:=V.pubL 8 YL (aL (iz (m:Int) l)) (V.pubL 7 YL (aL lb) (V.pubL 6 YL (aL la) (mxR d k (.bz 7 2 lb.length))))) (cs:=bO (d.set k lb)) Zj p2)<|Vm (St.oP (id:=5) (T:=38) (vs:=V.pubL 8 YL (aL (iz (m:Int) l)) (V.pubL 7 YL (aL lb) (V.pubL 6 YL (aL la) (mxR d k (.bz 8 2 l.length))))) (cs:=bO (d.set k (iz (m:Int) l))) Zj p3)<|Wk [(6,.ptr 1 0),(7,.ptr 2 0),(8,.pv (dbP d)),(10,.bJ 3 1 d.length),(11,.bJ 4 1 d.length),(12,.bJ 5 1 d.length),(13,ZI m)] [(1,oZ S),(2,.mix 32 [.pv (al P)]),(3,.cells 38 (bO (d.set k la))),(4,.cells 38 (bO (d.set k lb))),(5,.cells 38 (bO (d.set k (iz (m:Int) l))))] 6 (aS O) (aO Zj) O O<|Vm (St.Ct 3 [10] O ⟨O,Zp⟩ Zi)<|Vm (St.Ct 4 [11] O ⟨O,Zp⟩ Zi)<|Vm (St.Ct 5 [12] O ⟨O,Zp⟩ Zi) ?_;rw[aG (show(bO (d.set k la)).length<=d.length*1 by omega),aG (show(bO (d.set k lb)).length<=d.length*1 by omega),aG (show(bO (d.set k (iz (m:Int) l))).length<=d.length*1 by omega)];refine Z3 O<|Rs O (aa call8 hof O)<|Ar 6 O<|Z3 O<|Rs O (aa call8 ab O)<|Ar 6 O<|Z3 O<|Rs O (aa call8 ac O)<|Ar 6 O<|Z3 O<|Rs O (aa call8 ad O)<|Ar 6 O<|Gr O<|Ar 14 O<|Gc O (λL=>absurd L Zk) (λL=>?_);refine Vl<|Z2 O<|Rs O (aa call9 had O)<|Ar 6 O<|VC 10 O<|Dr 2 O<|YM O (λτ h=>aa call11 hwh (h.aE O))<|YM O (λτ h=>aa call10 hsc (h.aE O))<|Dr 6 O ⟨Zj,Z2 O<|Rs O (aa call12 hs0 O)<|Y3 O<|Rg O (aa call12 hsm O)<|Y2 O<|Rg O (aa call4 hsa O)<|Y2 O<|YR O O⟩
end
theorem lR{P:Program}{n:String}{cs:YT}(j:P.globalNamed n=WB g)(h:W.var? P n=WB cs):∃t fz,W.heap[g]? =WB (.cells cs t fz):=by
 simp only[World.var?,j,Option.bind_some]at h;split at h
 .grind
 cases h
theorem vG{o:Obj}(h:W.heap[g]? =WB o):g<W.heap.size:=(VP.1 h).1
theorem gv0:prog.globalNamed "internal/strconv.uint64pow10" =WB 1:=Zj
theorem gv4:prog.globalNamed "strconv.ErrSyntax" =WB 2:=Zj
theorem gv5:prog.globalNamed "strconv.ErrRange" =WB 3:=Zj
theorem gt0:(prog.globals[1]?).map (·.type)=WB 383:=Zj
theorem gt4:(prog.globals[2]?).map (·.type)=WB 310:=Zj
theorem gt5:(prog.globals[3]?).map (·.type)=WB 310:=Zj
theorem Jy(h:W.ShapedOpen prog):∃(m:Int)(t:TypeId)(fz:Nat×Nat),W.heap[0]? =WB (.cells #[.int .i64 m] t fz):=by
 obtain⟨cs,hh,hs,hr⟩:=h.1 0 #[.int .i64 0] 3 (Xh Zj) Zj;obtain⟨ts,hts,_,hall⟩:=hr Zj;rw[show prog.cellTypes prog.depth 3=WB [3] by kernel_rfl]at hts;cases hts;have q:cs.size=1:=hs;obtain⟨u,hu',hok⟩:=hall 0 cs[0] (by simp[q]);obtain rfl:u=3:=by simpa using hu'.symm
 have j:∃m,cs[0]= .int .i64 m:=by
  unfold Cell.ok at hok;rw[aan]at hok;cases hv:cs[0]<;>rw[hv]at hok<;>simp at hok;rename_i k m;obtain rfl:=hok.1;exact⟨m,O⟩
 obtain⟨m,j⟩:=j;have:cs= #[.int .i64 m]:=by grind
 rw[this]at hh;exact⟨m,_,_,hh⟩
def Um:List (String×DataW Unit):=Rows.cofactorAddsRow.laid
theorem QY(j:W.ShapedOpen prog)(h:laidMetH prog Um W):r4 W (λb=>b<W.heap.size):=by
 rw[MakeChecks.laidMetH_plain _ _ _ Zj]at h;obtain⟨ps,⟨g0,t0,cs0,f0,p0,q0,hg0,ht0,hv0,hd0,⟨g1,t1,cs1,f1,p1,q1,hg1,ht1,hv1,hd1,⟨g2,t2,cs2,f2,p2,q2,hg2,ht2,hv2,hd2,⟨g4,t4,cs4,f4,p4,q4,hg4,ht4,hv4,hd4,⟨g5,t5,cs5,f5,p5,q5,hg5,ht5,hv5,hd5,_⟩,_⟩,_⟩,_⟩,_⟩,_,_⟩:=h;obtain rfl:=Xl (gv0.symm.trans hg2);obtain rfl:=Xl (gv5.symm.trans hg4);obtain rfl:=Xl (gv4.symm.trans hg5);obtain rfl:=Xl (gt0.symm.trans ht2);obtain rfl:=Xl (gt5.symm.trans ht4);obtain rfl:=Xl (gt4.symm.trans ht5);have q:cs2.toList=Lib.pow10Tab.map λz=>Value.int .u64 z:=Lib.cells_of_tab underlying383 aaE Zj Zj hd2
 obtain⟨_,u4,v4,e4,_⟩:=iface_of_trod underlying310 hd4;obtain⟨_,u5,v5,e5,_⟩:=iface_of_trod underlying310 hd5;obtain⟨x2,y2,b2⟩:=lR gv0 hv2;obtain⟨x4,y4,b4⟩:=lR gv5 hv4;obtain⟨x5,y5,b5⟩:=lR gv4 hv5;obtain⟨m,x1,y1,b1⟩:=Jy j;obtain⟨l2⟩:=cs2;obtain⟨l4⟩:=cs4;obtain⟨l5⟩:=cs5;simp only at q e4 e5;subst q e4 e5;intro x hx;simp only[glb,By,Xv,Y0]at hx;rcases hx with rfl|rfl|rfl|rfl
 .exact⟨vG b2,_,b2,_,_,O⟩
 .exact⟨vG b1,_,b1,_,_,_,O⟩
 .exact⟨vG b5,_,b5,_,_,_,_,O⟩
 exact⟨vG b4,_,b4,_,_,_,_,O⟩
noncomputable def witW(os:Os):World:=World.doorLaid prog 54 os
theorem Fx(os:Os)(args:YT):((witW os).forCall (λ_ _=>0) ⟨#[],args,[]⟩).Shaped prog:=World.shaped_of_RefB Zj Zj
theorem R6(os:Os)(args:YT):laidMetH prog Um ((witW os).forCall (λ_ _=>0) ⟨#[],args,[]⟩).memory:=
 laidMetH_of_parts3 (fuel:=8) (laidMet_of_run' 8 Zj Zj) Zj Zj
section
open Go.RowKit Go.ChangeShapes Go.WideShapes Go.Deep
def OpT(P:Program)(t:TypeId){α:Type}(f:α->na)(I:α->Prop):Prop:=
 ∀(H:Type)(enc:TypeId×Value->H)(w:World)(base:Nat)(spare:Nat->Bool)(held:Bool)(fuel:Nat)(cs:e7)(x:DataW H×List MemPlace),
  DataW.trod enc P w base spare held fuel t cs=WB x->∃a,I a/\ZG w (λb=>b<w.heap.size) (f a) cs
section
variable {P:Program}{t:TypeId}
theorem OpT.map{β:Type}{f:α->na}{I:α->Prop}{f':β->na}{I':β->Prop}(h:OpT P t f I)(g:α->β)(j:∀a,f' (g a)=f a)(q:∀a,I a->I' (g a)):OpT P t f' I':=
 λH enc w base spare held fuel cs x hx=>by
  obtain⟨a,ha,hr⟩:=h H enc w base spare held fuel cs x hx;exact⟨g a,q a ha,by rw[j];exact hr⟩
theorem ZG.one{p:PV}(h:ZH w R p u):ZG w R [p] [u]:=ZG.cons h ZG.nil
theorem OpT.int(j:P.underlying t=WB (.int .i64)):OpT P t (λn:Int=>[.int .i64 n]) (λn=> -9223372036854775808<=n/\n<=9223372036854775807):=
 λH enc w base spare held fuel cs x hx=>by
  obtain⟨n,rfl,_,hw⟩:=DataW.trod_int j hx;exact⟨n,bounds_i64 hw,ZG.one (by simp only[ZH])⟩
theorem Fo{f:α->na}:∀{n:Nat}{A:Nat->α}{us:Nat->e7},(∀i,i<n->ZG w R (f (A i)) (us i))->ZG w R (((List.range n).map A).flatMap f) ((List.range n).flatMap us):=by
 intro n A us h;induction n with
 |zero=>simpa using ZG.nil
 | succ n ih=>
   rw[XC,Wf,Xn,Xn];refine ZG.append (ih λi hi=>h i Zi) ?_;simpa using h n Zi
theorem w8{c:Nat}{us:Nat->e7}:∀{n:Nat},(∀i,i<n->(us i).length=c)->((List.range n).flatMap us).length=n*c/\∀i j,i<n->j<c->((List.range n).flatMap us)[i*c+j]? =(us i)[j]? :=by
 intro n h;induction n with
 |zero=>exact⟨Zm,λi j hi=>absurd hi Zi⟩
 | succ n ih=>
   obtain⟨h1,h2⟩:=ih λi hi=>h i Zi
   rw[XC,Xn];refine⟨by rw[Hb,h1,List.flatMap_singleton,h n Zi,Za],λi j hi hj=>?_⟩;by_cases e:i<n
   .rw[List.getElem?_append_left (by rw[h1];calc i*c+j<i*c+c:=Zi
     _=(i+1)*c:=by rw[Za]
     _<=n*c:=WK c e)]
    exact h2 i j e hj
   obtain rfl:i=n:=Zi;rw[List.getElem?_append_right (by rw[h1];omega),h1,List.flatMap_singleton,show i*c+j-i*c=j by omega]
theorem OpT.sl{e:TypeId}{f:α->na}{I:α->Prop}(c:Nat)[Inhabited α](ht:P.underlying t=WB (.slice e))(hc:P.cellsOf e=c)(h:OpT P e f I):
  OpT P t (λl:List α=>[.sl WC l.length (l.flatMap f)]) (λl=>l.length<=maxLen/\∀a∈l,I a):=
 λH enc w base spare held fuel cs x hx=>by
  rcases open_slice ht hx with⟨rfl,rfl⟩|⟨a,len,cap,m,n,D,Pl,rfl,hb,hl,hm,hmm,hxe,hel⟩
  .refine⟨[],⟨Zm,Zm⟩,ZG.one ?_⟩;simp only[ZH];exact⟨WC,0,O,BY _,by simp[maxLen],(λ_ e=>by cases e),(λe=>by cases e),λe=>absurd rfl e⟩
  have hlm:len<=m:=by rw[hmm];split<;>omega
  rw[hc]at hel;have T:∀i,i<len->∃p:α×e7,I p.1/\ZG w (λb=>b<w.heap.size) (f p.1) p.2/\p.2.length=c/\∀j,j<c->w.cell? (a.add (i*c+j))=p.2[j]? :=λi hi=>by
   obtain⟨cs',L,M⟩:=hel i Zi;obtain⟨y,hy,hr⟩:=h H enc w base spare held n cs' _ M;obtain⟨_,h3,h4⟩:=World.cells?_some L;exact⟨(y,cs'),hy,hr,h3,λj hj=>by rw[<-add_add];exact h4 j hj⟩
  obtain⟨F,hF⟩:=choose_lt T;have E:((List.range len).map λi=>(F i).1).length=len:=Zm;refine⟨(List.range len).map λi=>(F i).1,⟨by rw[E];omega,λy hy=>?_⟩,ZG.one ?_⟩
  .obtain⟨i,hi,rfl⟩:=VS.1 hy;exact(hF i (Wi.1 hi)).1
  rw[E];simp only[ZH];refine⟨WB a,cap,O,hl,hm,(λ_ e=>by cases e),(λe=>by cases e),λaa=>?_⟩;have q:=Fo (w:=w) (R:=λb=>b<w.heap.size) (f:=f) (A:=λi=>(F i).1) (us:=λi=>(F i).2) λi hi=>(hF i hi).2.1
  obtain⟨hL,hat⟩:=w8 (us:=λi=>(F i).2) (c:=c) (n:=len) λi hi=>(hF i hi).2.2.1
  generalize hU:(List.range len).flatMap (λi=>(F i).2)=U at q hL hat
  have z:0<len*c:=by
   rw[<-hL,ZG.length q];exact Ww.2 aa
  have X:0<len:=Nat.pos_of_mul_pos_right z;have Y:0<c:=Nat.pos_of_mul_pos_left z;have B:∀k,k<len*c->w.cell? (a.add k)=U[k]? :=λk hk=>by
   have e:k=k/c*c+k%c:=by rw[Wq];exact(Yv k c).symm
   have L:k/c<len:=Nat.div_lt_of_lt_mul (by rw[Wq];exact hk);have M:k%c<c:=WI _ Y;rw[e,hat _ _ L M];exact(hF _ L).2.2.2 _ M
  have G:=B 0 z;rw[AT Zi]at G;obtain⟨b,off,sp⟩:=a;have Z:sp=WC:=by
   cases sp with
   |none=>rfl
   | some s=>
     exfalso;have e:(⟨b,off,WB s⟩:Addr).add 0=⟨b,off,WB s⟩:=rfl;rw[e]at G;unfold World.cell? at G;split at G
     .simp at G
     cases G
  subst Z;rw[Addr.add_lit]at G;refine⟨b,off,U,O,q,World.block_lt_of_cell? w _ G,λj hj=>?_⟩;have:=B j Zi;rw[Addr.add_lit]at this;exact this
end
section
variable {H:Type}{enc:TypeId×Value->H}{P:Program}{w:World}{base:Nat}{spare:Nat->Bool}{held:Bool}{t:TypeId}{v:Value}{d:DataW H}{ps:List MemPlace}{r:Go.Reach}{b0:Nat}
theorem OpT.one{p:α->PV}{I:α->Prop}(ho:OpT P t (λa=>[p a]) I)(j:v.cells= #[v])(h:DataW.Trod enc P w base spare held t v d ps):∃a,I a/\ZH w (λb=>b<w.heap.size) (p a) v:=by obtain⟨fuel,hf⟩:=h;obtain⟨a,ha,hr⟩:=ho _ _ _ _ _ _ _ _ _ hf;refine⟨a,ha,?_⟩;rw[j]at hr;simp only[ZG]at hr;obtain⟨u,vs,e,h1,_⟩:=hr;simp at e;rw[e.1];exact h1
end
#print axioms OpT.sl
end
theorem TH:OpT prog 3 (λn:Int=>[.int .i64 n]) (λn=> -9223372036854775808<=n/\n<=9223372036854775807):=OpT.int aan
theorem S1:OpT prog 22 (λl:cP=>[al l]) (λl=>l.length<=9223372036854775807):=
 (OpT.sl 1 aal Zj TH).map id (λl=>by
  show [PV.sl WC l.length (aI l)]=[PV.sl WC l.length (l.flatMap λn=>[PV.int .i64 n])]
  congr 2
  induction l with
  |nil=>rfl
  |cons x l ih=>simp[<-ih]) (λl h=>h.1)
theorem op_u8:OpT prog 5 (λn:Int=>[.int .u8 n]) (λn=>0<=n/\n<=255):=
 λH enc w base spare held fuel cs x hx=>by
  obtain⟨n,rfl,_,hw⟩:=DataW.trod_int aau hx;exact⟨n,bounds_u8 hw,ZG.one (by simp only[ZH])⟩
end Go.Proofs.YthicoeegbdboeaaGreatDoor
