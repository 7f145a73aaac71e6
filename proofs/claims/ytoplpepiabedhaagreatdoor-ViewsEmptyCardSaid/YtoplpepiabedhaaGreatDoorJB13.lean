/- Lemmas. No condition. -/
import Derived.Test.YtoplpepiabedhaaGreatDoorJB12
set_option maxRecDepth 100000
set_option maxHeartbeats 4000000
open Go.RowKit Go.Proofs.Tryz
namespace Go.Proofs.YtoplpepiabedhaaGreatDoor
section
open Go.RowKit Mk Jn Mm Vw
theorem tJ(l:List Bool)(h0:0<l.length)(hl:l.length<=1000000):FnO prog 205 0 1 [.pv (NJ l)] [] (fun v ob'=>v= .osl 0 1 l.length/\ob'=ax [(0,.cells 4 (bZ l))]):=by
 refine FnO.of func205 O ntmps205 Tw fun m0 w0 F R0=>?_
 refine Z1 O O<|Z1 O O ?_;refine RL.call O (fX underlying215 O ?_);intro b hb;refine Gc O O (fun hc4=>absurd hc4 (by have:=RU.1 (hb hc4);subst this;simp at h0)) (fun hc4=>?_);refine OR<|Gr O<|Rs 5 O O (cI 0 HG O)<|A1 O<|Rs 7 O O (eY 1 HG O O O (.inl ⟨none,O⟩) Tw (fun c hc=>by obtain⟨y,_,rfl⟩:=IT.1 hc;rfl) Ts O) ?_;exact A1 O<|Gt O<|⟨[(2,.osl 0 1 l.length)],[(0,.cells 4 (bZ l))],[.osl 0 1 l.length],OV [1] ⟨PG (b:=V.osl 1 1 (0+l.length)) O (by rw[PJ];rfl),TB⟩ ⟨PG (b:=some (Ob.cells 4 ([]++bZ l))) O (by rw[Qa];rfl),TB⟩ O O Tu O,O,O,O,O,O⟩
theorem nw1{av:Av}{b:Nat}(h0:av b=true):(nwO b 1).all av=true:=by
 show(av (b+0)&&true)=true;rw[SC,h0];rfl
theorem Oi{A:List Int}{V:List ByteArray}(h:V.length=A.length){j:Nat}(hj:j<A.length):(A.zip V)[j]? =some (A[j],V[j]'Ts):=by
 rw[By Tx,List.getElem_zip]
theorem xD{A:List Int}{V:List ByteArray}(h:V.length=A.length){j:Nat}(hj:j<A.length):(A.zip V).take (j+1)=(A.zip V).take j++[(A[j],V[j]'Ts)]:=by
 rw[List.take_add_one,Oi h hj];rfl
def E9(x:Ch)(A:List Int)(V:List ByteArray):PV:=if FI x A V=true then .tup [On (xy x A V),.bool true]else .tup [.agg [.sl none 0 [],.sl none 0 []],.bool false]
theorem Fc(x:Ch)(A:List Int)(V:List ByteArray)(n:Nat)(h0:0<n)(hn:n<=1000000)(hx:x.v.length=n)(hs:x.s.length=n)(hA:A.length<=1000000)(hV:V.length=A.length)(hr:∀a∈A,0<=a/\a<n):FnP prog 124 [On x,ai A,aZ V] (· =E9 x A V):=by
 refine FnP.fg2 (FnP.ofC func124 O ntmps124 Tw fun m0 w0 F R0=>?_);have hc1:=tB x.v Ts Ts;have hc2:=tJ x.s Ts Ts;have hzl:(A.zip V).length=A.length:=by simp;omega
 refine Z3 O O O O<|Z3 O O O O ?_;refine Gl O (st:=fun TC:Nat=>mkS [(1,.pv (ai A)),(2,.pv (aZ V)),(3,.ptr 0 0),(6,.ptr 1 0),(13,.pv (ai A)),(14,pIi A.length),(15,pIi TC)] [(0,.mix 217 [.pv (aZ x.v),.pv (NJ x.s)]),(1,.mix 217 [.pv nS,.pv nS])] 2)
  (I:=fun TC=>TC<=A.length/\((A.zip V).take TC).all (agr1 x)=true) (μ:=fun TC=>A.length-TC) (x0:=(0)) (OU (aS O) (aO Tt) O O) (⟨cd _,O⟩) ?_
 rintro j ⟨hj,hall⟩;refine Z1 O O ?_;refine Gp O O (fun hc16=>?_) (fun hc16=>?_)
 ·have hlj:j<A.length:=Ts;have hzs:=xD hV hlj;obtain⟨a,haa⟩:=Bb (hr _ (ar hlj)).1;have hal:a<n:=by have:=(hr _ (ar hlj)).2;omega
  have hpv:(aF A)[j*1]? =some (.int .i64 (a:Int)):=by rw[<-haa];simp[hlj]
  have hpn:=aE hlj;have hjv:j<V.length:=Ts;have hsv:=bz hjv;have hsn:=bA hjv;have hax:a<x.v.length:=Ts;have has:a<x.s.length:=Ts;have hbv:=Na has;have hbn:=M1 has;have hnv:=bz hax;have hnn:=bA hax;have hag:agr1 x (A[j],V[j])=(!x.s[a]||decide (x.v[a]=V[j])):=by simp[agr1,haa,List.getD,hax,has]
  refine OR<|Z2 O O O<|Rs 19 O O (au ⟨_,underlying3,O⟩ O hpv)<|Y2 O O ?_;by_cases hsg:x.s[a]=true
  ·rw[hsg]at hbv hag;refine Ge O follows [0,1,2,3,4,5,6,7,8,9,10,11,12,13,14,15,16] Tt ?_;iterate 4 refine D1 O O ?_
   refine Ds 24 [] O O O (fun τ h=>au ⟨_,underlying4,O⟩ (Ee h 0 O O) hbv) O Tt ?_;iterate 5 refine D1 O O ?_
   refine Dg 30 [] O O O O (fun τ h=>au ⟨_,underlying9,O⟩ (Ee h 0 O O) hnv) O Tt ?_;iterate 3 refine D1 O O ?_
   refine Dg 34 [] O O O O (fun τ h=>au ⟨_,underlying9,O⟩ (Ee h 0 O O) hsv) O Tt ?_;iterate 2 refine D1 O O ?_
   refine⟨Tt,?_⟩;refine Gc O O (fun hc36=>?_) (fun hc36=>?_)
   ·have hne:x.v[a]≠V[j]:=fun e=>by rw[e]at hc36;simp at hc36
    have hf:FI x A V=false:=by
     unfold FI;rw[<-PK (j+1) (A.zip V),SI,hzs,SI];simp[hag,hne]
    exact Z3 O O O O<|Gt O<|⟨_,_,O,O,⟨az ⟨_,underlying217,O⟩ M7 O O O,TB⟩,by rw[E9,dw (by rw[hf];decide)];rfl⟩
   ·have heq:x.v[a]=V[j]:=Mc hc36;exact OR<|Z2 O O O<|⟨(j+1),OU (aS O) (aO Tt) O O,⟨Ts,by rw[hzs,SI,hall];simp[hag,heq]⟩,Ts⟩
  ·rw[Sr hsg]at hbv hag;refine Ge O follows [0,1,2,3,4,5,6,7,8,9,10,11,12,13,14,15,16] Tt ?_;iterate 4 refine D1 O O ?_
   refine Ds 24 [] O O O (fun τ h=>au ⟨_,underlying4,O⟩ (Ee h 0 O O) hbv) O Tt ?_;iterate 12 refine D1 O O ?_
   refine⟨Tt,?_⟩;refine Gc O O (fun hc36=>?_) (fun hc36=>?_)
   ·exact absurd hc36 Tu
    done
   ·exact OR<|Z2 O O O<|⟨(j+1),OU (aS O) (aO Tt) O O,⟨Ts,by rw[hzs,SI,hall];simp[hag]⟩,Ts⟩
 ·have hag:FI x A V=true:=by rw[aX Ts]at hall;exact hall
  refine Gx O<|Ge O follows [0,1,2,3,4,5,6,7,8] Tt ?_;iterate 2 refine D1 O O ?_
  refine Ds 41 [] O O O (fun τ h=>bo [] 2 call117 hc1 (h.args.trans O) O O O trivial Tu (nw1 (h.n 0 _ O))) O Tt ?_;iterate 2 refine D1 O O ?_
  refine Ds 44 [] O O O (fun τ h=>bo [] 3 call205 hc2 (h.args.trans O) O O O trivial Tu (nw1 (h.n 0 _ O))) O Tt ?_;iterate 3 refine D1 O O ?_
  refine⟨Tt,?_⟩;refine Z3 O O O O ?_;refine Gl O (st:=fun x_1:Nat×Ch=>mkS [(2,.pv (aZ V)),(6,.ptr 1 0),(10,.ptr 4 0),(46,.pv (ai A)),(47,pIi A.length),(48,pIi x_1.1)] [(1,.mix 217 [.pv nS,.pv nS]),(2,.cells 9 (bO x_1.2.v)),(3,.cells 4 (bZ x_1.2.s)),(4,.mix 217 [.osl 2 1 x.v.length,.osl 3 1 x.s.length])] 5)
   (I:=fun x_1=>x_1.1<=A.length/\x_1.2=((A.zip V).take x_1.1).foldl AR x) (μ:=fun x_1=>A.length-x_1.1) (x0:=(0,x)) (OU (aS O) (aO Tt) O O) (⟨cd _,O⟩) ?_
  rintro⟨j,y⟩ ⟨hj,hy⟩;try simp only at hj hy ⊢
  have hyl:=yx ((A.zip V).take j) x;rw[<-hy]at hyl;refine Z1 O O ?_;refine Gp O O (fun hc49=>?_) (fun hc49=>?_)
  ·have hlj:j<A.length:=Ts;have hzs:=xD hV hlj;obtain⟨a,haa⟩:=Bb (hr _ (ar hlj)).1;have hal:a<n:=by have:=(hr _ (ar hlj)).2;omega
   have hpv:(aF A)[j*1]? =some (.int .i64 (a:Int)):=by rw[<-haa];simp[hlj]
   have hpn:=aE hlj;have hjv:j<V.length:=Ts;have hsv:=bz hjv;have hsn:=bA hjv;have hput:AR y (A[j],V[j])=⟨y.v.set a V[j],y.s.set a true⟩:=by simp[AR,haa]
   have e1:(bO y.v).set (a*1) (.str V[j])=bO (y.v.set a V[j]):=by simp[Qi]
   have e2:(bZ y.s).set (a*1) (.bool true)=bZ (y.s.set a true):=by simp[Qi]
   have hl1:(bO y.v).length=x.v.length:=by simp[hyl.1]
   have hl2:(bZ y.s).length=x.s.length:=by simp[hyl.2]
   refine OR<|Z2 O O O<|Rs 52 O O (au ⟨_,underlying3,O⟩ O hpv)<|Y2 O O<|Ge O follows [0,1,2,3,4,5,6,7,8,9,10,11,12,13] Tt ?_;iterate 9 refine D1 O O ?_
   refine Ds 62 [] O O O (fun τ h=>au ⟨_,underlying9,O⟩ (Ee h 0 O O) hsv) O Tt<|Ds 63 [_] O O O (fun τ h=>aq a underlying39 sz9 (Ee h 0 O O) (Eo h 0 O O) (Ee h 1 O O) O Ts) O Tt<|DL.step (d:=none) [_] O O O (fun τ h=>bK sz9 (Ee h 0 O O) (Eo h 0 O O) (Ee h 1 O O) O Ts) O Tt<|Ds 64 [_] O O O (fun τ h=>aq a underlying215 sz4 (Ee h 0 O O) (Eo h 0 O O) (Ee h 1 O O) O Ts) O Tt<|DL.step (d:=none) [_] O O O (fun τ h=>bK sz4 (Ee h 0 O O) (Eo h 0 O O) (Ee h 1 O O) O Ts) O Tt ?_;refine⟨Tt,?_⟩;exact Z2 O O O<|⟨(j+1,⟨y.v.set a V[j],y.s.set a true⟩),OU (aS O) ⟨Tt,ag (fun c=>some (Ob.cells 9 c)) e1,ag (fun c=>some (Ob.cells 4 c)) e2,Tt,TB⟩ O O,⟨Tz,by simp only;rw[hzs,Sk,<-hy,QQ,List.foldl_nil,hput]⟩,Tz⟩
  ·have hye:y=xy x A V:=by rw[hy,aX Ts];rfl
   rw[hye]at hyl;rw[hye];exact Gx O<|OT (OX (o:= .cells 9 (bO (xy x A V).v)) 2 Tt O)<|OT (OX (o:= .cells 4 (bZ (xy x A V).s)) 3 Tt O)<|Z3 O O O O<|Gt O<|⟨_,_,O,O,⟨az ⟨_,underlying217,O⟩ M7 O O O,TB⟩,by rw[E9,AT hag,<-hyl.1,<-hyl.2];rfl⟩
end
section
open Go.RowKit Mk Jn Mm Vw
noncomputable abbrev vwC:Option (List En)->List PV
 |none=>[.nilmap,.nilmap]
 |some E=>[.mp (bR E) (jA E),.mp (bR E) (gvsV E)]
noncomputable def vwsC(vs:List (Option (List En))):List PV:=vs.flatMap vwC
theorem vr(o:Option (List En)):(vwC o).length=2:=by cases o<;>rfl
theorem ml(vs:List (Option (List En))):(vwsC vs).length=vs.length*2:=bV _ 2 vr vs
theorem xH{vs:List (Option (List En))}{k:Nat}(h:k<vs.length):((vwsC vs).drop (k*2)).take 2=vwC vs[k]:=cm _ 2 vr vs k h
noncomputable abbrev bldM(S:Sch)(D:VD)(T:List (List Rw))(n:Nat)(left:Int):List V:=[.pv (.sl none S.attrs.length (aB S.attrs)),.pv (.sl none S.rels.length (aJ S.rels)),.pv (.sl none S.feats.length (aC S.feats)),pIi S.label,.pv (ba D.chs),.pv (ba D.kes),.pv (ba D.hos),.pv (ai D.wa),.pv (dbP T),.osl 9001 2 n,pIi left]
noncomputable abbrev bldO(S:Sch)(D:VD)(T:List (List Rw))(n:Nat)(left:Int)(vs:List (Option (List En))):List (Nat×Ob):=[(big,.mix 101 (bldM S D T n left)),(9001,.cells 110 (vwsC vs))]
theorem Ko{T:List (List Rw)}{r:Nat}(h:r<T.length):(dC T)[r*1]? =some (mf T[r]):=by simp[dC,h]
def Ed(x:Rw):Itm:=⟨x.v,Gv.whole x.w.toNat⟩
theorem tO{l:List Prt}{i:Nat}(h:i<l.length):ptsC (l.take i)++ptC l[i]=ptsC (l.take (i+1)):=by
 rw[AI h];simp only[ptsC,PS,Py,Sx,PZ]
theorem xZ(a b:List Prt):ptsC (a++b)=ptsC a++ptsC b:=by simp[ptsC]
noncomputable abbrev ptsP(l:List Prt):PV:= .sl none l.length (ptsC l)
theorem vn(S:Sch)(hSr:S.rels.length<=1000)(D:VD)(T:List (List Rw))(n:Nat)(left:Int)(vs:List (Option (List En)))(hvs:vs.length=n)(hT:T.length=S.rels.length)(hTl:∀l∈T,l.length<=1000)(hw:∀l∈T,∀x∈l,0<=x.w/\x.w<=9223372036854775807)
  (v:Nat) (HS CS:List Int) (hv1:v<D.hos.length) (hv2:v<D.chs.length) (hHS:D.hos[v]=HS) (hCS:D.chs[v]=CS) (hHl:HS.length<=1000) (hCl:CS.length<=1000) (hH:∀r∈HS,∃k:Nat,k<S.rels.length/\r=(k:Int))
  (hC:∀c∈CS,∃k:Nat,k<n/\k<D.kes.length/\c=(k:Int)) (f:Int->List En) (K:Int->List Int) (hf:∀(k:Nat)(h:k<vs.length)(h':k<D.kes.length),(k:Int)∈CS->vs[k]=some (f k)/\D.kes[k]=K k/\EnOk (f k)/\(f k).length<=1000000):
  FnO prog 119 2 0 [.ptr big 0,pIi v] (bldO S D T n left vs) (fun r ob'=>r= .pv (ptsP ((HS.map fun r=>eT (oT S r) (l6 T r))++CS.map fun c=>ct (K c) (f c)))/\ob'=ax (bldO S D T n left vs)):=by
 refine FnO.of func119 O ntmps119 Tw fun m0 w0 F R0=>?_
 have hov:=fo hv1;have hon:=fu hv1;have hcv:=fo hv2;have hcn:=fu hv2;rw[hHS]at hov;rw[hCS]at hcv;obtain⟨hp,hhp⟩:∃hp:List Prt,hp=HS.map fun r=>eT (oT S r) (l6 T r):=⟨_,O⟩
 obtain⟨cp,hcp⟩:∃cp:List Prt,cp=CS.map fun c=>ct (K c) (f c):=⟨_,O⟩
 have hhl:hp.length=HS.length:=by rw[hhp,Pg]
 have hcl:cp.length=CS.length:=by rw[hcp,Pg]
 rw[<-hhp,<-hcp];refine Z1 O O<|Z1 O O<|OT (OZ 5 0 2 222 O O)<|Gr O ?_;iterate 6 refine A1 O ?_
 refine Rs 19 O O (ae v underlying95 pN O O O hv1 hon)<|Rs 20 O O (au ⟨_,underlying22,O⟩ O hov)<|Y2 O O ?_;refine Gl O (st:=fun TC:Nat=>mkS [(0,.ptr big 0),(1,pIi v),(5,.gsl 0 2 TC),(20,.pv (ai HS)),(21,pIi HS.length),(22,pIi TC)] [(big,.mix 101 [.pv (.sl none S.attrs.length (aB S.attrs)),.pv (.sl none S.rels.length (aJ S.rels)),.pv (.sl none S.feats.length (aC S.feats)),pIi S.label,.pv (ba D.chs),.pv (ba D.kes),.pv (ba D.hos),.pv (ai D.wa),.pv (dbP T),.osl 9001 2 n,pIi left]),(0,.gro 222 (ptsC (hp.take TC))),(9001,.cells 110 (vwsC vs))] 1)
  (I:=fun TC=>TC<=HS.length) (μ:=fun TC=>HS.length-TC) (x0:=(0)) (OU (aS O) (aO Tt) O O) (cd _) ?_
 rintro k hk;refine Z1 O O ?_;refine Gp O O (fun hc23=>?_) (fun hc23=>?_)
 ·have hlt:k<HS.length:=Ts;have hpk:k<hp.length:=Ts;obtain⟨r,hr,hre⟩:=hH _ (ar hlt);have hrT:r<T.length:=Ts;have hpv:(aF HS)[k*1]? =some (.int .i64 (r:Int)):=by rw[<-hre];simp[hlt]
  have hpn:=aE hlt;have hrne:=fY hr;have hra:(aJ S.rels)[r*2+1]? =some (ai S.rels[r].2):=by
   have h2:(((aJ S.rels).drop (r*2)).take 2)[1]? =[PV.str S.rels[r].1,ai S.rels[r].2][1]? :=by rw[dJ hr]
   simpa[Pw,Qf]using h2
  have hta:=Ko hrT;have htn:=wG hrT;have hwT:=hw _ (ar hrT);have hlT:=hTl _ (ar hrT);have hgp:hp[k]=⟨S.rels[r].2,T[r].map Ed⟩:=by
   simp only[hhp,Qm,hre];simp[eT,oT,l6,List.getD,hr,hrT,Ed]
  have hsn:=tO hpk;rw[hgp]at hsn;have htk:(ptsC (hp.take k)).length=k*2:=by rw[rj,Pj,Qt Ts]
  generalize S.rels[r].2=A at*;generalize T[r]=l at*;obtain⟨I,hI⟩:∃I:List Itm,I=l.map Ed:=⟨_,O⟩;have hIl:I.length=l.length:=by rw[hI,Pg]
  rw[<-hI]at hsn;refine OR<|Z1 O O<|Rs 25 O O (au ⟨_,underlying3,O⟩ O hpv)<|A1 O<|Gr O ?_;iterate 6 refine A1 O ?_
  refine Rs 32 O O (ae r underlying27 JV O O O hr hrne)<|A1 O<|Rs 34 O O (au ⟨_,underlying22,O⟩ O hra)<|Y3 O O O<|OT (St.c8 (T':=222) (cs:=[.pv (ai A),.pv nS]) 1 1 2 7 224 Tt O O)<|Gr O ?_;iterate 5 refine A1 O ?_
  refine Rs 41 O O (ae r underlying33 sz38 O O O hrT htn)<|Rs 42 O O (au ⟨_,underlying38,O⟩ O hta)<|Y2 O O ?_;refine Gl O (st:=fun x_1:Nat=>mkS [(0,.ptr big 0),(1,pIi v),(5,.gsl 0 2 k),(8,.ptr 1 0),(20,.pv (ai HS)),(21,pIi HS.length),(22,pIi k),(42,.pv (mf l)),(43,pIi l.length),(44,pIi x_1)] [(big,.mix 101 [.pv (.sl none S.attrs.length (aB S.attrs)),.pv (.sl none S.rels.length (aJ S.rels)),.pv (.sl none S.feats.length (aC S.feats)),pIi S.label,.pv (ba D.chs),.pv (ba D.kes),.pv (ba D.hos),.pv (ai D.wa),.pv (dbP T),.osl 9001 2 n,pIi left]),(0,.gro 222 (ptsC (hp.take k))),(1,.mix 222 [.pv (ai A),.gsl 2 7 x_1]),(2,.gro 224 (itsC (I.take x_1))),(9001,.cells 110 (vwsC vs))] 3)
   (I:=fun x_1=>x_1<=l.length) (μ:=fun x_1=>l.length-x_1) (x0:=(0)) (OU (aS O) (aO Tt) O O) (cd _) ?_
  rintro i hi;refine Z1 O O ?_;refine Gp O O (fun hc45=>?_) (fun hc45=>?_)
  ·have hli:i<l.length:=Ts;have hiI:i<I.length:=Ts;have hrow:=eK hli;have hrn:aY l≠[]:=fun e=>by have:=bJ l;rw[e]at this;simp at this;omega
   obtain⟨hw0,hw1⟩:=hwT _ (ar hli);have hgi:I[i]=Ed l[i]:=by simp[hI]
   have his:=sX hiI;rw[hgi]at his;have hik:(itsC (I.take i)).length=i*7:=by rw[qJ,Pj,Qt Ts]
   generalize l[i]=x at*;have hwh:=ka x.w.toNat Ts;have hwe:PV.int .i64 ((x.w.toNat:Nat):Int)= .int .i64 x.w:=by rw[Int.toNat_of_nonneg hw0]
   rw[hwe]at hwh;refine OR<|Gr O<|Rs 46 O O (ae i underlying38 Ls O O O hli hrn)<|Rs 47 O O (aR ⟨_,underlying41,O⟩ Ls O hrow O)<|Y2 O O<|Ge O follows [0,1,2,3,4,5,6,7,8,9,10,11] Tt ?_;iterate 6 refine D1 O O ?_
   refine Ds 54 [] O O O (fun τ h=>aa call54 hwh (h.aL O)) O Tt ?_;iterate 5 refine D1 O O ?_
   refine⟨Tt,?_⟩;exact Z2 O O O<|⟨(i+1),OV [0,1,5] (aT O) ⟨Tt,Tt,Tt,PG (b:=some (.gro 224 (itsC (I.take i)++itC (Ed x)))) Tt (ag (fun c=>some (Ob.gro 224 c)) his),Tt,TB⟩ O O Tu O,hli,Ts⟩
  ·have hie:I.take i=I:=aX Ts;have hil:i=I.length:=Ts;rw[hie,hil];refine Gx O<|OT (OX (o:= .gro 224 (itsC I)) 2 Tt O)<|Gr O ?_;iterate 5 refine A1 O ?_
   exact Z2 O O O<|⟨(k+1),OV [4] (aT O) ⟨Tt,PG (b:=some (.gro 222 (ptsC (hp.take k)++ptC ⟨A,I⟩))) Tt (ag (fun c=>some (Ob.gro 222 c)) hsn),Tt,TB⟩ O O Tu O,hlt,Ts⟩
 ·have hke:hp.take k=hp:=aX Ts;have hkl:k=hp.length:=Ts;rw[hke,hkl];refine Gx O<|Gr O ?_;iterate 6 refine A1 O ?_
  refine Rs 71 O O (ae v underlying95 pN O O O hv2 hcn)<|Rs 72 O O (au ⟨_,underlying22,O⟩ O hcv)<|Y2 O O ?_;refine Gl O (st:=fun x_2:Nat=>mkS [(0,.ptr big 0),(5,.gsl 0 2 (hp.length+x_2)),(72,.pv (ai CS)),(73,pIi CS.length),(74,pIi x_2)] [(big,.mix 101 [.pv (.sl none S.attrs.length (aB S.attrs)),.pv (.sl none S.rels.length (aJ S.rels)),.pv (.sl none S.feats.length (aC S.feats)),pIi S.label,.pv (ba D.chs),.pv (ba D.kes),.pv (ba D.hos),.pv (ai D.wa),.pv (dbP T),.osl 9001 2 n,pIi left]),(0,.gro 222 (ptsC (hp++cp.take x_2))),(9001,.cells 110 (vwsC vs))] 1)
   (I:=fun x_2=>x_2<=CS.length) (μ:=fun x_2=>CS.length-x_2) (x0:=(0)) (OU (aS O) ⟨Tt,ag (fun c=>some (Ob.gro 222 (ptsC c))) Tw,Tt,TB⟩ O O) (cd _) ?_
  rintro j hj;refine Z1 O O ?_;refine Gp O O (fun hc75=>?_) (fun hc75=>?_)
  ·have hlj:j<CS.length:=Ts;have hpj:j<cp.length:=Ts;obtain⟨c,hcn2,hck,hce⟩:=hC _ (ar hlj);have hcvs:c<vs.length:=Ts;obtain⟨g1,g2,g3,g4⟩:=hf c hcvs hck (by rw[<-hce];exact ar hlj);have hpv:(aF CS)[j*1]? =some (.int .i64 (c:Int)):=by rw[<-hce];simp[hlj]
   have hpn:=aE hlj;have hkv:=fo hck;have hkn:=fu hck;rw[g2]at hkv;have hrow:=xH hcvs;rw[g1]at hrow;have hgp:cp[j]=ct (K c) (f c):=by simp[hcp,hce]
   have hsn:=tO hpj;rw[hgp]at hsn;have hsn2:ptsC (hp++cp.take j)++ptC (ct (K c) (f c))=ptsC (hp++cp.take (j+1)):=by rw[xZ,xZ,Si,hsn]
   have htk:(ptsC (hp++cp.take j)).length=(hp.length+j)*2:=by rw[rj,Ph,Pj,Qt Ts]
   have hpt:=zQ (f c) (K c) g3 g4;generalize ct (K c) (f c)=p at*;generalize f c=E at*;refine OR<|Z1 O O<|Rs 77 O O (au ⟨_,underlying3,O⟩ O hpv)<|A1 O<|Ge O follows [0,1,2,3,4,5,6,7,8,9,10,11,12,13,14,15,16,17,18,19] Tt ?_;iterate 6 refine D1 O O ?_
   refine Ds 84 [_] O O O (fun τ h=>aq c underlying99 zb (Ee h 0 O O) (Eo h 0 O O) (Ee h 1 O O) O hcn2) O Tt<|Ds 85 [_] O O O (fun τ h=>sF ⟨_,underlying110,O⟩ zb (Ee h 0 O O) (Eo h 0 O O) hrow O) O Tt ?_;iterate 6 refine D1 O O ?_
   refine Ds 92 [] O O O (fun τ h=>ae c underlying95 pN (Ee h 0 O O) (Ee h 1 O O) O hck hkn) O Tt<|Ds 93 [] O O O (fun τ h=>au ⟨_,underlying22,O⟩ (Ee h 0 O O) hkv) O Tt<|Ds 94 [] O O O (fun τ h=>aa call199 hpt (h.aL O)) O Tt ?_;iterate 3 refine D1 O O ?_
   refine⟨Tt,?_⟩;exact Z2 O O O<|⟨(j+1),OV [2] (aT O) ⟨Tt,PG (b:=some (.gro 222 (ptsC (hp++cp.take j)++ptC p))) Tt (ag (fun c=>some (Ob.gro 222 c)) hsn2),Tt,TB⟩ O O Tu O,hlj,Ts⟩
  ·have hje:cp.take j=cp:=aX Ts;have hjl:hp.length+j=(hp++cp).length:=by rw[Ph];omega
   rw[hje,hjl];exact Gx O<|OT (OX (o:= .gro 222 (ptsC (hp++cp))) 0 Tt O)<|Z2 O O O<|Gt O<|⟨[(4,.pv (ptsP (hp++cp)))],bldO S D T n left vs,[.pv (ptsP (hp++cp))],OU (aS O) (aO Tt) O O,O,O,O,O,O⟩
end
section
section
variable {C:Ctx}{n:Nat}{σ:St}{x y:Operand}{dst:Option Tmp}{ty:TypeId}{pos:String}{after:Array Edge}{gd:Option (Nat×Bool)}
theorem mV{w:World}{R:Nat->Prop}:∀{vs:List PV}{us:List Value},RelPL w R vs us->vs.all PV.leaf=true->∀v∈us,v.oneCell'=true
 |[],us,h,_,v,hv=>by simp only[RelPL]at h;subst h;simp at hv
 | c::cs,us,h,hl,v,hv=>by
   simp only[RelPL]at h;obtain⟨u,vs',rfl,h1,h2⟩:=h;simp only[RB,sh]at hl;rcases AS.1 hv with rfl|hv
   ·exact h1.leaf hl.1
   ·exact mV h2 hl.2 v hv
theorem zR{T T':TypeId}{id off k:Nat}{cs vs:List PV}(hk:bQ C.P T k)(hx:σ.ev n x= .ptr id off)(ho:σ.ob id=some (.cells T' cs))(hv:σ.ev n y= .pv (.agg vs))(hlen:vs.length=k)(hlf:vs.all PV.leaf=true)(hle:off+k<=cs.length):
  XJ C n ⟨none,.store T x y,ty,pos,after,gd⟩ σ ⟨.pv .any,[(id,some (.cells T' (fy cs off vs)))],[]⟩:=by
 rintro a w Q ⟨m,R,hw⟩;obtain⟨b,N,he,hm,arr,hb,hN,hle',hr⟩:=hw.ptr hx ho;have hrel:=hw.pv hv;simp only[RelP]at hrel;obtain⟨us,hu,hrel⟩:=hrel;have h1:=mV hrel hlf;have hul:=hrel.length;have hcl:(a.eval y).cells=us.toArray:=by rw[hu];rfl
 have hrun:=jF (P:=C.P) (T:=T) (u:=a.eval y) (off:=off) hb (by rw[hcl];simp only[Pv];rw[hul,hlen];exact hk) (by rw[hcl];simp;omega) (by rw[hcl];simpa using h1);unfold Oper.wp;have hrun':(execOp a.eval ⟨none,.store T x y,ty,pos,after,gd⟩).run C.P w= .ok .skip (w.setRow b (fy arr.toList off us).toArray):=by
  simp only[execOp,he,Sem.run_bind,hrun,Result.andThen_ok,Sem.run_pure,hcl]
 rw[hrun'];refine⟨_,O,m,R,?_⟩;refine hw.store hm arr _ T' hb (by simp only[Pv];rw[bB _ _ _ Tx];simpa using hN) _ ?_;intro w' hR hb';refine⟨_,hb',by simp only[Pv];rw[bB _ _ _ Tx];simpa using hN,by rw[bB _ _ _ Ts];exact hle',?_⟩;rw[bB cs off vs Ts];have e:(fy arr.toList off us).toArray.toList.take cs.length=fy (arr.toList.take cs.length) off us:=by
  simp only[fy];exact jC _ _ _ _ Ts Tx
 rw[e];exact(hr.fy off hrel).mono hR
theorem Ig{e:TypeId}{T:TypeId}{z:Value}{size bytes:Nat}{kl kc:IntKind}{il ic:Int}(id k:Nat)(he:ElemIs C.P T e z size bytes)(hx:σ.ev n x= .pv (.int kl il))(hy:σ.ev n y= .pv (.int kc ic))(hil:il=0)(hic:ic=(k:Int))(hk:k<=1000000000)(hid:σ.av id=true):
  XJ C n ⟨dst,.makeSlice T x y,ty,pos,after,gd⟩ σ ⟨.osl id size 0,[(id,some (.cells e []))],[id]⟩:=by
 subst hil hic;rintro a w Q ⟨m,R,hw⟩;obtain⟨i,hi,hz,hsize,hbytes⟩:=info_parts he.info;have hb1:(i.bytes:Int)*(k:Int)<=281474976710656:=by
  have h2:bytes*k<=1000*1000000000:=Qc he.by_ hk;rw[hbytes];have h3:((bytes*k:Nat):Int)<=((1000*1000000000:Nat):Int):=Int.ofNat_le.2 h2;rw[RX]at h3;omega
 have hrun:=run_make (P:=C.P) w T e i z he.u hi hz kl kc 0 k Ts Ts hb1 Ts;simp only[Pz,hsize]at hrun;have hrun':(execOp a.eval ⟨dst,.makeSlice T x y,ty,pos,after,gd⟩).run C.P w= .ok (.value (.slice (some ⟨w.heap.size,0,none⟩) 0 k)) (w.alloc (.cells (madeCells z.cells (k*size)) e)):=by
  simp only[execOp,hw.int hx,hw.int hy,Sem.run_bind,hrun,Result.andThen_ok,Sem.run_pure];rfl
 unfold Oper.wp;rw[hrun'];have hsz:(madeCells z.cells (k*size)).size=k*size:=size_madeCells _ _;refine⟨_,O,upd m id (some (w.heap.size,(madeCells z.cells (k*size)).size)),R,?_⟩;rw[O1];refine SW.put (hw.alloc hid _ e (.cells e []) ?_) dst ?_
 ·intro w' m' av' hR hm ha hb;exact⟨_,hb,O,cd _,by simp[RelPL]⟩
 ·simp only[Rel];refine⟨by simp[avL],fun b N e=>?_⟩;rw[ay]at e;cases e;exact⟨k,O,cd _,by simp only[maxLen];omega,hsz⟩
end
end
section
open Go.RowKit Mk Jn Mm Vw
noncomputable abbrev viF(ps:List Prt)(v:Nat)(a b c:Nat):V:= .fn (.func 120) [] [.pv (.rp [ptsP ps] 0),.ptr a 0,.pv (.rp [.int .i64 v] 0),.ptr b 0,.ptr c 0]
noncomputable abbrev viA(ps:List Prt)(v:Nat)(k:Int)(x:Ch)(g:Gv):List V:=[pIi k,.pv (On x),.pv (momP g.m),.pv (.rp [ptsP ps] 0),.ptr big 0,.pv (.rp [.int .i64 v] 0),.ptr 9001 0,.ptr 9002 0]
noncomputable abbrev bldM2(S:Sch)(D:VD)(T:List (List Rw))(n:Nat)(left:Int)(b:Nat):List V:=[.pv (.sl none S.attrs.length (aB S.attrs)),.pv (.sl none S.rels.length (aJ S.rels)),.pv (.sl none S.feats.length (aC S.feats)),pIi S.label,.pv (ba D.chs),.pv (ba D.kes),.pv (ba D.hos),.pv (ai D.wa),.pv (dbP T),.osl b 2 n,pIi left]
noncomputable abbrev viO(S:Sch)(D:VD)(T:List (List Rw))(n:Nat)(left:Int)(vs:List (Option (List En)))(ps:List Prt)(v:Nat)(E:List En):List (Nat×Ob):=
 [(big,.mix 94 [.ptr 9003 0]),(9001,.mix 110 [.map 9005,.map 9006]),(9002,.mix 214 [viF ps v big 9001 9002]),
   (9003,.mix 101 (bldM2 S D T n left 9004)),(9004,.cells 110 (vwsC vs)),(9005,.mp (bR E) (jA E)),(9006,.mp (bR E) (gvsV E))]
structure PtY(n:Nat)(Q:List Par)(X:Nat->List ByteArray)(p:Prt):Prop where
 x:PtX Q X p
 w:∀i∈p.is,i.g.w<=10^5
 k:∀i∈p.is,i.g.k<=6
 a:∀a∈p.a,0<=a/\a<n
 al:p.a.length<=1000
 il:p.is.length<=1000000
structure BC(S:Sch)(D:VD)(n:Nat)(v:Nat)(K:List Int)(Q:List Par)(X:Nat->List ByteArray)(lf:Int->ByteArray->Gv)(ps:List Prt):Prop where
 n0:0<n
 n1:n<=1000
 hv:v<n
 kl:v<D.kes.length
 kv:D.kes[v]=K
 K0:K.length<=1000
 K1:∀a∈K,0<=a/\a<n
 X1:∀a,∀t∈X a,t.size<=1000
 lfx:LfX Q X lf
 lift:∀t∈X v,FnP prog 121 [eZ S,.int .i64 v,.str t] (· =momP (lf v t).m)
 hps:∀p∈ps,PtY n Q X p
 pl:ps.length<=8
structure EI(Q:List Par)(X:Nat->List ByteArray)(K:List Int)(e:En):Prop where
 x:ItX Q X K e.v e.g
 k:e.g.k<=49
structure CI(n:Nat)(Q:List Par)(X:Nat->List ByteArray)(K:List Int)(d:Nat)(x:Ch)(g:Gv)(E:List En):Prop where
 cx:ChX n X x
 cg:GvOk Q g
 gn:1<=g.n
 gw:g.w<=(10^5)^d
 gk:g.k<=6*d
 E:∀e∈E,EI Q X K e
theorem pw5{d:Nat}(h:d<=8):(10^5)^d<=10^40:=by
 rw[<-Nat.pow_mul];exact Ro Tu Ts
theorem ME:(10:Nat)^45<=10^50:=by decide+kernel
theorem qv:(10:Nat)^40<=10^50:=by decide+kernel
theorem Ix:(10:Nat)^5<=10^50:=by decide+kernel
section
variable {S:Sch}{D:VD}{T:List (List Rw)}{n:Nat}{left:Int}{vs:List (Option (List En))}{ps:List Prt}{v:Nat}{K:List Int}{Q:List Par}{X:Nat->List ByteArray}{lf:Int->ByteArray->Gv}
open Classical in
theorem G7(h:BC S D n v K Q X lf ps)(x:Ch)(g:Gv)(E:List En)(hc:CI n Q X K ps.length x g E)(hl:((stepE (lf v) v K E (x,g)).length:Int)<=left)(hw:gO Gv.w (stepE (lf v) v K E (x,g))<=10^45):
  FnO prog 120 7 0 (viA ps v ps.length x g) (viO S D T n left vs ps v E) (fun r ob'=>r= .pv (.bool true)/\ob'=ax (viO S D T n left vs ps v (stepE (lf v) v K E (x,g)))):=by
 refine FnO.of func120 O ntmps120 Tw fun m0 w0 F R0=>?_
 have hvx:v<x.v.length:=by rw[hc.cx.v];exact h.hv
 have hxv:=bz hvx;have hxn:=bA hvx;have hmem:x.v[v]∈X v:=by have:=hc.cx.x v;simpa[List.getD,hvx]using this
 have hgd:x.v.getD v ⟨#[]⟩=x.v[v]:=by simp[List.getD,hvx]
 have hli:=h.lift _ hmem;have hlg:=h.lfx.g v _ (show x.v[v]∈X (v:Int).toNat by simpa using hmem);have hgw:=IS hc.gw (pw5 h.pl);have hlw:(lf v x.v[v]).w<=10^50:=by rw[h.lfx.w];decide+kernel
 have hlk:(lf v x.v[v]).k=1:=h.lfx.k _ _;have hps8:=h.pl;have hgk:=hc.gk;have hmu:=rf hc.cg.s hlg.s (IS hgw qv) hlw Ts Ts;have hmo:GvOk Q (g.mul (lf v x.v[v])):=hc.cg.mul hlg;have hi0:=M0 hmo.s;have hst:stepE (lf v) v K E (x,g)=if(g.mul (lf v x.v[v])).m=Mm.Sem.zero then E else s5 E (jl K x) (g.mul (lf v x.v[v])):=by
  unfold stepE;rw[Pz,hgd]
 rw[hst]at hl hw ⊢;have hmk:(g.mul (lf v x.v[v])).k<=50:=by show g.k+(lf v x.v[v]).k<=50;omega
 have hmw:(g.mul (lf v x.v[v])).w<=10^50:=by show g.w*(lf v x.v[v]).w<=_;rw[h.lfx.w,PX];exact IS hgw qv
 change FnP _ _ _ (· =momP (g.mul (lf v x.v[v])).m)at hmu
 generalize g.mul (lf v x.v[v])=G at*;have hkv:=fo h.kl;have hkn:=fu h.kl;rw[h.kv]at hkv;have hkl:=h.kl;have hK0:=h.K0;refine Z3 O O O O<|Z1 O O ?_;first|refine A1 O ?_|refine A2 O Tv ?_
 refine Y2 O O ?_;refine Gc O O (fun hc22=>?_) (fun hc22=>absurd hc22 Tw);refine Ge O follows [0,1,2,3,4,5,6,7,8,9,10,11,12,13] Tt<|D1 O O ?_;first|refine D1 O O ?_|refine D2 O O Tv ?_
 iterate 3 refine D1 O O ?_
 first|refine D1 O O ?_|refine D2 O O Tv ?_
 iterate 2 refine D1 O O ?_
 first|refine D1 O O ?_|refine D2 O O Tv ?_
 refine Ds 32 [] O O O (fun τ h=>ae v underlying39 sz9 (Ee h 0 O O) (Ee h 1 O O) O hvx hxn) O Tt<|Ds 33 [] O O O (fun τ h=>au ⟨_,underlying9,O⟩ (Ee h 0 O O) hxv) O Tt<|Ds 34 [] O O O (fun τ h=>aa call121 hli (h.aL O)) O Tt<|Ds 35 [] O O O (fun τ h=>aa call56 hmu (h.aL O)) O Tt<|D1 O O ?_;refine⟨Tt,?_⟩;refine Z1 O O<|Rs 37 O O (aa call122 hi0 O) ?_;refine Gc O O (fun hc37=>?_) (fun hc37=>?_)
 ·have hz:G.m=Mm.Sem.zero:=Q8 hc37;rw[AT hz];exact Z1 O O<|Gt O<|⟨[(11,.pv (.bool true))],viO S D T n left vs ps v E,[.pv (.bool true)],OU (aS O) (aO Tt) O O,O,O,O,O,O⟩
 ·have hz:¬G.m=Mm.Sem.zero:=Rc hc37;rw[dw hz]at hl hw ⊢;refine OR<|Ge O follows [0,1,2,3,4,5,6,7,8,9,10] Tt ?_;first|refine D1 O O ?_|refine D2 O O Tv ?_
  iterate 4 refine D1 O O ?_
  first|refine D1 O O ?_|refine D2 O O Tv ?_
  refine Ds 44 [] O O O (fun τ h=>ae v underlying95 pN (Ee h 0 O O) (Ee h 1 O O) O hkl hkn) O Tt<|Ds 45 [] O O O (fun τ h=>au ⟨_,underlying22,O⟩ (Ee h 0 O O) hkv) O Tt<|D1 O O<|Ds 47 [] O O O (fun τ h=>Ig 2 _ zX (Ee h 0 O O) (Ee h 1 O O) O O Ts (h.n 0 _ O)) O Tt<|D1 O O ?_;refine⟨Tt,?_⟩;refine Ge O follows [0,1,2,3,4,5,6,7,8,9] Tt ?_;first|refine D1 O O ?_|refine D2 O O Tv ?_
  iterate 4 refine D1 O O ?_
  first|refine D1 O O ?_|refine D2 O O Tv ?_
  refine Ds 54 [] O O O (fun τ h=>ae v underlying95 pN (Ee h 0 O O) (Ee h 1 O O) O hkl hkn) O Tt<|Ds 55 [] O O O (fun τ h=>au ⟨_,underlying22,O⟩ (Ee h 0 O O) hkv) O Tt ?_;iterate 2 refine D1 O O ?_
  refine⟨Tt,?_⟩;refine Gl O (st:=fun TC:Nat=>mkS [(4,.ptr big 0),(6,.ptr 9001 0),(9,.ptr 0 0),(10,.ptr 1 0),(12,.osl 2 1 TC),(55,.pv (ai K)),(56,pIi K.length),(57,pIi TC)] [(big,.mix 94 [.ptr 9003 0]),(0,.mix 217 [.pv (aZ x.v),.pv (NJ x.s)]),(1,.mix 120 [.pv (.bool (decide ((cn G.m).c.num<0))),.pv (bF (cn G.m).c.num.natAbs),.pv (.bool (decide (((cn G.m).c.den:Int)<0))),.pv (bF ((cn G.m).c.den:Int).natAbs),.pv (.mp (aD cP (cn G.m).s) (aK (cn G.m).s)),.pv (.mp (aD ppP (cn G.m).p) (aK (cn G.m).p))]),(2,.cells 9 (bO ((jl K x).take TC))),(9001,.mix 110 [.map 9005,.map 9006]),(9002,.mix 214 [viF ps v big 9001 9002]),(9003,.mix 101 (bldM2 S D T n left 9004)),(9004,.cells 110 (vwsC vs)),(9005,.mp (bR E) (jA E)),(9006,.mp (bR E) (gvsV E))] 3)
   (I:=fun TC=>TC<=K.length) (μ:=fun TC=>K.length-TC) (x0:=(0)) (OU (aS O) (aO Tt) O O) (cd _) ?_
  rintro j hj;refine Z1 O O ?_;refine Gp O O (fun hc58=>?_) (fun hc58=>?_)
  ·have hlt:j<K.length:=Ts;obtain⟨a,haa⟩:=Bb (h.K1 _ (ar hlt)).1;have hal:a<x.v.length:=by have:=(h.K1 _ (ar hlt)).2;rw[hc.cx.v];omega
   have hpv:(aF K)[j*1]? =some (.int .i64 (a:Int)):=by rw[<-haa];simp[hlt]
   have hpn:=aE hlt;have hav:=bz hal;have han:=bA hal;have hkj:j<(jl K x).length:=by simpa[jl]using hlt
   have hkg:(jl K x)[j]=x.v[a]:=by simp[jl,haa,List.getD,hal]
   have htk:(jl K x).take (j+1)=(jl K x).take j++[x.v[a]]:=by rw[AI hkj,hkg]
   have hsl:(bO ((jl K x).take j)).length=j*1:=by simp[jl];omega
   exact OR<|Z1 O O<|Rs 60 O O (au ⟨_,underlying3,O⟩ O hpv)<|A1 O<|Z4 O O O O O<|Rs 65 O O (ae a underlying39 sz9 O O O hal han)<|Rs 66 O O (au ⟨_,underlying9,O⟩ O hav)<|Y3 O O O<|Z2 O O O<|⟨(j+1),OV [0,1,4] (aT O) ⟨Tt,Tt,Tt,PG (b:=some (.cells 9 (bO ((jl K x).take j)++[.str x.v[a]]))) Tt (ag (fun c=>some (Ob.cells 9 c)) (by rw[htk];simp)),Tt,Tt,Tt,Tt,Tt,Tt,TB⟩ O O Tu O,hlt,Ts⟩
  ·have hje:(jl K x).take j=jl K x:=aX (by simp[jl];omega);have hjl:j=(jl K x).length:=by simp[jl];omega
   rw[hje,hjl];have hkx:=Ll (K:=K) hc.cx;have hjb:=Vw.FZ (jl K x) 1000 fun t ht=>by obtain⟨i,hi,rfl⟩:=Q0 ht;exact h.X1 _ _ (hkx.x i hi (by rw[<-hkx.len];exact hi))
   have hkl2:(jl K x).length<=1000:=by rw[hkx.len];exact hK0
   have hEw:∀e∈E,GvOk Q e.g/\e.g.w<=10^50/\e.g.k<=50:=fun e he=>⟨(hc.E e he).x.ok,IS (u7 (f:=Gv.w) he) (IS (by rw[rX EN]at hw;omega) ME),IS (hc.E e he).k Tu⟩
   have had:=Bh E (jl K x) G hEw hmo hmw hmk Ts (IS hjb (IS (Qs _ hkl2) Tu));have hle:decide (((bR (s5 E (jl K x) G)).length:Int)<=left)=true:=Pn (by simpa using hl);generalize s5 E (jl K x) G=E' at*;generalize jl K x=key at*;refine Gx O<|OT (OX (o:= .cells 9 (bO key)) 2 Tt O)<|OT (St.lK [12])<|Gr O ?_;first|refine A1 O ?_|refine A3 O Tv ?_
   refine Y2 O O<|Rs 73 O O (bo [9005,9006] 3 call123 had O O O O ⟨O,O,TB⟩ Tu O)<|Ge O follows [0,1,2,3,4,5,6,7,8] Tt<|D1 O O ?_;first|refine D1 O O ?_|refine D2 O O Tv ?_
   refine Ds 76 [_] O O O (fun τ h=>nC underlying107 (.inl ⟨9005,(Ee h 0 O O),(Eo h 0 O O)⟩)) O Tt ?_;first|refine D1 O O ?_|refine D2 O O Tv ?_
   iterate 5 refine D1 O O ?_
   refine⟨Tt,?_⟩;exact Gt O<|⟨[(11,.pv (.bool true))],viO S D T n left vs ps v E',[.pv (.bool true)],OU ⟨PG (b:=V.pv (.bool (decide (((bR E').length:Int)<=left)))) Tt (ag (fun b=>V.pv (.bool b)) hle),TB⟩ (aO Tt) O O,O,O,O,O,O⟩
theorem Md(hlf:LfX Q X lf):∀(ls:List (Ch×Gv)){E:List En},(∀l∈ls,ChX n X l.1/\GvOk Q l.2/\1<=l.2.n/\l.2.k<=48)->(∀e∈E,EI Q X K e)->∀e∈foldE (lf v) v K E ls,EI Q X K e:=fun ls E hl hE=>by
 refine j4 (I:=EI Q X K) (fun x y hx hy t=>⟨⟨hx.x.ok.add hy.x.ok,IS hx.x.n (RD _ _),hx.x.v⟩,Nat.max_le.2 ⟨hx.k,hy.k⟩⟩) ls hE fun l h=>?_
 obtain⟨h1,h2,h3,h4⟩:=hl l h;refine⟨⟨h2.mul (hlf.g _ _ (h1.x _)),?_,Ll h1⟩,?_⟩
 ·show 1<=l.2.n*(lf v _).n;rw[hlf.n];omega
 ·show l.2.k+(lf v _).k<=49;rw[hlf.k];omega
theorem lv_ok(h:BC S D n v K Q X lf ps){k:Nat}(hk:k<=ps.length){x:Ch}{g:Gv}{E:List En}(hc:CI n Q X K k x g E):∀l∈leaves (ps.drop k) x g,ChX n X l.1/\GvOk Q l.2/\1<=l.2.n/\l.2.k<=48:=fun l hl=>by
 have hp:∀p∈ps.drop k,PtX Q X p:=fun p hp=>(h.hps p (Sd hp)).x
 obtain⟨h1,h2,h3⟩:=xW hp hc.cx hc.cg hc.gn l hl;have h4:=yq l hl;have h5:((ps.drop k).map Prt.km).sum<=((ps.drop k).map fun _=>6).sum:=tQ fun p hp=>K9 (h.hps p (Sd hp)).k
 have h6:∀q:List Prt,(q.map fun _=>6).sum=6*q.length:=fun q=>by
  induction q with
  |nil=>rfl
  |cons a q ih=>rw[bL,PM,ih,Pd];omega
 rw[h6,Qw]at h5;have:=hc.gk;have:=h.pl;exact⟨h1,h2,h3,Ts⟩
def lvI(ps:List Prt)(k:Nat)(hk:k<ps.length)(x:Ch)(g:Gv)(i:Itm):List (Ch×Gv):=if FI x ps[k].a i.v=true then leaves (ps.drop (k+1)) (xy x ps[k].a i.v) (g.mul i.g)else []
theorem Lz{k:Nat}(hk:k<ps.length)(x:Ch)(g:Gv):leaves (ps.drop k) x g=ps[k].is.flatMap (lvI ps k hk x g):=by
 rw[PC hk,leaves];rfl
theorem G0(h:BC S D n v K Q X lf ps)(k:Nat)(hk:k<ps.length)(x:Ch)(g:Gv)(E:List En)(hc:CI n Q X K k x g E)
  (hrec:∀(y:Ch)(g':Gv)(E':List En),CI n Q X K (k+1) y g' E'->((foldE (lf v) v K E' (leaves (ps.drop (k+1)) y g')).length:Int)<=left->gO Gv.w (foldE (lf v) v K E' (leaves (ps.drop (k+1)) y g'))<=10^45->
   FnO prog 120 7 0 (viA ps v ((k:Int)+1) y g') (viO S D T n left vs ps v E') (fun r ob'=>r= .pv (.bool true)/\ob'=ax (viO S D T n left vs ps v (foldE (lf v) v K E' (leaves (ps.drop (k+1)) y g')))))
  (hl:((foldE (lf v) v K E (leaves (ps.drop k) x g)).length:Int)<=left) (hw:gO Gv.w (foldE (lf v) v K E (leaves (ps.drop k) x g))<=10^45):
  FnO prog 120 7 0 (viA ps v k x g) (viO S D T n left vs ps v E) (fun r ob'=>r= .pv (.bool true)/\ob'=ax (viO S D T n left vs ps v (foldE (lf v) v K E (leaves (ps.drop k) x g)))):=by
 have hok:=lv_ok h (Tq hk) hc;have hpk:=h.hps _ (ar hk);have hps8:=h.pl;have hgk:=hc.gk;have hgw:=IS hc.gw (pw5 (d:=k) Ts);rw[Lz hk]at hl hw hok ⊢;obtain⟨F,hF⟩:∃F,F=lvI ps k hk x g:=⟨_,O⟩;have hFi:=fun i=>show F i=if FI x ps[k].a i.v=true then leaves (ps.drop (k+1)) (xy x ps[k].a i.v) (g.mul i.g)else [] by rw[hF];rfl
 rw[<-hF]at hl hw hok ⊢;have hit:(ptsC ps)[k*2+1]? =some (.sl none ps[k].is.length (itsC ps[k].is)):=by
  have h2:(((ptsC ps).drop (k*2)).take 2)[1]? =(ptC ps[k])[1]? :=by rw[yJ hk]
  simpa[Pw,Qf]using h2
 have hat:(ptsC ps)[k*2]? =some (ai ps[k].a):=by
  have h2:(((ptsC ps).drop (k*2)).take 2)[0]? =(ptC ps[k])[0]? :=by rw[yJ hk]
  simpa[Pw,Qf]using h2
 have hptn:=LY hk;obtain⟨A,hA⟩:∃A,A=ps[k].a:=⟨_,O⟩;obtain⟨I,hI⟩:∃I,I=ps[k].is:=⟨_,O⟩;have hx':=hpk.x;have hw':=hpk.w;have hk':=hpk.k;have ha':=hpk.a;have hal:=hpk.al;have hIl:=hpk.il;rw[<-hA]at hFi hat ha' hal;rw[<-hI]at hit hl hw hok hw' hk' hIl ⊢;have hxI:∀i∈I,ItX Q X A i.v i.g:=fun i hi=>by rw[hA];exact hx' i (by rw[<-hI];exact hi)
 clear hx' hpk hA hI;have hcall:=call120;refine FnO.of func120 O ntmps120 Tw fun m0 w0 F0 R0=>?_
 refine Z3 O O O O<|Z1 O O ?_;first|refine A1 O ?_|refine A2 O Tv ?_
 refine Y2 O O ?_;refine Gc O O (fun hc22=>absurd hc22 Tx) (fun hc22=>?_);refine OR<|Gr O ?_;first|refine A1 O ?_|refine A2 O Tv ?_
 refine A1 O<|Rs 84 O O (ae k underlying212 Im O O O hk hptn)<|A1 O<|Rs 86 O O (au ⟨_,underlying220,O⟩ O hit)<|Y2 O O ?_;refine Gl O (st:=fun TC:Nat×List En=>mkS [(0,pIi (k:Int)),(3,.pv (.rp [ptsP ps] 0)),(7,.ptr 9002 0),(9,.ptr 0 0),(10,.ptr 1 0),(86,.pv (.sl none I.length (itsC I))),(87,pIi I.length),(88,pIi TC.1)] [(big,.mix 94 [.ptr 9003 0]),(0,.mix 217 [.pv (aZ x.v),.pv (NJ x.s)]),(1,.mix 120 [.pv (.bool (decide ((cn g.m).c.num<0))),.pv (bF (cn g.m).c.num.natAbs),.pv (.bool (decide (((cn g.m).c.den:Int)<0))),.pv (bF ((cn g.m).c.den:Int).natAbs),.pv (.mp (aD cP (cn g.m).s) (aK (cn g.m).s)),.pv (.mp (aD ppP (cn g.m).p) (aK (cn g.m).p))]),(9001,.mix 110 [.map 9005,.map 9006]),(9002,.mix 214 [viF ps v big 9001 9002]),(9003,.mix 101 (bldM2 S D T n left 9004)),(9004,.cells 110 (vwsC vs)),(9005,.mp (bR TC.2) (jA TC.2)),(9006,.mp (bR TC.2) (gvsV TC.2))] 2)
  (I:=fun TC=>TC.1<=I.length/\TC.2=foldE (lf v) v K E ((I.take TC.1).flatMap F)) (μ:=fun TC=>I.length-TC.1) (x0:=(0,E)) (OU (aS O) (aO Tt) O O) (⟨cd _,O⟩) ?_
 rintro⟨i,E'⟩ ⟨hi,hE'⟩;try simp only at hi hE' ⊢
 refine Z1 O O ?_;refine Gp O O (fun hc89=>?_) (fun hc89=>?_)
 ·have hlt:i<I.length:=Ts;have hrow:=Hk hlt;have hne:=K4 hlt;have hmi:=ar hlt;have hsp:I.flatMap F=(I.take (i+1)).flatMap F++(I.drop (i+1)).flatMap F:=by rw[<-PS,PK]
  have hst:foldE (lf v) v K E ((I.take (i+1)).flatMap F)=foldE (lf v) v K E' (F I[i]):=by rw[AI hlt,PS,oe,<-hE'];simp
  have hl2:((foldE (lf v) v K E' (F I[i])).length:Int)<=left:=by
   rw[hsp,oe,hst]at hl;have:=tm (lf:=lf v) (v:=v) (K:=K) ((I.drop (i+1)).flatMap F) (foldE (lf v) v K E' (F I[i]));omega
  have hw2:gO Gv.w (foldE (lf v) v K E' (F I[i]))<=10^45:=by
   rw[hsp,oe,hst]at hw;exact IS (xh EN _ _) hw
  have hEI:∀e∈E',EI Q X K e:=by
   rw[hE'];exact Md h.lfx _ (fun l hl=>hok l (by rw[<-PK i I,PS];exact Rn _ hl)) hc.E
  obtain⟨hig,hin,hiv⟩:=hxI _ hmi;have hiw:=hw' _ hmi;have hik:=hk' _ hmi;rw[hFi]at hst hl2 hw2;generalize I[i]=it at*;have hwi:=Fc x A it.v n h.n0 (IS h.n1 Tu) hc.cx.v hc.cx.s Ts hiv.len ha';have hmu:=rf hc.cg.s hig.s (IS hgw qv) (IS hiw Ix) Ts Ts;refine OR<|Gr O<|Rs 90 O O (ae i underlying220 NY O O O hlt hne)<|Rs 91 O O (aR ⟨_,underlying224,O⟩ NY O hrow O)<|Y2 O O ?_;by_cases hag:FI x A it.v=true
  ·rw[E9,AT hag]at hwi;rw[AT hag]at hst hl2 hw2;have hgo:=hrec (xy x A it.v) (g.mul it.g) E' ⟨Fw hiv hc.cx,hc.cg.mul hig,Qc hc.gn hin,by rw[Rq];exact Qc hc.gw hiw,by show g.k+it.g.k<=_;omega,hEI⟩ hl2 hw2;generalize xy x A it.v=y at*;generalize foldE (lf v) v K E' (leaves (ps.drop (k+1)) y (g.mul it.g))=E2 at*;clear hw hw2 hgw hiw;refine Ge O follows [0,1,2,3,4,5,6,7,8,9,10,11,12,13,14] Tt<|D1 O O ?_;first|refine D1 O O ?_|refine D2 O O Tv ?_
   refine D1 O O<|Ds 96 [] O O O (fun τ h=>ae k underlying212 Im (Ee h 0 O O) (Ee h 1 O O) O hk hptn) O Tt<|D1 O O<|Ds 98 [] O O O (fun τ h=>au ⟨_,underlying22,O⟩ (Ee h 0 O O) hat) O Tt ?_;iterate 2 refine D1 O O ?_
   refine Ds 101 [] O O O (fun τ h=>aa call124 hwi (h.aL O)) O Tt ?_;iterate 6 refine D1 O O ?_
   refine⟨Tt,?_⟩;refine Ge O follows [0,1,2,3,4,5,6,7,8,9,10,11,12] Tt ?_;iterate 2 refine D1 O O ?_
   first|refine D1 O O ?_|refine D2 O O Tv ?_
   iterate 6 refine D1 O O ?_
   refine Dg 113 [] O O O O (fun τ h=>aa call56 hmu (h.aL O)) O Tt<|Dg 114 [big,9001,9002,9003,9004,9005,9006] O O O O (fun τ h=>ki (vs:=[pIi ((k:Int)+1),.pv (On y),.pv (momP (Mm.Sem.mul g.m it.g.m))]) [big,9001,9002,9003,9004,9005,9006] 4 hcall hgo (Ee h 0 O O) (h.Ld.trans O) O O O O ⟨(Eo h 0 O O),(Eo h 1 O O),(Eo h 2 O O),(Eo h 3 O O),(Eo h 4 O O),(Eo h 5 O O),(Eo h 6 O O),TB⟩ Tu O) O Tt ?_;iterate 2 refine D1 O O ?_
   refine⟨Tt,?_⟩;refine Gc O O (fun hc116=>absurd hc116 Tu) (fun hc116=>?_);exact OR<|Z2 O O O<|⟨(i+1,E2),OU (aS O) (aO Tt) O O,⟨Tz,by simp only;exact hst.symm⟩,Tz⟩
  ·rw[E9,dw hag]at hwi;rw[dw hag]at hst;clear hw hw2 hgw hiw;refine Ge O follows [0,1,2,3,4,5,6,7,8,9,10,11,12,13,14] Tt<|D1 O O ?_;first|refine D1 O O ?_|refine D2 O O Tv ?_
   refine D1 O O<|Ds 96 [] O O O (fun τ h=>ae k underlying212 Im (Ee h 0 O O) (Ee h 1 O O) O hk hptn) O Tt<|D1 O O<|Ds 98 [] O O O (fun τ h=>au ⟨_,underlying22,O⟩ (Ee h 0 O O) hat) O Tt ?_;iterate 2 refine D1 O O ?_
   refine Ds 101 [] O O O (fun τ h=>aa call124 hwi (h.aL O)) O Tt ?_;iterate 6 refine D1 O O ?_
   refine⟨Tt,?_⟩;refine Ge O follows [0,1,2,3,4,5,6,7,8,9,10,11,12] Tt ?_;iterate 13 refine D1 O O ?_
   refine⟨Tt,?_⟩;refine Gc O O (fun hc116=>absurd hc116 Tu) (fun hc116=>?_);exact OR<|Z2 O O O<|⟨(i+1,E'),OU (aS O) (aO Tt) O O,⟨Tz,by simp only;exact hst.symm⟩,Tz⟩
 ·have hie:I.take i=I:=aX Ts;rw[hie]at hE';rw[<-hE'];exact Gx O<|Z1 O O<|Gt O<|⟨[(11,.pv (.bool true))],viO S D T n left vs ps v E',[.pv (.bool true)],OU (aS O) (aO Tt) O O,O,O,O,O,O⟩
theorem yQ(h:BC S D n v K Q X lf ps):∀(d k:Nat),k+d=ps.length->∀(x:Ch)(g:Gv)(E:List En),CI n Q X K k x g E->((foldE (lf v) v K E (leaves (ps.drop k) x g)).length:Int)<=left->gO Gv.w (foldE (lf v) v K E (leaves (ps.drop k) x g))<=10^45->
  FnO prog 120 7 0 (viA ps v k x g) (viO S D T n left vs ps v E) (fun r ob'=>r= .pv (.bool true)/\ob'=ax (viO S D T n left vs ps v (foldE (lf v) v K E (leaves (ps.drop k) x g))))
 | 0,k,hk,x,g,E,hc,hl,hw=>by
   obtain rfl:k=ps.length:=Ts;rw[List.drop_length]at hl hw ⊢;exact G7 h x g E hc hl hw
 | d+1,k,hk,x,g,E,hc,hl,hw=>G0 h k Ts x g E hc (fun y g' E' hc' hl' hw'=>by
   have:=yQ h d (k+1) Ts y g' E' hc' hl' hw';exact this) hl hw
end
end
section
open Go.RowKit Mk Jn Mm Vw
theorem DY{w:World}{R:Nat->Prop}{b:Option Bool}{n:Nat}{cs:List PV}{u:Value}(h:RelP w R (.sl b n cs) u):RelP w R (.sl none n cs) u:=by
 simp only[RelP]at h ⊢;obtain⟨A,c,e,h1,h2,_,_,h5⟩:=h;exact⟨A,c,e,h1,h2,(fun _ e=>by cases e),(fun e=>by cases e),h5⟩
theorem z7{w:World}{m:Gm}{av:Av}{R:Nat->Prop}{p q p' q':PV}{u:Value}(hp:∀u,RelP w R p u->RelP w R p' u)(hq:∀u,RelP w R q u->RelP w R q' u)(h:Rel w m av R (.agg [.pv p,.pv q]) u):Rel w m av R (.pv (.agg [p',q'])) u:=by
 simp only[Rel,RelL,RelP,RelPL]at h ⊢;obtain⟨us,rfl,u1,v1,rfl,h1,u2,v2,rfl,h2,rfl⟩:=h;exact⟨_,O,u1,_,O,hp _ h1,u2,_,O,hq _ h2,O⟩
section
variable {S:Sch}{D:VD}{T:List (List Rw)}{n:Nat}{left:Int}{vs:List (Option (List En))}{ps:List Prt}{v:Nat}{K:List Int}{Q:List Par}{X:Nat->List ByteArray}{lf:Int->ByteArray->Gv}
theorem HA(h:BC S D n v K Q X lf ps)(hl:((viewE (lf v) n v K ps).length:Int)<=left)(hw:gO Gv.w (viewE (lf v) n v K ps)<=10^45):
  FnO prog 120 9 0 [pIi 0,.agg [.osl 9007 1 n,.osl 9008 1 n],.pv (momP (Gv.whole 1).m),.pv (.rp [ptsP ps] 0),.ptr big 0,.pv (.rp [.int .i64 v] 0),.ptr 9001 0,.ptr 9002 0]
   [(big,.mix 94 [.ptr 9003 0]),(9001,.mix 110 [.map 9005,.map 9006]),(9002,.mix 214 [viF ps v big 9001 9002]),
     (9003,.mix 101 (bldM2 S D T n left 9004)),(9004,.cells 110 (vwsC vs)),(9005,.mp [] []),(9006,.mp [] []),(9007,.cells 9 (List.replicate n (.str ⟨#[]⟩))),(9008,.cells 4 (List.replicate n (.bool false)))]
   (fun r ob'=>r= .pv (.bool true)/\ob'=ax (viO S D T n left vs ps v (viewE (lf v) n v K ps))):=by
 have hc:CI n Q X K 0 (ch0 n) (Gv.whole 1) []:=⟨NL h.lfx.x0,GvOk.whole Q 1,BY 1,BY 1,cd _,fun e he=>absurd he Tw⟩;have h0:=yQ (left:=left) (vs:=vs) (T:=T) h ps.length 0 Ts (ch0 n) (Gv.whole 1) [] hc hl hw;refine FnO.weak h0 Tu O<|St.le.trans (OX (o:= .cells 9 (List.replicate n (.str ⟨#[]⟩))) 9007 Tt O)<|St.le.trans (OX (o:= .cells 4 (List.replicate n (.bool false))) 9008 Tt O) ?_;refine St.le.trans (OU (l:=cF 0 [pIi 0,.agg [.pv (.sl (some false) n (List.replicate n (.str ⟨#[]⟩))),.pv (.sl (some false) n (List.replicate n (.bool false)))],.pv (momP (Gv.whole 1).m),.pv (.rp [ptsP ps] 0),.ptr big 0,.pv (.rp [.int .i64 v] 0),.ptr 9001 0,.ptr 9002 0])
  (os:=viO S D T n left vs ps v []) (k:=0) ⟨O,O,O,O,O,O,O,O,TB⟩ ⟨Tt,Tt,Tt,Tt,Tt,Tt,Tt,TB⟩ O O) ?_
 refine St.xc O O fun t w m R u hu=>?_
 by_cases h1:t=1
 ·subst h1;have e1:bO (ch0 n).v=List.replicate n (PV.str ⟨#[]⟩):=by simp[ch0,bO]
  have e2:(ch0 n).s.map PV.bool=List.replicate n (PV.bool false):=by simp[ch0]
  have e3:(ch0 n).v.length=n:=by simp[ch0]
  have e4:(ch0 n).s.length=n:=by simp[ch0]
  have hu':Rel w m (avK 0) R (.agg [.pv (.sl (some false) n (List.replicate n (.str ⟨#[]⟩))),.pv (.sl (some false) n (List.replicate n (.bool false)))]) u:=hu;show Rel w m (avK 0) R (.pv (On (ch0 n))) u;have:=z7 (p':= .sl none n (List.replicate n (.str ⟨#[]⟩))) (q':= .sl none n (List.replicate n (.bool false))) (fun _=>DY) (fun _=>DY) hu';show Rel w m (avK 0) R (.pv (.agg [.sl none (ch0 n).v.length (bO (ch0 n).v),.sl none (ch0 n).s.length ((ch0 n).s.map PV.bool)])) u;rw[e1,e2,e3,e4];exact this
 ·have e:(mkS (cF 0 [pIi 0,.agg [.pv (.sl (some false) n (List.replicate n (.str ⟨#[]⟩))),.pv (.sl (some false) n (List.replicate n (.bool false)))],.pv (momP (Gv.whole 1).m),.pv (.rp [ptsP ps] 0),.ptr big 0,.pv (.rp [.int .i64 v] 0),.ptr 9001 0,.ptr 9002 0]) (viO S D T n left vs ps v []) 0).sl t=
   (mkS (cF 0 (viA ps v 0 (ch0 n) (Gv.whole 1))) (viO S D T n left vs ps v []) 0).sl t:=by
   have hb:Nat.beq t 1=false:=by cases hb:Nat.beq t 1;rfl;exact absurd (aI hb) h1
   simp only[mkS,cF,look,PJ,hb,PE]
  exact e▸hu
theorem Ha{vs:List (Option (List En))}{k:Nat}(h:k<vs.length)(o:Option (List En)):fy (vwsC vs) (k*2) (vwC o)=vwsC (vs.set k o):=by
 unfold fy;rw[vr];have e1:(vwsC vs).take (k*2)=vwsC (vs.take k):=by
  have:vwsC vs=vwsC (vs.take k)++vwsC (vs.drop k):=by rw[vwsC,vwsC,vwsC,<-PS,PK]
  rw[this,List.take_left'];rw[ml,Pj,Qt Ts]
 have e2:(vwsC vs).drop (k*2+2)=vwsC (vs.drop (k+1)):=by
  have:vwsC vs=vwsC (vs.take (k+1))++vwsC (vs.drop (k+1)):=by rw[vwsC,vwsC,vwsC,<-PS,PK]
  rw[this,List.drop_left'];rw[ml,Pj,Qt Ts];omega
 rw[e1,e2,Se,AT h];simp[vwsC,PS]
theorem vf(hSr:S.rels.length<=1000)(hvs:vs.length=n)(hSn:S.attrs.length=n)(hT:T.length=S.rels.length)(hTl:∀l∈T,l.length<=1000)(hwt:∀l∈T,∀x∈l,0<=x.w/\x.w<=9223372036854775807)
  (HS CS:List Int) (hv1:v<D.hos.length) (hv2:v<D.chs.length) (hHS:D.hos[v]=HS) (hCS:D.chs[v]=CS) (hHl:HS.length<=1000) (hCl:CS.length<=1000) (hH:∀r∈HS,∃k:Nat,k<S.rels.length/\r=(k:Int))
  (hC:∀c∈CS,∃k:Nat,k<n/\k<D.kes.length/\c=(k:Int)) (f:Int->List En) (KK:Int->List Int) (hf:∀(k:Nat)(h:k<vs.length)(h':k<D.kes.length),(k:Int)∈CS->vs[k]=some (f k)/\D.kes[k]=KK k/\EnOk (f k)/\(f k).length<=1000000)
  (hps:ps=(HS.map fun r=>eT (oT S r) (l6 T r))++CS.map fun c=>ct (KK c) (f c))
  (h:BC S D n v K Q X lf ps) (hl0:left<=3000) (hl:((viewE (lf v) n v K ps).length:Int)<=left) (hw:gO Gv.w (viewE (lf v) n v K ps)<=10^45):
  FnO prog 49 2 0 [.ptr big 0,pIi v] (bldO S D T n left vs) (fun r ob'=>r= .pv (.bool true)/\ob'=ax (bldO S D T n (left-(viewE (lf v) n v K ps).length) (vs.set v (some (viewE (lf v) n v K ps))))):=by
 refine FnO.of func49 O ntmps49 Tw fun m0 w0 F R0=>?_
 have hpa:=vn S hSr D T n left vs hvs hT hTl hwt v HS CS hv1 hv2 hHS hCS hHl hCl hH hC f KK hf;rw[<-hps]at hpa;have hch:=HA (left:=left) (vs:=vs) (T:=T) h hl hw;have hwh:=ka 1 Tu;have hcall:=call120;have hn1:=h.n1;have hvn:=h.hv;have hset:=Ha (vs:=vs) (k:=v) Ts (some (viewE (lf v) n v K ps));have hvl:=ml vs;generalize viewE (lf v) n v K ps=E at*;have hkE:(bR E).length=E.length:=Pg _;subst hSn;refine Z3 O O O O<|Gr O<|Rs 9 O O (dX 2 O)<|Rs 10 O O (dX 3 O)<|Y3 O O O<|Z2 O O O<|Rs 14 O O (bo [big,9001] 5 call119 hpa O O O O ⟨O,O,TB⟩ Tu O)<|Y2 O O<|Z1 O O<|OT (St.iB (o:= .mix 212 [.pv (ptsP ps)]) 5 Tt O)<|OT (St.iB (o:= .mix 3 [pIi v]) 1 Tt O)<|Z2 O O O<|Gr O ?_;iterate 7 refine A1 O ?_
 refine Ge O follows [0,1,2,3,4,5,6,7,8] Tt ?_;iterate 6 refine D1 O O ?_
 refine Ds 28 [] O O O (fun τ h=>aa call54 hwh (h.aL O)) O Tt<|Ds 29 [0,4,6,big,9001,2,3,7,8] O O O (fun τ h=>ki (vs:=[pIi 0,.agg [.osl 7 1 S.attrs.length,.osl 8 1 S.attrs.length],.pv (momP (Gv.whole 1).m)]) [0,4,6,big,9001,2,3,7,8] 9 hcall hch (Ee h 0 O O) (h.Ld.trans O) O O O O ⟨(Eo h 0 O O),(Eo h 1 O O),(Eo h 2 O O),(Eo h 3 O O),(Eo h 4 O O),(Eo h 5 O O),(Eo h 6 O O),((h.o 7 _ O).trans (ag (fun c=>some (Ob.cells 9 c)) ((ck (.str ⟨#[]⟩) (S.attrs.length*1)).trans (by rw[PX])))),((h.o 8 _ O).trans (ag (fun c=>some (Ob.cells 4 c)) ((ck (.bool false) (S.attrs.length*1)).trans (by rw[PX])))),TB⟩ Tu O) O Tt<|D1 O O ?_;refine⟨Tt,?_⟩;refine Gc O O (fun hc30=>absurd hc30 Tu) (fun hc30=>?_);refine OR<|Ge O follows [0,1,2,3,4,5,6,7,8,9,10] Tt ?_;iterate 6 refine D1 O O ?_
 refine Ds 37 [_] O O O (fun τ h=>nC underlying107 (.inl ⟨2,(Ee h 0 O O),(Eo h 0 O O)⟩)) O Tt ?_;iterate 4 refine D1 O O ?_
 refine⟨Tt,?_⟩;refine OT (St.cX (ks:=bR E) (vs:=jA E) 2 Tt Tw (PY _))<|OT (St.cX (ks:=bR E) (vs:=gvsV E) 3 Tt Tw (PY _))<|Ge O follows [0,1,2,3,4,5,6,7] Tt ?_;iterate 6 refine D1 O O ?_
 refine Ds 47 [_] O O O (fun τ h=>aq v underlying99 zb (Ee h 0 O O) (Eo h 0 O O) (Ee h 1 O O) O hvn) O Tt<|DL.step (d:=none) [_] O O O (fun τ h=>zR zb (Ee h 0 O O) (Eo h 0 O O) (Ee h 1 O O) O O Ts) O Tt ?_;refine⟨Tt,?_⟩;exact Z1 O O<|Gt O<|⟨[(4,.pv (.bool true))],bldO S D T S.attrs.length (left-E.length) (vs.set v (some E)),[.pv (.bool true)],OU (aS O) ⟨PG (b:=some (Ob.mix 101 (bldM S D T S.attrs.length (left-(bR E).length)))) Tt (by rw[hkE]),PG (b:=some (Ob.cells 110 (fy (vwsC vs) (v*2) (vwC (some E))))) Tt (by rw[hset]),TB⟩ O O,O,O,O,O,O⟩
end
end
section
section
variable {C:Ctx}{n:Nat}{σ:St}{Post:Exit->Act->World->Prop}
def AWX(C:Ctx)(n:Nat)(c:Code)(Post:Exit->Act->World->Prop)(σ:St):Prop:=∀a w,SJ C n σ a w->c.wp C.P Post a w
def Of(K:St->Prop)(C:Ctx)(n:Nat)(Post:Exit->Act->World->Prop):Exit->St->Prop
 | .normal,s=>K s
 |ex,s=>∀a w,SJ C n s a w->Post ex a w
theorem AWX.seq{x y:Code}(h:AW C n x (Of (AWX C n y Post) C n Post) σ):AWX C n (.seq x y) Post σ:=by
 intro a w hs;refine wp_seq (wp_mono (h.go a w hs) ?_);rintro e a' w' ⟨s,q,r⟩;cases e<;>exact q a' w' r
theorem AWX.seq2{x y z:Code}(h:AW C n x (Of (AWX C n y (Exit.then (z.wp C.P Post) Post)) C n Post) σ):AWX C n (.seq (.seq x y) z) Post σ:=by
 intro a w hs;refine wp_seq (wp_seq (wp_mono (h.go a w hs) ?_));rintro e a' w' ⟨s,q,r⟩;cases e<;>exact q a' w' r
end
abbrev B6(w0:World)(R0:Nat->Prop)(Q:PV->Prop):Ending->World->Prop:=fun e w'=>∃u v,e= .returned u/\Q v/\Below w0.heap.size w0 w'/\RelP w' (fun b=>R0 b\/(w0.heap.size<=b/\b<w'.heap.size)) v u
theorem FnP.marks{P:Program}{f:FuncId}{fn:Func}{c:Code}{n:Nat}{args:List PV}{Q:PV->Prop}(hf:P.funcs[f]? =some fn)(hb:fn.body=some c)(hn:fn.ntmps=n)(hna:args.length<=n)
  (h:∀(w:World)(R0:RT w (fun _=>False)),R0.df=[]->AWX ⟨P,fun _=>none,w,fun _=>False,R0⟩ n c (bodyPostM Fence.wide 2 P fn (B6 w R0.p Q)) (mkS (gN 0 args) [] 0)):FnP P f args Q:=by
 intro w R us hG hR hrel;refine callsIn_wide.1 (callsIn_of_wp_marks (n:=2) hf hb trivial (wpIn_wide.2 ?_) O);have hl:=hrel.length;refine h w ⟨R,hG,fun b h=>⟨hR b h,id⟩,[]⟩ O _ w ⟨fun _=>none,R,⟨⟨fun _=>rfl,fun _ _=>rfl,fun _ _ _ _ h=>(by cases h),fun _ _ _ _ _ h=>(by cases h),fun _ _ _ h=>(by cases h),hR,fun b h=> .inl h,fun b h=>h,Fr.refl _ _,fun _ _ _ h=>(by cases h),fun id hi=>cA (k:=0) hi⟩,rfl,Tx,?_⟩⟩;intro t ht;show Rel w _ (avK 0) R (look (gN 0 args) t) ((us.toArray++Array.replicate (fn.ntmps-us.toArray.size) undef).getD t undef);have key:∀(ps:List PV)(vs:List Value)(k:Nat),RelPL w R ps vs->k<=t->∀z:Value,Rel w (fun _=>none) (avK 0) R (look (gN k ps) t) (vs[t-k]?.getD z):=by
  intro ps;induction ps with
  |nil=>intro vs k _ _ z;simp only[gN,look,Rel,RelP]
  | cons p ps ih=>
    intro vs k hr hk z;simp only[RelPL]at hr;obtain⟨u,vs',rfl,h1,h2⟩:=hr;simp only[gN,look];by_cases e:t=k
    ·subst e;simp only[Sn,Qd,SO];simpa[Rel]using h1
    ·have hb:Nat.beq t k=false:=by cases hb:Nat.beq t k;rfl;exact absurd (aI hb) e
     rw[hb];have:=ih vs' (k+1) h2 Ts z;have e2:t-k=(t-(k+1))+1:=Ts;rw[e2];simpa using this
 have:=key args us 0 hrel (cd _) undef;simp only[S8]at this;rw[PN,SX];by_cases e:t<us.length
 ·simpa[e]using this
 ·rw[Qg Ts]at this;simp only[Pv,e,SD,RA];split<;>simpa using this
theorem Kv{P:Program}{w0:World}{R0:RT w0 (fun _=>False)}{n:Nat}{σ:St}{a:Act}{W:World}{m:Gm}{R:Nat->Prop}(hw:SW ⟨P,fun _=>none,w0,fun _=>False,R0⟩ n σ a W m R)(ids:List Nat)(os:List (Nat×Ob))
  (hos:os.map (·.1)=(List.range ids.length).map (big+ ·)) (hob:os.all (fun p=>p.2.all (okR ids.length 0))=true) (hobs:ff σ (dH ids 0) os) (hreal:os.all (fun p=>p.2.real)=true) (hnd:ids.Nodup):
  ∃bs:List Nat,bs.length=ids.length/\Btw P w0 R bs [] os 0 W/\∀(j id b:Nat),ids[j]? =some id->bs[j]? =some b->∃N,m id=some (b,N):=by
 have ρb:∀j,dH ids 0 (big+j)=ids.getD j 0:=fun j=>by
  have:Nat.ble big (big+j)=true:=RI (RD _ _);simp only[dH,this,Qd,Nat.add_sub_cancel_left]
 have ρj:∀(j id:Nat),ids[j]? =some id->dH ids 0 (big+j)=id:=fun j id h=>by rw[ρb,Pk,h];rfl
 have keyS:∀i o,ax os i=some o->∃j id:Nat,i=big+j/\ids[j]? =some id:=by
  intro i o h;have:i∈os.map (·.1):=IT.2 ⟨(i,o),bu h,O⟩;rw[hos]at this;obtain⟨j,hj,rfl⟩:=IT.1 this;have hj':j<ids.length:=by simpa using hj
  exact⟨j,ids[j],O,By hj'⟩
 have keyI:∀(j id:Nat),ids[j]? =some id->∃o,ax os (big+j)=some o:=by
  intro j id h;apply kL;rw[hos];exact IT.2 ⟨j,by simpa using(Pf.1 h).1,O⟩
 have obs:∀i o,ax os i=some o->σ.ob (dH ids 0 i)=some (o.ren (dH ids 0)):=fun i o h=>dV hobs i o (bu h)
 have live:∀(j id:Nat),ids[j]? =some id->(m id).isSome=true:=by
  intro j id h;obtain⟨o,ho⟩:=keyI j id h;have h1:=obs _ _ ho;rw[ρj j id h]at h1;rw[hw.hr.dom,h1];exact(Ob.iF _ o).trans (IN.1 hreal _ (bu ho))
 have okcase0:∀i,okR ids.length 0 i=true->∃j id:Nat,i=big+j/\ids[j]? =some id:=by
  intro i hi;simp only[okR,PQ,sh]at hi;rcases hi with h|⟨h1,h2⟩
  ·simp[Nat.blt]at h
  ·have h1:=Pp h1;have h2:i<big+ids.length:=by simpa[Rp]using h2
   exact⟨i-big,ids[i-big]'Ts,Ts,By _⟩
 obtain⟨mc,hmc⟩:∃mc:Gm,mc=fun i=>if(ax os i).isSome then m (dH ids 0 i)else none:=⟨_,O⟩
 have mcS:∀i x,mc i=some x->∃j id:Nat,i=big+j/\ids[j]? =some id/\m id=some x:=by
  intro i x h;rw[hmc]at h;simp only at h;split at h
  ·rename_i hs;obtain⟨o,ho⟩:=PB.1 hs;obtain⟨j,id,rfl,hj⟩:=keyS i o ho;rw[ρj j id hj]at h;exact⟨j,id,O,hj,h⟩
  ·cases h
 have mcI:∀(j id:Nat),ids[j]? =some id->mc (big+j)=m id:=by
  intro j id h;obtain⟨o,ho⟩:=keyI j id h;rw[hmc];simp only[ho,Option.isSome_some,Te,ρj j id h]
 have idsInj:∀(i j id:Nat),ids[i]? =some id->ids[j]? =some id->i=j:=by
  intro i j id h1 h2;have l1:=(Pf.1 h1).1;have l2:=(Pf.1 h2).1;have hp:=P6.1 hnd;have e1:=(Pf.1 h1).2;have e2:=(Pf.1 h2).2;rcases Nat.lt_trichotomy i j with h|h|h
  ·exact absurd (e1.trans e2.symm) (hp i j l1 l2 h)
  ·exact h
  ·exact absurd (e2.trans e1.symm) (hp j i l2 l1 h)
 have hF:∀id b N,m id=some (b,N)->w0.heap.size<=b:=fun id b N e=>(hw.hr.own id b N e).2.2.elim False.elim fun h=>h
 have hfr:=hw.hr.frame;refine⟨ids.map fun id=>((m id).getD (0,0)).1,Tw,⟨⟨mc,⟨R,hw.hr.gi,fun b hb=>⟨hw.hr.rsz b hb,fun⟨i,N,e⟩=>?_⟩,[]⟩,?_,?_,?_,fun b hb=>hb,?_⟩,⟨hfr.os,hfr.tape,hfr.output,hfr.size,fun k hk=>hfr.block k hk id⟩,fun x hx=>absurd hx Tw⟩,?_⟩
 ·obtain⟨j,id,_,_,e2⟩:=mcS i _ e;exact(hw.hr.own id b N e2).2.1 hb
 ·refine⟨fun i=>?_,fun i h=>?_,fun i o b N h e=>?_,fun i j b N N' h1 h2=>?_,fun i b N e=>?_,hw.hr.rsz,fun b h=> .inl h,fun b h=>h,Fr.refl _ _,fun i x _ h=>h,fun i h=>cA h⟩
  ·cases ho:ax os i with
   |none=>rw[hmc];simp[ho,bE]
   | some o=>
     obtain⟨j,id,rfl,hj⟩:=keyS i o ho;rw[mcI j id hj,live j id hj];exact(IN.1 hreal _ (bu ho)).symm
  ·cases ho:ax os i with
   |none=>rfl
   | some o=>
     obtain⟨j,id,rfl,hj⟩:=keyS i o ho;rw[cA (RD _ _)]at h;cases h
  ·obtain⟨j,id,rfl,hj,e2⟩:=mcS i _ e;have h1:=obs _ _ h;rw[ρj j id hj]at h1;have h2:=hw.hr.obj id _ b N h1 e2;refine kE.gl (dH ids 0) (okR ids.length 0) (fun i x hp hx=>?_) (fun i hp=>?_) (IN.1 hob _ (bu h)) h2
   ·obtain⟨j',id',rfl,hj',e3⟩:=mcS i x hx;rw[ρj j' id' hj'];exact e3
   ·obtain⟨j',id',rfl,_⟩:=okcase0 i hp;exact cA (RD _ _)
  ·obtain⟨i1,id1,rfl,g1,e1⟩:=mcS i _ h1;obtain⟨i2,id2,rfl,g2,e2⟩:=mcS j _ h2;have:=hw.hr.inj id1 id2 b N N' e1 e2;subst this;rw[idsInj i1 i2 id1 g1 g2]
  ·obtain⟨j,id,_,_,e2⟩:=mcS i _ e;exact⟨(hw.hr.own id b N e2).1,(hw.hr.own id b N e2).2.1,.inl ⟨i,N,e⟩⟩
 ·intro j b hj;rw[Rv]at hj;cases hi:ids[j]? with
  |none=>rw[hi]at hj;cases hj
  | some id=>
    rw[hi]at hj;obtain⟨⟨b',N⟩,hm⟩:=PB.1 (live j id hi);simp only[hm,Ra,Sc,Pe]at hj;subst hj;exact⟨N,by rw[mcI j id hi,hm]⟩
 ·intro i b N e;obtain⟨j,id,_,_,e2⟩:=mcS i _ e;exact⟨hF id b N e2,Tw⟩
 ·intro b hb;exact⟨.inl hb,Tw⟩
 ·intro j id b hi hj;rw[Rv,hi]at hj;obtain⟨⟨b',N⟩,hm⟩:=PB.1 (live j id hi);simp only[hm,Ra,Sc,Pe]at hj;subst hj;exact⟨N,hm⟩
def Fo(P:Program)(fn:Func)(n:Nat)(σ:St)(vs:List V):Prop:=∀m0 w0 F R0 (a:Act) (w:World) (m:Gm) (R:Nat->Prop),SW ⟨P,m0,w0,F,R0⟩ n σ a w m R->∃us:List Value,(results fn a.tmps).run P w= .ok (if h:us.toArray.size=1 then us.toArray[0]else .tuple us.toArray) w/\RelL w m σ.av R vs us
theorem res2{P:Program}{fn:Func}{n:Nat}{σ:St}{x y:Nat}{t1 t2:TypeId}(hf:fn.results.toList=[.cell x t1,.cell y t2]){i j k:Nat}{T1 T2:TypeId}{cs:List V}{v:V}(h1:isRow P t1)(hk:bQ P t1 k)(hl:cs.length=k)(e1:σ.ev n (.tmp x)= .ptr i 0)(o1:σ.ob i=some (.mix T1 cs))
  (h2:fl P t2) (e2:σ.ev n (.tmp y)= .ptr j 0) (o2:σ.ob j=some (.mix T2 [v])):Fo P fn n σ [.agg cs,v]:=by
 intro m0 w0 F R0 a w m R hw;obtain⟨us,hr,hrel⟩:=ma hw (fun| .tmp t=>pure (a.tmps.getD t undef)| .cell ad t=>do loadVar t (← asAddr (a.tmps.getD ad undef))) (fun _=>rfl) (fun _ _=>rfl) (l:=[.cell x t1]) (vs:=[.agg cs]) (by simp only[yV,e1,o1]) ⟨az h1 hk e1 o1 hl,TB⟩;simp only[RelL]at hrel;obtain⟨u1,us',rfl,hr1,rfl⟩:=hrel;obtain⟨b,N,hev,hm,arr,hb,hN,hle,hrl⟩:=hw.ptr e2 o2;obtain⟨u2,hu2,hr2⟩:=hrl.get (show [v][0]? =some v from O);have hc:w.cell? ⟨b,0,none⟩=some u2:=by rw[kg hb O (show 0<[v].length from Nat.zero_lt_one)];exact hu2
 have hev':a.tmps.getD y undef= .pointer (some ⟨b,0,none⟩):=hev;refine⟨[u1,u2],?_,RelL.cons hr1 (RelL.cons hr2 RelL.nil)⟩;have h3:Sem.run P (loadVar t2 ⟨b,0,none⟩) w= .ok u2 w:=by simp[loadVar,h2.run,load,Sem.run,hc]
 rw[List.mapM_cons,List.mapM_nil]at hr;have h4:Sem.run P (do loadVar t1 (← asAddr (a.tmps.getD x undef))) w= .ok u1 w:=by
  revert hr
  simp only[Sem.run_bind];cases hq:Sem.run P (asAddr (a.tmps.getD x undef)) w with
  | ok q wq=>
    simp only[Result.andThen_ok];cases hq2:Sem.run P (loadVar t1 q) wq with
    |ok q2 wq2=>simp
    |_=>simp[Result.andThen]
  |_=>simp[Result.andThen]
 unfold results;rw[Array.mapM_eq_mapM_toList,hf];rw[Sem.run_bind]at h4;simp only[List.mapM_cons,List.mapM_nil,Sem.run_bind,Sem.run_map];rw[h4];simp[hev',asAddr,h3]
def HE(P:Program)(fn:Func)(n:Nat)(Q:PV->Prop):Exit->St->Prop
 | .ret,σ| .normal,σ=>∃vs ps,Fo P fn n σ vs/\V.args σ.ob vs=some ps/\Q (eJ ps)
 |_,_=>False
theorem Btw.tail{P:Program}{w0:World}{R0:Nat->Prop}{bs X:List Nat}{os:List (Nat×Ob)}{k n D:Nat}{W:World}{z:Code}{slots:List (Nat×V)}{fn:Func}{Q:PV->Prop}
  (hT:∀m0 w0 F R0,AW ⟨P,m0,w0,F,R0⟩ n z (HE P fn n Q) (mkS slots os k)) (hB:Btw P w0 R0 bs X os k W) (hD:D∈X) (hdef:W.heap[D]? =some (.deferred (some []))) (a:Act) (hdf:a.defers=[{ target:= .collected D,args:= #[] }]) (hsz:a.tmps.size=n)
  (hsl:∀(m:Gm)(R:Nat->Prop),(∀j b,bs[j]? =some b->∃N,m (big+j)=some (b,N))->(∀b,R0 b->R b)->∀t,t<n->Rel W m (avK k) R (look slots t) (a.eval (.tmp t))):
  z.wp P (bodyPostM Fence.wide 2 P fn (B6 w0 R0 Q)) a W:=by
 obtain⟨m,rt0,hr0,h1,h2,h3,h4⟩:=hB.ex;obtain⟨rt,hp,hd0⟩:∃rt:RT W (dj m),rt.p=rt0.p/\rt.df=a.defers:=⟨⟨rt0.p,rt0.g,rt0.d,a.defers⟩,O,O⟩;have hr:=hr0.dfs hp;rw[<-hp]at hr h3 h4;refine wp_mono ((hT m W (dj m) rt).go a W ⟨m,rt.p,hr,hd0.symm,hsz,hsl m rt.p h1 h3⟩) ?_;rintro ex a2 w2 ⟨σ',hq,m2,R2,hw⟩;have hfr:Fr (dj m) W w2:=hw.hr.frame;have hDW:=(hB.xs D hD);have hDm:¬dj m D:=fun⟨id,N,e⟩=>(h2 id D N e).2 hD
 have hD2:w2.heap[D]? =some (.deferred (some [])):=(hfr.block D hDW.1 hDm).trans hdef;have hDR:¬R2 D:=fun h=>by
  rcases hw.hr.rfr D h with e|e|e
  ·exact(h4 D e).2 hD
  ·have:W.heap.size<=D:=e;omega
  ·exact hDm e
 have hDo:∀id N,m2 id≠some (D,N):=fun id N e=>by
  rcases(hw.hr.own id D N e).2.2 with h|h
  ·exact hDm h
  ·have:W.heap.size<=D:=h;omega
 obtain⟨w3,hw3⟩:∃w3,w3=w2.putObj D (.deferred none):=⟨_,O⟩;have ho3:∀q,q≠D->w3.heap[q]? =w2.heap[q]? :=fun q hq=>by rw[hw3];exact World.putObj_heap_other hq
 have hs3:w3.heap.size=w2.heap.size:=by rw[hw3];simp
 have hRk:∀b,R2 b->R2 b/\w3.heap[b]? =w2.heap[b]? :=fun b hb=>⟨hb,ho3 b fun e=>hDR (e▸hb)⟩
 obtain⟨rt3,hp3,hd3⟩:∃rt3:RT w3 (dj m2),rt3.p=R2/\rt3.df=a2.defers:=⟨⟨R2,hw.hr.gi.mono hRk,fun b hb=>⟨by rw[hs3];exact hw.hr.rsz b hb,fun⟨id,N,e⟩=>(hw.hr.own id b N e).2.1 hb⟩,a2.defers⟩,O,O⟩;have hw4:SW ⟨P,m2,w3,dj m2,rt3⟩ n σ' a2 w3 m2 R2:=by
  refine⟨⟨hw.hr.dom,hw.hr.free,fun id o b N g1 g2=>kE.mono hRk (fun _ _ _ e=>e) (fun _ e=>e) (ho3 b fun e=>hDo id N (e▸g2)) (hw.hr.obj id o b N g1 g2),hw.hr.inj,fun id b N e=>⟨by rw[hs3];exact(hw.hr.own id b N e).1,(hw.hr.own id b N e).2.1,.inl ⟨id,N,e⟩⟩,fun b hb=>by rw[hs3];exact hw.hr.rsz b hb,fun b hb=> .inl (by show rt3.p b;rw[hp3];exact hb),fun b hb=>by have:rt3.p b:=hb;rw[hp3]at this;exact this,Fr.refl _ _,fun _ _ _ e=>e,hw.hr.res⟩,hd3.symm,hw.sz,fun t ht=>(hw.sl t ht).mono hRk (fun _ _ _ e=>e) fun _ e=>e⟩
 have hdf2:a2.defers=[{ target:= .collected D,args:= #[] }]:=hw.df.trans (hd0.trans hdf);have hwn:∀id b N,m2 id=some (b,N)->w0.heap.size<=b:=fun id b N e=>by
  rcases(hw.hr.own id b N e).2.2 with⟨id2,N2,e2⟩|h
  ·exact(h2 id2 b N2 e2).1
  ·have:W.heap.size<=b:=h;exact IS hB.bel.size this
 have hRn:∀b,R2 b->R0 b\/w0.heap.size<=b:=fun b hb=>by
  rcases hw.hr.rfr b hb with e|e|⟨id,N,e⟩
  ·exact(h4 b e).1
  ·have:W.heap.size<=b:=e;exact .inr (IS hB.bel.size this)
  ·exact .inr (h2 id b N e).1
 have hbel:Below w0.heap.size w0 w3:=by
  have hb2:Below w0.heap.size W w3:=⟨by rw[hw3];exact hfr.os,by rw[hw3];exact hfr.tape,by rw[hw3];exact hfr.output,by rw[hs3];exact hfr.size,fun q hq=>(ho3 q Ts).trans (hfr.block q (Ps hq hB.bel.size) fun⟨id,N,e⟩=>by have:=(h2 id q N e).1;omega)⟩;exact hB.bel.trans hb2
 have fin:∀vs ps,Fo P fn n σ' vs->V.args σ'.ob vs=some ps->Q (eJ ps)->LeavesInM Fence.wide 2 P fn a2.tmps (B6 w0 R0 Q) a2.defers .returning w2:=by
  intro vs ps g1 g2 g3;obtain⟨us',hrun,hrl⟩:=g1 _ _ _ _ _ _ _ _ hw4;have hpl:=hw4.args hrl g2;have hp2:RelPL w3 (fun b=>R0 b\/(w0.heap.size<=b/\b<w3.heap.size)) ps us':=hpl.mono fun b hb=>⟨by
   rcases hb with hb|⟨id,N,hb⟩
   ·rcases hRn b hb with h|h
    ·exact .inl h
    ·exact .inr ⟨h,by rw[hs3];exact hw.hr.rsz b hb⟩
   ·exact .inr ⟨hwn id b N hb,by rw[hs3];exact(hw.hr.own id b N hb).1⟩,O⟩
  have hlen:=hp2.length;rw[hdf2];refine⟨Tw,.inl ⟨D,w3,O,by rw[hw3];exact run_takeDeferred hD2,?_⟩⟩;refine⟨_,hrun,_,_,O,g3,hbel,?_⟩;cases ps with
  | nil=>
    simp only[RelPL]at hp2;subst hp2;simp only[eJ,RelP];exact⟨[],Tw,RelPL.nil⟩
  | cons p ps=>
    cases ps with
    | nil=>
      simp only[RelPL]at hp2;obtain⟨u,vs',rfl,h5,rfl⟩:=hp2;simpa[eJ]using h5
    | cons p2 ps=>
      simp only[eJ,RelP];refine⟨us',?_,hp2⟩;rw[dif_neg (by simp at hlen ⊢; omega)]
 cases ex with
 |normal=>obtain⟨vs,ps,g1,g2,g3⟩:=hq;exact fin vs ps g1 g2 g3
 |ret=>obtain⟨vs,ps,g1,g2,g3⟩:=hq;exact fin vs ps g1 g2 g3
 |_=>exact hq.elim
end
section
open Go.RowKit Go.Shelf
attribute [local go_sem] Oper.semAt_some
theorem EL(b off bk o:Nat)(L:List Int)(A:Option Addr)(c:Nat)(w:World)(hbl:b<w.heap.size)(hbk:L≠[]->A=some ⟨bk,o,none⟩/\bk<w.heap.size)(hc0:w.cell? ⟨b,off,none⟩=some (.slice A L.length c))
  (hr0:∀j (h:j<L.length),w.cell? ⟨bk,o+j,none⟩=some (.int .i64 L[j])) (hLl:L.length<=1000000):
  Np false prog 118 #[.pointer (some ⟨b,off,none⟩)] (fun x:Nat×Int=> #[.int .i64 (x.1:Int),.int .i64 x.2]) (fun U V=>∀q,q=b\/(L≠[]/\q=bk)->V.heap[q]? =U.heap[q]?)
   (fun pre x=>pre.length<L.length/\x=(L.length-1-pre.length,L.getD (L.length-1-pre.length) 0)) (fun xs=>xs.length=L.length) w:=by
 intro l J W hW hJ hY h0;have h0:J [] W:=h0 (.cells #[] 0 (0,0));have hc:W.cell? ⟨b,off,none⟩=some (.slice A L.length c):=(hW.cell (p:=⟨b,off,none⟩) hbl).trans hc0;have hr:∀j (h:j<L.length),W.cell? ⟨bk,o+j,none⟩=some (.int .i64 L[j]):=fun j h=>(hW.cell (p:=⟨bk,o+j,none⟩) (hbk (by intro e;subst e;simp at h)).2).trans (hr0 j h)
 have hA:L≠[]->A=some ⟨bk,o,none⟩:=fun h=>(hbk h).1
 clear hc0 hr0 hJ hW;refine callsIn_of_wp func118 O trivial ?_ O;simp only[ntmps118,Pv,Pd,Rt,Nat.reduceAdd,Nat.reduceSub,RZ,R7,SH,Su,Qa,Qq]
 gi_wp2
 gi_loopw [3] (fun i wr=>∃pre:List (Nat×Int),pre.length<=L.length/\i= .int .i64 ((L.length:Int)-1-pre.length)/\J pre wr/\wr.cell? ⟨b,off,none⟩=some (.slice A L.length c)/\∀j (h:j<L.length),wr.cell? ⟨bk,o+j,none⟩=some (.int .i64 L[j]))
  (fun i _=>(intOf i+1).toNat)
 case atStart=>
  exact⟨[],cd _,Tw,h0,hc,hr⟩
 case round=>
  obtain⟨pre,hpl,rfl,hJp,hcp,hrp⟩:=hrel;by_cases hlt:pre.length<L.length
  ·obtain⟨k,hk⟩:∃k:Nat,k=L.length-1-pre.length:=⟨_,O⟩;have hkl:k<L.length:=Ts;have hki:(L.length:Int)-1-pre.length=(k:Int):=Ts;have hne:L≠[]:=fun e=>by subst e;simp at hkl
   obtain rfl:=hA hne;have hck:=hrp k hkl;have hge:decide ((k:Int)>=0)=true:=Pn Ts;obtain⟨fn,tmps,assign,body,hy,hR⟩:=hY pre (k,L[k]) wr hJp ⟨hlt,by subst hk;simp[List.getD,hkl]⟩;simp only at hy;have hkn:(k:Int)-1=(L.length:Int)-1-((pre.length+1:Nat):Int):=Ts;rw[hki];have HK:=Lib.hid (And.intro hki hkn);have HC:=Lib.hid hrp;have HP:=Lib.hid hcp;clear hY hc hr hrp hk hki hkn hA hbk
   gi_wp2
   refine hR.mono ?_;rintro e W4 ⟨rfl,hJ4,hk4⟩
   gi_wp2
   go_roundw
   case rel=>
    refine⟨pre++[(k,L[k])],Tx,?_,hJ4,?_,fun j h=>?_⟩
    ·rw[HK.out.2];simp
    ·rw[<-HP.out];exact World.cell?_of_block (hk4 b (.inl O))
    ·rw[<-HC.out j h];exact World.cell?_of_block (hk4 bk (.inr ⟨hne,O⟩))
   case measure=>simp[intOf]
  ·have hpe:pre.length=L.length:=Ts
   gi_wp2
   go_end0
   exact⟨⟨_,O⟩,pre,hpe,hJp⟩
end
section
namespace Vw
open Mm Jn Mk
set_option autoImplicit false
theorem oO{α:Type}[BEq α][LawfulBEq α]:∀{l Q:List α},l.Nodup->(∀a∈l,a∈Q)->l.length<=Q.length
 |[],_,_,_=>cd _
 | a::l,Q,hn,hs=>by
   obtain⟨h1,h2⟩:=Rz.1 hn;have ha:=hs a Tw;have:=oO (l:=l) (Q:=Q.erase a) h2 fun b hb=>(List.mem_erase_of_ne (fun e=>h1 (by rw[<-e];exact hb))).2 (hs b (by simp[hb]))
   rw[List.length_erase_of_mem ha]at this;have:=List.length_pos_of_mem ha;rw[Pd];omega
def sqL(Q:List Par):List PP:=Q.flatMap fun a=>Q.map fun b=>(a,b)
theorem Kq(Q:List Par):(sqL Q).length=Q.length*Q.length:=by
 unfold sqL;have:∀l:List Par,(l.flatMap fun a=>Q.map fun b=>(a,b)).length=l.length*Q.length:=fun l=>by
  induction l with
  |nil=>simp
  |cons a l ih=>rw[Py,Ph,ih,Pg,Pd,Nat.add_mul];omega
 exact this Q
theorem Mt{Q:List Par}{a b:Par}(ha:a∈Q)(hb:b∈Q):(a,b)∈sqL Q:=P5.2 ⟨a,ha,IT.2 ⟨b,hb,O⟩⟩
theorem NC{D:Int}{B:Nat}{q:Rat}(hD:0<D)(hD2:D<=36)(hi:db D q)(hb:a6 B q)(h:B*36<1000000000):F1 q:=by
 have h1:=hi.Jq hD;have h2:q.den<=36:=Ts;exact⟨SV (IS hb.num (P8 _ h2)) h,Ts⟩
theorem MX{Q:List Par}{W k:Nat}{x:Mm.Sem}(hs:SOk W k x)(hq:Sup Q x)(hQ:Q.length<=1000)(hb:9*k*k*W*36<1000000000)(hb1:W*36<1000000000)(hb2:3*k*W*36<1000000000):MF1 (cn x):=by
 obtain⟨h,hx,_,_⟩:=hs.cn;refine⟨?_,fun e he=>NC Tu Tu (h.s.it e he) (h.sb e he) hb2,fun e he=>NC Tu Tu (h.p.it e he) (h.pb e he) hb,?_,?_⟩
 ·obtain⟨z,hz⟩:=h.ci;have hb:=h.cb;rw[hz]at hb ⊢;have h1:=hb.num;have e1:((z:Int):Rat).den=1:=rfl;rw[e1,PX]at h1;exact⟨Ts,by rw[e1];decide⟩
 ·have h2:((cn x).s.map (·.1)).length<=Q.length:=oO h.s.nd fun a ha=>by
   obtain⟨e,he,rfl⟩:=IT.1 ha;refine PT fun hn=>?_
   have h3:=hq.s _ hn;rw[<-hx]at h3;have h4:lk (cn x).s e.1=e.2:=fv h.s.nd he;exact h.s.nz e he (h4.symm.trans h3)
  rw[Pg]at h2;omega
 ·have h2:((cn x).p.map (·.1)).length<=(sqL Q).length:=oO h.p.nd fun a ha=>by
   obtain⟨e,he,rfl⟩:=IT.1 ha;have h4:lk (cn x).p e.1=e.2:=fv h.p.nd he;have h5:(cn x).sem.p e.1.1 e.1.2=e.2:=by
    rw[<-h4];show lk (cn x).p (dO e.1.1 e.1.2)=_;rw[eM (h.po e he)]
   have h6:x.p e.1.1 e.1.2≠0:=by rw[<-hx,h5];exact h.p.nz e he
   have h7:e.1.1∈Q/\e.1.2∈Q:=by
    refine⟨PT fun hn=>h6 (hq.p _ _ (.inl hn)),PT fun hn=>h6 (hq.p _ _ (.inr hn))⟩
   exact Mt h7.1 h7.2
  rw[Pg,Kq]at h2;exact IS h2 (IS (Qc hQ hQ) Tu)
theorem rR{Q:List Par}{g:Gv}(h:GvOk Q g)(hQ:Q.length<=1000)(hw:g.w<=40000)(hk:g.k<=8):MF1 (cn g.m):=by
 have h1:9*g.k*g.k*g.w<=9*8*8*40000:=Qc (Qc (P8 9 hk) hk) hw;have h2:3*g.k*g.w<=3*8*40000:=Qc (P8 3 hk) hw;exact MX h.s h.q hQ Ts Ts Ts
end Vw
end


section
open Mk Jn

theorem wY(a b:List ByteArray)(ha:a.length<=1000000)(hb:b.length<=1000000):FnP prog 105 [aZ a,aZ b] (· = .bool (decide (a=b))):=by
 refine FnP.of func105 O ntmps105 Tw fun m0 w0 F R0=>?_
 refine Z1 O O<|Gr O ?_;iterate 5 refine A1 O ?_
 refine Gc O O (fun hc10=>?_) (fun hc10=>?_)
 ·exact Z1 O O<|Gt O<|⟨_,_,O,O,ag PV.bool (Pt (fun e=>by rw[e]at hc10;simp at hc10)).symm⟩
 ·have hl:a.length=b.length:=by simp at hc10;omega
  refine OR<|Z3 O O O O ?_;refine Gl O (st:=fun TC:Nat=>mkS [(0,.pv (aZ a)),(1,.pv (aZ b)),(12,pIi a.length),(13,pIi TC)] [] 0)
   (I:=fun TC=>TC<=a.length/\a.take TC=b.take TC) (μ:=fun TC=>a.length-TC) (x0:=(0)) (OU (aS O) trivial O O) (⟨cd _,O⟩) ?_
  rintro i ⟨hi,ht⟩;refine Z1 O O ?_;refine Gp O O (fun hc14=>?_) (fun hc14=>?_)
  ·have ha1:i<a.length:=Ts;have hb1:i<b.length:=Ts;have va:=bz ha1;have na:=bA ha1;have vb:=bz hb1;have nb:=bA hb1;refine OR<|Z2 O O O<|Ge O follows [0,1,2,3,4,5,6,7,8] Tt ?_;iterate 3 refine D1 O O ?_
   first|refine D2 O O Tv ?_|refine D1 O O ?_
   iterate 3 refine D1 O O ?_
   first|refine D2 O O Tv ?_|refine D1 O O ?_
   refine D1 O O ?_;refine⟨Tt,?_⟩;refine Gc O O (fun hc24=>?_) (fun hc24=>?_)
   ·exact Z1 O O<|Gt O<|⟨_,_,O,O,ag PV.bool (Pt (fun e=>by subst e;simp at hc24)).symm⟩
   ·exact OR<|Z2 O O O<|⟨(i+1),OU (aS O) trivial O O,⟨Ts,by rw[AI ha1,AI hb1,ht,show a[i]=b[i]from baT (by simpa using hc24)]⟩,Ts⟩
  ·exact Gx O<|Z1 O O<|Gt O<|⟨_,_,O,O,ag PV.bool (Pn (by rwa [aX Ts,aX Ts]at ht)).symm⟩
end
section
open Go.RowKit Mk Jn Mm Vw
theorem Hh(l:List Int)(hl:l.length<=1000000):FnP prog 110 [ai l] (· = .int .i64 (orI l)):=by
 refine FnP.of func110 O ntmps110 Tw fun m0 w0 F R0=>?_
 refine Z1 O O<|Z1 O O<|Z3 O O O O ?_;refine Gl O (st:=fun TC:Nat=>mkS [(3,pIi 0),(6,.pv (ai l)),(7,pIi l.length),(8,pIi TC)] [] 0)
  (I:=fun TC=>TC<=l.length/\∀i∈l.take TC,i=0) (μ:=fun TC=>l.length-TC) (x0:=(0)) (OU (aS O) trivial O O) (⟨cd _,fun i hi=>by simp at hi⟩) ?_
 rintro k ⟨hk,hz⟩;refine Z1 O O ?_;refine Gp O O (fun hc9=>?_) (fun hc9=>?_)
 ·have hlt:k<l.length:=Ts;have hv:=aQ hlt;have hne:=aE hlt;have hor:=fun h=>yY hlt hz h
  refine OR<|Z1 O O ?_;first|refine A2 O Tv ?_|refine A1 O ?_
  refine A1 O<|Z3 O O O O ?_;refine Gc O O (fun hc14=>?_) (fun hc14=>?_)
  ·exact Z2 O O O<|Gt O<|⟨_,_,O,O,ag (PV.int .i64) (hor (by simpa using hc14)).symm⟩
  ·exact OR<|Z2 O O O<|⟨(k+1),OU (aS O) trivial O O,⟨Ts,fun i hi=>by rw[bC hlt,Pq,OF]at hi;rcases hi with h|rfl;exact hz i h;simpa using hc14⟩,Ts⟩
 ·exact Gx O<|Z2 O O O<|Gt O<|⟨_,_,O,O,ag (PV.int .i64) (yo fun i hi=>hz i (by rwa [aX Ts])).symm⟩
theorem GA(S:Sch)(hB:SB S)(P:List Int)(hn:P.length<=1000000)(hO:lW S P=0)(d:List (List Rw))(hc:FnP prog 111 [eZ S,dbP d] (· = .int .i64 0)):FnP prog 45 [eZ S,lR P,dbP d] (· = .int .i64 0):=by
 refine FnP.of func45 O ntmps45 Tw fun m0 w0 F R0=>?_
 have ho:=eB S hB P hn;rw[hO]at ho;have hor:=Hh [0,0] Tu;refine Z3 O O O O<|Ge O follows [0,1,2,3,4,5,6,7,8] Tt ?_;iterate 2 refine D1 O O ?_
 refine Ds 9 [] O O O (fun τ h=>aa call72 ho (h.aL O)) O Tt ?_;iterate 2 refine D1 O O ?_
 refine Ds 12 [] O O O (fun τ h=>aa call111 hc (h.aL O)) O Tt<|Ds 13 [] O O O (fun τ h=>ak none Tw el320 O Tu Tu (h.Cc O O) O) O Tt<|Ds 14 [] O O O (fun τ h=>aa call110 hor (h.aL O)) O Tt<|D1 O O ?_;refine⟨Tt,?_⟩;exact Gt O<|⟨_,_,O,O,O⟩
theorem JN(S:Sch)(hS:SB S)(P:List Int)(hO:OrdOk S P):FnP prog 46 [eZ S,lR P] (· =zw (bh S P)):=
 (Hw S hS P hO).mono fun v ⟨G,hG,e⟩=>by rw[e,N9 hO.val hG,IZ hO]
theorem MY(L:List Int):FnP prog 48 [ai L] (· = .fn (.func 118) [] [.rp [ai L] 0]):=by
 refine FnP.of func48 O ntmps48 Tw fun m0 w0 F R0=>?_
 exact Z2 O O O<|OT (St.iB 0 O O)<|Z2 O O O<|Gt O<|⟨_,_,O,O,O⟩
theorem Dv(D:VD)(n:Nat)(hn:D.chs.length=n+1)(hn2:n<=1000)(L:List Int)(hL:D.chs[n]'Ts=L):FnP prog 55 [zw D] (· =ai L):=by
 refine FnP.of func55 O ntmps55 Tw fun m0 w0 F R0=>?_
 have hcv:=fo (ll:=D.chs) (k:=n) Ts;have hcn:=fu (ll:=D.chs) (k:=n) Ts;rw[hL]at hcv;have e:((D.chs.length:Nat):Int)-1=(n:Int):=Ts;refine Z2 O O O<|Gr O ?_;iterate 6 refine A1 O ?_
 exact Rs 9 O O (ae n underlying95 pN O O e Ts hcn)<|Rs 10 O O (au ⟨_,underlying22,O⟩ O hcv)<|A1 O<|Gt O<|⟨_,_,O,O,O⟩
theorem wu(l:List Trm)(hl:l.length<=1000000):FnP prog 106 [.sl none l.length (gj l)] (· = .sl none l.length (gj l)):=by
 refine FnP.fg2 (FnP.of func106 O ntmps106 Tw fun m0 w0 F R0=>?_);have hc:=nX l;refine Z1 O O<|Z1 O O ?_;refine RL.call O (fX underlying44 O ?_);intro b hb;refine Gc O O (fun hc4=>?_) (fun hc4=>?_)
 ·have hl0:l=[]:=by have h:=hb hc4;rw[h]at hc;simp at hc;exact PF Ts
  exact Z1 O O<|Gt O<|⟨_,_,O,O,by rw[hl0];rfl⟩
 ·refine OR<|Gr O<|Rs 5 O O (cI 0 el44 O)<|A1 O<|Rs 7 O O (eY 1 el44 O O O (.inl ⟨none,O⟩) Ts (fun c hc=>by obtain⟨y,_,hy⟩:=P5.1 hc;simp only[AS,P7,R6]at hy;rcases hy with rfl|rfl|rfl<;>rfl) Ts O) ?_;exact A1 O<|OT (OX 1 O O)<|Gt O<|⟨_,_,O,O,show PV.sl none (0+l.length) ([]++gj l)=_ by rw[PJ,Qa]⟩
theorem tC(l:List Prr)(hl:l.length<=1000000):FnP prog 107 [.sl none l.length (gm l)] (· = .sl none l.length (gm l)):=by
 refine FnP.fg2 (FnP.of func107 O ntmps107 Tw fun m0 w0 F R0=>?_);have hc:=mT l;refine Z1 O O<|Z1 O O ?_;refine RL.call O (fX underlying45 O ?_);intro b hb;refine Gc O O (fun hc4=>?_) (fun hc4=>?_)
 ·have hl0:l=[]:=by have h:=hb hc4;rw[h]at hc;simp at hc;exact PF Ts
  exact Z1 O O<|Gt O<|⟨_,_,O,O,by rw[hl0];rfl⟩
 ·refine OR<|Gr O<|Rs 5 O O (cI 0 el45 O)<|A1 O<|Rs 7 O O (eY 1 el45 O O O (.inl ⟨none,O⟩) Ts (fun c hc=>by obtain⟨y,_,hy⟩:=P5.1 hc;simp only[AS,P7,R6]at hy;rcases hy with rfl|rfl|rfl|rfl|rfl<;>rfl) Ts O) ?_;exact A1 O<|OT (OX 1 O O)<|Gt O<|⟨_,_,O,O,show PV.sl none (0+l.length) ([]++gm l)=_ by rw[PJ,Qa]⟩
noncomputable abbrev entC(e:En):List PV:=aZ e.v::Jm (cn e.g.m)
noncomputable def entsC(l:List En):List PV:=l.flatMap entC
theorem tx(l:List En):(entsC l).length=l.length*4:=bV _ 4 (fun _=>rfl) l
theorem ov{l:List En}{k:Nat}(h:k<l.length):((entsC l).drop (k*4)).take 4=entC l[k]:=cm _ 4 (fun _=>rfl) l k h
theorem xM{l:List En}{k:Nat}(h:k<l.length):entsC l≠[]:=fun e=>by have:=tx l;rw[e]at this;simp at this;omega
theorem Am(l:List En)(e:En):entsC l++entC e=entsC (l++[e]):=by simp only[entsC,PS,Py,Sx,PZ]
noncomputable def lstsC(l:List (List En)):List PV:=l.map fun E=> .sl none E.length (entsC E)
theorem qA{l:List (List En)}{k:Nat}(h:k<l.length):(lstsC l)[k*1]? =some (.sl none l[k].length (entsC l[k])):=by simp[lstsC,h]
theorem qu{l:List (List En)}{k:Nat}(h:k<l.length):lstsC l≠[]:=fun e=>by rw[lstsC,RU]at e;subst e;simp at h
noncomputable abbrev vwsP(l:List (List En))(t:MC):PV:= .agg (.sl none l.length (lstsC l)::Jm t)
theorem sf:cn gz.m=⟨((0:Int):Rat),[],[]⟩:=by
 have h:gz.m=cnt ((0:Nat):Int):=Mm.Sem.same (by show(0:Rat)=(((0:Nat):Int):Rat);rfl) (fun _=>rfl) (fun _ _=>rfl);rw[h];exact xx 0
theorem jW:fL ((0:Int):Rat)=⟨#[48]⟩:=by decide+kernel
theorem yN:FnP prog 108 [] (· =uT (cn gz.m)):=by
 refine FnP.fg2 (FnP.ofC func108 O ntmps108 Tw fun m0 w0 F R0=>?_);exact Z1 O O<|Z2 O O O<|Gt O<|⟨_,_,O,O,⟨az ⟨_,underlying47,O⟩ J2 O O O,TB⟩,by rw[sf];show _=PV.agg [.str (fL ((0:Int):Rat)),_,_];rw[jW];rfl⟩
theorem LF{L:List En}{i:Nat}{key:List ByteArray}(hlt:i<L.length)(hno:∀e∈L.take i,e.v≠key)(hv:L[i].v=key):atV L key=L[i].g:=by
 have e1:L.find? (fun e=>decide (e.v=key))=some L[i]:=by
  rw[List.find?_eq_some_iff_append];exact⟨by simpa using hv,L.take i,L.drop (i+1),by rw[<-PC hlt,PK],fun e he=>by simpa using hno e he⟩
 unfold atV;rw[e1];rfl
theorem Od(l:List (List En))(c0:ByteArray)(b1 b2:Option Bool)(k1 k2:Nat)(q1 q2:List PV)(r:Nat)(hr:r<l.length)(key:List ByteArray)(hk:key.length<=1000000)(hl:l[r].length<=1000000)(he:∀e∈l[r],e.v.length<=1000000/\MF1 (cn e.g.m)):FnP prog 42 [.agg [.sl none l.length (lstsC l),.str c0,.sl b1 k1 q1,.sl b2 k2 q2],.int .i64 r,aZ key] (· =uT (cn (atV l[r] key).m)):=by
 refine FnP.ofC func42 O ntmps42 Tw fun m0 w0 F R0=>?_
 have hla:=qA hr;have hln:=qu hr;have hz:=yN;generalize l[r]=L at*;refine Z2 O O O ?_;have hg0:decide ((r:Int)>=0)=true:=Pn Ts;have hg1:decide ((r:Int)<(l.length:Int))=true:=Pn Ts;refine Z1 O O<|Rs 10 O O (XJ.cast (v':= .pv (.bool true)) (aG O O O) (ag (fun b=>V.pv (.bool b)) hg0)) ?_;iterate 5 refine A1 O ?_
 refine Rg 16 O O O (XJ.cast (v':= .pv (.bool true)) (aG O O O) (ag (fun b=>V.pv (.bool b)) hg1))<|A1 O ?_;refine Gc O O (fun hc17=>?_) (fun hc17=>absurd hc17 Tw);refine Z3 O O O O<|Rs 21 O O (ae r underlying42 sz57 O O O hr hln)<|Rs 22 O O (au ⟨_,underlying57,O⟩ O hla)<|Y2 O O ?_;refine Gl O (st:=fun TC:Nat=>mkS [(2,.pv (aZ key)),(6,.ptr 1 0),(22,.pv (.sl none L.length (entsC L))),(23,pIi L.length),(24,pIi TC)] [(1,.mix 47 [.pv (.str ⟨#[]⟩),.pv nS,.pv nS])] 2)
  (I:=fun TC=>TC<=L.length/\∀e∈L.take TC,e.v≠key) (μ:=fun TC=>L.length-TC) (x0:=(0)) (OU (aS O) (aO Tt) O O) (⟨cd _,fun e h=>absurd h Tw⟩) ?_
 rintro i ⟨hi,hno⟩;refine Z1 O O ?_;refine Gp O O (fun hc25=>?_) (fun hc25=>?_)
 ·have hlt:i<L.length:=Ts;have hrow:=ov hlt;have hne:=xM hlt;obtain⟨hev,hem⟩:=he _ (ar hlt);have heq:=wY L[i].v key hev hk;have hT1:=wu (tmL (cn L[i].g.m).s) (by rw[nF];exact hem.ls);have hP1:=tC (prL (cn L[i].g.m).p) (by rw[nN];exact hem.lp);rw[nF]at hT1;rw[nN]at hP1;have htk:L.take (i+1)=L.take i++[L[i]]:=AI hlt;have hat:L[i].v=key->atV L key=L[i].g:=LF hlt hno;generalize L[i]=en at*;refine OR<|Gr O<|Rs 26 O O (ae i underlying57 NG O O O hlt hne)<|Rs 27 O O (aR ⟨_,underlying59,O⟩ NG O hrow O)<|Y2 O O<|Z3 O O O O<|Rs 31 O O (aa call105 heq O) ?_;refine Gc O O (fun hc31=>?_) (fun hc31=>?_)
  ·have hv:=hat (Q8 hc31);refine Ge O follows [0,1,2,3,4,5,6,7,8,9,10,11,12] Tt ?_;iterate 6 refine D1 O O ?_
   refine Ds 38 [] O O O (fun τ h=>aa call106 hT1 (h.aL O)) O Tt ?_;iterate 3 refine D1 O O ?_
   refine Ds 42 [] O O O (fun τ h=>aa call107 hP1 (h.aL O)) O Tt ?_;iterate 2 refine D1 O O ?_
   refine⟨Tt,?_⟩;exact Gt O<|⟨_,_,O,O,⟨az ⟨_,underlying47,O⟩ J2 O O O,TB⟩,by rw[hv];rfl⟩
  ·have hv:en.v≠key:=Rc hc31;exact OR<|Z2 O O O<|⟨(i+1),OU (aS O) (aO Tt) O O,⟨Ts,fun e h=>by rw[htk,Pq,OF]at h;rcases h with h|rfl;exact hno e h;exact hv⟩,Ts⟩
 ·have hmi:atV L key=gz:=by
   have e1:L.find? (fun e=>decide (e.v=key))=none:=List.find?_eq_none.2 (fun e h=>by have:=hno e (by rw[aX Ts];exact h);simpa using this);unfold atV;rw[e1];rfl
  exact Gx O<|Gr O<|Rs 45 O O (aa call108 hz O)<|A1 O<|Gt O<|⟨_,_,O,O,⟨az ⟨_,underlying47,O⟩ J2 O O O,TB⟩,by rw[hmi];rfl⟩
end
section
open Go.RowKit Mk Jn Mm Vw
theorem Iz(A B:Option Addr)(c d:Nat)(l m:List ByteArray)(s t:ByteArray)(A2 A3 B2 B3:Option Addr)(n2 c2 n3 c3 k2 d2 k3 d3:Nat)(w:World){R:Nat->Prop}(h:Row w R A (K5 l)){R':Nat->Prop}(h':Row w R' B (K5 m))(hl:l.length<=1000000)(hm:m.length<=1000000):
  Calls prog 52 #[.agg #[.slice A l.length c,.string s,.slice A2 n2 c2,.slice A3 n3 c3],.agg #[.slice B m.length d,.string t,.slice B2 k2 d2,.slice B3 k3 d3]] w fun e w'=>e= .returned (.int .i64 (qR l m))/\∃n os',w'=Go.Sort.grow (w.drewN n) os':=by
 have hcon:=fun o1 o2=>yS A B c d l m ((w.alloc o1).alloc o2) ((h.alloc o1).alloc o2) ((h'.alloc o1).alloc o2) hl hm
 clear h h';generalize qR l m=z at hcon ⊢
 go_enter func52,ntmps52
 go_wp2_with (go_at_call 53;refine(hcon _ _).mono ?_;rintro e w' ⟨rfl,rfl⟩)
 go_ret
 exact⟨O,0,_,by rw[Go.Sort.alloc_eq_grow,Go.Sort.alloc_eq_grow,Go.Sort.grow_grow];rfl⟩
structure EntV(w:World)(R:Nat->Prop) where
 x:En
 us:List Value
 rel:RelPL w R (entC x) us
 len:x.v.length<=1000000
theorem EntV.cells{w:World}{R:Nat->Prop}(hR:∀b,R b->b<w.heap.size)(y:EntV w R):∃A c s A2 n2 c2 A3 n3 c3,y.us=[.slice A y.x.v.length c,.string s,.slice A2 n2 c2,.slice A3 n3 c3]/\Row w R A (K5 y.x.v):=by
 have h:=y.rel;simp only[RelPL,RelP]at h;obtain⟨u,vs,e,⟨A,c,rfl,_,_,_,_,h5⟩,u2,vs2,rfl,rfl,u3,vs3,rfl,⟨A2,c2,rfl,_⟩,u4,vs4,rfl,⟨A3,c3,rfl,_⟩,rfl⟩:=h;refine⟨A,c,_,A2,_,c2,A3,_,c3,e,fun hne=>?_⟩;obtain⟨b,off,us,rfl,h6,h7,h8⟩:=h5 (fun e=>hne (by rw[RU]at e ⊢; exact e));have e7:=qe h6;subst e7;exact⟨b,off,O,h7,hR b h7,h8⟩
theorem EntV.Nz{w:World}{R:Nat->Prop}(y:EntV w R):y.us.length=4:=y.rel.length
theorem EntV.one{w:World}{R:Nat->Prop}(y:EntV w R):∀v∈y.us,v.oneCell'=true:=by
 have h:=y.rel;simp only[RelPL,RelP]at h;obtain⟨u,vs,e,⟨A,c,rfl,_⟩,u2,vs2,rfl,rfl,u3,vs3,rfl,⟨A2,c2,rfl,_⟩,u4,vs4,rfl,⟨A3,c3,rfl,_⟩,rfl⟩:=h;rw[e];intro v hv;simp only[AS,P7,R6]at hv;rcases hv with rfl|rfl|rfl|rfl<;>rfl
theorem xF{w:World}{R:Nat->Prop}:∀{l:List En}{us:List Value},(∀x∈l,x.v.length<=1000000)->RelPL w R (l.flatMap entC) us->∃ds:List (EntV w R),ds.map (·.x)=l/\ds.flatMap (·.us)=us
 |[],us,_,h=>⟨[],O,by simp[RelPL]at h;simp[h]⟩
 | x::l,us,hl,h=>by
   have h0:RelPL w R (entC x++l.flatMap entC) us:=h;have h1:=h0.take 4;have h2:=h0.drop 4;rw[show(entC x++l.flatMap entC).take 4=entC x from List.take_left' O]at h1;rw[show(entC x++l.flatMap entC).drop 4=l.flatMap entC from List.drop_left' O]at h2;obtain⟨ds,e1,e2⟩:=xF (fun y hy=>hl y (by simp[hy])) h2;exact⟨⟨x,us.take 4,h1,hl x Tw⟩::ds,by simp[e1],by simp[e2]⟩
theorem uj{w w':World}{R:Nat->Prop}(hk:∀b,R b->w'.heap[b]? =w.heap[b]?):∀(ds:List (EntV w R)),RelPL w' R ((ds.map (·.x)).flatMap entC) (ds.flatMap (·.us))
 |[]=>by simp[RelPL]
 | y::ds=>by
   have h1:RelPL w' R (entC y.x) y.us:=RelPL.mono (fun b hb=>⟨hb,hk b hb⟩) _ _ y.rel;have h2:=h1.append (uj hk ds);rw[bL,Py,Py];exact h2
theorem zV(l:List En)(hl:l.length<=1000000)(hv:∀x∈l,x.v.length<=1000000):
  FnO prog 51 1 0 [.gsl big 4 l.length,.pv (.fn (.func 52) [] [])] [(big,.gro 59 (entsC l))] (fun v ob'=>∃l',l'.Perm l/\(l'.Pairwise fun a b=>bl b.v a.v=false)/\v= .tup []/\ob'=ax [(big,.gro 59 (entsC l'))]):=by
 intro w m R us hR hrel;simp only[RelL,Rel,RelP]at hrel;obtain⟨u1,us1,rfl,⟨_,A,c,rfl,hnc,hcm,h0,h1⟩,u2,us2,rfl,⟨fs,cs,rfl,hfs,hcs⟩,rfl⟩:=hrel;obtain rfl:=(by simpa[RelPL]using hfs:fs=[]);obtain rfl:=(by simpa[RelPL]using hcs:cs=[]);refine(kz (α:=EntV w R.p) (fun y=>y.us) (fun y=>y.Nz) entC (fun _=>rfl) Tu (fun y=>y.x) (fun ds=>ds.Pairwise fun a b=>bl b.x.v a.x.v=false) List.Pairwise.nil hR (fun h=>(h0 h).1) h1 (fun us h=>xF hv h) (fun w' hk ds=>uj hk ds)
  (AnyF.slices_SortFunc_none Tryz.sortEnt none c _ w) ?_).mono ?_
 ·intro b ds arr hds hpos hb ht hbs hbR;have hdl:ds.length=l.length:=by rw[<-hds,Pg]
  haveI:Inhabited (EntV w R.p):=⟨ds[0]'Ts⟩
  have hcmp:CmpLays prog 52 #[] (fun y:EntV w R.p=>y.us) 4 (fun x y=>qR x.x.v y.x.v) b 0 ds.toArray.size w:=by
   intro mm os dk _ x y;obtain⟨A1,c1,s1,A2,n2,c2,A3,n3,c3,e1,r1⟩:=x.cells hR.rsz;obtain⟨B1,d1,t1,B2,k2,d2,B3,k3,d3,e2,r2⟩:=y.cells hR.rsz;have hs:=qS Tu (fun y:EntV w R.p=>y.us) (fun y=>y.Nz) w b mm dk os hbs;have hk:∀b',R.p b'->b'<w.heap.size->(sortWorldK (fun y:EntV w R.p=>y.us) 4 w b 0 mm dk os).heap[b']? =w.heap[b']? :=fun b' h1 h2=>hs.block b' h2 fun e=>hbR (e▸h1)
   have:=Iz A1 B1 c1 d1 x.x.v y.x.v s1 t1 A2 A3 B2 B3 n2 c2 n3 c3 k2 d2 k3 d3 (sortWorldK (fun y:EntV w R.p=>y.us) 4 w b 0 mm dk os) (r1.keep hs.size fun b' _ _ h1 h2=>hk b' h1 h2) (r2.keep hs.size fun b' _ _ h1 h2=>hk b' h1 h2) x.len y.len;show Calls _ _ (#[.agg x.us.toArray,.agg y.us.toArray]++ #[]) _ _;rw[e1,e2,Array.append_empty];exact this
  have hgo:=AnyQ.slices_SortFunc Tryz.sortEnt 4 isAgg59 sizeOf59 (fun y:EntV w R.p=>y.us) (fun y=>y.Nz) (fun y=>y.one) (fun x y=>qR x.x.v y.x.v) (FE fun y:EntV w R.p=>y.x.v) 52 #[] b 0 c ds.toArray w call52 hcmp (mU Tu (fun y:EntV w R.p=>y.us) (fun y=>y.Nz) hb ht) hbs (by rw[Pv];omega);rw[Pv,hdl]at hgo;refine Calls.mono hgo ?_;rintro e w' ⟨rfl,d',n,os,hp,hs,rfl⟩;have hd':d'.size=l.length:=hp.1.trans (by rw[Pv,hdl]);refine⟨O,d'.toList,permIn_all (by rw[Pv,hdl]) hp,(gZ hd' hs).imp fun{a b} h=>?_,qS Tu (fun y:EntV w R.p=>y.us) (fun y=>y.Nz) w b n d' os hbs⟩;rw[Cp fun y:EntV w R.p=>y.x.v]at h;exact h
 ·rintro e w' ⟨u,v,ob',m',R',rfl,⟨l',ds',hp,rfl,hs,rfl,rfl⟩,r⟩;refine⟨u,_,_,m',R',O,⟨_,hp,?_,O,O⟩,r⟩;rw[Q9];exact hs
end
section
open Go.RowKit Mk Jn Mm Vw
structure VB(S:Sch)(P:List Int)(T:List (List Rw))(Q:List Par)(X:Nat->List ByteArray)(lf:Int->ByteArray->Gv):Prop where
 sb:SB S
 sj:SJn S
 ord:OrdOk S P
 p5:P.length<=5
 p0:0<P.length
 r3:S.rels.length<=3
 tl:T.length=S.rels.length
 t60:∀l∈T,l.length<=60
 tw:∀l∈T,∀x∈l,0<=x.w/\x.w<=10^5
 q:Q.length<=1000
 x1:∀a,∀t∈X a,t.size<=1000
 lfx:LfX Q X lf
 lift:∀v:Nat,v<P.length->∀t∈X v,FnP prog 121 [eZ S,.int .i64 v,.str t] (· =momP (lf v t).m)
 tb:TbX X S T
 en:∀v:Nat,v<P.length->gO Gv.n (vwS S P T lf v)<=216
 ew:∀v:Nat,v<P.length->gO Gv.w (vwS S P T lf v)<=40000
 tot:(totV S P T lf).w<=40000
section
variable {S:Sch}{P:List Int}{T:List (List Rw)}{Q:List Par}{X:Nat->List ByteArray}{lf:Int->ByteArray->Gv}
theorem VB.len(h:VB S P T Q X lf){v:Nat}(hv:v<P.length):(vwS S P T lf v).length<=216:=
 IS (LI fun e he=>(Mr h.lfx h.tb v e he).n) (h.en v hv)
theorem VB.ev(h:VB S P T Q X lf){v:Nat}(hv:v<P.length){e:En}(he:e∈vwS S P T lf v):ItX Q X (fh S P v) e.v e.g/\e.g.w<=40000/\e.g.k<=5:=
 ⟨Mr h.lfx h.tb v e he,IS (u7 he) (h.ew v hv),IS (vwS_k h.ord.jo (fun v t=>Qp (h.lfx.k v t)) hv e he) h.p5⟩
theorem Bs(h:VB S P T Q X lf){v:Nat}(hv:v<P.length):∀a∈fh S P v,0<=a/\a<(S.attrs.length:Int):=fun a ha=>by
 obtain⟨b,hb,e⟩:=j9 h.ord.jo hv (PH _ (Bz.1 ha).1);have:=h.ord.len;omega
theorem Fk{n v:Nat}(hv:v<n):(upZ n)[v]'(by rw[aW];exact hv)=(v:Int):=by simp[upZ]
theorem pl_ch{v:Nat}(hv:v<P.length):(bh S P).chs[v]'(by simp[bh,aW];omega)=aA P v:=by
 simp only[bh,List.getElem_append,Pg,aW,hv,dite_true,Qm,Fk hv]
theorem ER{v:Nat}(hv:v<P.length):(bh S P).kes[v]'(by simp[bh,aW];omega)=fh S P v:=by
 simp only[bh,Qm,Fk hv]
theorem pl_ho{v:Nat}(hv:v<P.length):(bh S P).hos[v]'(by simp[bh,aW];omega)=hoL S P v:=by
 simp only[bh,Qm,Fk hv];rfl
theorem oI(P:List Int)(v:Int):(aA P v).length<=P.length:=by rw[<-jP];exact iR _ _ _
theorem Ju{v:Int}:∀r∈hoL S P v,∃k:Nat,k<S.rels.length/\r=(k:Int):=fun r hr=>by
 unfold hoL lS at hr;obtain⟨k,hk,rfl⟩:=IT.1 hr;exact⟨k,P0.1 (Qn.1 hk).1,O⟩
theorem VB.bc(h:VB S P T Q X lf){v:Nat}(hv:v<P.length):BC S (bh S P) S.attrs.length v (fh S P v) Q X lf (fe S P T (vwS S P T lf) v):=by
 have hlen:=h.ord.len;have hp5:=h.p5;refine⟨by have:=h.p0;omega,Ts,Ts,by simp[bh,aW];omega,ER hv,by have:=vT S P v;omega,Bs h hv,h.x1,h.lfx,h.lift v hv,?_,?_⟩
 ·intro p hp;have hx:=vw (Q:=Q) (S:=S) (P:=P) h.tb (f:=vwS S P T lf) (v:=v) (fun c _=>Mr h.lfx h.tb c) p hp;rcases Pq.1 hp with hp|hp
  ·obtain⟨r,hr,rfl⟩:=IT.1 hp;obtain⟨k,hk,rfl⟩:=Ju r hr;have hkT:k<T.length:=by rw[h.tl];exact hk
   have e1:oT S (k:Int)=S.rels[k].2:=by simp[oT,List.getD,hk]
   have e2:l6 T (k:Int)=T[k]:=by simp[l6,List.getD,hkT]
   refine⟨hx,fun i hi=>?_,fun i hi=>?_,fun a ha=>?_,?_,?_⟩
   ·obtain⟨x,hxm,rfl⟩:=IT.1 hi;rw[e2]at hxm;have:=h.tw _ (ar hkT) x hxm;show x.w.toNat<=_;omega
   ·obtain⟨x,hxm,rfl⟩:=IT.1 hi;exact cd _
   ·have ha:a∈oT S (k:Int):=ha;rw[e1]at ha;exact h.sj.b _ (ar hk) a ha
   ·show(oT S (k:Int)).length<=1000;rw[e1];exact h.sj.l _ (ar hk)
   ·show(List.map _ (l6 T (k:Int))).length<=_;rw[Pg,e2];have:=h.t60 _ (ar hkT);omega
  ·obtain⟨c,hc,rfl⟩:=IT.1 hp;obtain⟨m,hm,rfl,_⟩:=a7.1 hc;have hem:∀i∈(ct (fh S P m) (vwS S P T lf m)).is,∃e∈vwS S P T lf m,i=⟨e.v,e.g⟩:=fun i hi=>by
    obtain⟨e,he,rfl⟩:=IT.1 hi;exact⟨e,(dy _).mem_iff.1 he,O⟩
   refine⟨hx,fun i hi=>?_,fun i hi=>?_,fun a ha=>?_,?_,?_⟩
   ·obtain⟨e,he,rfl⟩:=hem i hi;have:=(h.ev hm he).2.1;show e.g.w<=_;omega
   ·obtain⟨e,he,rfl⟩:=hem i hi;have:=(h.ev hm he).2.2;show e.g.k<=_;omega
   ·exact Bs h hm a ha
   ·have:=vT S P m;show(fh S P m).length<=_;omega
   ·show(List.map _ (FO (vwS S P T lf m))).length<=_;rw[Pg,(dy _).length_eq];have:=h.len hm;omega
 ·unfold fe;rw[Ph,Pg,Pg];have h1:=iR (S.rels.map fun r=>iy P r.2) S.rels.length v;have h2:=oI P v;have h3:=h.r3;show(hoL S P v).length+_<=_;unfold hoL;omega
noncomputable def lnV(S:Sch)(P:List Int)(T:List (List Rw))(lf:Int->ByteArray->Gv)(D:List Int):Nat:=(D.map fun v=>(vwS S P T lf v).length).sum
theorem JM(h:VB S P T Q X lf):∀{D:List Int},(∀v∈D,∃a:Nat,a<P.length/\v=(a:Int))->lnV S P T lf D<=216*D.length
 |[],_=>BY _
 | v::D,hD=>by
   obtain⟨a,ha,rfl⟩:=hD v Tw;have h1:=h.len ha;have h2:=JM h (D:=D) fun x hx=>hD x (by simp[hx])
   unfold lnV at h2 ⊢;rw[bL,PM,Pd];omega
theorem BJ(hP:UpOk P){i:Nat}(hi:i<(aH P).length):∃a:Nat,a<P.length/\(aH P)[i]=(a:Int):=by
 have:=(bU hP).mem_iff.1 (ar hi);exact bI.1 this
theorem MK(h:VB S P T Q X lf){i v:Nat}(hi:i<(aH P).length)(e:(aH P)[i]=(v:Int)):
  FnO prog 49 2 0 [.ptr big 0,pIi v] (bldO S (bh S P) T S.attrs.length (3000-(lnV S P T lf ((aH P).drop (i+1)):Int)) (stV S P T lf ((aH P).drop (i+1)))) (fun r ob'=>r= .pv (.bool true)/\ob'=ax (bldO S (bh S P) T S.attrs.length (3000-(lnV S P T lf ((aH P).drop i):Int)) (stV S P T lf ((aH P).drop i)))):=by
 have hP:=h.ord.jo;have hlen:=h.ord.len;have hv:v<P.length:=by
  obtain⟨a,ha,e2⟩:=BJ hP hi;omega
 have hbc:=h.bc hv;have hdrop:(aH P).drop i=(v:Int)::(aH P).drop (i+1):=by rw[<-e];exact PC hi
 have hln:lnV S P T lf ((aH P).drop i)=(vwS S P T lf v).length+lnV S P T lf ((aH P).drop (i+1)):=by
  rw[hdrop];unfold lnV;rw[bL,PM]
 have hle:lnV S P T lf ((aH P).drop i)<=216*5:=by
  refine IS (JM h fun x hx=>?_) (P8 _ ?_)
  ·exact bI.1 ((bU hP).mem_iff.1 (Sd hx))
  ·rw[Qw,(bU hP).length_eq,aW];have:=h.p5;omega
 have hmk:viewE (lf v) S.attrs.length v (fh S P v) (fe S P T (vwS S P T lf) v)=vwS S P T lf v:=(lL hP hv).symm;have hst:=Nw (S:=S) (T:=T) (lf:=lf) hP hi e;have hsl:=Da (S:=S) (P:=P) (T:=T) (lf:=lf) ((aH P).drop (i+1));have hb:=(yD (S:=S) (T:=T) (lf:=lf) hP hi).2;rw[e]at hb;have key:=vf (S:=S) (D:=bh S P) (T:=T) (n:=S.attrs.length) (left:=3000-(lnV S P T lf ((aH P).drop (i+1)):Int)) (vs:=stV S P T lf ((aH P).drop (i+1))) (ps:=fe S P T (vwS S P T lf) v) (v:=v) (K:=fh S P v) (Q:=Q) (X:=X) (lf:=lf)
  (by have:=h.r3;omega) (by rw[hsl];exact hlen) O h.tl (fun l hl=>by have:=h.t60 l hl;omega) (fun l hl x hx=>by have:=h.tw l hl x hx;omega)
  (hoL S P v) (aA P v) (by simp[bh,aW];omega) (by simp[bh,aW];omega) (pl_ho hv) (pl_ch hv) (by have:=iR (S.rels.map fun r=>iy P r.2) S.rels.length v;have:=h.r3;show(lS _ _ _).length<=_;omega) (by have:=oI P v;have:=h.p5;omega) Ju
  (fun c hc=>by
   obtain⟨m,hm,rfl,_⟩:=a7.1 hc;exact⟨m,Ts,by simp[bh,aW];omega,O⟩)
  (vwS S P T lf) (fh S P) (fun k hk hk' hc=>by
   have hkP:k<P.length:=by rw[hsl]at hk;exact hk
   refine⟨?_,ER hkP,I9 k,by have:=h.len hkP;omega⟩;rw[yW hk,AT (hb k hc)])
  rfl hbc Ts (by rw[hmk];omega) (by rw[hmk];exact IS (h.ew v hv) (by decide+kernel))
 rw[hmk,hst]at key;have e3:(3000-(lnV S P T lf ((aH P).drop (i+1)):Int))-((vwS S P T lf v).length:Int)=3000-(lnV S P T lf ((aH P).drop i):Int):=Ts;rw[e3]at key;exact key
end
noncomputable def vbBody:Code:=match Tryz.f13.body with
 |some (.seq _ (.seq _ (.seq _ (.seq _ (.seq (.seq _ (.block _ (.rangeFunc _ _ _ b))) _)))))=>b
 |_=> .skip
noncomputable def vbTail:Code:=match Tryz.f13.body with
 |some (.seq _ (.seq _ (.seq _ (.seq _ (.seq _ t)))))=>t
 |_=> .skip
noncomputable abbrev vbO(S:Sch)(D:VD)(T:List (List Rw))(n:Nat)(left:Int)(vs:List (Option (List En))):List (Nat×Ob):=[(big,.mix 94 [.ptr 9003 0]),(9001,.mix 49 [.pv nS,.pv (.str ⟨#[]⟩),.pv nS,.pv nS]),(9002,.mix 50 [pIi 0]),(9003,.mix 101 (bldM2 S D T n left 9004)),(9004,.cells 110 (vwsC vs))]
theorem GP{S:Sch}{D:VD}{T:List (List Rw)}{n v:Nat}{l1 l2:Int}{vs1 vs2:List (Option (List En))}(hb:FnO prog 49 2 0 [.ptr big 0,pIi v] (bldO S D T n l1 vs1) (fun r ob'=>r= .pv (.bool true)/\ob'=ax (bldO S D T n l2 vs2))):
  ∀m0 w0 F R0,AWR ⟨prog,m0,w0,F,R0⟩ Tryz.f13.ntmps vbBody (fun ex τ=>ex= .normal/\τ.le (mkS [] (vbO S D T n l2 vs2) 0)) (mkS [(9,.ptr big 0),(12,pIi v)] (vbO S D T n l1 vs1) 0):=by
 intro m0 w0 F R0
 repeat refine AWR.seq ?_
 refine AWR.block ?_
 repeat refine AWR.seq ?_
 refine AWR.region O<|Y2 O O<|Rs 75 O O (bo [9003,9004] 0 call49 hb O O O O ⟨O,O,TB⟩ Tu O)<|A1 O ?_
 repeat refine AWR.seq ?_
 refine AWR.cond O (fun hc76=>absurd hc76 Tu) (fun hc76=>?_);exact AWR.skip<|⟨O,OU trivial (aO Tt) O O⟩
end
section
open Go.RowKit Go.Shelf Mk Jn Mm Vw
section
variable {F:Fence}{n:Nat}{P:Program}(w:World){ops:Array Oper}{rest:List Oper}{o:Oper}{a:Act}{Q:Exit->Act->World->Prop}
theorem rJ(hg:o.guard=none)(m:Operand)(hop:o.op=Op.assign m)(hK:wpListIn F n P ops Q rest (a.put o.dst (a.eval m)) w):wpListIn F n P ops Q (o::rest) a w:=by
 refine wpListIn_plain hg fun K' hK'=>?_
 unfold Oper.wpIn;refine⟨by simp[Oper.about,hop],?_⟩;rw[Oper.semAt_plain F _ _ (by rw[hop];intro c hc';cases hc')];simp[execOp,hop];exact hK' _ _ hK
end
theorem pU{w:World}{R:Nat->Prop}:∀{l:List Int}{us:List Value},RelPL w R (aF l) us->us=l.map (Value.int .i64)
 |[],us,h=>by simpa[RelPL]using h
 | x::l,us,h=>by
   simp only[bL,RelPL,RelP]at h;obtain⟨u,vs,rfl,rfl,h2⟩:=h;rw[pU h2];rfl
theorem K8{f:FuncId}{L:List Int}{w:World}{R:Nat->Prop}{u:Value}(h:RelP w R (.fn (.func f) [] [.rp [ai L] 0]) u):
  ∃(b off:Nat)(A:Option Addr)(c:Nat),u= .func (.func f) #[] #[.pointer (some ⟨b,off,none⟩)]/\R b/\w.cell? ⟨b,off,none⟩=some (.slice A L.length c)/\∃bk o,(L≠[]->A=some ⟨bk,o,none⟩/\R bk)/\∀j (h:j<L.length),w.cell? ⟨bk,o+j,none⟩=some (.int .i64 L[j]):=by
 rw[RelP]at h;obtain⟨us,vs',rfl,h1,h2⟩:=h;simp only[RelPL]at h1 h2;obtain⟨u3,us3,rfl,h3,rfl⟩:=h2;subst h1;rw[RelP]at h3;obtain⟨b,off,us4,rfl,h4,h5⟩:=h3;simp only[RelPL]at h4;obtain⟨um,us5,rfl,h6,rfl⟩:=h4;have h7:=h5.2 0 Tw;simp only[RelP]at h6;obtain⟨A,c,rfl,_,_,_,_,h8⟩:=h6;refine⟨b,off,A,c,O,h5.1,by simpa using h7,?_⟩;by_cases hL:L=[]
 ·subst hL;exact⟨0,0,fun h=>absurd O h,fun j h=>absurd h Tw⟩
 ·obtain⟨bk,o,us,rfl,g1,g2,g3⟩:=h8 (fun e=>hL (by rw[RU]at e;exact e));refine⟨bk,o,fun _=>⟨O,g2⟩,fun j hj=>?_⟩;have e1:us=L.map (Value.int .i64):=pU g1;subst e1;have:=g3 j (by simpa using hj);simpa[hj]using this
noncomputable abbrev vbA(a:Act)(i v:Value):Act:=(Act.put { tmps:=((#[71,72]:Array Tmp).zip #[i,v]).foldl (fun t (p,v)=>t.setIfInBounds p v) a.tmps,defers:=[] } (some 12) (Act.eval { tmps:=((#[71,72]:Array Tmp).zip #[i,v]).foldl (fun t (p,v)=>t.setIfInBounds p v) a.tmps,defers:=[] } (.tmp 72)))
theorem JR{a:Act}(h:a.tmps.size=143)(i v:Value):(vbA a i v).eval (.tmp 9)=a.eval (.tmp 9)/\(vbA a i v).eval (.tmp 12)=v/\(vbA a i v).tmps.size=143:=by
 refine⟨?_,?_,?_⟩<;>simp[vbA,Act.put,Act.eval,h]
noncomputable def vbLoop:Code:=match Tryz.f13.body with
 |some (.seq _ (.seq _ (.seq _ (.seq _ (.seq (.seq _ b) _)))))=>b
 |_=> .skip
noncomputable abbrev vbS(S:Sch)(D:VD)(T:List (List Rw))(n:Nat)(left:Int)(vs:List (Option (List En))):List (Nat×Ob):=[(2,.mix 49 [.pv nS,.pv (.str ⟨#[]⟩),.pv nS,.pv nS]),(3,.mix 50 [pIi 0]),(4,.cells 110 (vwsC vs)),(5,.mix 101 (bldM2 S D T n left 4)),(6,.mix 94 [.ptr 5 0])]
theorem L9{S:Sch}{P:List Int}{T:List (List Rw)}{Q:List Par}{X:Nat->List ByteArray}{lf:Int->ByteArray->Gv}(h:VB S P T Q X lf){G:PV->Prop}
  (hT:∀m0 w0 F R0,AW ⟨prog,m0,w0,F,R0⟩ Tryz.f13.ntmps vbTail (HE prog Tryz.f13 Tryz.f13.ntmps G) (mkS [(6,.ptr 9001 0),(7,.ptr 9002 0),(9,.ptr big 0)] (vbO S (bh S P) T S.attrs.length (3000-(lnV S P T lf (aH P):Int)) (stV S P T lf (aH P))) 0))
  (w:World) (R0:RT w (fun _=>False)) (hdf:R0.df=[]):
  AWX ⟨prog,fun _=>none,w,fun _=>False,R0⟩ Tryz.f13.ntmps vbLoop (Exit.then (vbTail.wp prog (bodyPostM Fence.wide 2 prog Tryz.f13 (B6 w R0.p G))) (bodyPostM Fence.wide 2 prog Tryz.f13 (B6 w R0.p G)))
   (mkS [(6,.ptr 2 0),(7,.ptr 3 0),(9,.ptr 6 0),(70,.pv (.fn (.func 118) [] [.rp [ai (aH P)] 0]))] (vbS S (bh S P) T S.attrs.length 3000 (stV S P T lf [])) 7):=by
 rintro a W ⟨m,R,hw⟩;have hP:=h.ord.jo;have hdf0:a.defers=[]:=hw.df.trans hdf;have hsz:a.tmps.size=143:=hw.sz.trans ntmps13;obtain⟨b,off,A,c,hfn,hRb,hcb,bk,o,hbk,hrow⟩:=K8 (show RelP W R (.fn (.func 118) [] [.rp [ai (aH P)] 0]) (a.eval (.tmp 70))from by have:=hw.sl 70 (by rw[ntmps13];decide);have e:(mkS [(6,V.ptr 2 0),(7,.ptr 3 0),(9,.ptr 6 0),(70,.pv (.fn (.func 118) [] [.rp [ai (aH P)] 0]))] (vbS S (bh S P) T S.attrs.length 3000 (stV S P T lf [])) 7).sl 70= .pv (.fn (.func 118) [] [.rp [ai (aH P)] 0]):=rfl;rw[e]at this;simpa only[Rel]using this);obtain⟨bs,hbl,hbt,hids⟩:=Kv hw [6,2,3,5,4] (vbO S (bh S P) T S.attrs.length 3000 (stV S P T lf [])) O O ⟨Tt,Tt,Tt,Tt,Tt,TB⟩ O Tu;have hwl:(aH P).length=P.length:=by rw[(bU hP).length_eq,aW]
 have hp5:=h.p5;have eg:=enters_of (P:=prog) func118 Tt O;have hRW:∀b,R b->b<W.heap.size:=hw.hr.rsz;have hseq:=EL b off bk o (aH P) A c W (hRW b hRb) (fun hne=>⟨(hbk hne).1,hRW bk (hbk hne).2⟩) hcb hrow Ts;have hp6:∃N,m 2=some (bs[1]'(by rw[hbl];decide),N):=hids 1 2 _ O (By _);have hp7:∃N,m 3=some (bs[2]'(by rw[hbl];decide),N):=hids 2 3 _ O (By _);have hp9:∃N,m 6=some (bs[0]'(by rw[hbl];decide),N):=hids 0 6 _ O (By _);have e6:a.eval (.tmp 6)= .pointer (some ⟨bs[1]'(by rw[hbl];decide),0,none⟩):=by
  have:=hw.sl 6 (by rw[ntmps13];decide);obtain⟨N,hN⟩:=hp6;exact this.2 _ _ hN
 have e7:a.eval (.tmp 7)= .pointer (some ⟨bs[2]'(by rw[hbl];decide),0,none⟩):=by
  have:=hw.sl 7 (by rw[ntmps13];decide);obtain⟨N,hN⟩:=hp7;exact this.2 _ _ hN
 have e9:a.eval (.tmp 9)= .pointer (some ⟨bs[0]'(by rw[hbl];decide),0,none⟩):=by
  have:=hw.sl 9 (by rw[ntmps13];decide);obtain⟨N,hN⟩:=hp9;exact this.2 _ _ hN
 have hge0:∀q,R q->R0.p q\/w.heap.size<=q:=fun q hq=>(hw.hr.rfr q hq).imp id fun e=>e.elim id False.elim
 have hr0:=hw.hr.r0;have hl0:(3000:Int)=3000-(lnV S P T lf ((aH P).drop ((aH P).length-0)):Int):=by
  rw[S8,List.drop_length];show(3000:Int)=3000-((0:Nat):Int);omega
 have hs0:stV S P T lf []=stV S P T lf ((aH P).drop ((aH P).length-0)):=by rw[S8,List.drop_length]
 clear hw hids hp6 hp7 hp9;refine wp_block (wpIn_wide (n:=2).1 ?_);refine jU (nt:=Tryz.f13.ntmps) (w0:=w) (R0:=R) (bs:=bs) false (encs:=fun x:Nat×Int=> #[.int .i64 (x.1:Int),.int .i64 x.2]) hfn eg hseq (fun _=>rfl) (fun h=>by cases h) (fun _ U V hk q hq=>hk q (by rcases hq with rfl|⟨h1,rfl⟩;exact hRb;exact(hbk h1).2))
  (fun pre os k=>os=vbO S (bh S P) T S.attrs.length (3000-(lnV S P T lf ((aH P).drop ((aH P).length-pre.length)):Int)) (stV S P T lf ((aH P).drop ((aH P).length-pre.length)))/\k=0) ⟨?i0,O⟩ hbt (fun h=>by cases h)
  (fun x _=>vbA a (.int .i64 (x.1:Int)) (.int .i64 x.2)) (fun _ W=>W) (fun x W=>Below.refl _ W) (fun x W=>⟨O,(JR hsz _ _).2.2.trans ntmps13.symm⟩) ?assign ?body ?done
 case i0=>
  show vbO S (bh S P) T S.attrs.length 3000 (stV S P T lf [])=vbO S (bh S P) T S.attrs.length (3000-(lnV S P T lf ((aH P).drop ((aH P).length-0)):Int)) (stV S P T lf ((aH P).drop ((aH P).length-0)));rw[<-hl0,<-hs0]
 case assign=>
  intro l x W K hK;exact wpIn_region_lit (rJ _ O (.tmp 72) O (wpListIn_nil hK))
 case body=>
  rintro pre x os k ⟨rfl,rfl⟩ ⟨hpl,rfl⟩;obtain⟨i,hi⟩:∃i,i=(aH P).length-1-pre.length:=⟨_,O⟩;have hil:i<(aH P).length:=Ts;obtain⟨v,hv,e⟩:=BJ hP hil;have hc:=MK h hil e;have ei:(aH P).length-pre.length=i+1:=Ts;rw[ei,<-hi];have hxv:(aH P).getD i 0=(v:Int):=by rw[<-e];simp[List.getD,hil]
  rw[hxv];refine⟨[(9,.ptr big 0),(12,pIi v)],_,GP hc,?_,?_⟩
  ·rintro ex τ ⟨rfl,hle⟩;refine⟨_,_,hle,fun j hj=>?_,O,?_,O⟩
   ·rw[hbl]at hj;have hj:j<5:=hj;have:j=0\/j=1\/j=2\/j=3\/j=4:=Ts;rcases this with rfl|rfl|rfl|rfl|rfl<;>rfl
   ·have:(aH P).length-(pre++[(i,(v:Int))]).length=i:=by simp;omega
    rw[this]
  ·intro W1 W2 m2 R2 _ hm2 _ t _;obtain⟨a9,a12,_⟩:=JR hsz (.int .i64 (i:Int)) (.int .i64 (v:Int));by_cases t9:t=9
   ·subst t9;show Rel W2 m2 (avK 0) R2 (.ptr big 0) ((vbA a _ _).eval (.tmp 9));rw[a9,e9];obtain⟨N,hN⟩:=hm2 0 _ (By _);exact⟨Tu,fun b' N' e=>by have e:=hN.symm.trans e;cases e;rfl⟩
   ·by_cases t12:t=12
    ·subst t12;show Rel W2 m2 (avK 0) R2 (pIi v) ((vbA a _ _).eval (.tmp 12));rw[a12];simp only[Rel,RelP]
    ·have b9:Nat.beq t 9=false:=by cases hb:Nat.beq t 9;rfl;exact absurd (aI hb) t9
     have b12:Nat.beq t 12=false:=by cases hb:Nat.beq t 12;rfl;exact absurd (aI hb) t12
     have e:look [(9,V.ptr big 0),(12,pIi v)] t= .pv .any:=by simp only[look,b9,b12,PE]
     rw[e];simp only[Rel,RelP]
 case done=>
  rintro D X xs os k W2 hD hDl hDX hS ⟨rfl,rfl⟩ hB hdef;rw[hS,SO,List.drop_zero]at hB;have hB2:=hB.less hr0 hge0;refine Btw.tail (n:=Tryz.f13.ntmps) hT hB2 hDX hdef _ (by show _::a.defers=_;rw[hdf0]) (hsz.trans ntmps13.symm) ?_;intro m2 R2 hm2 _ t _;show Rel W2 m2 (avK 0) R2 _ (a.eval (.tmp t));by_cases t6:t=6
  ·subst t6;rw[e6];obtain⟨N,hN⟩:=hm2 1 _ (By _);exact⟨Tu,fun b' N' e=>by have e:=hN.symm.trans e;cases e;rfl⟩
  ·by_cases t7:t=7
   ·subst t7;rw[e7];obtain⟨N,hN⟩:=hm2 2 _ (By _);exact⟨Tu,fun b' N' e=>by have e:=hN.symm.trans e;cases e;rfl⟩
   ·by_cases t9:t=9
    ·subst t9;rw[e9];obtain⟨N,hN⟩:=hm2 0 _ (By _);exact⟨Tu,fun b' N' e=>by have e:=hN.symm.trans e;cases e;rfl⟩
    ·have b6:Nat.beq t 6=false:=by cases hb:Nat.beq t 6;rfl;exact absurd (aI hb) t6
     have b7:Nat.beq t 7=false:=by cases hb:Nat.beq t 7;rfl;exact absurd (aI hb) t7
     have b9:Nat.beq t 9=false:=by cases hb:Nat.beq t 9;rfl;exact absurd (aI hb) t9
     have e:look [(6,V.ptr 9001 0),(7,V.ptr 9002 0),(9,V.ptr big 0)] t= .pv .any:=by simp only[look,b6,b7,b9,PE]
     rw[e];simp only[Rel,RelP]
end
end Go.Proofs.YtoplpepiabedhaaGreatDoor
