/- Lemmas. No condition. -/
import Derived.Test.YthicoeegbdboeaaGreatDoorJF6
set_option maxRecDepth 100000
set_option maxHeartbeats 4000000
open Go.RowKit Go.Proofs.Tryz
open Option renaming some→WB,none→WC
open Bool renaming true→YK,false→YL
namespace Go.Proofs.YthicoeegbdboeaaGreatDoor
variable{k j c x n bytes a r b m id off i p d:Nat}{l:ee}{S:ZN}{A ls P:cP}{v:Int}{α β:Type}{e T:TypeId}{cs:na}{z:Value}{f g:Nat->Nat}{y:er}{now:hC}
section
open Mk Jn
abbrev rN(x:Rw):na:=[bh x.v,.int .i64 x.w]
def aL(l:om):na:=l.flatMap rN
abbrev nB(l:om):PV:= .sl WC l.length (aL l)
theorem bL(l:om):(aL l).length=l.length*2:=cg _ 2 (λ_=>rfl) l
theorem dy{l:om}(h:k<l.length):((aL l).drop (k*2)).take 2=rN l[k]:=eZ _ 2 (λ_=>rfl) l k h
theorem dW{l:om}(h:k<l.length):aL l≠[]:=λe=>by have:=bL l;rw[e]at this;simp at this;omega
theorem Ln{l:om}(h:k<l.length):(aL l)[k*2]? =WB (bh l[k].v):=by
 have:=dy h;have q:(((aL l).drop (k*2)).take 2)[0]? =(rN l[k])[0]? :=by rw[this]
 simpa[V2,WM]using q
theorem Re{l:om}(h:k<l.length):(aL l)[k*2+1]? =WB (.int .i64 l[k].w):=by
 have:=dy h;have q:(((aL l).drop (k*2)).take 2)[1]? =(rN l[k])[1]? :=by rw[this]
 simpa[V2,WM]using q
theorem sB(l m:om):aL (l++m)=aL l++aL m:=by simp[aL]
theorem kE(l:om)(x:Rw):aL l++rN x=aL (l++[x]):=by simp[aL]
theorem iv(l:om):∀c∈aL l,c.leaf=YK:=λc hc=>by
 obtain⟨t,_,hc⟩:=V6.1 hc;simp only[By,Xv,Y0]at hc;rcases hc with rfl|rfl<;>rfl
theorem yl(l:om)(k:Nat):(aL l).take (k*2)=aL (l.take k)/\(aL l).drop (k*2)=aL (l.drop k):=by
 have e:aL l=aL (l.take k)++aL (l.drop k):=by rw[<-sB,WV]
 rcases XE l.length k with h|h
 .grind[bL,aG,List.drop_eq_nil_of_le]
 have hl:(aL (l.take k)).length=k*2:=by rw[bL,Vz,W6 h]
 constructor
 .grind
 grind
theorem IU{l:om}(h:k<l.length)(w:Int):(aL l).set (k*2+1) (.int .i64 w)=aL (l.set k ⟨l[k].v,w⟩):=by
 induction l generalizing k with
 |nil=>simp at h
 | cons a l ih=>
   cases k with
   |zero=>rfl
   | succ k=>
     have q:k<l.length:=by simpa using h
     have e:=ih q;rw[show(k+1)*2+1=k*2+1+1+1 by omega];show(bh a.v::PV.int .i64 a.w::aL l).set (k*2+1+1+1) _=bh a.v::PV.int .i64 a.w::aL (l.set k ⟨l[k].v,w⟩);rw[List.set_cons_succ,List.set_cons_succ,e]
theorem Hl{x:Rw}:∀{i:Nat}{out:om}(h:i<out.length),(∀j (q:j<out.length),j<i->cR out[j].v x.v=YK)->cR out[i].v x.v=YL->out[i].v=x.v->fR x out=out.set i ⟨out[i].v,out[i].w+x.w⟩
 |0,y::l,_,_,h2,h3=>by grind[fR]
 | i+1,y::l,h,h1,h2,h3=>by
   rw[fR,IT (show cR y.v x.v=YK from h1 0 Zm Zi),Hl (i:=i) (by simpa using h) (λj q hji=>h1 (j+1) (by simpa using q) Zi) (by simpa using h2) (by simpa using h3)];rfl
theorem uV{x:Rw}:∀{i:Nat}{out:om},i<=out.length->(∀j (q:j<out.length),j<i->cR out[j].v x.v=YK)->(∀(h:i<out.length),cR out[i].v x.v=YL/\out[i].v≠x.v)->fR x out=out.take i++x::out.drop i
 |0,[],_,_,_=>rfl
 |0,y::l,_,_,h2=>by grind[fR]
 | i+1,y::l,h,h1,h2=>by
   rw[fR,IT (show cR y.v x.v=YK from h1 0 Zm Zi),uV (i:=i) (by simpa using h) (λj q hji=>h1 (j+1) (by simpa using q) Zi) (λs=>h2 (by simpa using s))];rfl
theorem Ld{x:Rw}{B X:Int}(hB:0<=B)(q: -X<=x.w/\x.w<=X):∀{l:om},(∀y∈l, -B<=y.w/\y.w<=B)->∀y∈fR x l, -(B+X)<=y.w/\y.w<=B+X
 |[],_,y,hy=>by rw[fR,VH]at hy;rw[hy];omega
 | z::l,h,y,hy=>by
   have hz:=h z Zm;have hl:∀y∈l, -B<=y.w/\y.w<=B:=λy hy=>h y (by simp[hy])
   rw[fR]at hy;split at hy
   .rcases By.1 hy with rfl|hy
    .omega
    exact Ld hB q hl y hy
   grind
structure SoF(l:om)(k:Nat)(out:om):Prop where
 e:out=(l.take k).foldl (λout x=>fR x out) []
 v:∀y∈out,y.v.length<=1000
 w:∀y∈out, -((k:Int)*1000000)<=y.w/\y.w<=(k:Int)*1000000
 n:out.length<=k
theorem SoF.zero(l:om):SoF l 0 []:=⟨O,λ_ h=>absurd h Zm,λ_ h=>absurd h Zm,BY _⟩
theorem SoF.succ{l out:om}(h:SoF l k out)(q:k<l.length)(s:l[k].v.length<=1000)(u: -1000000<=l[k].w/\l[k].w<=1000000):SoF l (k+1) (fR l[k] out):=by
 refine⟨?_,λy hy=>?_,λy hy=>?_,?_⟩
 .rw[AI q,XN,<-h.e];rfl
 .rcases qm hy with e|⟨z,hz,e⟩
  .rw[e];exact s
  rw[e];exact h.v z hz
 .have:=Ld (B:=(k:Int)*1000000) (X:=1000000) Zi u h.w y hy;have e:((k+1:Nat):Int)*1000000=(k:Int)*1000000+1000000:=Zi;rw[e];exact this
 have:=uY l[k] out;have:=h.n;omega
theorem Gb(l:om)(hl:l.length<=1000)(hv:∀x∈l,x.v.length<=1000)(hw:∀x∈l, -1000000<=x.w/\x.w<=1000000):ZK prog 89 [nB l] (· =nB (qZ l)):=by
 refine ZC func89 O ntmps89 λ_ _ _ _=>?_
 have aD:=bL l;refine Z1 O<|Z1 O<|Vm (Vs 3 0 2 41 O O)<|Z3 O<|Gz O (st:=λZq:Nat×om=>([(3,WB (.bz 0 2 Zq.2.length)),(10,WC),(11,WC),(12,WB (ZI Zq.1))],[(0,WB (.bD 41 (aL Zq.2)))])) 1
  (I:=λZq=>Zq.1<=l.length/\SoF l Zq.1 Zq.2) (μ:=λZq=>l.length-Zq.1) (x0:=(0,[])) (YS O) (⟨sh _,SoF.zero l⟩) ?_
 rintro⟨k,out⟩ ⟨hk,hs⟩;try simp only at hk hs ⊢
 refine Z1 O<|Gp O (λam=>?_) (λam=>?_)
 .have hlt:k<l.length:=Zi;have aC:=dy hlt;have aI:=dW hlt;have ao:=hv _ (ak hlt);have ap:=hw _ (ak hlt);have Y:=hs.succ hlt ao ap;have ar:=hs.n;have au:=bL out;have ax:=hs.w;have ag:=hs.v;generalize l[k]=x at*;refine Vl<|Z1 O<|A3 O Zl ?_;refine Y2 O ?_;by_cases he:out=[]
  .have hl0:out.length=0:=by rw[he];rfl
   refine Vm (St.LQ 3 (id:=0) (sz:=2) (ah (λn=>V.bz 0 2 n) hl0))<|Z1 O<|Gz O (st:=λG:Nat=>([(3,WC),(5,WC),(6,WB (ZI G)),(10,WC),(11,WC),(12,WC)],[(1,WC)])) 2
    (I:=λG=>G<=out.length/\∀j (hj:j<out.length),j<G->cR out[j].v x.v=YK) (μ:=λG=>out.length-G) (x0:=0) (YS O) (⟨sh _,λj _ h=>absurd h Zi⟩) ?_
   rintro i ⟨hi,hall⟩;refine VC 14 O<|Dr 3 O<|YM O (λτ h=>jA (Ee h 0 O) (Ee h 1 O) O (VL Zi))<|Dr 10 O ⟨Zj,Gc O (λs=>absurd s Zm) (λs=>?_)⟩;refine Gx O<|VC 14 O<|Dr 3 O<|YM O (λτ h=>jA (Ee h 0 O) (Ee h 1 O) O (VL Zi))<|Dr 10 O ⟨Zj,Gc O (λB=>absurd B Zm) (λB=>?_)⟩;refine Vl ?_;obtain rfl:i=0:=Zi;have H:fR x out=[x]:=by rw[he];rfl
   refine VC 11 O<|Dr 8 O<|YQ [_] O (λτ h=>gz 3 LO (Ee h 0 O) (Eo h 0 O) O (.inl ⟨_,(Ee h 1 O)⟩) O Zm Zi (h.n 0 _ O))<|YQ [_] O (λτ h=>lK 4 LO (Ee h 0 O) (.inr ⟨_,_,_,_,(Ee h 1 O),(Eo h 0 O),O⟩) O (iv [x]) Zi (h.n 0 _ O))<|D1 O O ⟨Zj,Z2 O<|⟨(k+1,fR x out),Vo [4] ⟨ah (λn=>V.bz 4 2 n) (show 1=(fR x out).length by rw[H];rfl),O,O,O,Zp⟩ ⟨VT (b:=WB (.bD 41 (rN x))) Zj (ah (λc=>WB (Ob.bD 41 c)) (show rN x=aL (fR x out) by rw[H];rfl)),Zp⟩ O O Zk O,⟨Zi,Y⟩,Zo⟩⟩
  have hpos:0<out.length:=Ww.2 he;have Z:aL out≠[]:=dW hpos;refine Vm (St.JT 3 O O hpos Z)<|Z1 O<|Gz O (st:=λG:Nat=>([(3,WC),(5,WC),(6,WB (ZI G)),(10,WC),(11,WC),(12,WC)],[(0,WC),(1,WC)])) 2
   (I:=λG=>G<=out.length/\∀j (hj:j<out.length),j<G->cR out[j].v x.v=YK) (μ:=λG=>out.length-G) (x0:=0) (YS O) (⟨sh _,λj _ h=>absurd h Zi⟩) ?_
  rintro i ⟨hi,hall⟩;by_cases hi2:i<out.length
  .have hov:(aL out)[i*2+0]? =WB (bh out[i].v):=Ln hi2;have ay:=Re hi2;have ab:=ak hi2;have aN:=ax _ ab;have az:=Fs out[i].v x.v (by have:=ag _ ab;omega) Zi;have aA:=FZ out[i].v x.v (by have:=ag _ ab;omega) Zi;refine VC 14 O<|Dr 3 O<|YM O (λτ h=>fE (Ee h 0 O) (Ee h 1 O) O (VK Zi))<|Dr 5 O<|Dg [_] O (λτ h=>aX ⟨_,aao,O⟩ (Ee h 0 O) (Eo h 0 O) hov) O Zj<|Dr 2 O<|Dg [] O (λτ h=>aa call151 az (h.aE O)) O Zj<|D1 O O ⟨Zj,Gc O (λs=>?_) (λs=>?_)⟩
   .exact Vl<|Z3 O<|⟨(i+1),YS O,⟨Zi,λj hj hji=>if h:j<i then hall j hj h else(by obtain rfl:j=i:=Zi;exact s)⟩,Zi⟩
   refine Gx O<|VC 14 O<|Dr 3 O<|YM O (λτ h=>fE (Ee h 0 O) (Ee h 1 O) O (VK Zi))<|Dr 5 O<|Dg [_] O (λτ h=>aX ⟨_,aao,O⟩ (Ee h 0 O) (Eo h 0 O) hov) O Zj<|Dr 2 O<|Dg [] O (λτ h=>aa call152 aA (h.aE O)) O Zj<|D1 O O ⟨Zj,Gc O (λB=>?_) (λB=>?_)⟩
   .have hins:fR x out=out.set i ⟨out[i].v,out[i].w+x.w⟩:=Hl hi2 hall (by simpa using s) (Xh B);refine VC 11 O<|Dr 4 O<|YQ [_] O (λτ h=>aX ⟨_,aan,O⟩ (Ee h 0 O) (Eo h 0 O) ay)<|Dr 5 O<|DL.step (d:=WC) [_] O O O (λτ h=>ba sz3 (Ee h 0 O) (Eo h 0 O) (Ee h 1 O) O (by first|omega|(simp;omega))) O Zj ⟨Zj,Vm (St.Jf 3 O O hpos (by intro e;have h:=ah List.length e;rw[VN]at h;exact Z (Wl h))) ?_⟩;exact Gx O<|Z2 O<|⟨(k+1,fR x out),Vn ⟨ah (λn=>V.bz 0 2 n) (show out.length=(fR x out).length by rw[hins,VN]),O,O,O,Zp⟩ ⟨VT (b:=WB (.bD 41 ((aL out).set (i*2+1) (.int .i64 (out[i].w+x.w))))) Zj (ah (λc=>WB (Ob.bD 41 c)) (by rw[hins];exact IU hi2 _)),Zp⟩ O O,⟨Zi,Y⟩,Zo⟩
   refine Vl ?_;have H:fR x out=out.take i++x::out.drop i:=uV hi hall (λh=>⟨by simpa using s,Xx B⟩);have M:=yl out i;have U:((aL out).drop (i*2)).length=(out.length-i)*2:=by rw[Xb];omega
   have u:((rN x).take (1*2)++(aL out).drop (i*2)).take ((1+(out.length-i))*2)=aL (x::out.drop i):=by
    rw[M.2,show(rN x).take (1*2)++aL (out.drop i)=aL (x::out.drop i)from O,aG];rw[bL,VI,Xb];omega
   have ac:(((rN x).take (1*2)++(aL out).drop (i*2)).take ((1+(out.length-i))*2)).length=(1+(out.length-i))*2:=by rw[u,bL,VI,Xb];omega
   have ad:∀c∈((rN x).take (1*2)++(aL out).drop (i*2)).take ((1+(out.length-i))*2),c.leaf=YK:=by rw[u];exact iv _
   have W:(aL out).take (i*2)++((rN x).take (1*2)++(aL out).drop (i*2)).take ((1+(out.length-i))*2)=aL (fR x out):=by rw[u,M.1,H,sB]
   have af:i+(1+(out.length-i))=(fR x out).length:=by rw[H,Hb,VI,Vz,Xb];omega
   refine VC 11 O<|Dr 2 O<|YQ [_] O (λτ h=>gj i aas R3 (Ee h 0 O) (Eo h 0 O) (Ee h 1 O) O hi)<|Dr 4 O<|YQ [_] O (λτ h=>gw i aas R3 (Ee h 0 O) (Eo h 0 O) (Ee h 1 O) O hi)<|YQ [_,_] O (λτ h=>c6 3 LO (Ee h 0 O) (Eo h 0 O) (BY _) (PK.tsl (Ee h 1 O) (Eo h 1 O) O U) U (λc hc=>iv out c (Yh hc)) Zi (h.n 0 _ O))<|YQ [_,_] O (λτ h=>c6 4 LO (Ee h 0 O) (Eo h 0 O) Zi (oR.any (.inr ⟨_,_,_,_,(Ee h 1 O),(Eo h 1 O),O⟩)) ac ad Zi (h.n 0 _ O))<|D1 O O ⟨Zj,Vm (St.Jf 3 O O Zi (λe=>dW (l:=fR x out) (k:=0) Zi (W.symm.trans e)))<|Z2 O<|⟨(k+1,fR x out),Vo [4] ⟨ah (λn=>V.bz 4 2 n) af,O,O,O,Zp⟩ ⟨VT (b:=WB (.bD 41 ((aL out).take (i*2)++((rN x).take (1*2)++(aL out).drop (i*2)).take ((1+(out.length-i))*2)))) Zj (ah (λc=>WB (Ob.bD 41 c)) W),Zp⟩ O O Zk O,⟨Zi,Y⟩,Zo⟩⟩
  refine VC 14 O<|Dr 3 O<|YM O (λτ h=>jA (Ee h 0 O) (Ee h 1 O) O (VL Zi))<|Dr 10 O ⟨Zj,Gc O (λs=>absurd s Zm) (λs=>?_)⟩;refine Gx O<|VC 14 O<|Dr 3 O<|YM O (λτ h=>jA (Ee h 0 O) (Ee h 1 O) O (VL Zi))<|Dr 10 O ⟨Zj,Gc O (λB=>absurd B Zm) (λB=>?_)⟩;refine Vl ?_;have H:fR x out=out.take i++x::out.drop i:=uV hi hall (λh=>absurd h hi2);have M:=yl out i;have U:((aL out).drop (i*2)).length=(out.length-i)*2:=by rw[Xb];omega
  have u:((rN x).take (1*2)++(aL out).drop (i*2)).take ((1+(out.length-i))*2)=aL (x::out.drop i):=by
   rw[M.2,show(rN x).take (1*2)++aL (out.drop i)=aL (x::out.drop i)from O,aG];rw[bL,VI,Xb];omega
  have ac:(((rN x).take (1*2)++(aL out).drop (i*2)).take ((1+(out.length-i))*2)).length=(1+(out.length-i))*2:=by rw[u,bL,VI,Xb];omega
  have ad:∀c∈((rN x).take (1*2)++(aL out).drop (i*2)).take ((1+(out.length-i))*2),c.leaf=YK:=by rw[u];exact iv _
  have W:(aL out).take (i*2)++((rN x).take (1*2)++(aL out).drop (i*2)).take ((1+(out.length-i))*2)=aL (fR x out):=by rw[u,M.1,H,sB]
  have af:i+(1+(out.length-i))=(fR x out).length:=by rw[H,Hb,VI,Vz,Xb];omega
  refine VC 11 O<|Dr 2 O<|YQ [_] O (λτ h=>gj i aas R3 (Ee h 0 O) (Eo h 0 O) (Ee h 1 O) O hi)<|Dr 4 O<|YQ [_] O (λτ h=>gw i aas R3 (Ee h 0 O) (Eo h 0 O) (Ee h 1 O) O hi)<|YQ [_,_] O (λτ h=>c6 3 LO (Ee h 0 O) (Eo h 0 O) (BY _) (PK.tsl (Ee h 1 O) (Eo h 1 O) O U) U (λc hc=>iv out c (Yh hc)) Zi (h.n 0 _ O))<|YQ [_,_] O (λτ h=>c6 4 LO (Ee h 0 O) (Eo h 0 O) Zi (oR.any (.inr ⟨_,_,_,_,(Ee h 1 O),(Eo h 1 O),O⟩)) ac ad Zi (h.n 0 _ O))<|D1 O O ⟨Zj,Vm (St.Jf 3 O O Zi (λe=>dW (l:=fR x out) (k:=0) Zi (W.symm.trans e)))<|Z2 O<|⟨(k+1,fR x out),Vo [4] ⟨ah (λn=>V.bz 4 2 n) af,O,O,O,Zp⟩ ⟨VT (b:=WB (.bD 41 ((aL out).take (i*2)++((rN x).take (1*2)++(aL out).drop (i*2)).take ((1+(out.length-i))*2)))) Zj (ah (λc=>WB (Ob.bD 41 c)) W),Zp⟩ O O Zk O,⟨Zi,Y⟩,Zo⟩⟩
 refine Vm (Vq 0 O O) ?_;have ar:=hs.n;have au:=bL out;have ai:qZ l=out.filter λy=>y.w !=0:=by rw[qZ,hs.e,show k=l.length by omega,XD]
 refine Gx O<|Z1 O<|Vm (Vs 7 1 2 41 O O)<|Z3 O<|Gz O (st:=λL:Nat×om=>([(7,WB (.bz 1 2 L.2.length)),(67,WC),(68,WC),(69,WB (ZI L.1))],[(1,WB (.bD 41 (aL L.2)))])) 2
  (I:=λL=>(L.1<=out.length/\L.2.length<=L.1)/\L.2=(out.take L.1).filter λy=>y.w !=0) (μ:=λL=>out.length-L.1) (x0:=(0,[])) (YS O) (⟨⟨sh _,BY _⟩,O⟩) ?_
 rintro⟨j,q⟩ ⟨hj,hq⟩;try simp only at hj hq ⊢
 refine Z1 O<|Gp O (λan=>?_) (λan=>?_)
 .have hlj:j<out.length:=Zi;have aP:=dy hlj;have aT:=dW hlj;have aU:=bL q;have al:out.take (j+1)=out.take j++[out[j]]:=AI hlj;generalize out[j]=y at*;refine Vl<|Z1 O<|A3 O Zl ?_;refine Y2 O<|Z3 O ?_;refine Gc O (λX=>?_) (λX=>?_)
  .exact Gr O<|Ar 5 O<|Z2 O<|⟨(j+1,q++[y]),Vo [0,4] ⟨ah (λn=>V.bz 4 2 n) (show q.length+1=(q++[y]).length by simp),O,O,O,Zp⟩ ⟨VT (b:=WB (.bD 41 (aL q++rN y))) Zj (ah (λc=>WB (Ob.bD 41 c)) (kE q y)),Zp⟩ O O Zk O,⟨⟨Zi,by simp only[Hb,VV];omega⟩,by rw[al,Xc,<-hq];simp only[WL,List.filter_nil];rw[IT X]⟩,Zo⟩
  exact Vl<|Z2 O<|⟨(j+1,q),YS O,⟨⟨Zi,Zo⟩,by rw[al,Xc,<-hq];simp only[WL,List.filter_nil];rw[AS (by rw[X];decide),W7]⟩,Zo⟩
 exact Vm (Vq 1 O O)<|Gx O<|Z2 O<|YR O<|by rw[ai,show out.filter (λy=>y.w !=0)=q by rw[hq,aG Zi]];rfl
def MF:hC:=[⟨#[114,101,100]⟩,⟨#[103,114,101,101,110]⟩,⟨#[98,108,117,101]⟩]
def BS:hC:=[⟨#[49]⟩,⟨#[50]⟩,⟨#[49,48]⟩]
def DY:hC:=[⟨#[48]⟩,⟨#[49]⟩,⟨#[45,50]⟩,⟨#[49,47,50]⟩,⟨#[51]⟩,⟨#[53,47,51]⟩,⟨#[49]⟩,⟨#[50]⟩]
def ig(kd:Int):hC:=⟨#[]⟩::(if kd=3 then MF else if kd=1 then BS else DY)
def SV(c:Nat)(kd:Int):er:=if c=8 then⟨#[]⟩else if kd=3 then MF.getD (c%3) ⟨#[]⟩else if kd=1 then BS.getD (c%3) ⟨#[]⟩else DY.getD c ⟨#[]⟩
theorem pU{l:hC}(h:j<l.length):l.getD j ⟨#[]⟩=l[j]/\l[j]∈l:=⟨by simp[List.getD,h],ak h⟩
theorem Nu(kd:Int)(h:c<9):SV c kd∈ig kd:=by grind[SV,ig,VX,pU,MF,WI,BS,DY]
theorem EL(L:cP)(k:Nat)(V:L.length<=600)(W:k<=L.length)(nm:er)(kd:Int):
  FnM prog 88 73 (jo L k) [.agg [.str nm,.int .i64 kd]] (λv c=>v= .str (SV (sNv L k 9).toNat kd)/\c=jo L (sNk L k)):=by
 refine FnM.of func88 O ntmps88 Zm O Zm λ_ _ _ _=>?_
 have I:=gu L k 9 V W Zk Zk;have M:=j1 L k 9 Zk;obtain⟨c,hc⟩:=VG M.1;have U:c<9:=Zi;rw[hc]at I;rw[hc,Wh];refine Z2 O<|Z1 O<|Rs O (bV call7 I O O)<|A1 O<|Z3 O<|Gc O (λG=>?_) (λG=>?_)
 .have h8:c=8:=by have h:(c:Int)=8:=(by simpa using G);omega
  exact Z1 O<|Gt O<|⟨_,jo L (sNk L k),O,O,ah PV.str (by rw[SV,IT h8]),O⟩
 have h8:¬c=8:=by have h:¬ (c:Int)=8:=(by simpa using G);omega
 refine Z4 O<|Gc O (λu=>?_) (λu=>?_)
 .have h3:kd=3:=by simpa using u
  have q:c%3<MF.length:=WI _ Zk;have H:=bD q;have s:=cz q;exact Gr O<|Rs O (ax (vs:=MF.map λx=> .pv (.str x)) (cs:=bj MF) WC Zm Qu O Zk Zk Zj Zj)<|A1 O<|Rs O (XJ.cast (v':= ZI ((c%3:Nat):Int)) (fC O O Zk) O)<|Rs O (ai (c%3) aao sz9 O O O q s)<|Rs O (aC ⟨_,aam,O⟩ O H)<|A1 O<|Gt O<|⟨_,jo L (sNk L k),O,O,ah PV.str (by rw[SV,AS h8,IT h3,(pU q).1]),O⟩
 have h3:¬kd=3:=by simpa using u
 refine Z4 O<|Gc O (λB=>?_) (λB=>?_)
 .have h1:kd=1:=by simpa using B
  have q:c%3<BS.length:=WI _ Zk;have H:=bD q;have s:=cz q;exact Gr O<|Rs O (ax (vs:=BS.map λx=> .pv (.str x)) (cs:=bj BS) WC Zm Qu O Zk Zk Zj Zj)<|A1 O<|Rs O (XJ.cast (v':= ZI ((c%3:Nat):Int)) (fC O O Zk) O)<|Rs O (ai (c%3) aao sz9 O O O q s)<|Rs O (aC ⟨_,aam,O⟩ O H)<|A1 O<|Gt O<|⟨_,jo L (sNk L k),O,O,ah PV.str (by rw[SV,AS h8,AS h3,IT h1,(pU q).1]),O⟩
 have h1:¬kd=1:=by simpa using B
 have q:c<DY.length:=by have e:DY.length=8:=rfl;omega
 have H:=bD q;have s:=cz q;exact Vl<|Gr O<|Rs O (ax (vs:=DY.map λx=> .pv (.str x)) (cs:=bj DY) WC Zm Qu O Zk Zk Zj Zj)<|A1 O<|Rs O (ai c aao sz9 O O O q s)<|Rs O (aC ⟨_,aam,O⟩ O H)<|A1 O<|Gt O<|⟨_,jo L (sNk L k),O,O,ah PV.str (by rw[SV,AS h8,AS h3,AS h1,(pU q).1]),O⟩
theorem Al(L:cP)(k:Nat)(q:L.length<=600)(s:k<=L.length)(nm:er)(kd:Int):
  ∃x∈ig kd,FnM prog 88 73 (jo L k) [.agg [.str nm,.int .i64 kd]] (λv c=>v= .str x/\c=jo L (sNk L k)):=
 ⟨_,Nu kd (by have:=j1 L k 9 Zk;omega),EL L k q s nm kd⟩
def MdV(S:ZN)(A:cP)(v:hC):Prop:=v.length=A.length/\∀i (h:i<v.length) (h2:i<A.length),v[i]∈ig (S.aj.getD A[i].toNat default).2
def MdR(S:ZN)(A:cP)(x:Rw):Prop:=(1<=x.w/\x.w<=5)/\MdV S A x.v
def MdT(S:ZN)(A:cP)(most:Nat)(l:om):Prop:=∃l0,l=qZ l0/\l0.length<=most/\∀x∈l0,MdR S A x
theorem Q5(v:hC)(x:er):bj v++[PV.str x]=bj (v++[x]):=Zm
theorem MdV.snoc   {v:hC}  (s:j<A.length) (h:v.length=j/\∀ i (h:i<v.length) (q:i<A.length),v[i]∈ig (S.aj.getD A[i].toNat default).2) {x:er} (u:x∈ig (S.aj.getD A[j].toNat default).2):
  (v++[x]).length=j+1/\∀i (h:i<(v++[x]).length) (q:i<A.length),(v++[x])[i]∈ig (S.aj.getD A[i].toNat default).2:=by grind
theorem fv(l:List α)(a:α):l.length+1=(l++[a]).length:=Zm
theorem KX(L:cP)(k:Nat)(hL:L.length<=600)(hk:k<=L.length)(S:ZN)(r most:Nat)(hm:most<=100)(hr:r<S.aU.length)(hA:S.aU[r].2.length<=1000)(hb:∀a∈S.aU[r].2,0<=a/\a<S.aj.length):
  FnM prog 42 73 (jo L k) [fp S,.int .i64 r,.int .i64 most] (λv c=>(∃l,MdT S S.aU[r].2 most l/\v=nB l)/\∃k',k'<=L.length/\c=jo L k'):=by
 refine FnM.of func42 O ntmps42 Zm O Zm λ_ _ _ _=>?_
 have u:∀k,k<=L.length->sNk L k<=L.length:=λk hk=>by unfold sNk;split<;>omega
 have W:=u _ hk;have X:=gu L k ((most:Int)+1) hL hk Zi Zi;have hb1:=j1 L k ((most:Int)+1) Zi;generalize sNv L k ((most:Int)+1)=nb at*;have B:=iq hr;have Y:(aZ S.aU)[r*2+1]? =WB (al S.aU[r].2):=by
  have h2:(((aZ S.aU).drop (r*2)).take 2)[1]? =[PV.str S.aU[r].1,al S.aU[r].2][1]? :=by rw[eT hr]
  simpa[V2,WM]using h2
 generalize S.aU[r].2=A at*;refine Z2 O<|Z1 O<|Vm (Vs 9 1 2 41 O O)<|Z3 O<|Rs O (bV call7 X O O)<|A1 O<|Gz O (st:=λZq:Int×Nat×om=>([(0,WC),(2,WC),(5,WC),(9,WB (.bz 1 2 Zq.2.2.length)),(10,WB (ZI Zq.1))],[(big,WB (xe L Zq.2.1)),(0,WC),(1,WB (.bD 41 (aL Zq.2.2)))])) 2
  (I:=λZq=>(((0<=Zq.1/\Zq.1<=most)/\(Zq.2.2.length:Int)+Zq.1<=most)/\Zq.2.1<=L.length)/\∀x∈Zq.2.2,MdR S A x) (μ:=λZq=>Zq.1.toNat) (x0:=(nb,sNk L k,[])) (YS O) (⟨⟨⟨⟨Zo,Zo⟩,by simp only[XS];omega⟩,W⟩,λ_ h=>absurd h Zm⟩) ?_
 rintro⟨i,k2,l⟩ ⟨⟨⟨hi,hli⟩,hk2⟩,hl⟩;try simp only at hi hli hk2 hl ⊢
 refine Z2 O<|Gp O (λM=>?_) (λM=>?_)
 .obtain⟨pk,hpk1,hpk⟩:=uz L k2 [1,1,2,5] hL hk2 Zm Zm;have G:1<=pk/\pk<=5:=by simp at hpk1;omega
  have Z:=u _ hk2;have hll:=bL l;refine Vl<|Z1 O<|Rs O (ax WC Zm xg O Zk Zk O O)<|Rs O (bV call39 hpk O O)<|Y3 O<|Vm (St.cD (T':=41) (cs:=[.pv nS,ZI pk]) 2 0 3 1 9 Zj O Zj)<|Z3 O<|Rs O (ai r underlying27 O1 O O O hr B)<|A1 O<|Rs O (aC ⟨_,aal,O⟩ O Y)<|Y2 O<|Gz O (st:=λq:Nat×Nat×hC=>([(0,WC),(2,WC),(5,WC),(9,WC),(10,WC),(11,WC),(31,WC),(32,WC),(33,WB (ZI q.1))],[(big,WB (xe L q.2.1)),(0,WC),(1,WC),(2,WB (.mix 41 [.bz 3 1 q.2.2.length,ZI pk])),(3,WB (.bD 9 (bj q.2.2)))])) 4
   (I:=λq=>(q.1<=A.length/\q.2.1<=L.length)/\(q.2.2.length=q.1/\∀i (h:i<q.2.2.length) (h2:i<A.length),q.2.2[i]∈ig (S.aj.getD A[i].toNat default).2)) (μ:=λq=>A.length-q.1) (x0:=(0,sNk L k2,[])) (YS O) (⟨⟨sh _,Z⟩,O,λi h=>absurd h Zm⟩) ?_
  rintro⟨j,k3,v⟩ ⟨⟨hj,hk4⟩,hmd⟩;try simp only at hj hk4 hmd ⊢
  refine Z1 O<|Gp O (λU=>?_) (λU=>?_)
  .have hlj:j<A.length:=Zi;obtain⟨a,haa⟩:=VG (hb _ (ak hlj)).1;have s:a<S.aj.length:=by have:=(hb _ (ak hlj)).2;omega
   have ab:(aI A)[j*1]? =WB (.int .i64 (a:Int)):=by rw[<-haa];simp[hlj]
   have ac:=aU hlj;have ad:=qu s;have af:=jO s;obtain⟨x,hxm,hxs⟩:=Al L k3 hL hk4 S.aj[a].1 S.aj[a].2;have H:=MdV.snoc hlj hmd (x:=x) (by rw[haa,Wh];simpa[List.getD,s]using hxm);have ag:=u _ hk4;have hvl:=hmd.1;refine Vl<|Gr O<|Rs O (ai j aal sz3 O O O hlj ac)<|Rs O (aC ⟨_,aan,O⟩ O ab)<|A1 O<|VC 13 O<|Dr 6 O<|YM O (λτ h=>ai a underlying26 Hg (Ee h 0 O) (Ee h 1 O) O s af)<|YM O (λτ h=>aD ⟨_,underlying56,O⟩ Hg (Ee h 0 O) ad O)<|YQ [_] O (λτ h=>bV call88 hxs (h.args.trans O) (Eo h 0 O))<|Dr 4 O ⟨Zj,Z2 O<|⟨(j+1,sNk L k3,v++[x]),Vo [0,1,2,5] (aT O) ⟨O,O,O,VT (b:=WB (.mix 41 [.bz 5 1 (v.length+1),ZI pk])) Zj (ah (λn=>WB (Ob.mix 41 [.bz 5 1 n,ZI pk])) (fv v x)),VT (b:=WB (.bD 9 (bj v++[.str x]))) Zj (ah (λc=>WB (Ob.bD 9 c)) (Q5 v x)),Zp⟩ O O Zk O,⟨⟨Zi,ag⟩,H⟩,Zo⟩⟩
  refine Vm (Vq 3 O O) ?_;have am:MdR S A ⟨v,pk⟩:=⟨G,(by have:=hmd.1;omega:v.length=A.length),hmd.2⟩;exact Gx O<|Gr O<|Ar 5 O<|Z3 O<|⟨(i-1,k3,l++[⟨v,pk⟩]),Vo [0,5] ⟨O,O,O,ah (λn=>V.bz 5 2 n) (fv l ⟨v,pk⟩),O,Zp⟩ ⟨O,O,VT (b:=WB (.bD 41 (aL l++rN ⟨v,pk⟩))) Zj (ah (λc=>WB (Ob.bD 41 c)) (kE l ⟨v,pk⟩)),Zp⟩ O O Zk O,⟨⟨⟨Zo,by simp only[Hb,VV];omega⟩,hk4⟩,λy hy=>by rcases We.1 hy with h|h;exact hl y h;rw[VH.1 h];exact am⟩,Zo⟩
 refine Vm (Vq 1 O O) ?_;have an:=Gb l Zi (λx hx=>by have:=(hl x hx).2.1;omega) (λx hx=>by have:=(hl x hx).1;omega);exact Gx O<|Z1 O<|Rs O (aa call89 an O)<|A1 O<|Gt O<|⟨_,jo L k2,O,O,⟨qZ l,⟨l,O,Zi,hl⟩,O⟩,k2,hk2,O⟩
def bO(d:Gk):na:=d.map nB
abbrev dbP(d:Gk):PV:= .sl WC d.length (bO d)
theorem El(d:Gk)(l:om):bO d++[nB l]=bO (d++[l]):=by simp[bO]
theorem cL(d:Gk):(bO d).length=d.length*1:=by simp[bO]
def MdD(S:ZN)(most n:Nat)(d:Gk):Prop:=d.length=n/\∀i (h:i<d.length) (h2:i<S.aU.length),MdT S S.aU[i].2 most d[i]
theorem MdD.snoc{most:Nat}{d:Gk}(h:MdD S most n d)(q:n<S.aU.length){l:om}(hl:MdT S S.aU[n].2 most l):MdD S most (n+1) (d++[l]):=by
 obtain⟨rfl,hd⟩:=h;refine⟨Zm,λi h h2=>?_⟩;rcases XE i d.length with h3|h3
 .grind
 grind
theorem vq(L:cP)(k:Nat)(M:L.length<=600)(U:k<=L.length)(S:ZN)(most:Nat)(W:most<=100)(hS:S.aU.length<=1000)(X:∀r∈S.aU,r.2.length<=1000/\∀a∈r.2,0<=a/\a<S.aj.length):
  FnM prog 19 73 (jo L k) [fp S,.int .i64 most] (λv c=>(∃d,MdD S most S.aU.length d/\v=dbP d)/\∃k',k'<=L.length/\c=jo L k'):=by
 refine FnM.of func19 O ntmps19 Zm O Zm λ_ _ _ _=>?_
 refine Z2 O<|Z1 O<|Vm (Vs 7 1 1 38 O O)<|Z4 O<|Gz O (st:=λZq:Nat×Nat×Gk=>([(0,WC),(2,WC),(4,WC),(7,WB (.bz 1 1 Zq.2.2.length)),(11,WC),(12,WB (ZI Zq.1))],[(big,WB (xe L Zq.2.1)),(0,WC),(1,WB (.bD 38 (bO Zq.2.2)))])) 2
  (I:=λZq=>(Zq.1<=S.aU.length/\Zq.2.1<=L.length)/\MdD S most Zq.1 Zq.2.2) (μ:=λZq=>S.aU.length-Zq.1) (x0:=(0,k,[])) (YS O) (⟨⟨sh _,U⟩,O,λi h=>absurd h Zm⟩) ?_
 rintro⟨i,k2,d⟩ ⟨⟨hi,hk2⟩,hd⟩;try simp only at hi hk2 hd ⊢
 refine Z1 O<|Gp O (λs=>?_) (λs=>?_)
 .have hlt:i<S.aU.length:=Zi;have q:=X _ (ak hlt);have G:=hd.1;have H:=cL d;refine Vl<|Z2 O<|Gr O<|Ar 5 O<|RL.call O (kL call42 (KX L k2 M hk2 S i most W hlt q.1 q.2) O O ?_);rintro _ _ ⟨⟨l,hml,rfl⟩,k3,hk3,rfl⟩;have u:=hd.snoc hlt hml;exact Y3 O<|Z2 O<|⟨(i+1,k3,d++[l]),Vo [0,3] ⟨O,O,O,ah (λn=>V.bz 3 1 n) (fv d l),O,O,Zp⟩ ⟨O,O,VT (b:=WB (.bD 38 (bO d++[nB l]))) Zj (ah (λc=>WB (Ob.bD 38 c)) (El d l)),Zp⟩ O O Zk O,⟨⟨Zi,hk3⟩,u⟩,Zo⟩
 refine Vm (Vq 1 O O) ?_;have B:i=S.aU.length:=Zi;subst B;exact Gx O<|Z2 O<|Gt O<|⟨_,jo L k2,O,O,⟨d,hd,O⟩,k2,hk2,O⟩
end
section
open Mk Jn
section
variable {C:Ctx}{n:Nat}{σ:St}{dst:YX}{ty t t':TypeId}{pos:String}{after:Y4}{gd:Option (Nat×Bool)}{x:Operand}
theorem tP{K:ZA}(u:C.P.underlying t=WB (.slice e))(B:σ.ev n x= .pv (.sl WC k cs))(G:∀b:Bool,(b=YK->cs=[])->K (σ.app dst ⟨.pv (.bool b),[],[]⟩)):
  OJ C n ⟨dst,.binOp .eql t x (.const (.slice WC 0 0)) t',ty,pos,after,gd⟩ K σ:=by
 rintro a w Q ⟨m,R,hw⟩;have:=hw.pv B;simp only[ZH]at this;obtain⟨A,c,e1,_,_,_,_,h5⟩:=this;have hc:a.eval (.const (.slice WC 0 0))= .slice WC 0 0:=rfl;have s:A.isNone=YK->cs=[]:=λh=>by grind
 have q:(execOp a.eval ⟨dst,.binOp .eql t x (.const (.slice WC 0 0)) t',ty,pos,after,gd⟩).run C.P w= .ok (.value (.bool A.isNone)) w:=by
  simp[execOp,e1,eqGuard,binOp,hc,run_equal_slice_nil _ _ _ _ _ _ u]
 unfold Oper.wp;rw[q];exact⟨_,G A.isNone s,m,R,St.jb σ dst _▸hw.put dst (by simp only[Rel,ZH])⟩
theorem lu{size:Nat}(id:Nat)(H:ZP C.P T e z size bytes)(B:σ.av id=YK):
  XJ C n ⟨dst,.buildSlice T 0 #[],ty,pos,after,gd⟩ σ ⟨.bJ id size 0,[(id,WB (.cells e []))],[id]⟩:=by
 rintro a w Q ⟨m,R,hw⟩;obtain⟨i,hi,hz,hsize,hbytes⟩:=info_parts H.info;have q:(execOp a.eval ⟨dst,.buildSlice T 0 #[],ty,pos,after,gd⟩).run C.P w= .ok (.value (.slice (WB ⟨w.heap.size,0,WC⟩) 0 0)) (w.alloc (.cells #[] e)):=by
  have s:(Instr.buildSlice T 0 #[]).run C.P w= .ok (.slice (WB ⟨w.heap.size,0,WC⟩) 0 0) (w.alloc (.cells #[] e)):=by
   simp[Instr.buildSlice,run_underlying H.u,sizeOf,typeInfo,hi,Instr.fill,newRow]
   congr 2
   exact Array.eq_empty_of_size_eq_zero Zm
  have G:(#[]:Array (Nat×Operand)).map (λx=>(x.1,a.eval x.2))= #[]:=Zm;simp only[execOp,G,Sem.run_bind,s,Result.andThen_ok,Sem.run_pure]
 unfold Oper.wp;rw[q];refine⟨_,O,upd m id (WB (w.heap.size,0)),R,?_⟩;rw[Vu];refine SW.put (hw.alloc B #[] e (.cells e []) ?_) dst ?_
 .intro w' m' av' hR G ha s;exact⟨_,s,O,BY _,ZG.nil⟩
 simp only[Rel];refine⟨by simp[avL],λb N h=>?_⟩;rw[aA]at h;cases h;exact⟨0,O,BY _,by simp[maxLen],Zm⟩
end
theorem AN(l:hC)(hl:l.length<=1000000):ZK prog 115 [bh l] (· =bh l):=by
 refine ZK.fg2 (ZC func115 O ntmps115 λ_ _ _ _=>?_);refine Z1 O<|Z1 O<|RL.call O (tP aao O ?_);intro b hb;refine Gc O (λq=>?_) (λq=>?_)
 .have hl0:l=[]:=List.map_eq_nil_iff.1 (hb q);exact Z1 O<|YR O<|by rw[hl0];rfl
 refine Vl<|Gr O<|Rs O (lu 0 Qu O)<|A1 O<|Rs O (gz 1 Qu O O O (.inl ⟨WC,O⟩) Zm (λc hc=>by obtain⟨y,_,rfl⟩:=VS.1 hc;rfl) Zi O) ?_;exact A1 O<|Vm (Vq 1 O O)<|YR O<|show PV.sl WC (0+l.length) ([]++bj l)=_ by rw[Wm,WZ]
def iU(ls:cP)(n:Nat):cP:=(List.range n).map λa:Nat=>((ls.count (a:Int):Nat):Int)
theorem xX(ls:cP)(n:Nat):(iU ls n).length=n:=by simp[iU]
theorem Dt(h:a<n):(aI (iU ls n))[a*1]? =WB (.int .i64 ((ls.count (a:Int):Nat):Int)):=by simp[iU,h]
theorem JY(h:a<n):(aI (iU ls n)).set (a*1) (.int .i64 (((ls.count (a:Int):Nat):Int)+1))=aI (iU (ls++[(a:Int)]) n):=by
 apply WU
 .simp[iU]
 .intro i h1 h2;simp only[iU,YB,X4,List.getElem_range,List.count_append,VY];by_cases e:a=i
  .subst e;rw[IT O];simp
  grind
theorem EV(n:Nat):List.replicate n (PV.int .i64 0)=aI (iU [] n):=by
 apply WU
 .simp[iU]
 .intro i h1 h2;simp[iU]
def cq(ls:cP)(A:cP)(x:Rw):Bool:=(A.zip x.v).all λp=> !(p.2.toList==(⟨#[]⟩:er).toList)||((ls.count p.1:Nat):Int)==1
def jy(S:ZN)(A:cP)(l:om):om:=l.filter (cq (S.aU.flatMap (·.2)) A)
end
section
open Mk Jn
structure SJn(S:ZN):Prop where
 a:S.aj.length<=1000
 r:S.aU.length<=1000
 l:∀r∈S.aU,r.2.length<=1000
 b:∀r∈S.aU,∀a∈r.2,0<=a/\a<S.aj.length
theorem Hp{l:List (er×cP)}(h:k<l.length):(l.take (k+1)).flatMap (·.2)=(l.take k).flatMap (·.2)++l[k].2:=by rw[AI h,Xn];simp
theorem mu{v:hC}(hl:v.length=A.length)(q:j<A.length)(f:Int×er->Bool):((A.zip v).take (j+1)).all f=(((A.zip v).take j).all f&&f (A[j],v[j]'Zi)):=by
 have h:j<(A.zip v).length:=by simp;omega
 rw[AI h,List.all_append];simp
theorem K4{l:List (er×cP)}(h:∀r∈l,r.2.length<=1000):(l.flatMap (·.2)).length<=l.length*1000:=by induction l<;>grind
theorem HX(S:ZN)(hS:SJn S)(r:Nat)(M:r<S.aU.length)(l:om)(hl:l.length<=1000)(hv:∀x∈l,x.v.length=S.aU[r].2.length):
  ZK prog 54 [fp S,ZU r,nB l] (· =nB (jy S S.aU[r].2 l)):=by
 refine ZC func54 O ntmps54 λ_ _ _ _=>?_
 have aN:=bL l;have aP:=hS.a;have aT:=hS.r;have Y:=iq M;have ap:(aZ S.aU)[r*2+1]? =WB (al S.aU[r].2):=by
  have h2:(((aZ S.aU).drop (r*2)).take 2)[1]? =[PV.str S.aU[r].1,al S.aU[r].2][1]? :=by rw[eT M]
  simpa[V2,WM]using h2
 have hrl:=hS.l _ (ak M);have Z:=hS.b _ (ak M);unfold jy;generalize S.aU[r].2=A at*;refine Z2 O<|Gr O<|Ar 5 O<|Z4 O<|Gz O (st:=λZq:Nat=>([(1,WC),(2,WC),(3,WC),(7,WC),(23,WC),(24,WC),(25,WB (ZI Zq))],[(0,WC),(1,WB (.cells 3 (aI (iU ((S.aU.take Zq).flatMap (·.2)) S.aj.length))))])) 2
  (I:=λZq=>Zq<=S.aU.length) (μ:=λZq=>S.aU.length-Zq) (x0:=0) (Vn (aS O) ⟨O,ah (λc=>WB (Ob.cells 3 c)) ((ct (.int .i64 0) (S.aj.length*1)).trans (by rw[VY,EV];rfl)),Zp⟩ O O) (sh _) ?_
 rintro k hk;refine Z1 O<|Gp O (λag=>?_) (λag=>?_)
 .have hlt:k<S.aU.length:=Zi;have aD:=eT hlt;have hne:=iq hlt;have hkl:=hS.l _ (ak hlt);have ab:=hS.b _ (ak hlt);have ar:=Hp hlt;generalize S.aU[k]=rk at*;refine Vl<|Z1 O<|A3 O Zl ?_;refine Y2 O<|Z4 O ?_;refine Gz O (st:=λB:Nat=>([(1,WC),(2,WC),(3,WC),(7,WC),(23,WC),(24,WC),(25,WC),(30,WC),(31,WC),(32,WB (ZI B))],[(0,WC),(1,WB (.cells 3 (aI (iU ((S.aU.take k).flatMap (·.2)++rk.2.take B) S.aj.length))))])) 3
   (I:=λB=>B<=rk.2.length) (μ:=λB=>rk.2.length-B) (x0:=0) (Vn (aS O) ⟨O,ah (λc=>WB (Ob.cells 3 (aI (iU c S.aj.length)))) Zm,Zp⟩ O O) (sh _) ?_
  rintro j hj;refine Z1 O<|Gp O (λam=>?_) (λam=>?_)
  .have hlj:j<rk.2.length:=Zi;obtain⟨a,haa⟩:=VG (ab _ (ak hlj)).1;have L:a<S.aj.length:=by have:=(ab _ (ak hlj)).2;omega
   have W:(aI rk.2)[j*1]? =WB (.int .i64 (a:Int)):=by rw[<-haa];simp[hlj]
   have au:=aU hlj;have ax:rk.2.take (j+1)=rk.2.take j++[(a:Int)]:=by rw[AI hlj,haa]
   have hfl:=K4 (l:=S.aU.take k) λr M=>hS.l r (X0 M)
   have htl:(S.aU.take k).length<=1000:=by rw[Vz];omega
   have ac:((S.aU.take k).flatMap (·.2)++rk.2.take j).length<=2000000:=by rw[Hb,Vz];omega
   generalize hLS:(S.aU.take k).flatMap (·.2)++rk.2.take j=LS at*;have X:=Dt (ls:=LS) L;have ay:=JY (ls:=LS) L;have az:(aI (iU LS S.aj.length)).length=S.aj.length:=by rw[IS,xX]
   have hcb:LS.count (a:Int)<=2000000:=OF List.count_le_length ac;exact Vl<|Z1 O<|Rs O (aC ⟨_,aan,O⟩ O W)<|A1 O<|Z3 O<|Rs O (aX ⟨_,aan,O⟩ O O X)<|Y2 O<|RL.step (d:=WC) O O (ba sz3 O O O O Zi)<|Z2 O<|⟨(j+1),Vn (aS O) ⟨O,VT (b:=WB (.cells 3 ((aI (iU LS S.aj.length)).set (a*1) (.int .i64 (((LS.count (a:Int):Nat):Int)+1))))) Zj (ah (λc=>WB (Ob.cells 3 c)) (ay.trans (by rw[ax,<-XO,hLS]))),Zp⟩ O O,Zi,Zi⟩
  exact Gx O<|Z2 O<|⟨(k+1),Vn (aS O) ⟨O,ah (λc=>WB (Ob.cells 3 (aI (iU c S.aj.length)))) (by rw[ar,show rk.2.take j=rk.2 from aG Zi]),Zp⟩ O O,Zi,Zi⟩
 have ac:=K4 (l:=S.aU) λr M=>hS.l r M
 rw[show S.aU.take k=S.aU from aG Zi];generalize S.aU.flatMap (·.2)=LS at*;have az:(aI (iU LS S.aj.length)).length=S.aj.length:=by rw[IS,xX]
 refine Gx O<|Z1 O<|Vm (Vs 12 2 2 41 O O)<|Z3 O<|Gz O (st:=λs:Nat×om=>([(1,WC),(3,WC),(7,WC),(12,WB (.bz 2 2 s.2.length)),(44,WC),(45,WC),(46,WB (ZI s.1))],[(0,WC),(1,WC),(2,WB (.bD 41 (aL s.2)))])) 3
  (I:=λs=>(s.1<=l.length/\s.2.length<=s.1)/\s.2=(l.take s.1).filter (cq LS A)) (μ:=λs=>l.length-s.1) (x0:=(0,[])) (YS O) (⟨⟨sh _,BY _⟩,O⟩) ?_
 rintro⟨i,q⟩ ⟨hi,hq⟩;try simp only at hi hq ⊢
 refine Z1 O<|Gp O (λan=>?_) (λan=>?_)
 .have hil:i<l.length:=Zi;have hrw:=dy hil;have hrn:=dW hil;have aA:=hv _ (ak hil);have hql:=bL q;have U:l.take (i+1)=l.take i++[l[i]]:=AI hil;generalize l[i]=x at*;refine Vl<|Z1 O<|A3 O Zl ?_;refine Y2 O<|Z1 O<|Z3 O<|Rs O (ai r underlying27 O1 O O O M Y)<|A1 O<|Rs O (aC ⟨_,aal,O⟩ O ap)<|Y2 O ?_;refine Gz O (st:=λu:Nat×Bool=>([(1,WC),(3,WC),(7,WC),(12,WC),(14,WC),(15,WB (.pv (.bool u.2))),(44,WC),(45,WC),(46,WC),(55,WC),(56,WC),(57,WB (ZI u.1))],[(0,WC),(1,WC),(2,WC),(3,WC)])) 4
   (I:=λu=>u.1<=A.length/\u.2=((A.zip x.v).take u.1).all λp=> !(p.2.toList==(⟨#[]⟩:er).toList)||((LS.count p.1:Nat):Int)==1) (μ:=λu=>A.length-u.1) (x0:=(0,YK)) (YS O) (⟨sh _,O⟩) ?_
  rintro⟨j,b⟩ ⟨hj,hb⟩;try simp only at hj hb ⊢
  refine Z1 O<|Gp O (λao=>?_) (λao=>?_)
  .have hlj:j<A.length:=Zi;have G:=mu aA hlj λp=> !(p.2.toList==(⟨#[]⟩:er).toList)||((LS.count p.1:Nat):Int)==1
   obtain⟨a,haa⟩:=VG (Z _ (ak hlj)).1;have L:a<S.aj.length:=by have:=(Z _ (ak hlj)).2;omega
   have W:(aI A)[j*1]? =WB (.int .i64 (a:Int)):=by rw[<-haa];simp[hlj]
   have au:=aU hlj;have ad:j<x.v.length:=Zi;have af:=bD ad;have hsn:=cz ad;have X:=Dt (ls:=LS) L;rw[<-hb,haa]at G;simp only at G;refine Vl<|Z2 O<|Rs O (aC ⟨_,aan,O⟩ O W)<|Y2 O ?_;by_cases hbt:b=YK
   .by_cases hve:(x.v[j].toList==(⟨#[]⟩:er).toList)=YK
    .exact Gr O<|Rs O (XJ.cast (v':= .pv (.bool YK)) (qa O) (ah (λb=>V.pv (.bool b)) hbt))<|Ar 5 O<|Rg O (aC ⟨_,aam,O⟩ O af)<|Rg O (XJ.cast (v':= .pv (.bool YL)) (lH O O O) (ah (λb=>V.pv (.bool !b)) hve))<|Ar 4 O<|Rg O (aX ⟨_,aan,O⟩ O O X)<|Ar 4 O<|Z2 O<|⟨(j+1,(((LS.count (a:Int):Nat):Int)==1)),YS O,⟨Zi,by simp only;rw[G,hbt,hve];rfl⟩,Zo⟩
    exact Gr O<|Rs O (XJ.cast (v':= .pv (.bool YK)) (qa O) (ah (λb=>V.pv (.bool b)) hbt))<|Ar 5 O<|Rg O (aC ⟨_,aam,O⟩ O af)<|Rg O (XJ.cast (v':= .pv (.bool YK)) (lH O O O) (ah (λb=>V.pv (.bool !b)) (XB hve)))<|Ar 9 O<|Z2 O<|⟨(j+1,YK),YS O,⟨Zi,by simp only;rw[G,hbt,XB hve];rfl⟩,Zo⟩
   exact Gr O<|Rs O (XJ.cast (v':= .pv (.bool YL)) (qa O) (ah (λb=>V.pv (.bool b)) (XB hbt)))<|Ar 16 O<|Z2 O<|⟨(j+1,YL),YS O,⟨Zi,by simp only;rw[G,XB hbt,Yq]⟩,Zo⟩
  have hbl:cq LS A x=b:=by unfold cq;rw[hb,aG Zn]
  refine Gx O<|Z1 O<|Gc O (λH=>?_) (λH=>?_)
  .refine VC 10 O<|Dr 3 O<|YM O (λτ h=>aa call115 (AN x.v Zi) (h.aE O))<|Dr 6 O ⟨Zj,Z2 O<|⟨(i+1,q++[x]),Vo [0,1,5] ⟨O,O,O,ah (λn=>V.bz 5 2 n) (fv q x),O,O,O,Zp⟩ ⟨O,O,VT (b:=WB (.bD 41 (aL q++rN x))) Zj (ah (λc=>WB (Ob.bD 41 c)) (kE q x)),Zp⟩ O O Zk O,⟨⟨Zi,by simp only[Hb,VV];omega⟩,by rw[U,Xc,<-hq];simp only[WL,List.filter_nil];rw[IT (hbl.trans H)]⟩,Zo⟩⟩
  exact Vl<|Z2 O<|⟨(i+1,q),YS O,⟨⟨Zi,Zo⟩,by rw[U,Xc,<-hq];simp only[WL,List.filter_nil];rw[AS (by rw[hbl,H];decide),W7]⟩,Zo⟩
 exact Vm (Vq 2 O O)<|Gx O<|Z2 O<|YR O<|by rw[show l.filter (cq LS A)=q by rw[hq,aG Zi]];rfl
end
namespace Jn
set_option autoImplicit false
section
variable {α:Type}[DecidableEq α]
abbrev Asg(α:Type):=Int->Option α
abbrev vb:=Asg er
def put(σ:Asg α)(a:Int)(x:α):Asg α:=λb=>if b=a then WB x else σ b
def agr(A:cP)(σ:Asg α)(row:List α):Bool:=(A.zip row).all λp=>match σ p.1 with
 |none=>YK
 |some x=>decide (x=p.2)
theorem mr{σ τ:Asg α}(h:∀a∈A,σ a=τ a)(row:List α):agr A σ row=agr A τ row:=by
 unfold agr;rw[V0,IN,IN];constructor
 .intro k p hp;have:=k p hp;rw[<-h p.1 (List.of_mem_zip hp).1];exact this
 .intro k p hp;have:=k p hp;rw[h p.1 (List.of_mem_zip hp).1];exact this
def Sub(σ τ:Asg α):Prop:=∀a x,σ a=WB x->τ a=WB x
theorem IV{σ τ:Asg α}(h:Sub σ τ){row:List α}(k:agr A τ row=YK):agr A σ row=YK:=by
 unfold agr at*;rw[IN]at*;intro p hp;have:=k p hp;cases e:σ p.1 with
 |none=>rfl
 |some x=>rw[h _ _ e]at this;exact this
structure Rels(α:Type) where
 A:vm
 T:List (List (List α))
def Rels.at(P:Rels α)(r:Nat):cP:=P.A.getD r []
def Rels.rows(P:Rels α)(r:Nat):List (List α):=P.T.getD r []
def dG(P:Rels α)(r:Nat)(σ:Asg α):Bool:=(P.rows r).any (agr (P.at r) σ)
def cw(P:Rels α)(v:Int):ee:=(List.range P.A.length).filter λr=>decide (v∈P.at r)
structure IsCand(P:Rels α)(v:Int)(σ:Asg α)(cs:List α):Prop where
 nd:cs.Nodup
 mem:∀x,x∈cs↔∀r∈cw P v,dG P r (put σ v x)=YK
theorem Kx{P:Rels α}{σ τ:Asg α}(h:Sub σ τ)(k:dG P r τ=YK):dG P r σ=YK:=by unfold dG at*;rw[Wv]at*;obtain⟨row,h1,h2⟩:=k;exact⟨row,h1,IV h h2⟩
theorem lL{P:Rels α}{σ τ:Asg α}(h:∀a∈P.at r,σ a=τ a):dG P r σ=dG P r τ:=by unfold dG;rw[V0,Wv,Wv];exact⟨fun⟨x,h1,h2⟩=>⟨x,h1,by rw[<-mr h];exact h2⟩,fun⟨x,h1,h2⟩=>⟨x,h1,by rw[mr h];exact h2⟩⟩
def enW(cd:Int->Asg α->List α):cP->Asg α->List (Asg α)
 |[],σ=>[σ]
 |v::vs,σ=>(cd v σ).flatMap λx=>enW cd vs (put σ v x)
omit [DecidableEq α] in
theorem fI(σ:Asg α)(a:Int)(x:α):put σ a x a=WB x:=IT O
omit [DecidableEq α] in
theorem jZ(σ:Asg α){a b:Int}(x:α)(h:b≠a):put σ a x b=σ b:=AS h
omit [DecidableEq α] in
theorem lM{cd:Int->Asg α->List α}:∀{vs:cP}{σ τ:Asg α},τ∈enW cd vs σ->∀a,a∉vs->τ a=σ a
 |[],σ,τ,h,a,_=>by rw[enW,VH]at h;rw[h]
 | v::vs,σ,τ,h,a,ha=>by
   rw[enW,V6]at h;obtain⟨x,_,h⟩:=h;rw[lM h a (λe=>ha (by simp[e])),jZ _ _ (λe=>ha (by simp[e]))]
omit [DecidableEq α] in
theorem jM{cd:Int->Asg α->List α}(hc:∀v σ,(cd v σ).Nodup):∀{vs:cP}{σ:Asg α},vs.Nodup->(enW cd vs σ).Nodup
 |[],σ,_=>by simp[enW]
 | v::vs,σ,hn=>by
   rw[WW]at hn;rw[enW];have key:∀(l:List α),l.Nodup->(l.flatMap λx=>enW cd vs (put σ v x)).Nodup:=by
    intro l;induction l with
    |nil=>intro _;simp
    | cons x l ih=>
      intro hl;rw[WW]at hl;rw[Wc,XL];refine⟨jM hc hn.2,ih hl.2,λτ h1 τ' h2 e=>?_⟩;subst e;obtain⟨y,hy,h2⟩:=V6.1 h2;have s:=lM h1 v hn.1;have q:=lM h2 v hn.1;rw[fI]at s q;rw[s]at q;cases q;exact hl.1 hy
   exact key _ (hc v σ)
theorem mz{P:Rels α}{cd:Int->Asg α->List α}:∀{vs:cP}(_:∀v∈vs,∀σ,IsCand P v σ (cd v σ)){σ τ:Asg α},vs.Nodup->(∀a∈vs,σ a=WC)->
  (τ∈enW cd vs σ↔(∀a,a∉vs->τ a=σ a)/\(∀a∈vs,(τ a).isSome=YK)/\∀r<P.A.length,(∃a∈vs,a∈P.at r)->dG P r τ=YK)
 | [],_,σ,τ,_,_=>by
   rw[enW,VH];constructor
   .rintro rfl;exact⟨λ_ _=>rfl,λ_ h=>absurd h Zm,λ_ _ ⟨_,h,_⟩=>absurd h Zm⟩
   .intro h;funext a;exact h.1 a Zm
 | v::vs,hc,σ,τ,hn,hs=>by
   rw[WW]at hn;have hc':∀v∈vs,∀σ,IsCand P v σ (cd v σ):=λu hu=>hc u (by simp[hu])
   have q:∀x,∀a∈vs,put σ v x a=WC:=λx a ha=>by rw[jZ _ _ (λe:a=v=>hn.1 (by rw[<-e];exact ha))];exact hs a (by simp[ha])
   rw[enW,V6];constructor
   .rintro⟨x,hx,h⟩;have s:=(mz hc' hn.2 (q x)).1 h;have G:τ v=WB x:=by rw[s.1 v hn.1,fI]
    refine⟨λa ha=>?_,λa ha=>?_,λr hr ⟨a,ha,hra⟩=>?_⟩
    .rw[s.1 a (λe=>ha (by simp[e])),jZ _ _ (λe=>ha (by simp[e]))]
    .rcases By.1 ha with rfl|ha
     .rw[G];rfl
     exact s.2.1 a ha
    by_cases h2:∃b∈vs,b∈P.at r
    .exact s.2.2 r hr h2
    have hav:a=v:=by
     rcases By.1 ha with e|e
     .exact e
     exact absurd ⟨a,e,hra⟩ h2
    subst hav;have:=((hc a Zm σ).mem x).1 hx r (VU.2 ⟨Wi.2 hr,by simpa using hra⟩);rw[<-this];exact lL λb hb=>s.1 b λe=>h2 ⟨b,e,hb⟩
   rintro⟨h1,h2,h3⟩;obtain⟨x,hx⟩:=V4.1 (h2 v Zm);have B:Sub (put σ v x) τ:=λa y e=>by
    by_cases hav:a=v
    .subst hav;rw[fI]at e;cases e;exact hx
    rw[jZ _ _ hav]at e;by_cases hvs:a∈v::vs
    .rw[hs a hvs]at e;cases e
    rw[h1 a hvs];exact e
   refine⟨x,((hc v Zm σ).mem x).2 λr hr=>?_,(mz hc' hn.2 (q x)).2 ⟨λa ha=>?_,λa ha=>h2 a (by simp[ha]),λr hr ⟨a,ha,hra⟩=>h3 r hr ⟨a,by simp[ha],hra⟩⟩⟩
   .obtain⟨hr1,hr2⟩:=VU.1 hr;exact Kx B (h3 r (Wi.1 hr1) ⟨v,Zm,by simpa using hr2⟩)
   by_cases hav:a=v
   .subst hav;rw[fI,hx]
   rw[jZ _ _ hav];exact h1 a (by simp[hav,ha])
end
structure SR(R:Type) where
 zero:R
 one:R
 add:R->R->R
 mul:R->R->R
 add_assoc:∀a b c,add (add a b) c=add a (add b c)
 zero_add:∀a,add zero a=a
 add_zero:∀a,add a zero=a
 mul_assoc:∀a b c,mul (mul a b) c=mul a (mul b c)
 mul_comm:∀a b,mul a b=mul b a
 one_mul:∀a,mul one a=a
 zero_mul:∀a,mul zero a=zero
 add_mul:∀a b c,mul (add a b) c=add (mul a c) (mul b c)
section
variable {R:Type}(S:SR R)
def du:List R->R
 |[]=>S.zero
 |a::l=>S.add a (du l)
theorem lX(l m:List R):du S (l++m)=S.add (du S l) (du S m):=by
 induction l with
 |nil=>rw[WZ,du,S.zero_add]
 |cons a l ih=>rw[Wu,du,ih,du,S.add_assoc]
theorem DA(l:List R)(c:R):du S (l.map λa=>S.mul a c)=S.mul (du S l) c:=by
 induction l with
 |nil=>rw[Wd,du,S.zero_mul]
 |cons a l ih=>rw[ed,du,ih,du,S.add_mul]
theorem xc(l:List R)(c:R):du S (l.map λa=>S.mul c a)=S.mul c (du S l):=by
 rw[S.mul_comm c,<-DA]
 congr 1
 exact V9 λa _=>S.mul_comm c a
theorem pH{γ:Type}(l:List β)(f:β->List γ)(w:γ->R):du S ((l.flatMap f).map w)=du S (l.map λb=>du S ((f b).map w)):=by
 induction l with
 |nil=>rfl
 |cons b l ih=>rw[Wc,Wf,lX,ih,ed,du]
theorem da{l:List β}{f g:β->R}(h:∀b∈l,f b=g b):du S (l.map f)=du S (l.map g):=by rw[V9 h]
end
inductive Tr where
 |node (v:Int) (ts:List Tr)
mutual
def Tr.vs:Tr->cP
 | .node v ts=>v::vsL ts
def vsL:List Tr->cP
 |[]=>[]
 |t::ts=>t.vs++vsL ts
end
section
variable {α R:Type}(S:SR R)(cd:Int->Asg α->List α)(g:Int->Asg α->R)
mutual
def val:Tr->Asg α->R
 | .node v ts,σ=>du S ((cd v σ).map λx=>S.mul (g v (put σ v x)) (valL ts (put σ v x)))
def valL:List Tr->Asg α->R
 |[],_=>S.one
 |t::ts,σ=>S.mul (val t σ) (valL ts σ)
end
def wts:cP->Asg α->R
 |[],_=>S.one
 |v::vs,τ=>S.mul (g v τ) (wts vs τ)
theorem Fv(l m:cP)(τ:Asg α):wts S g (l++m) τ=S.mul (wts S g l τ) (wts S g m τ):=by
 induction l with
 |nil=>rw[WZ,wts,S.one_mul]
 |cons v l ih=>rw[Wu,wts,ih,wts,S.mul_assoc]
theorem uw(l m:cP)(σ:Asg α):enW cd (l++m) σ=(enW cd l σ).flatMap (enW cd m):=by
 induction l generalizing σ with
 |nil=>simp[enW]
 | cons v l ih=>
   rw[Wu,enW,enW,List.flatMap_assoc]
   congr 1
   funext x;exact ih _
structure Dep(D E:Int->cP):Prop where
 d:∀v σ τ,(∀a∈D v,σ a=τ a)->cd v σ=cd v τ
 e:∀v σ τ,(∀a∈E v,σ a=τ a)->g v σ=g v τ
variable (D E:Int->cP)
mutual
def Tr.Sep:Tr->Prop
 | .node v ts=>(∀a∈E v,a∉vsL ts)/\SepL ts
def SepL:List Tr->Prop
 |[]=>True
 |t::ts=>t.Sep/\SepL ts/\(∀w∈t.vs,(∀a∈D w,a∉vsL ts)/\∀a∈E w,a∉vsL ts)/\∀w∈vsL ts,(∀a∈D w,a∉t.vs)/\∀a∈E w,a∉t.vs
end
variable {cd g D E}
theorem jK{σ τ:Asg α}{l:cP}(h:∀a∈l,σ a=τ a)(v:Int)(x:α):∀a∈l,put σ v x a=put τ v x a:=λa ha=>by
 unfold put;split
 .rfl
 exact h a ha
mutual
theorem val_congr(q:Dep cd g D E):∀(t:Tr)(σ τ:Asg α),(∀w∈t.vs,(∀a∈D w,σ a=τ a)/\∀a∈E w,σ a=τ a)->val S cd g t σ=val S cd g t τ
 | .node v ts,σ,τ,h=>by
   have hv:=h v (by simp[Tr.vs]);rw[val,val,q.d v σ τ hv.1];refine da S λx _=>?_
   rw[q.e v _ _ (jK hv.2 v x),valL_congr q ts _ _ λw hw=>⟨jK (h w (by simp[Tr.vs,hw])).1 v x,jK (h w (by simp[Tr.vs,hw])).2 v x⟩]
theorem valL_congr(hd:Dep cd g D E):∀(ts:List Tr)(σ τ:Asg α),(∀w∈vsL ts,(∀a∈D w,σ a=τ a)/\∀a∈E w,σ a=τ a)->valL S cd g ts σ=valL S cd g ts τ
 |[],_,_,_=>by rw[valL,valL]
 | t::ts,σ,τ,h=>by
   rw[valL,valL,val_congr hd t σ τ λw hw=>h w (by simp[vsL,hw]),valL_congr hd ts σ τ λw hw=>h w (by simp[vsL,hw])]
end
theorem JW(q:Dep cd g D E){l:cP}{σ τ:Asg α}(h:∀w∈l,∀a∈E w,σ a=τ a):wts S g l σ=wts S g l τ:=by
 induction l with
 |nil=>rfl
 |cons v l ih=>rw[wts,wts,q.e v σ τ (h v Zm),ih λw hw=>h w (by simp[hw])]
mutual
theorem val_sum(hd:Dep cd g D E):∀(t:Tr)(σ:Asg α),t.Sep D E->val S cd g t σ=du S ((enW cd t.vs σ).map (wts S g t.vs))
 | .node v ts,σ,hs=>by
   rw[Tr.Sep]at hs;rw[val,Tr.vs,enW,pH];refine da S λx _=>?_
   rw[valL_sum hd ts _ hs.2,<-xc,XX];refine da S λτ hτ=>?_
   show S.mul _ (wts S g (vsL ts) τ)=wts S g (v::vsL ts) τ;rw[wts,hd.e v (put σ v x) τ λa ha=>(lM hτ a (hs.1 a ha)).symm]
theorem valL_sum(q:Dep cd g D E):∀(ts:List Tr)(σ:Asg α),SepL D E ts->valL S cd g ts σ=du S ((enW cd (vsL ts) σ).map (wts S g (vsL ts)))
 | [],σ,_=>by
   rw[valL,vsL,enW,ed,Wd,du,du,wts];rw[S.add_zero]
 | t::ts,σ,hs=>by
   rw[SepL]at hs;obtain⟨h1,h2,h3,h4⟩:=hs;rw[valL,vsL,uw,pH,val_sum q t σ h1,<-DA,XX];refine da S λτ hτ=>?_
   show S.mul (wts S g t.vs τ) _=_;have s:∀τ'∈enW cd (vsL ts) τ,wts S g (t.vs++vsL ts) τ'=S.mul (wts S g t.vs τ) (wts S g (vsL ts) τ'):=λτ' h'=>by
    rw[Fv,JW S q λw hw a ha=>lM h' a ((h3 w hw).2 a ha)]
   rw[da S s,<-Function.comp_def (f:=λb=>S.mul (wts S g t.vs τ) b),<-XX,xc,<-valL_sum q ts τ h2];rw[valL_congr S q ts σ τ λw hw=>⟨λa ha=>(lM hτ a ((h4 w hw).1 a ha)).symm,λa ha=>(lM hτ a ((h4 w hw).2 a ha)).symm⟩]
end
end
end Jn
namespace Jn
set_option autoImplicit false

section
variable {α:Type}[DecidableEq α]
def lI(σ:Asg α)(v:Int):Asg α:=λb=>if b=v then WC else σ b
def cA(P:Rels α)(sd:List α->List α)(v:Int)(σ:Asg α):List α:=match cw P v with
 |[]=>[]
 |f::_=>(sd (((P.rows f).filter (agr (P.at f) (lI σ v))).filterMap λrow=>row[(P.at f).idxOf v]?)).filter λx=>(cw P v).all λr=>dG P r (put σ v x)
def dom(P:Rels α)(v:Int):cP:=(cw P v).flatMap P.at
omit [DecidableEq α] in
theorem mq{P:Rels α}(h:r∈cw P v):v∈P.at r:=by simpa using(VU.1 h).2
theorem sq(P:Rels α)(sd:List α->List α)(v:Int)(σ τ:Asg α)(h:∀a∈dom P v,σ a=τ a):cA P sd v σ=cA P sd v τ:=by
 unfold cA;have q:∀r∈cw P v,∀a∈P.at r,σ a=τ a:=λr q a ha=>h a (V6.2 ⟨r,q,ha⟩)
 cases hw:cw P v with
 |nil=>rfl
 | cons f l=>
   simp only;rw[hw]at q;have s:((P.rows f).filter (agr (P.at f) (lI σ v)))=((P.rows f).filter (agr (P.at f) (lI τ v))):=by
    refine YW λrow _=>mr (λa ha=>?_) row
    unfold lI;split
    .rfl
    exact q f Zm a ha
   rw[s];refine YW λx _=>?_
   rw[V0,IN,IN];constructor
   .intro k r hm;rw[<-k r hm];exact(lL λa ha=>jK (q r hm) v x a ha).symm
   .intro k r hm;rw[<-k r hm];exact lL λa ha=>jK (q r hm) v x a ha
omit [DecidableEq α] in
theorem Tn{row:List α}(G:v∈A)(hl:row.length=A.length):∃x,row[A.idxOf v]? =WB x/\(v,x)∈A.zip row:=by have s:A.idxOf v<A.length:=XH G;have u:A.idxOf v<row.length:=Zi;refine⟨row[A.idxOf v],AT u,?_⟩;have q:(A.zip row)[A.idxOf v]'Zn=(A[A.idxOf v],row[A.idxOf v]):=List.getElem_zip;have B:A[A.idxOf v]=v:=List.getElem_idxOf s;rw[B]at q;rw[<-q];exact ak _
theorem MU{P:Rels α}{sd:List α->List α}(B:∀l,(sd l).Nodup)(G:∀l x,x∈sd l↔x∈l)(H:cw P v≠[])
  (hl:∀r∈cw P v,∀row∈P.rows r,row.length=(P.at r).length) (σ:Asg α):IsCand P v σ (cA P sd v σ):=by
 unfold cA;cases hw2:cw P v with
 |nil=>exact absurd hw2 H
 | cons f l=>
   simp only;refine⟨(B _).filter _,λx=>?_⟩;rw[hw2];rw[VU,IN];constructor
   .exact λh=>h.2
   .intro h;refine⟨?_,h⟩;rw[G,List.mem_filterMap];have s:=h f Zm;unfold dG at s;obtain⟨row,h1,h2⟩:=Wv.1 s;have q:v∈P.at f:=mq (P:=P) (v:=v) (r:=f) (by rw[hw2];simp);obtain⟨y,hy,hz⟩:=Tn q (hl f (by rw[hw2];simp) row h1);have u:=IN.1 (show((P.at f).zip row).all _=YK from h2) (v,y) hz;simp only[fI,VJ]at u;refine⟨row,VU.2 ⟨h1,IV (λa z e=>?_) h2⟩,by rw[hy,u]⟩;unfold lI at e;split at e
    .cases e
    rename_i hav;rw[jZ _ _ hav];exact e
end
end Jn
namespace Jn
open Mk
def bG(P:cP):Nat->Int->Tr
 |0,v=> .node v []
 |k+1,v=> .node v ((aB P v).map (bG P k))
theorem bz{c:Int}:c∈aB P v↔∃n:Nat,n<P.length/\c=(n:Int)/\P.getD n 0=v:=by grind[aB,bR]
theorem rM(P:cP)(v:Int):(aB P v).Nodup:=(cX _).filter _
theorem fF(ts:List Tr):vsL ts=ts.flatMap Tr.vs:=by
 induction ts with
 |nil=>rfl
 |cons t ts ih=>rw[vsL,ih,Wc]
theorem AU(p:α->Bool)(f:α->List β)(l:List α):(l.filter p).flatMap f=l.flatMap λa=>if p a=YK then f a else []:=by induction l<;>grind
mutual
theorem tree_vs(P:cP):∀(k:Nat)(v:Int),(bG P k v).vs=v::lg P k v
 |0,v=>by rw[bG,Tr.vs,vsL,lg]
 |k+1,v=>by rw[bG,Tr.vs,kids_vs P k v]
theorem kids_vs(P:cP):∀(k:Nat)(v:Int),vsL ((aB P v).map (bG P k))=lg P (k+1) v
 | k,v=>by
   rw[fF,YA,lg];unfold aB;rw[AU]
   congr 1
   funext a;rw[tree_vs P k a];simp only[Xk]
end
theorem yX(P:cP):vsL ((aB P (-1)).map (bG P P.length))=dS P:=kids_vs P P.length (-1)
theorem getD_at(q:n<P.length):P.getD n 0=P[n]:=by simp[List.getD,q]
theorem map_inj{f:α->β}:∀{l:List α},(l.map f).Nodup->∀{a b:α},a∈l->b∈l->f a=f b->a=b
 | x::l,h,a,b,ha,hb,e=>by
   rw[ed,WW]at h;rcases By.1 ha with ha|ha<;>rcases By.1 hb with hb|hb
   .rw[ha,hb]
   .exact absurd (VS.2 ⟨b,hb,by rw[<-e,ha]⟩) h.1
   .exact absurd (VS.2 ⟨a,ha,by rw[e,hb]⟩) h.1
   exact map_inj h.2 ha hb e
section
variable {P:cP}(hP:UpOk P)
include hP
theorem LP{c':Nat}(s:m<P.length)(hc:(c:Int)∈(m:Int)::bU P m)(q:(c':Int)∈(m:Int)::bU P m)(h:P.getD c 0=P.getD c' 0):c=c':=by
 have u:(((m:Int)::bU P m).map λa=>P.getD a.toNat 0).Nodup:=by rw[qD hP m s];exact yJ hP s
 have:=map_inj u hc q (by simpa using h);omega
theorem dE{v:Nat}(hc:c<P.length)(q:v<P.length)(h:P.getD c 0=(v:Int)):bU P c=(v:Int)::bU P v:=
 mK hP hc q (by rw[<-getD_at hc];exact h)
theorem jl:∀(k:Nat)(v:Nat),v<P.length->∀x∈(bG P k v).vs,∃m:Nat,m<P.length/\x=(m:Int)/\(v:Int)∈(m:Int)::bU P m
 | 0,v,hv,x,hx=>by
   rw[bG,Tr.vs,vsL,VH]at hx;exact⟨v,hv,hx,Zm⟩
 | k+1,v,hv,x,hx=>by
   rw[bG,Tr.vs,fF,YA]at hx;rcases By.1 hx with rfl|hx
   .exact⟨v,hv,O,Zm⟩
   obtain⟨c,hc,hx⟩:=V6.1 hx;obtain⟨n,hn,rfl,hp⟩:=bz.1 hc;obtain⟨m,hm,rfl,hu⟩:=jl k n hn x hx;have e:=dE hP hn hv hp;refine⟨m,hm,O,VX _ ?_⟩;rcases By.1 hu with h|h
   .grind
   exact fL hP hm (by rw[e];simp) h
theorem xM{v:Nat}(u:v<P.length):(bU P v).length+1<=P.length:=by have s:=(ph hP u).length_eq;have q:=Wx (λa=>decide (a∈(v:Int)::bU P v)) (upZ P.length);rw[s,bt,VI]at q;exact q
theorem yj{v:Nat}(s:v<P.length)(h:P.length<=1+(bU P v).length):aB P v=[]:=by rw[List.eq_nil_iff_forall_not_mem];intro c hc;obtain⟨n,hn,rfl,hp⟩:=bz.1 hc;have q:=xM hP hn;rw[dE hP hn s hp,VI]at q;omega
theorem sX:∀(k:Nat)(v:Nat),v<P.length->P.length<=k+1+(bU P v).length->bG P (k+1) v=bG P k v
 |0,v,hv,h=>by rw[bG,bG,yj hP hv Zi];rfl
 | k+1,v,hv,h=>by
   rw[bG,bG]
   congr 1
   refine V9 λc hc=>?_
   obtain⟨n,hn,rfl,hp⟩:=bz.1 hc;have e:=dE hP hn hv hp;exact sX k n hn (by rw[e,VI];omega)
theorem QX{v:Nat}(q:v<P.length):bG P P.length v= .node v ((aB P v).map (bG P P.length)):=by rw[<-sX hP P.length v q Zi,bG]
end
section
variable {S:ZN}{P:cP}(h:OrdOk S P){D:Int->cP}(hD:∀w,∀a∈D w,∃r∈S.aU,w∈r.2/\a∈r.2)
include h hD
theorem zI{c c':Int}(hc:c∈aB P v)(u:c'∈aB P v)(B:c≠c'):∀w∈(bG P k c).vs,∀a∈D w,a∉(bG P k c').vs:=by
 intro w hw a ha ha2;have q:=h.jv;obtain⟨n,hn,rfl,hp⟩:=bz.1 hc;obtain⟨n',hn',rfl,hp'⟩:=bz.1 u;obtain⟨m,hm,rfl,hu⟩:=jl q k n hn w hw;obtain⟨m',hm',rfl,hu'⟩:=jl q k n' hn' a ha2;obtain⟨r,hr,h1,h2⟩:=hD _ _ ha;have hs:P.getD n 0=P.getD n' 0:=by rw[hp,hp']
 have G:∀{x y z:Nat},z<P.length->(x:Int)∈(y:Int)::bU P y->(y:Int)∈(z:Int)::bU P z->(x:Int)∈(z:Int)::bU P z:=by
  intro x y z hz h3 h4;rcases By.1 h4 with e|h4
  .have:y=z:=Zi;subst this;exact h3
  rcases By.1 h3 with e|h3
  .have:x=y:=Zi;subst this;exact VX _ h4
  exact VX _ (fL q hz h3 h4)
 have s:n=n':=by
  rcases oB (h.rt r hr) h1 h2 with e|e|e
  .have:m=m':=Zi;subst this;exact LP q hm hu hu' hs
  .exact LP q hm' (G hm' hu (VX _ e)) hu' hs
  exact LP q hm hu (G hm hu' (VX _ e)) hs
 exact B (by rw[s])
end
end Jn
section
section
variable {C:Ctx}{n:Nat}{σ:St}{dst:YX}{ty:TypeId}{ts:Array TypeId}{pos:String}{after:Y4}{gd:Option (Nat×Bool)}
theorem az{f:FuncId}{xs:Array Operand}{args:nR}{os:Zy}{k':Nat}{r:V}{X:Nat->va}(ids:ee)(base:Nat)(hc:bS C.P f)(H:ZS C.P f ids.length k' args os (λv ob'=>v=r/\ob'=X))(s:xs.toList.map (σ.ev n)=V.renL (eI ids base) args)
  (I:V.allL (okR ids.length 0) args=YK) (hos:os.map (·.1)=(List.range ids.length).map (big+ ·)) (u:os.all (λp=>p.2.all (okR ids.length 0))=YK) (q:gL σ (eI ids base) os)
  (B:ids.Nodup) (G:(nwO base k').all σ.av=YK):
  XJ C n ⟨dst,.call { callee:= .value (.func f),args:=xs,argTypes:=ts },ty,pos,after,gd⟩ σ ⟨r.ren (eI ids base),wrO ids base k' X,nwO base k'⟩:=
 cf ids base hc s I hos u q B G H (by rintro _ _ ⟨rfl,rfl⟩;rfl)
end
end
section
section
variable {C:Ctx}{n:Nat}{σ:St}{dst:YX}{ty t:TypeId}{pos:String}{after:Y4}{gd:Option (Nat×Bool)}{x:Operand}
theorem zD(L:ZP C.P t e z 1 bytes)(H:z.oneCell'=YK)(W:σ.ev n x= .tsl id off k)(ho:σ.ob id=WB (.cells T cs))(X:off+k<=cs.length):
  XJ C n ⟨dst,.call { callee:= .builtin .clear,args:= #[x],argTypes:= #[t] },ty,pos,after,gd⟩ σ ⟨.pv (.bS []),[(id,WB (.cells T (cs.take off)))],[]⟩:=by
 rintro a w Q ⟨m,R,hw⟩;obtain⟨b,N,hm,arr,hb,hN,hle',hr⟩:=hw.live ho;have h:=hw.ev x;rw[W]at h;simp only[Rel]at h;obtain⟨hav,A,c,hev,hA⟩:=h;have U:z.cells= #[z]:=by
  generalize z=u at H;cases u<;>simp[Value.oneCell']at H<;>rfl
 have I:∀w,(zeroValue e).run C.P w= .ok z w:=λw=>by
  have:=L.info;cases hq:C.P.info? e with
  |none=>simp[hq]at this
  |some i=>simp[hq]at this;simp[zeroValue,typeInfo,hq,this.1]
 rcases WG k with h0|hp
 .subst h0;have q:(execOp a.eval ⟨dst,.call { callee:= .builtin .clear,args:= #[x],argTypes:= #[t] },ty,pos,after,gd⟩).run C.P w= .ok (.value (.tuple #[])) w:=by
   cases A<;>simp[execOp,resolve,invoke,builtin,Builtin.clear_,hev,run_underlying L.u,Result.andThen]
  unfold Oper.wp;rw[q];have s:=hw.turn hm w O (λ_ _=>rfl) O O O (.cells T (cs.take off)) (λM=>⟨arr,hb,hN,Zn,by
   have:=hr.take off;rw[Yl]at this;rw[Vz];exact this⟩)
  refine⟨_,O,m,R,?_⟩;rw[Vu];exact SW.put s dst (by simp only[Rel,ZH];exact⟨[],O,ZG.nil⟩)
 have hA':=hA hp b N hm;subst hA';have B:(Builtin.zeroCells z.cells k).toList=List.replicate k z:=by
  rw[U];simp[Builtin.zeroCells];apply WU
  .simp
  .intro i H h2;simp[Nat.mod_one]
 have G:=run_storeCells_at (P:=C.P) b off T (List.replicate k z) 0 arr w hb Zn (λv hv=>by rw[(List.mem_replicate.1 hv).2];exact H);simp only[XG]at G;have V:k≠0:=Zi;have q:(execOp a.eval ⟨dst,.call { callee:= .builtin .clear,args:= #[x],argTypes:= #[t] },ty,pos,after,gd⟩).run C.P w= .ok (.value (.tuple #[])) (w.setRow b (arr.toList.take off++List.replicate k z++arr.toList.drop (off+(List.replicate k z).length)).toArray):=by
  cases k with
  |zero=>omega
  |succ k=>simp[execOp,resolve,invoke,builtin,Builtin.clear_,hev,run_underlying L.u,I,B,G,Result.andThen]
 unfold Oper.wp;rw[q];have s:=hw.store hm arr (arr.toList.take off++List.replicate k z++arr.toList.drop (off+(List.replicate k z).length)).toArray T hb Zn (.cells T (cs.take off)) (λw' M hb'=>⟨_,hb',Zn,Zn,by
  have:=(hr.take off).mono M;rw[Yl]at this;rw[Vz];have e:(arr.toList.take off++List.replicate k z++arr.toList.drop (off+(List.replicate k z).length)).toArray.toList.take (min off cs.length)=arr.toList.take (min off cs.length):=by
   show List.take _ (_++_++_)=_;rw[XO,List.take_append_of_le_length Zn,Yl]
   congr 1
   omega
  rw[e];exact this⟩)
 refine⟨_,O,m,R,?_⟩;rw[Vu];exact SW.put s dst (by simp only[Rel,ZH];exact⟨[],O,ZG.nil⟩)
theorem RE(q:C.P.underlying t=WB (.slice e))(s:σ.ev n x= .tsl id off k):
  XJ C n ⟨dst,.call { callee:= .builtin .len,args:= #[x],argTypes:= #[t] },ty,pos,after,gd⟩ σ ⟨ZI k,[],[]⟩:=
 .val λa w m R hw=>by
  have h:=hw.ev x;rw[s]at h;simp only[Rel]at h;obtain⟨hav,A,c,hev,hA⟩:=h;exact⟨.int .i64 k,by cases A<;>simp[execOp,resolve,invoke,builtin,Builtin.len_,hev,run_underlying q,goInt,Result.andThen],by simp only[Rel,ZH]⟩
theorem jd{s:Nat}{kk:IntKind}{i:Int}{o:Ob}{y:Operand}(j:Nat)(G:C.P.underlying T=WB (.slice e))(hs:b8 C.P e s)(H:σ.ev n x= .tsl id off k)(ho:σ.ob id=WB o)(I:σ.ev n y= .pv (.int kk i))(L:i=(j:Int))(M:j<k)(B:o.real=YK:=by rfl):
  XJ C n ⟨dst,.indexAddr T x y,ty,pos,after,gd⟩ σ ⟨.ptr id (off+j*s),[],[]⟩:=
 .val λa w m R hw=>by
  obtain⟨b,N,hm,_⟩:=hw.live ho B;have q:=hw.ev x;rw[H]at q;simp only[Rel]at q;obtain⟨hav,A,c,he,hA⟩:=q;have u:=hA Zi b N hm;subst u;refine⟨_,by simp only[execOp,he,hw.int I,Sem.run_bind,lJ G hs L M,Result.andThen_ok];rfl,?_⟩;simp only[Rel];exact⟨hav,λb' N' e=>by rw[hm]at e;cases e;rfl⟩
end
end
section
open Mk Jn
structure JD where
 S:ZN
 T:Gk
 lp:PV
 pk:na
 pv:na
structure WD where
 ch:PV
 ke:PV
 ho:PV
 wa:PV
 g0:PV
 g1:PV
 g2:PV
 g3:PV
 g4:PV
 g5:PV
 g6:PV
 lf:PV
 wt:PV
structure JOk(J:JD):Prop where
 s:SJn J.S
 n:J.T.length=J.S.aU.length
 l:∀l∈J.T,l.length<=1000
 v:∀r (h:r<J.T.length) (h2:r<J.S.aU.length),∀x∈J.T[r],x.v.length=J.S.aU[r].2.length
structure ZR(n:Nat)(σ:vb)(now:hC):Prop where
 l:now.length=n
 e:∀a (h:a<now.length) x,σ (a:Int)=WB x->now[a]=x
 o:∀a:Int,(∀i:Nat,i<n->a≠(i:Int))->σ a=WC
def stL(σ:vb)(n:Nat):List Bool:=(List.range n).map λa:Nat=>(σ (a:Int)).isSome
theorem n4(σ:vb)(n:Nat):(stL σ n).length=n:=by simp[stL]
theorem Us{σ:vb}(h:a<n):(a8 (stL σ n))[a*1]? =WB (.bool (σ (a:Int)).isSome):=by simp[stL,h]
theorem Lz{σ:vb}(h:a<n)(x:er):(a8 (stL σ n)).set (a*1) (.bool YK)=a8 (stL (put σ a x) n):=by
 apply WU
 .simp[stL]
 .intro i h1 h2;simp only[VN,IS,stL,List.length_range]at h1;simp only[stL,YB,X4,List.getElem_range,VY,put];by_cases e:a=i
  .subst e;simp
  rw[AS e,AS Zi]
theorem Pn{σ:vb}(h:a<n):(a8 (stL σ n)).set (a*1) (.bool YL)=a8 (stL (lI σ a) n):=by
 apply WU
 .simp[stL]
 .intro i h1 h2;simp only[VN,IS,stL,List.length_range]at h1;simp only[stL,YB,X4,List.getElem_range,VY,lI];by_cases e:a=i
  .subst e;simp
  rw[AS e,AS Zi]
theorem vT{l:hC}(x:er):(bj l).set (a*1) (.str x)=bj (l.set a x):=by simp[Wp]
theorem ZR.put{σ:vb}(h:ZR n σ now)(q:a<n)(x:er):ZR n (put σ a x) (now.set a x):=by
 refine⟨by simp[h.l],λi hi y e=>?_,λi hi=>?_⟩
 .rw[YB];by_cases ea:a=i
  .subst ea;rw[fI]at e;cases e;simp
  rw[jZ _ _ Zi]at e;rw[AS ea];exact h.e i (by simpa using hi) y e
 rw[jZ _ _ (hi a q)];exact h.o i hi
theorem ZR.un{σ:vb}(h:ZR n σ now)(a:Int):ZR n (lI σ a) now:=by
 refine⟨h.l,λi hi y e=>?_,λi hi=>?_⟩
 .unfold lI at e;split at e
  .cases e
  exact h.e i hi y e
 unfold lI;split
 .rfl
 exact h.o i hi
theorem nc{σ:vb}{a:Int}{x:er}(h:σ a=WC):lI (put σ a x) a=σ:=by
 funext b;unfold lI put;split
 .next e=>rw[e,h]
 .rfl
abbrev UI(x:Rw):PV:= .agg (rN x)
def o9(J:JD)(r:Nat):cP:=(J.S.aU.getD r default).2
def bW(J:JD)(r:Nat):om:=J.T.getD r []
def agP(σ:vb)(p:Int×er):Bool:=match σ p.1 with
 |none=>YK
 |some x=>decide (x=p.2)
theorem CP{σ:vb}{a:Int}(h:σ a=WC):agP σ (a,y)=YK:=by unfold agP;simp only[h]
theorem uW{σ:vb}{a:Int}{x:er}(h:σ a=WB x):agP σ (a,y)=decide (x=y):=by unfold agP;simp only[h]
theorem Pv(A:cP)(σ:vb)(v:hC):agr A σ v=(A.zip v).all (agP σ):=by
 unfold agr
 congr 1
 funext p;unfold agP;cases σ p.1 with
 |none=>rfl
 |some x=>simp
theorem ba_ne{a b:er}(h:(a.toList !=b.toList)=YK):decide (a=b)=YL:=VL λe=>by subst e;simp at h
theorem ba_eq{a b:er}(h:(a.toList !=b.toList)=YL):decide (a=b)=YK:=VK (bytes_inj (by simpa using h))
theorem G6{l:List α}{f:α->Bool}(h:(l.take k).all f=YL):l.all f=YL:=by rw[X6]at*;obtain⟨x,hx,hf⟩:=h;exact⟨x,X0 hx,hf⟩
theorem HQ(l:List α)(p:α->Bool):∃i:Int,decide (i>=0)=l.any p/\((∀k (h:k<l.length),p l[k]=YK->(∀j (h:j<l.length),j<k->p l[j]=YL)->i=k)/\((∀j (h:j<l.length),p l[j]=YL)->i= -1)):=by
 by_cases hx:∃k:Nat,∃h:k<l.length,p l[k]=YK/\∀j (h:j<l.length),j<k->p l[j]=YL
 .obtain⟨k,h,h1,h2⟩:=hx;refine⟨k,?_,λk' h' a b=>?_,λa=>?_⟩
  .rw[Wv.2 ⟨_,ak h,h1⟩];simp
  .rcases Nat.lt_trichotomy k k' with c|c|c
   .rw[b k h c]at h1;cases h1
   .rw[c]
   rw[h2 k' h' c]at a;cases a
  rw[a k h]at h1;cases h1
 have hno:∀k,∀j (h:j<l.length),j<k->p l[j]=YL:=by
  intro k;induction k with
  |zero=>intro j _ h;omega
  | succ k ih=>
    intro j h hj;rcases V3.1 hj with h1|h1
    .exact ih j h h1
    subst h1;cases hp:p l[j]with
    |false=>rfl
    |true=>exact absurd ⟨j,h,hp,ih⟩ hx
 refine⟨-1,?_,λk h a _=>?_,λ_=>rfl⟩
 .have:l.any p=YL:=by
   rw[Yr];intro x hx;obtain⟨j,h,rfl⟩:=WR.1 hx;rw[hno (j+1) j h Zi];decide
  rw[this];rfl
 rw[hno (k+1) k h Zi]at a;cases a
theorem kG{d:Gk}(h:r<d.length):(bO d)[r*1]? =WB (nB d[r]):=by simp[bO,h]
theorem nV{d:Gk}(h:r<d.length):bO d≠[]:=λe=>by have:=cL d;rw[e]at this;simp at this;omega
def RJ(J:JD):Rels er:=⟨J.S.aU.map (·.2),J.T.map λl=>l.map (·.v)⟩
theorem tc(J:JD)(r:Nat):(RJ J).at r=o9 J r:=by unfold Rels.at RJ o9;simp only[VO,Xw];cases J.S.aU[r]? <;>rfl
theorem eD(J:JD)(r:Nat):(RJ J).rows r=(bW J r).map (·.v):=by unfold Rels.rows RJ bW;simp only[VO,Xw];cases J.T[r]? <;>rfl
theorem R7(J:JD)(r:Nat)(σ:vb):dG (RJ J) r σ=(bW J r).any λx=>agr (o9 J r) σ x.v:=by unfold dG;rw[eD,tc,List.any_map];rfl
theorem De{l:hC}(x:er):(bj l).set (a*1) (.str x)=bj (l.set a x):=vT x
theorem H7(l:List α)(p:α->Bool)(x:α):(l++[x]).filter (λx=> !p x)=l.filter (λx=> !p x)++if p x=YK then []else [x]:=by rw[Xc];cases h:p x<;>simp[WL,h]
def sT(J:JD)(rs:ee)(σ:vb)(a:Nat)(x:er):Bool:=rs.any λr=> !(dG (RJ J) r (put σ a x))
def tst(now:hC)(a:Nat)(xs:hC):hC:=xs.foldl (λz x=>z.set a x) now
theorem Cn{l:hC}(h:k<l.length):(tst now a (l.take k)).set a l[k]=tst now a (l.take (k+1)):=by unfold tst;rw[AI h,XN];rfl
theorem ZR.tried{σ:vb}(h:ZR n σ now)(q:a<n)(s:σ (a:Int)=WC)(x:er):ZR n σ (now.set a x):=by have:=(h.put q x).un (a:Int);rwa [nc s]at this
theorem K3{σ:vb}(h:ZR n σ now)(q:a<n)(s:σ (a:Int)=WC)(xs:hC):ZR n σ (tst now a xs):=by
 unfold tst;induction xs generalizing now with
 |nil=>exact h
 |cons x xs ih=>exact ih (h.tried q s x)
theorem Qz{l:List α}{p:α->Bool}{i:Int}(G:decide (i>=0)=l.any p)(s:∀k (h:k<l.length),p l[k]=YK->(∀j (h:j<l.length),j<k->p l[j]=YL)->i=k)(H:(∀j (h:j<l.length),p l[j]=YL)->i= -1):
  (i= -1->∀x∈l,p x=YL)/\(¬i= -1->∃i0:Nat,i=(i0:Int)/\i0<l.length/\(l.take (i0+1)).filter (λx=> !p x)=l.take i0):=by
 constructor
 .intro e x q;rw[e]at G;have:l.any p=YL:=by rw[<-G];decide
  rw[Yr]at this;have:=this x q;cases hp:p x with
  |false=>rfl
  |true=>exact absurd hp this
 .intro e;have u:∃k:Nat,∃h:k<l.length,p l[k]=YK/\∀j (h:j<l.length),j<k->p l[j]=YL:=by
   refine V5 λq=>e (H ?_)
   have B:∀k,∀j (h:j<l.length),j<k->p l[j]=YL:=by
    intro k;induction k with
    |zero=>intro j _ h;omega
    | succ k ih=>
      intro j h hj;rcases V3.1 hj with s|s
      .exact ih j h s
      subst s;cases hp:p l[j]with
      |false=>rfl
      |true=>exact absurd ⟨j,h,hp,ih⟩ q
   exact λj h=>B (j+1) j h Zi
  obtain⟨k,h,ha,hb⟩:=u;refine⟨k,s k h ha hb,h,?_⟩;rw[AI h,Xc];have:(l.take k).filter (λx=> !p x)=l.take k:=Yw.2 λx q=>by
   obtain⟨j,hj,rfl⟩:=WR.1 q;rw[Vz]at hj;rw[List.getElem_take,hb j Zi Zi];rfl
  rw[this];simp[WL,ha]
abbrev oZ(S:ZN):Ob:= .mix 30 (sCc S)
abbrev oX(S:ZN)(v l:V)(m:Nat):Ob:= .mix 143 [.pv (.sl WC S.aj.length (aR S.aj)),.pv (.sl WC S.aU.length (aZ S.aU)),.pv (.sl WC S.bo.length (aK S.bo)),ZI S.label,v,l,.map m]
abbrev oX2(J:JD)(m:Nat):Ob:=oX J.S (.pv (dbP J.T)) (.pv J.lp) m
end
def val:ee->Nat
 |[]=>0
 |a::l=>a+1000000000*val l
def ae(n:Nat):ee:=if n=0 then []else n%1000000000::ae (n/1000000000)
termination_by n
decreasing_by omega
def Lok(l:ee):Prop:=∀a∈l,a<1000000000
theorem aV:ae 0=[]:=by rw[ae];rfl
theorem dC(h:n≠0):ae n=n%1000000000::ae (n/1000000000):=by
 conv=>lhs;rw[ae]
 rw[AS h]
theorem aH(n:Nat):val (ae n)=n:=by
 induction n using Nat.strongRecOn with
 | ind n ih=>
   by_cases h:n=0
   .subst h;rw[aV];rfl
   grind[dC,val]
theorem a6(n:Nat):Lok (ae n):=by
 induction n using Nat.strongRecOn with
 | ind n ih=>
   by_cases h:n=0
   .subst h;rw[aV];intro a ha;simp at ha
   rw[dC h];intro a ha;rcases By.1 ha with rfl|ha
   .exact WI _ Zk
   exact ih _ Zi a ha
theorem Lok.cons(h:Lok (a::l)):a<1000000000/\Lok l:=⟨h a Zm,λb hb=>h b (by simp[hb])⟩
theorem Lok.at(h:Lok l)(i:Nat):l.getD i 0<1000000000:=by
 by_cases hi:i<l.length
 .simp only[List.getD,AT hi,Xg];exact h _ (ak hi)
 grind
theorem Lok.take(h:Lok l)(k:Nat):Lok (l.take k):=λa ha=>h a (X0 ha)
theorem Lok.set(h:Lok l)(q:x<1000000000):Lok (l.set k x):=λa ha=>by
 rcases Xm ha with e|e
 .exact h a e
 rw[e];exact q
theorem Lok.append{r:ee}(h:Lok l)(q:Lok r):Lok (l++r):=λa ha=>(We.1 ha).elim (h a) (q a)
theorem Lok.replicate(k:Nat):Lok (List.replicate k 0):=λa ha=>by rw[List.eq_of_mem_replicate ha];decide
theorem c8(l r:ee):val (l++r)=val l+1000000000^l.length*val r:=by
 induction l with
 |nil=>simp[val]
 |cons a l ih=>rw[Wu,val,val,ih,VI,Wt,XP,<-Xr,Wq (1000000000^l.length) 1000000000,Nat.add_assoc]
theorem j9(l:ee)(k:Nat):val l=val (l.take k)+1000000000^(min k l.length)*val (l.drop k):=by
 conv=>lhs;rw[<-WV k l]
 rw[c8,Vz]
theorem uc(h:Lok l):val l<1000000000^l.length:=by
 induction l with
 |nil=>simp[val]
 | cons a l ih=>
   have q:=h.cons;have s:=ih q.2;rw[val,VI,Wt];have:val l+1<=1000000000^l.length:=s;have:=Wn 1000000000 this;rw[Wq (1000000000^l.length)];omega
theorem val_zero(h:∀i,l.getD i 0=0):val l=0:=by
 induction l with
 |nil=>rfl
 | cons a l ih=>
   have q:=h 0;simp at q;rw[val,ih (λi=>by simpa using h (i+1)),q]
theorem iE(h:Lok l):∀{n:Nat},n<=l.length->(∀i,n<=i->l.getD i 0=0)->(n=0\/l.getD (n-1) 0≠0)->ae (val l)=l.take n:=by
 induction l with
 |nil=>intro n _ _ _;simp[val,aV]
 | cons a l ih=>
   intro n hn hz hl;cases n with
   | zero=>
     have:val (a::l)=0:=val_zero λi=>hz i (sh _)
     rw[this,aV];rfl
   | succ n=>
     have u:=h.cons;have e:=ih u.2 (n:=n) (by simpa using hn) (λi hi=>by simpa using hz (i+1) Zi) (by grind);have s:val (a::l)≠0:=by
      intro h0;rw[val]at h0;have I:a=0:=Zi;have B:val l=0:=Zi;rw[B,aV]at e;have q:=ah List.length e;simp at q hn;rcases hl with hl|hl
      .omega
      grind
     rw[dC s,val,Yx];have G:(a+1000000000*val l)%1000000000=a:=Zi;have H:(a+1000000000*val l)/1000000000=val l:=Zi;rw[G,H,e]
theorem zV(h:n≠0):(ae n).getD ((ae n).length-1) 0≠0:=by
 induction n using Nat.strongRecOn with
 | ind n ih=>
   rw[dC h];by_cases h2:n/1000000000=0
   .rw[h2,aV];simp;omega
   grind
theorem bJ:(ae n).length=0↔n=0:=by grind[aH,Wl,aV]
theorem dX(n:Nat):n<1000000000^(ae n).length:=by have:=uc (a6 n);rwa [aH]at this
theorem Et(h:n≠0):1000000000^((ae n).length-1)<=n:=by
 have hl:(ae n).length≠0:=λe=>h (bJ.1 e)
 have s:=zV h;have e:=j9 (ae n) ((ae n).length-1);rw[aH,W6 Zi]at e;have q:(ae n).drop ((ae n).length-1)=[(ae n).getD ((ae n).length-1) 0]:=by
  rw[V1 Zi,Wy Zi];simp[List.getD,show(ae n).length-1<(ae n).length by omega]
 rw[q]at e;simp only[val,Zb,XG]at e;have:1000000000^((ae n).length-1)*1<=1000000000^((ae n).length-1)*(ae n).getD ((ae n).length-1) 0:=Wn _ Zi;omega
theorem aW:(ae n).length<=k↔n<1000000000^k:=by
 constructor
 .grind[VW,dX,WJ]
 .intro h;by_cases h0:n=0
  .subst h0;rw[aV];simp
  apply Nat.le_of_not_lt;intro hk;have q:=Et h0;have s:1000000000^k<=1000000000^((ae n).length-1):=WJ Zk Zi;omega
theorem gT(h:(ae a).length<(ae b).length):a<b:=by
 by_cases h0:b=0
 .grind[aV]
 have h1:=Et h0;have q:=dX a;have s:1000000000^(ae a).length<=1000000000^((ae b).length-1):=WJ Zk Zi;omega
theorem zA(h:ae a=ae b):a=b:=by rw[<-aH a,h,aH]
theorem eY(q:n≠0)(h:n<1000000000):ae n=[n]:=by rw[dC q,X5 h,Yg h,aV]
theorem qo{r:ee}(hl:Lok l)(u:l.length=r.length)(B:i<l.length)(L:l.drop (i+1)=r.drop (i+1))(h:l.getD i 0<r.getD i 0):val l<val r:=by
 have q:=j9 l i;have s:=j9 r i;rw[W6 Zi]at q s;have G:l.drop i=l.getD i 0::l.drop (i+1):=by rw[V1 B];simp[List.getD,B]
 have H:r.drop i=r.getD i 0::r.drop (i+1):=by rw[V1 Zi];simp[List.getD,show i<r.length by omega]
 rw[G,val]at q;rw[H,val,<-L]at s;have I:=uc (hl.take i);rw[Vz,W6 Zi]at I;generalize val (l.drop (i+1))=t at*;generalize l.getD i 0=x at*;generalize r.getD i 0=y at*;generalize 1000000000^i=p at*;have M:p*(x+1000000000*t)+p<=p*(y+1000000000*t):=by rw[<-Nat.mul_succ];exact Wn _ Zi
 omega
def sm(f:Nat->Nat):Nat->Nat
 |0=>0
 |i+1=>sm f i+1000000000^i*f i
abbrev lim(l:ee)(i:Nat):Nat:=l.getD i 0
theorem eE(h:i<l.length):lim l i=l[i]:=by simp[lim,List.getD,h]
theorem ju(h:l.length<=i):lim l i=0:=by simp[lim,List.getD,h]
theorem wO(h:∀i,i<n->f i=g i):sm f n=sm g n:=by
 induction n with
 |zero=>rfl
 |succ n ih=>rw[sm,sm,ih λi hi=>h i Zi,h n Zi]
theorem S4(l:ee)(q:n<=l.length):sm (lim l) n=val (l.take n):=by
 induction n with
 |zero=>rw[Yc];rfl
 | succ n ih=>
   rw[sm,ih Zi,AI Zi,c8,Vz,W6 Zi,eE Zi];simp[val]
theorem eL(l:ee)(q:l.length<=n):sm (lim l) n=val l:=by
 induction n with
 | zero=>
   rw[Wl (by omega:l.length=0)];rfl
 | succ n ih=>
   by_cases h:l.length=n+1
   .rw[S4 l Zi,aG Zi]
   rw[sm,ih Zi,ju Zi,Zb,XG]
theorem jf(q:k<l.length):lim (l.set k x) i=if i=k then x else lim l i:=by grind
theorem PO(q:k<l.length)(s:n<=k):sm (lim (l.set k x)) n=sm (lim l) n:=wO λi hi=>by rw[jf q,AS Zi]
theorem KA(q:k<l.length):val (l.set k x)+1000000000^k*l[k]=val l+1000000000^k*x:=by grind[c8,V1,WV,XU,val,XP,Vz,W6,Yy]
theorem cK(h:Lok l)(i:Nat):lim l i<1000000000:=h.at i
theorem Mc{out:ee}(q:i<out.length)(h:sm (lim out) i+1000000000^i*c=sm f i+sm g i):
  sm (lim (out.set i ((f i+g i+c)%1000000000))) (i+1)+1000000000^(i+1)*((f i+g i+c)/1000000000)=sm f (i+1)+sm g (i+1):=by
 rw[sm,PO q (BY _),jf q,IT O,sm,sm,Wt];generalize 1000000000^i=p at*;generalize ht:f i+g i+c=t;have e:p*(t%1000000000)+p*1000000000*(t/1000000000)=p*t:=by
  rw[Xr,<-XP,Nat.mod_add_div]
 have s:p*t=p*f i+p*g i+p*c:=by rw[<-ht,XP,XP]
 omega
theorem Mv{out:ee}{b':Nat}(q:i<out.length)(h:sm (lim out) i+sm g i=sm f i+1000000000^i*b)(s:x+g i+b=f i+1000000000*b'):
  sm (lim (out.set i x)) (i+1)+sm g (i+1)=sm f (i+1)+1000000000^(i+1)*b':=by
 rw[sm,PO q (BY _),jf q,IT O,sm,sm,Wt];generalize 1000000000^i=p at*;have e:p*x+p*g i+p*b=p*f i+p*1000000000*b':=by grind
 omega
theorem wU(n:Nat):0<1000000000^n:=Nat.pow_pos Zk
theorem RQ{V B:Nat}(h:V+p*B*c=a+b)(u:a<p)(G:b<p)(hB:2<=B):V=a+b:=by
 rcases WG c with h0|h0
 .grind
 exfalso;have q:p*2<=p*B:=Wn _ hB;have s:p*B*1<=p*B*c:=Wn _ h0;generalize p*B*c=z at*;generalize p*B=y at*;omega
theorem Rj{V:Nat}(h:V+b=a+p*c)(u:V<p)(q:b<=a):V=a-b:=by
 rcases WG c with h0|h0
 .grind
 exfalso;have s:p*1<=p*c:=Wn _ h0;generalize p*c=z at*;omega
theorem Tk{out:ee}(q:out.length=n+1)(s:a<1000000000^n)(u:b<1000000000^n)(h:sm (lim out) (n+1)+1000000000^(n+1)*c=a+b):val out=a+b:=by rw[eL out (Xz q),Wt]at h;exact RQ h s u Zk
theorem Ti{out:ee}(s:out.length=n)(ho:Lok out)(q:b<=a)(h:sm (lim out) n+b=a+1000000000^n*c):val out=a-b:=by rw[eL out (Xz s)]at h;have:=uc ho;rw[s]at this;exact Rj h this q
theorem DZ{out:ee}{V y:Nat}{S:Nat}(q:i+k<out.length)(h:val out+1000000000^(i+k)*c=V+1000000000^i*(x*S)):
  val (out.set (i+k) ((lim out (i+k)+x*y+c)%1000000000))+1000000000^(i+k+1)*((lim out (i+k)+x*y+c)/1000000000)=V+1000000000^i*(x*(S+1000000000^k*y)):=by
 have e:=KA (x:=(lim out (i+k)+x*y+c)%1000000000) q;rw[<-eE q]at e;have s:1000000000^i*(x*(S+1000000000^k*y))=1000000000^i*(x*S)+1000000000^(i+k)*(x*y):=by grind
 rw[s,Wt 1000000000 (i+k)];generalize 1000000000^(i+k)=p at*;generalize lim out (i+k)=o at*;generalize ht:o+x*y+c=t at*;have u:p*(t%1000000000)+p*1000000000*(t/1000000000)=p*t:=by
  rw[Xr,<-XP,Nat.mod_add_div]
 have B:p*t=p*o+p*(x*y)+p*c:=by rw[<-ht,XP,XP]
 omega
theorem FG{a q:ee}(s:i<a.length)(H:q.length=a.length)(I:0<d)(h:val (a.drop (i+1))=d*val (q.drop (i+1))+r):
  val (a.drop i)=d*val ((q.set i ((r*1000000000+lim a i)/d)).drop i)+(r*1000000000+lim a i)%d:=by
 have B:a.drop i=lim a i::a.drop (i+1):=by rw[V1 s,eE s]
 have G:(q.set i ((r*1000000000+lim a i)/d)).drop i=((r*1000000000+lim a i)/d)::q.drop (i+1):=by grind[V1,VN,List.drop_set]
 rw[B,G,val,val,h];generalize lim a i=x;generalize val (q.drop (i+1))=w;have e:=Yv (r*1000000000+x) d;generalize (r*1000000000+x)/d=u at*;generalize (r*1000000000+x)%d=v at*;rw[XP,XP,Wq d (1000000000*w),Xr,Wq w d];omega
theorem I5(q:0<d)(s:r<d)(u:x<1000000000):(r*1000000000+x)/d<1000000000/\(r*1000000000+x)%d<d:=by refine⟨?_,WI _ q⟩;rw[X7 q];have:(r+1)*1000000000<=d*1000000000:=WK _ s;rw[Wq 1000000000 d];omega
section
def b7(l:ee):na:=l.map fun(n:Nat)=>PV.int .u64 (n:Int)
abbrev Tt(l:ee):PV:= .sl WC l.length (b7 l)
abbrev bE(n:Nat):PV:=Tt (ae n)
theorem eC(l:ee):(b7 l).length=l.length:=by simp[b7]
theorem Nf(h:k<l.length):(b7 l)[k*1]? =WB (.int .u64 (l[k]:Int)):=by simp[b7,h]
theorem dz(h:k<l.length):(b7 l)[k*1]? =WB (.int .u64 (lim l k:Int)):=by rw[Nf h,eE h]
theorem gX(h:k<l.length):b7 l≠[]:=λe=>by have:=eC l;rw[e]at this;simp at this;omega
theorem tQ(l:ee)(k:Nat):(b7 l).take k=b7 (l.take k):=by simp[b7,Zd]
theorem kf(l:ee)(k x:Nat):(b7 l).set k (.int .u64 (x:Int))=b7 (l.set k x):=by simp[b7,Wp]
theorem sk{a b:Int}(h:(a==b)=YK):a=b:=by simpa using h
theorem lT{a b:Int}(h:(a==b)=YL):a≠b:=by simpa using h
theorem CU{a b:Int}(h:(a !=b)=YK):a≠b:=by simpa using h
theorem wY{a b:Int}(h:(a !=b)=YL):a=b:=by simpa using h
theorem Ew(i:Int):ZK prog 257 [ZU i] (· = ZU (if i<0 then-1 else if 0<i then 1 else 0)):=by
 refine ZC func257 O ntmps257 λ_ _ _ _=>?_
 refine Z1 O<|Z3 O<|Gp O (λq=>?_) (λq=>?_)
 .exact Z1 O<|YR O<|ah (PV.int .i64) (by rw[IT Zi])
 refine Z3 O ?_;refine Gp O (λs=>?_) (λs=>?_)
 .exact Z1 O<|YR O<|ah (PV.int .i64) (by rw[AS Zi,IT Zi])
 exact Vl<|Z1 O<|YR O<|ah (PV.int .i64) (by rw[AS Zi,AS Zi])
theorem nQ(l:ee)(i:Nat)(hl:l.length<=1000000000):ZK prog 256 [Tt l,ZU i] (· = .int .u64 (lim l i:Int)):=by
 refine ZC func256 O ntmps256 λ_ _ _ _=>?_
 refine Z1 O<|Z4 O<|Gp O (λq=>?_) (λq=>?_)
 .have hil:i<l.length:=Zi;have u:=dz hil;have s:=gX hil;refine Z3 O<|A2 O Zl ?_;exact A1 O<|YR O O
 exact Vl<|Z1 O<|YR O<|ah (PV.int .u64) (by rw[ju Zi];rfl)
theorem Hf(l:ee)(hl:l.length<=1000000000)(ho:Lok l):ZK prog 209 [Tt l] (· =bE (val l)):=by
 refine ZC func209 O ntmps209 λ_ _ _ _=>?_
 refine Z1 O<|Z3 O<|Gz O (st:=λZq:Nat=>([(0,WC),(3,WB (ZI Zq))],[])) 0
  (I:=λZq=>Zq<=l.length/\∀i,Zq<=i->l.getD i 0=0) (μ:=λZq=>Zq) (x0:=(l.length)) (Vn (aS O) trivial O O) (⟨BY _,λi hi=>ju hi⟩) ?_
 rintro n ⟨hn,hz⟩;by_cases hp:0<n
 .have hil:n-1<l.length:=Zi;have u:=dz hil;have s:=gX hil;refine Z1 O<|Rs O (XJ.cast (v':= .pv (.bool YK)) (aY O O O) Zn)<|Ar 4 O<|Rg O (ai (n-1) aaq iK O O Zi hil s)<|A2 O Zl ?_;refine Rg O (aY O O O)<|A1 O ?_;refine Gc O (λq=>?_) (λq=>?_)
  .have hz0:lim l (n-1)=0:=by have:=sk q;omega
   exact Vl<|Z3 O<|⟨(n-1),Vn ⟨O,ah (λi:Int=>V.pv (PV.int .i64 i)) (show(n:Int)-1=((n-1:Nat):Int) by omega),Zp⟩ trivial O O,⟨Zi,λi hi=>by rcases XE i n with e|e;rw[show i=n-1 by omega];exact hz0;exact hz i e⟩,Zi⟩
  have hz0:lim l (n-1)≠0:=by have:=lT q;omega
  refine Gx O<|Z2 O<|Rs O ((dL n aaq iK O O O hn (by rw[eC];omega)).cast (v':= .pv (.sl WC n (b7 (l.take n)))) (by rw[VY,tQ]))<|A1 O<|Gt O ?_;have e:=iE ho hn hz (.inr hz0);exact⟨_,_,O,O,by show PV.sl WC n (b7 (l.take n))=bE (val l);rw[bE,e,Tt,Vz,W6 hn]⟩
 refine Z1 O<|Rs O (XJ.cast (v':= .pv (.bool YL)) (aY O O O) Zn)<|Ar 8 O ?_;refine Gc O (λq=>absurd q Zm) (λq=>?_);refine Gx O<|Z2 O<|Rs O ((dL n aaq iK O O O hn (by rw[eC];omega)).cast (v':= .pv (.sl WC n (b7 (l.take n)))) (by rw[VY,tQ]))<|A1 O<|Gt O ?_;have e:=iE ho hn hz (.inl Zi);exact⟨_,_,O,O,by show PV.sl WC n (b7 (l.take n))=bE (val l);rw[bE,e,Tt,Vz,W6 hn]⟩
theorem cO{v:Nat}(l:ee)(q:l.length=n)(hl:n<=1000000000)(ho:Lok l)(s:val l=v):ZK prog 209 [.sl WC n (b7 l)] (· =bE v):=by subst q s;exact Hf l hl ho
def zZ(a b:Nat):Int:=if a<b then-1 else if b<a then 1 else 0
theorem vC(h:a<b):zZ a b= -1:=IT h
theorem lB(h:b<a):zZ a b=1:=by unfold zZ;rw[AS Zi,IT h]
theorem Ka(h:a=b):zZ a b=0:=by unfold zZ;rw[AS Zi,AS Zi]
theorem pq(a b:Nat)(Z:(ae a).length<=1000000000)(hb:(ae b).length<=1000000000):ZK prog 214 [bE a,bE b] (· = ZU (zZ a b)):=by
 refine ZC func214 O ntmps214 λ_ _ _ _=>?_
 refine Z1 O<|Gr O<|Ar 5 O<|Gc O (λs=>?_) (λs=>?_)
 .refine Gr O<|Ar 5 O<|Rs O (aa call257 (Ew _) O)<|A1 O<|Gt O ?_;have U:(ae a).length≠(ae b).length:=by have:=CU s;omega
  refine⟨_,_,O,O,ah (PV.int .i64) ?_⟩;rcases XE (ae a).length (ae b).length with h|h
  .rw[IT Zi,vC (gT h)]
  rw[AS Zi,IT Zi,lB (gT Zi)]
 have hlen:(ae a).length=(ae b).length:=by have:=wY s;omega
 refine Vl<|Z4 O<|Gz O (st:=λZq:Nat=>([(0,WC),(1,WC),(5,WB (ZI ((Zq:Int)-1)))],[])) 0
  (I:=λZq=>Zq<=(ae a).length/\(ae a).drop Zq=(ae b).drop Zq) (μ:=λZq=>Zq) (x0:=((ae a).length)) (Vn (aS O) trivial O O) (⟨BY _,by rw[Wy (BY _),Wy Zi]⟩) ?_
 rintro i ⟨hi,hd⟩;refine Z2 O<|Gp O (λH=>?_) (λH=>?_)
 .have hia:i-1<(ae a).length:=Zi;have q:i-1<(ae b).length:=Zi;have W:=dz hia;have B:=gX hia;have X:=dz q;have G:=gX q;have u:(ae a).drop (i-1+1)=(ae b).drop (i-1+1):=by rw[show i-1+1=i by omega];exact hd
  refine Vl<|VC 9 O<|Dr 2 O<|YM O (λτ h=>ai (i-1) aaq iK (Ee h 0 O) (Ee h 1 O) Zi hia B)<|D2 O O Zl ?_;refine Dr 2 O<|YM O (λτ h=>ai (i-1) aaq iK (Ee h 0 O) (Ee h 1 O) Zi q G)<|D2 O O Zl ?_;refine D1 O O ⟨Zj,Gp O (λL=>?_) (λL=>?_)⟩
  .refine Z1 O<|Gt O ?_;have hl:=qo (a6 a) hlen hia u (by show lim _ _<lim _ _;omega);rw[aH,aH]at hl;exact⟨_,_,O,O,ah (PV.int .i64) (vC hl).symm⟩
  refine Vl<|VC 9 O<|Dr 2 O<|YM O (λτ h=>ai (i-1) aaq iK (Ee h 0 O) (Ee h 1 O) Zi hia B)<|D2 O O Zl ?_;refine Dr 2 O<|YM O (λτ h=>ai (i-1) aaq iK (Ee h 0 O) (Ee h 1 O) Zi q G)<|D2 O O Zl ?_;refine D1 O O ⟨Zj,Gp O (λM=>?_) (λM=>?_)⟩
  .refine Z1 O<|Gt O ?_;have hl:=qo (a6 b) hlen.symm q u.symm (by show lim _ _<lim _ _;omega);rw[aH,aH]at hl;exact⟨_,_,O,O,ah (PV.int .i64) (lB hl).symm⟩
  exact Vl<|Z3 O<|⟨(i-1),Vn ⟨O,O,ah (λi:Int=>V.pv (PV.int .i64 i)) (show(i:Int)-1-1=((i-1:Nat):Int)-1 by omega),Zp⟩ trivial O O,⟨Zi,by rw[V1 hia,V1 q,u,<-eE hia,<-eE q];congr 1;omega⟩,Zi⟩
 refine Gx O<|Z1 O<|Gt O ?_;have Y:i=0:=Zi;subst Y;exact⟨_,_,O,O,ah (PV.int .i64) (Ka (zA (by simpa using hd))).symm⟩
theorem Lok.rV(h:Lok l)(k x:Nat):Lok (l.set k (x%1000000000)):=h.set (WI _ Zk)
theorem JF(q:(ae a).length<=n):a<1000000000^n:=aW.1 q
theorem yi(a b:Nat)(W:(ae a).length<=1000000)(X:(ae b).length<=1000000):ZK prog 213 [bE a,bE b] (· =bE (a+b)):=by
 refine ZC func213 O ntmps213 λ_ _ _ _=>?_
 obtain⟨n,hn⟩:∃n:Nat,n=max (ae a).length (ae b).length:=⟨_,O⟩;have q:(if((ae b).length:Int)>(ae a).length then((ae b).length:Int)else(ae a).length)=(n:Int):=by split<;>omega
 refine Z1 O<|Gr O<|Ar 5 O<|Rs O (XJ.cast (v':= ZI ((n+1:Nat):Int)) (lx O O (by rw[q];omega)) (by rw[q];rfl))<|Rs O (lN (zs:=[.int .u64 0]) 0 (n+1) Qm O O O O O Zi O)<|A1 O<|Z1 O<|Z3 O ?_;refine Gz O (st:=λZq:Nat×ee×Nat=>([(0,WC),(1,WC),(5,WC),(6,WB (.pv (.int .u64 (Zq.2.2:Int)))),(17,WC),(18,WB (ZI Zq.1))],[(0,WB (.cells 268 (b7 Zq.2.1)))])) 1
  (I:=λZq=>(Zq.1<=n+1/\Zq.2.1.length=n+1)/\(Lok Zq.2.1/\Zq.2.2<=1)/\sm (lim Zq.2.1) Zq.1+1000000000^Zq.1*Zq.2.2=sm (lim (ae a)) Zq.1+sm (lim (ae b)) Zq.1) (μ:=λZq=>n+1-Zq.1) (x0:=(0,List.replicate (n+1) 0,0)) (Vn (aS O) ⟨ah (λc=>WB (Ob.cells 268 c)) ((ct (.int .u64 0) ((n+1)*1)).trans (by simp[b7])),Zp⟩ O O) (⟨⟨sh _,Zm⟩,⟨Lok.replicate _,sh _⟩,by simp[sm]⟩) ?_
 rintro⟨i,o,c⟩ ⟨⟨hi,hol⟩,⟨hok,hc⟩,he⟩;try simp only at hi hol hok hc he ⊢
 refine Z1 O<|Gp O (λB=>?_) (λB=>?_)
 .have hil:i<o.length:=Zi;have L:=cK (a6 a) i;have M:=cK (a6 b) i;have G:=Mc hil he;have U:=eC o;have s:=nQ (ae a) i Zi;have u:=nQ (ae b) i Zi;generalize lim (ae a) i=x at*;generalize lim (ae b) i=y at*;exact Vl<|Z2 O<|Z2 O<|Rs O (aa call256 s O)<|Y2 O<|Rs O (aa call256 u O)<|Ar 4 O<|Gr O<|Ar 6 O<|Rs O (ag i aaq iK O O O O Zi)<|Y2 O<|Z2 O<|⟨(i+1,o.set i ((x+y+c)%1000000000),(x+y+c)/1000000000),Vn (aS O) ⟨ah (λc=>WB (Ob.cells 268 c)) (by rw[VY,kf]),Zp⟩ O O,⟨⟨Zo,by simp only[VN];exact hol⟩,⟨hok.rV _ _,Zo⟩,G⟩,Zo⟩
 refine Gx O ?_;obtain rfl:i=n+1:=Zi;have V:val o=a+b:=Tk hol (JF Zi) (JF Zi) (by rw[he,eL _ Zi,eL _ Zi,aH,aH]);have H:=cO o hol Zi hok V;exact Vm (Vq 0 O O)<|Z1 O<|Rs O (aa call209 H O)<|A1 O<|YR O O
theorem qP(a b:Nat)(ha:(ae a).length<=1000000)(G:b<=a):ZK prog 215 [bE a,bE b] (· =bE (a-b)):=by
 refine ZC func215 O ntmps215 λ_ _ _ _=>?_
 obtain⟨n,hn⟩:∃n:Nat,n=(ae a).length:=⟨_,O⟩;have V:(ae b).length<=n:=by rw[hn];exact aW.2 (Yn G (dX a))
 refine Z1 O<|Z2 O<|Rs O (lN (zs:=[.int .u64 0]) 0 (ae a).length Qm O O O O O Zi O)<|A1 O<|Z1 O<|Z3 O<|Gl O (st:=λZq:Nat×ee×Nat=>ZT [(0,.pv (bE a)),(1,.pv (bE b)),(5,.bJ 0 1 (ae a).length),(6,.pv (.int .u64 (Zq.2.2:Int))),(13,.pv (.int .i64 (ae a).length)),(14,ZI Zq.1)] [(0,.cells 268 (b7 Zq.2.1))] 1)
  (I:=λZq=>(Zq.1<=n/\Zq.2.1.length=n)/\(Lok Zq.2.1/\Zq.2.2<=1)/\sm (lim Zq.2.1) Zq.1+sm (lim (ae b)) Zq.1=sm (lim (ae a)) Zq.1+1000000000^Zq.1*Zq.2.2) (μ:=λZq=>n-Zq.1) (x0:=(0,List.replicate (ae a).length 0,0)) (Vn (aS O) ⟨ah (λc=>WB (Ob.cells 268 c)) ((ct (.int .u64 0) ((ae a).length*1)).trans (by simp[b7])),Zp⟩ O O) (⟨⟨sh _,by simp[hn]⟩,⟨Lok.replicate _,sh _⟩,by simp[sm]⟩) ?_
 rintro⟨i,o,c⟩ ⟨⟨hi,hol⟩,⟨hok,hc⟩,he⟩;try simp only at hi hol hok hc he ⊢
 refine Z1 O<|Gp O (λB=>?_) (λB=>?_)
 .have hil:i<o.length:=Zi;have q:i<(ae a).length:=Zi;have W:=dz q;have H:=gX q;have X:=cK (a6 a) i;have Y:=cK (a6 b) i;have s:=nQ (ae b) i Zi;have L:=λx b' hx=>Mv (x:=x) (b':=b') hil he hx
  have Z:=eC o;generalize lim (ae a) i=x at*;generalize lim (ae b) i=y at*;have u:=L ((x+1000000000-y-c)%1000000000) (1-(x+1000000000-y-c)/1000000000) Zi;refine Vl<|Z2 O<|VC 12 O<|Dr 2 O<|YM O (λτ h=>ai i aaq iK (Ee h 0 O) (Ee h 1 O) O q H)<|D2 O O Zl ?_;refine YM O (λτ h=>wI (b:=1000000000) (Ee h 0 O) (Ee h 1 O) Zi)<|Dr 2 O<|YM O (λτ h=>aa call256 s (h.aE O))<|YM O (λτ h=>vi (Ee h 0 O) (Ee h 1 O) Zi)<|D1 O O<|YM O (λτ h=>vi (Ee h 0 O) (Ee h 1 O) Zi)<|D1 O O ⟨Zj,Z3 O<|Rs O (sG (b:=1000000000) O O Zi)<|A1 O<|Rs O (so (b:=1000000000) O O Zi)<|Rs O (vi (a:=1) O O Zi)<|Rs O (ag i aaq iK O O O O Zi)<|Y2 O<|Z2 O<|⟨(i+1,o.set i ((x+1000000000-y-c)%1000000000),1-(x+1000000000-y-c)/1000000000),Vn (aS O) ⟨ah (λc=>WB (Ob.cells 268 c)) (by rw[VY,kf]),Zp⟩ O O,⟨⟨Zo,by simp only[VN];exact hol⟩,⟨hok.rV _ _,Zo⟩,u⟩,Zo⟩⟩
 refine Gx O ?_;obtain rfl:i=n:=Zi;have hv:val o=a-b:=Ti hol hok G (by have U:=he;rw[eL (ae a) (Xz hn.symm),eL (ae b) V,aH,aH]at U;exact U);have M:=cO o (hol.trans hn) Zi hok hv;exact Vm (Vq 0 O O)<|Z1 O<|Rs O (aa call209 M O)<|A1 O<|YR O O
end
section
open Mk Jn
abbrev oM(W:WD)(p a l b c:Nat):Ob:= .mix 261 [.ptr p 0,.pv W.ch,.pv W.ke,.pv W.ho,.pv W.wa,.pv (.bool YL),.pv (bE 0),.pv (.bool YL),.pv (bE 1),.pv (.mp [] []),.pv (.mp [] []),.pv (.bool YL),.pv (bE 1),.pv (.bool YL),.pv (bE 1),.pv (.mp [] []),.pv (.mp [] []),.pv (.fn (.func 47) [] []),.pv (.fn (.func 48) [] []),.pv (.fn (.func 49) [] []),.pv W.lf,.pv W.wt,.pv .nilmap,.bJ a 1 l,.bJ b 1 l,.map c]
end
section
theorem U4{y:Nat}(q:x<1000000000)(s:y<1000000000):x*y<=999999998000000001:=
 OF (Xa (show x<=999999999 by omega) (show y<=999999999 by omega)) Zk
theorem Sw{o:ee}{V:Nat}(q:i+m<o.length)(s:lim o (i+m)=0)(h:val o+1000000000^(i+m)*c=V*b+1000000000^i*(x*b)):val (o.set (i+m) c)=(V+1000000000^i*x)*b:=by have e:=KA (x:=c) q;rw[<-eE q,s,Zb,XG]at e;rw[e,h,Nat.add_mul,Xr]
theorem KG(a b:Nat)(ha:(ae a).length<=1000000)(hb:(ae b).length<=1000000):ZK prog 210 [bE a,bE b] (· =bE (a*b)):=by
 refine ZC func210 O ntmps210 λ_ _ _ _=>?_
 obtain⟨la,hla⟩:∃n:Nat,n=(ae a).length:=⟨_,O⟩;obtain⟨lb,hlb⟩:∃n:Nat,n=(ae b).length:=⟨_,O⟩;refine Z1 O<|Gr O<|Ar 7 O<|Z3 O<|Gz O (st:=λZq:Nat×ee=>([(1,WC),(5,WC),(18,WC),(19,WC),(20,WB (ZI Zq.1))],[(0,WB (.cells 268 (b7 Zq.2)))])) 1
  (I:=λZq=>(Zq.1<=la/\Zq.2.length=la+lb)/\Lok Zq.2/\val Zq.2=sm (lim (ae a)) Zq.1*b/\∀j,Zq.1+lb<=j->lim Zq.2 j=0) (μ:=λZq=>la-Zq.1) (x0:=(0,List.replicate ((ae a).length+(ae b).length) 0)) (Vn (aS O) ⟨ah (λc=>WB (Ob.cells 268 c)) ((ct (.int .u64 0) (((ae a).length+(ae b).length)*1)).trans (by simp[b7])),Zp⟩ O O) (⟨⟨sh _,by simp[hla,hlb]⟩,Lok.replicate _,by rw[val_zero (λi=>by simp only[List.getD,Yi];split<;>rfl)];simp[sm],λj _=>by simp only[lim,List.getD,Yi];split<;>rfl⟩) ?_
 rintro⟨i,o⟩ ⟨⟨hi,hol⟩,hok,hv,hz⟩;try simp only at hi hol hok hv hz ⊢
 refine Z1 O<|Gp O (λL=>?_) (λL=>?_)
 .have hia:i<(ae a).length:=Zi;have ad:=dz hia;have af:=gX hia;have U:=cK (a6 a) i;have V:sm (lim (ae a)) (i+1)=sm (lim (ae a)) i+1000000000^i*lim (ae a) i:=rfl;generalize lim (ae a) i=x at*;refine Vl<|Z2 O<|A2 O Zl ?_;refine Y2 O<|Z1 O<|Z3 O ?_;refine Gz O (st:=λq:Nat×ee×Nat=>([(1,WC),(5,WC),(6,WC),(7,WC),(8,WB (.pv (.int .u64 (q.2.2:Int)))),(18,WC),(19,WC),(20,WC),(25,WC),(26,WC),(27,WB (ZI q.1))],[(0,WB (.cells 268 (b7 q.2.1)))])) 1
   (I:=λq=>(q.1<=lb/\q.2.1.length=la+lb)/\(Lok q.2.1/\q.2.2<1000000000)/\val q.2.1+1000000000^(i+q.1)*q.2.2=sm (lim (ae a)) i*b+1000000000^i*(x*sm (lim (ae b)) q.1)/\∀j,i+lb<=j->lim q.2.1 j=0) (μ:=λq=>lb-q.1) (x0:=(0,o,0)) (YS O) (⟨⟨sh _,hol⟩,⟨hok,Nat.zero_lt_succ 999999999⟩,by rw[hv];simp[sm],hz⟩) ?_
  rintro⟨k,o2,c⟩ ⟨⟨hk,hol2⟩,⟨hok2,hc⟩,he,hz2⟩;try simp only at hk hol2 hok2 hc he hz2 ⊢
  refine Z1 O<|Gp O (λM=>?_) (λM=>?_)
  .have hkb:k<(ae b).length:=Zi;have ai:=dz hkb;have al:=gX hkb;have W:=cK (a6 b) k;have s:i+k<o2.length:=Zi;have X:=dz s;have B:=DZ (y:=lim (ae b) k) s he;have Y:sm (lim (ae b)) (k+1)=sm (lim (ae b)) k+1000000000^k*lim (ae b) k:=rfl;rw[<-Y]at B;have am:=cK hok2 (i+k);have Z:=eC o2;generalize lim (ae b) k=y at*;generalize lim o2 (i+k)=u at*;have an:=U4 U W;refine Vl<|Z2 O<|A2 O Zl ?_;refine Y2 O<|Z4 O<|Rs O (ag (i+k) aaq iK O O O O Zi)<|A2 O Zl ?_;exact Ar 7 O<|Gr O<|Ar 5 O<|Rs O (sG (b:=1000000000) O O Zi)<|A1 O<|Rs O (so (b:=1000000000) O O Zi)<|Rs O (ag (i+k) aaq iK O O O O Zi)<|Y2 O<|Z2 O<|⟨(k+1,o2.set (i+k) ((u+x*y+c)%1000000000),(u+x*y+c)/1000000000),Vn (aS O) ⟨ah (λc=>WB (Ob.cells 268 c)) (by rw[VY,kf]),Zp⟩ O O,⟨⟨Zo,by simp only[VN];exact hol2⟩,⟨hok2.rV _ _,Zo⟩,B,λj hj=>by rw[jf s,AS Zi];exact hz2 j hj⟩,Zo⟩
  refine Gx O ?_;obtain rfl:k=lb:=Zi;have s:i+k<o2.length:=Zi;have G:=hz2 (i+k) (BY _);have X:(b7 o2)[(i+k)*1]? =WB (.int .u64 ((0:Nat):Int)):=by rw[dz s,G]
  have Z:=eC o2;rw[eL (ae b) (Xz hlb.symm),aH]at he;have H:=Sw s G he;have ao:(ae b).length=k:=hlb.symm;refine Gr O<|Ar 5 O<|Rs O (ag (i+k) aaq iK O O O Zi Zi)<|A2 O Zl ?_;exact A1 O<|Rs O (XJ.cast (v':= .pv (.int .u64 (c:Int))) (wI (a:=0) O O Zi) (by rw[Wm]))<|Rs O (ag (i+k) aaq iK O O O Zi Zi)<|A1 O<|Z2 O<|⟨(i+1,o2.set (i+k) c),Vn (aS O) ⟨ah (λc=>WB (Ob.cells 268 c)) (by rw[VY,kf]),Zp⟩ O O,⟨⟨Zo,by simp only[VN];exact hol2⟩,hok2.set hc,by rw[V];exact H,λj hj=>by simp only at hj ⊢; rw[jf s,AS Zi];exact hz2 j Zi⟩,Zo⟩
 refine Gx O ?_;obtain rfl:i=la:=Zi;have ab:val o=a*b:=by rw[hv,eL (ae a) (Xz hla.symm),aH]
 have ac:=cO o (show o.length=(ae a).length+(ae b).length by omega) Zi hok ab;exact Vm (Vq 0 O O)<|Z1 O<|Rs O (aa call209 ac O)<|A1 O<|YR O O
theorem BA(a d:Nat)(ha:(ae a).length<=1000000)(G:0<d)(hd2:d<1000000000):ZK prog 294 [bE a,.int .u64 (d:Int)] (· = .bS [bE (a/d),.int .u64 ((a%d:Nat):Int)]):=by
 refine ZC func294 O ntmps294 λ_ _ _ _=>?_
 obtain⟨n,hn⟩:∃n:Nat,n=(ae a).length:=⟨_,O⟩;refine Z2 O<|Z4 O<|Z1 O<|Z4 O<|Gl O (st:=λZq:Nat×ee×Nat=>ZT [(0,.pv (bE a)),(1,.pv (.int .u64 (d:Int))),(6,.bJ 0 1 (ae a).length),(7,.pv (.int .u64 (Zq.2.2:Int))),(8,ZI ((Zq.1:Int)-1))] [(0,.cells 268 (b7 Zq.2.1))] 1)
  (I:=λZq=>(Zq.1<=n/\Zq.2.1.length=n)/\(Lok Zq.2.1/\Zq.2.2<d)/\val ((ae a).drop Zq.1)=d*val (Zq.2.1.drop Zq.1)+Zq.2.2) (μ:=λZq=>Zq.1) (x0:=((ae a).length,List.replicate (ae a).length 0,0)) (Vn (aS O) ⟨ah (λc=>WB (Ob.cells 268 c)) ((ct (.int .u64 0) ((ae a).length*1)).trans (by simp[b7])),Zp⟩ O O) (⟨⟨Xz hn.symm,by simp[hn]⟩,⟨Lok.replicate _,G⟩,by simp only;rw[Wy (BY _),Wy Zm];simp[val]⟩) ?_
 rintro⟨i,o,r⟩ ⟨⟨hi,hol⟩,⟨hok,hr⟩,he⟩;try simp only at hi hol hok hr he ⊢
 refine Z2 O<|Gp O (λB=>?_) (λB=>?_)
 .have hia:i-1<(ae a).length:=Zi;have X:=dz hia;have H:=gX hia;have L:=cK (a6 a) (i-1);have Y:i-1<o.length:=Zi;have M:=FG (q:=o) (r:=r) hia Zi G (by rw[show i-1+1=i by omega];exact he);have Z:=eC o;generalize lim (ae a) (i-1)=x at*;have s:=I5 G hr L;refine Vl<|Z1 O<|Rs O (qB (b:=1000000000) O O Zi)<|Y2 O<|Rs O (ai (i-1) aaq iK O O Zi hia H)<|A2 O Zl ?_;refine Y2 O<|VC 11 O<|Dr 8 O<|YQ [_] O (λτ h=>ag (i-1) aaq iK (Ee h 0 O) (Eo h 0 O) (Ee h 1 O) Zi Zi)<|Dr 2 O ⟨Zj,Z3 O<|⟨(i-1,o.set (i-1) ((r*1000000000+x)/d),(r*1000000000+x)%d),Vn ⟨O,O,O,O,ah (λi:Int=>V.pv (PV.int .i64 i)) (show(i:Int)-1-1=((i-1:Nat):Int)-1 by omega),Zp⟩ ⟨ah (λc=>WB (Ob.cells 268 c)) (by rw[VY,kf]),Zp⟩ O O,⟨⟨Zo,by simp only[VN];exact hol⟩,⟨hok.set s.1,s.2⟩,M⟩,Zo⟩⟩
 refine Gx O ?_;obtain rfl:i=0:=Zi;have u:a=d*val o+r:=by simpa[aH]using he
 have hq:val o=a/d:=by rw[u,Nat.mul_add_div G,Yg hr,XG]
 have U:r=a%d:=by rw[u,Nat.mul_add_mod,X5 hr]
 have W:=cO o (hol.trans hn) Zi hok hq;exact Vm (Vq 0 O O)<|Z1 O<|Rs O (aa call209 W O)<|Y3 O<|YR O<|by rw[<-U];rfl
theorem ml(n i:Nat):lim (ae n) i=n/1000000000^i%1000000000:=by
 induction i generalizing n with
 | zero=>
   by_cases h:n=0
   .subst h;rw[aV];rfl
   rw[dC h];simp[lim]
 | succ i ih=>
   by_cases h:n=0
   .subst h;rw[aV];simp[lim]
   rw[dC h,Wt,Wq,<-Nat.div_div_eq_div_mul,<-ih];simp[lim]
theorem fY(a:Nat)(I:a<1000000000000000000):ZK prog 289 [bE a] (· = .int .u64 (a:Int)):=by
 refine ZC func289 O ntmps289 λ_ _ _ _=>?_
 have s:(ae a).length<=2:=aW.2 I;have u:=nQ (ae a) 1 Zi;have B:=nQ (ae a) 0 Zi;have G:=ml a 1;have H:=ml a 0;rw[Nat.pow_one]at G;rw[Nat.pow_zero,Nat.div_one]at H;generalize lim (ae a) 1=x at*;generalize lim (ae a) 0=y at*;have q:x*1000000000+y=a:=Zi;exact Z1 O<|Z1 O<|Rs O (aa call256 u O)<|Rs O (qB (b:=1000000000) O O Zi)<|A1 O<|Rs O (aa call256 B O)<|Y2 O<|YR O<|by rw[<-q];rfl
end
end Go.Proofs.YthicoeegbdboeaaGreatDoor
