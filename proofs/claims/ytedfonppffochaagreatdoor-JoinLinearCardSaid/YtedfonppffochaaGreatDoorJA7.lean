/- Lemmas for the statement of this claim's last text. No condition. -/
import Derived.Shelf.SlSortCmp.NoneTotal
import Derived.Ground.SlsfProg
import Derived.Ground.NamesProg
import Derived.Test.YtedfonppffochaaGreatDoorProg
import Derived.Test.YtedfonppffochaaGreatDoorJA6
set_option maxRecDepth 100000
set_option maxHeartbeats 4000000
open Go.RowKit Go.Proofs.Tryz
namespace Go.Proofs.YtedfonppffochaaGreatDoor
section
open Mk Jn
abbrev eV (x:Rw):List PV:=[aI x.v,.int .i64 x.w]
def aB (l:List Rw):List PV:=l.flatMap eV
abbrev bL (l:List Rw):PV:= .sl none l.length (aB l)
theorem aK (l:List Rw):(aB l).length=l.length*2:=fK _ 2 (fun _=>rfl) l
theorem aN {l:List Rw} {k:Nat} (h:k<l.length):((aB l).drop (k*2)).take 2=eV l[k]:=iq _ 2 (fun _=>rfl) l k h
theorem aW {l:List Rw} {k:Nat} (h:k<l.length):aB l≠[]:=fun e=>by have:=aK l;rw [e] at this;simp at this;omega
theorem nr {l:List Rw} {k:Nat} (h:k<l.length):(aB l)[k*2]? =some (aI l[k].v):=by
 have:=aN h;have h2:(((aB l).drop (k*2)).take 2)[0]? =(eV l[k])[0]? :=by rw [this]
 simpa [vR,FJ] using h2
theorem s5 {l:List Rw} {k:Nat} (h:k<l.length):(aB l)[k*2+1]? =some (.int .i64 l[k].w):=by
 have:=aN h;have h2:(((aB l).drop (k*2)).take 2)[1]? =(eV l[k])[1]? :=by rw [this]
 simpa [vR,FJ] using h2
theorem fj (l m:List Rw):aB (l++m)=aB l++aB m:=by simp [aB]
theorem dW (l:List Rw) (x:Rw):aB l++eV x=aB (l++[x]):=by simp [aB]
theorem dw (l:List Rw):∀ c∈aB l,c.leaf=true:=fun c hc=>by
 obtain ⟨t,_,hc⟩:=AT.1 hc;simp only [k6,Lf,or_false] at hc;rcases hc with rfl | rfl<;>rfl
theorem fu (l:List Rw) (k:Nat):(aB l).take (k*2)=aB (l.take k)/\(aB l).drop (k*2)=aB (l.drop k):=by
 have e:aB l=aB (l.take k)++aB (l.drop k):=by rw [<-fj,zj]
 rcases LK l.length k with h | h
 ·have hl:=aK l;rw [bk OC,bk OC,List.drop_eq_nil_of_le OC,List.drop_eq_nil_of_le OC];exact ⟨O,O⟩
 ·have hl:(aB (l.take k)).length=k*2:=by rw [aK,iP,K3 h]
  constructor
  ·conv=>lhs;rw [e]
   rw [<-hl,List.take_left]
  ·conv=>lhs;rw [e]
   rw [<-hl,List.drop_left]
theorem qu {l:List Rw} {k:Nat} (h:k<l.length) (w:Int):(aB l).set (k*2+1) (.int .i64 w)=aB (l.set k ⟨l[k].v,w⟩):=by
 induction l generalizing k with
 | nil=>simp at h
 | cons a l ih=>
   cases k with
   | zero=>rfl
   | succ k=>
     have h2:k<l.length:=by simpa using h
     have e:=ih h2;rw [show (k+1)*2+1=k*2+1+1+1 by omega];show (aI a.v::PV.int .i64 a.w::aB l).set (k*2+1+1+1) _=aI a.v::PV.int .i64 a.w::aB (l.set k ⟨l[k].v,w⟩);rw [List.set_cons_succ,List.set_cons_succ,e]
theorem yZ {x:Rw}:∀ {i:Nat} {out:List Rw} (h:i<out.length),(∀ j (hj:j<out.length),j<i->aZ out[j].v x.v=true)->aZ out[i].v x.v=false->out[i].v=x.v->dB x out=out.set i ⟨out[i].v,out[i].w+x.w⟩
 | 0,y::l,_,_,h2,h3=>by
   rw [dB,ga (by simpa using h2),og (by simpa using h3)];rfl
 | i+1,y::l,h,h1,h2,h3=>by
   rw [dB,og (show aZ y.v x.v=true from h1 0 OG OC),yZ (i:=i) (by simpa using h) (fun j hj hji=>h1 (j+1) (by simpa using hj) OC) (by simpa using h2) (by simpa using h3)];rfl
theorem ns {x:Rw}:∀ {i:Nat} {out:List Rw},i<=out.length->(∀ j (hj:j<out.length),j<i->aZ out[j].v x.v=true)->(∀ (h:i<out.length),aZ out[i].v x.v=false/\out[i].v≠x.v)->dB x out=out.take i++x::out.drop i
 | 0,[],_,_,_=>rfl
 | 0,y::l,_,_,h2=>by
   have:=h2 OG;rw [dB,ga (by simpa using this.1),ga (by simpa using this.2)];rfl
 | i+1,y::l,h,h1,h2=>by
   rw [dB,og (show aZ y.v x.v=true from h1 0 OG OC),ns (i:=i) (by simpa using h) (fun j hj hji=>h1 (j+1) (by simpa using hj) OC) (fun hi=>h2 (by simpa using hi))];rfl
theorem xw {x:Rw} {B X:Int} (hB:0<=B) (hx: -X<=x.w/\x.w<=X):∀ {l:List Rw},(∀ y∈l, -B<=y.w/\y.w<=B)->∀ y∈dB x l, -(B+X)<=y.w/\y.w<=B+X
 | [],_,y,hy=>by rw [dB,fe] at hy;rw [hy];omega
 | z::l,h,y,hy=>by
   have hz:=h z OG;have hl:∀ y∈l, -B<=y.w/\y.w<=B:=fun y hy=>h y (by simp [hy])
   rw [dB] at hy;split at hy
   ·rcases k6.1 hy with rfl | hy
    ·omega
    ·exact xw hB hx hl y hy
   ·split at hy
    ·rcases k6.1 hy with rfl | hy
     ·show-(B+X)<=z.w+x.w/\z.w+x.w<=B+X;omega
     ·have:=hl y hy;omega
    ·rcases k6.1 hy with rfl | hy
     ·omega
     ·have:=h y hy;omega
structure SoF (l:List Rw) (k:Nat) (out:List Rw):Prop where
 e:out=(l.take k).foldl (fun out x=>dB x out) []
 v:∀ y∈out,y.v.length<=1000
 w:∀ y∈out, -((k:Int)*1000000)<=y.w/\y.w<=(k:Int)*1000000
 n:out.length<=k
theorem SoF.zero (l:List Rw):SoF l 0 []:=⟨O,fun _ h=>absurd h OG,fun _ h=>absurd h OG,qT _⟩
theorem SoF.succ {l out:List Rw} {k:Nat} (h:SoF l k out) (hk:k<l.length) (hv:l[k].v.length<=1000) (hw: -1000000<=l[k].w/\l[k].w<=1000000):SoF l (k+1) (dB l[k] out):=by
 refine ⟨?_,fun y hy=>?_,fun y hy=>?_,?_⟩
 ·rw [aR hk,J0,<-h.e];rfl
 ·rcases jL hy with e | ⟨z,hz,e⟩
  ·rw [e];exact hv
  ·rw [e];exact h.v z hz
 ·have:=xw (B:=(k:Int)*1000000) (X:=1000000) OC hw h.w y hy;have e:((k+1:Nat):Int)*1000000=(k:Int)*1000000+1000000:=OC;rw [e];exact this
 ·have:=nU l[k] out;have:=h.n;omega
theorem wM (l:List Rw) (hl:l.length<=1000) (hv:∀ x∈l,x.v.length<=1000) (hw:∀ x∈l, -1000000<=x.w/\x.w<=1000000):FnP Tryz.prog 31 [bL l] (· =bL (lH l)):=by
 refine FnP.of func31 O ntmps31 OG fun m0 w0 F R0=>?_
 have hll:=aK l;refine Z1 O O<|Z1 O O<|Im (Iu 3 0 2 49 O O)<|Z3 O O O O ?_;refine Gl O (st:=fun x_0:Nat×List Rw=>mkS [(3,.gsl 0 2 x_0.2.length),(10,.pv (bL l)),(11,.pv (.int .i64 l.length)),(12,.pv (.int .i64 x_0.1))] [(0,.gro 49 (aB x_0.2))] 1)
  (I:=fun x_0=>x_0.1<=l.length/\SoF l x_0.1 x_0.2) (μ:=fun x_0=>l.length-x_0.1) (x0:=(0,[])) (Io (aS O) (aO O) O O) (⟨eF _,SoF.zero l⟩) ?_
 rintro ⟨k,out⟩ ⟨hk,hs⟩;try simp only at hk hs ⊢
 refine Z1 O O ?_;refine Gp O O (fun hc13=>?_) (fun hc13=>?_)
 ·have hlt:k<l.length:=OC;have hrow:=aN hlt;have hne:=aW hlt;have hxv:=hv _ (aJ hlt);have hxw:=hw _ (aJ hlt);have hsu:=hs.succ hlt hxv hxw;have hon:=hs.n;have hol:=aK out;have hsw:=hs.w;have hsv:=hs.v;generalize l[k]=x at*;refine Il<|Z1 O O ?_;first | refine A3 O OF ?_ | refine A1 O ?_
  refine Y2 O O ?_;by_cases he:out=[]
  ·have hl0:out.length=0:=by rw [he];rfl
   refine Im (St.rB 3 (id:=0) (sz:=2) (af (fun n=>V.gsl 0 2 n) hl0))<|Z1 O O ?_;refine Gl O (st:=fun x_1:Nat=>mkS [(3,.pv nS),(5,.ptr 1 0),(6,.pv (.int .i64 x_1)),(10,.pv (bL l)),(11,.pv (.int .i64 l.length)),(12,.pv (.int .i64 k))] [(1,.mix 49 [.pv (aI x.v),.pv (.int .i64 x.w)])] 2)
    (I:=fun x_1=>x_1<=out.length/\∀ j (hj:j<out.length),j<x_1->aZ out[j].v x.v=true) (μ:=fun x_1=>out.length-x_1) (x0:=(0)) (Io (aS O) (aO O) O O) (⟨eF _,fun j _ h=>absurd h OC⟩) ?_
   rintro i ⟨hi,hall⟩;refine Ge O follows [0,1,2,3,4,5,6,7,8,9,10,11,12,13] OD ?_;iterate 3 refine D1 O O ?_
   refine Ds 19 [] O O O (fun τ h=>XJ.cast (v':= .pv (.bool false)) (aQ (Ee h 0 O O) (Ee h 1 O O) O) (af (fun b=>V.pv (.bool b)) (Et OC))) O OD ?_;iterate 10 refine D1 O O ?_
   refine ⟨OD,?_⟩;refine Gc O O (fun hc29=>absurd hc29 OG) (fun hc29=>?_);refine Gx O<|Ge O follows [0,1,2,3,4,5,6,7,8,9,10,11,12,13] OD ?_;iterate 3 refine D1 O O ?_
   refine Ds 35 [] O O O (fun τ h=>XJ.cast (v':= .pv (.bool false)) (aQ (Ee h 0 O O) (Ee h 1 O O) O) (af (fun b=>V.pv (.bool b)) (Et OC))) O OD ?_;iterate 10 refine D1 O O ?_
   refine ⟨OD,?_⟩;refine Gc O O (fun hc45=>absurd hc45 OG) (fun hc45=>?_);refine Il ?_;obtain rfl:i=0:=OC;have hput:dB x out=[x]:=by rw [he];rfl
   refine Ge O follows [0,1,2,3,4,5,6,7,8,9,10] OD ?_;iterate 8 refine D1 O O ?_
   refine Ds 64 [_] O O O (fun τ h=>fc 3 JM (Ee h 0 O O) (Eo h 0 O O) O (.inl ⟨_,(Ee h 1 O O)⟩) O OG OC (h.n 0 _ O)) O OD<|Ds 65 [_] O O O (fun τ h=>rM 4 JM (Ee h 0 O O) (.inr ⟨_,_,_,_,(Ee h 1 O O),(Eo h 0 O O),O⟩) O (dw [x]) OC (h.n 0 _ O)) O OD<|D1 O O ?_;refine ⟨OD,?_⟩;exact Z2 O O O<|⟨(k+1,dB x out),Ip [4] ⟨af (fun n=>V.gsl 4 2 n) (show 1=(dB x out).length by rw [hput];rfl),O,O,O,OK⟩ ⟨ry (b:=some (.gro 49 (eV x))) OD (af (fun c=>some (Ob.gro 49 c)) (show eV x=aB (dB x out) by rw [hput];rfl)),OK⟩ O O OE O,⟨OC,hsu⟩,OI⟩
  ·have hpos:0<out.length:=CG.2 he;have hcne:aB out≠[]:=aW hpos;refine Im (St.ku 3 O O hpos hcne)<|Z1 O O ?_;refine Gl O (st:=fun x_1:Nat=>mkS [(3,.osl 0 2 out.length),(5,.ptr 1 0),(6,.pv (.int .i64 x_1)),(10,.pv (bL l)),(11,.pv (.int .i64 l.length)),(12,.pv (.int .i64 k))] [(0,.cells 49 (aB out)),(1,.mix 49 [.pv (aI x.v),.pv (.int .i64 x.w)])] 2)
    (I:=fun x_1=>x_1<=out.length/\∀ j (hj:j<out.length),j<x_1->aZ out[j].v x.v=true) (μ:=fun x_1=>out.length-x_1) (x0:=(0)) (Io (aS O) (aO O) O O) (⟨eF _,fun j _ h=>absurd h OC⟩) ?_
   rintro i ⟨hi,hall⟩;by_cases hi2:i<out.length
   ·have hov:(aB out)[i*2+0]? =some (aI out[i].v):=nr hi2;have how:=s5 hi2;have hom:=aJ hi2;have hob:=hsw _ hom;have hls:=vV out[i].v x.v (by have:=hsv _ hom;omega) OC;have hts:=mO out[i].v x.v (by have:=hsv _ hom;omega) OC;refine Ge O follows [0,1,2,3,4,5,6,7,8,9,10,11,12,13] OD ?_;iterate 3 refine D1 O O ?_
    refine Ds 19 [] O O O (fun τ h=>XJ.cast (v':= .pv (.bool true)) (aQ (Ee h 0 O O) (Ee h 1 O O) O) (af (fun b=>V.pv (.bool b)) (x7 OC))) O OD ?_;iterate 5 refine D1 O O ?_
    refine Dg 25 [_] O O O O (fun τ h=>aC ⟨_,underlying47,O⟩ (Ee h 0 O O) (Eo h 0 O O) hov) O OD ?_;iterate 2 refine D1 O O ?_
    refine Dg 28 [] O O O O (fun τ h=>ae call20 hls (h.bt O)) O OD<|D1 O O ?_;refine ⟨OD,?_⟩;refine Gc O O (fun hc29=>?_) (fun hc29=>?_)
    ·exact Il<|Z3 O O O O<|⟨(i+1),Io (aS O) (aO O) O O,⟨OC,fun j hj hji=>if h:j<i then hall j hj h else (by obtain rfl:j=i:=OC;exact hc29)⟩,OC⟩
    ·refine Gx O<|Ge O follows [0,1,2,3,4,5,6,7,8,9,10,11,12,13] OD ?_;iterate 3 refine D1 O O ?_
     refine Ds 35 [] O O O (fun τ h=>XJ.cast (v':= .pv (.bool true)) (aQ (Ee h 0 O O) (Ee h 1 O O) O) (af (fun b=>V.pv (.bool b)) (x7 OC))) O OD ?_;iterate 5 refine D1 O O ?_
     refine Dg 41 [_] O O O O (fun τ h=>aC ⟨_,underlying47,O⟩ (Ee h 0 O O) (Eo h 0 O O) hov) O OD ?_;iterate 2 refine D1 O O ?_
     refine Dg 44 [] O O O O (fun τ h=>ae call63 hts (h.bt O)) O OD<|D1 O O ?_;refine ⟨OD,?_⟩;refine Gc O O (fun hc45=>?_) (fun hc45=>?_)
     ·have hins:dB x out=out.set i ⟨out[i].v,out[i].w+x.w⟩:=yZ hi2 hall (by simpa using hc29) (Kh hc45);refine Ge O follows [0,1,2,3,4,5,6,7,8,9,10] OD ?_;iterate 4 refine D1 O O ?_
      refine Ds 50 [_] O O O (fun τ h=>aC ⟨_,underlying3,O⟩ (Ee h 0 O O) (Eo h 0 O O) how) O OD ?_;iterate 5 refine D1 O O ?_
      refine DL.step (d:=none) [_] O O O (fun τ h=>aF sz3 (Ee h 0 O O) (Eo h 0 O O) (Ee h 1 O O) O (by first | omega | (simp;omega))) O OD ?_;refine ⟨OD,?_⟩;refine Im (St.pn 3 O O hpos (by intro e;have h:=af List.length e;rw [tx] at h;exact hcne (vG h))) ?_;exact Gx O<|Z2 O O O<|⟨(k+1,dB x out),Io ⟨af (fun n=>V.gsl 0 2 n) (show out.length=(dB x out).length by rw [hins,tx]),O,O,O,OK⟩ ⟨ry (b:=some (.gro 49 ((aB out).set (i*2+1) (.int .i64 (out[i].w+x.w))))) OD (af (fun c=>some (Ob.gro 49 c)) (by rw [hins];exact qu hi2 _)),OK⟩ O O,⟨OC,hsu⟩,OI⟩
     ·refine Il ?_;have hput:dB x out=out.take i++x::out.drop i:=ns hi hall (fun h=>⟨by simpa using hc29,Kq hc45⟩);have hcut:=fu out i;have hdl:((aB out).drop (i*2)).length=(out.length-i)*2:=by rw [Ak];omega
      have hnews:((eV x).take (1*2)++(aB out).drop (i*2)).take ((1+(out.length-i))*2)=aB (x::out.drop i):=by
       rw [hcut.2,show (eV x).take (1*2)++aB (out.drop i)=aB (x::out.drop i) from O,bk];rw [aK,qU,Ak];omega
      have hnl:(((eV x).take (1*2)++(aB out).drop (i*2)).take ((1+(out.length-i))*2)).length=(1+(out.length-i))*2:=by rw [hnews,aK,qU,Ak];omega
      have hnf:∀ c∈((eV x).take (1*2)++(aB out).drop (i*2)).take ((1+(out.length-i))*2),c.leaf=true:=by rw [hnews];exact dw _
      have hcs:(aB out).take (i*2)++((eV x).take (1*2)++(aB out).drop (i*2)).take ((1+(out.length-i))*2)=aB (dB x out):=by rw [hnews,hcut.1,hput,fj]
      have hil:i+(1+(out.length-i))=(dB x out).length:=by rw [hput,a6,qU,iP,Ak];omega
      refine Ge O follows [0,1,2,3,4,5,6,7,8,9,10] OD ?_;iterate 2 refine D1 O O ?_
      refine Ds 58 [_] O O O (fun τ h=>dC i underlying38 lM (Ee h 0 O O) (Eo h 0 O O) (Ee h 1 O O) O hi) O OD ?_;iterate 4 refine D1 O O ?_
      refine Ds 63 [_] O O O (fun τ h=>dK i underlying38 lM (Ee h 0 O O) (Eo h 0 O O) (Ee h 1 O O) O hi) O OD<|Ds 64 [_,_] O O O (fun τ h=>eI 3 JM (Ee h 0 O O) (Eo h 0 O O) (qT _) (G4.tsl (Ee h 1 O O) (Eo h 1 O O) O hdl) hdl (fun c hc=>dw out c (LM hc)) OC (h.n 0 _ O)) O OD<|Ds 65 [_,_] O O O (fun τ h=>eI 4 JM (Ee h 0 O O) (Eo h 0 O O) OC (jA.any (.inr ⟨_,_,_,_,(Ee h 1 O O),(Eo h 1 O O),O⟩)) hnl hnf OC (h.n 0 _ O)) O OD<|D1 O O ?_;refine ⟨OD,?_⟩;exact Im (St.pn 3 O O OC (fun e=>aW (l:=dB x out) (k:=0) OC (hcs.symm.trans e)))<|Z2 O O O<|⟨(k+1,dB x out),Ip [4] ⟨af (fun n=>V.gsl 4 2 n) hil,O,O,O,OK⟩ ⟨ry (b:=some (.gro 49 ((aB out).take (i*2)++((eV x).take (1*2)++(aB out).drop (i*2)).take ((1+(out.length-i))*2)))) OD (af (fun c=>some (Ob.gro 49 c)) hcs),OK⟩ O O OE O,⟨OC,hsu⟩,OI⟩
   ·refine Ge O follows [0,1,2,3,4,5,6,7,8,9,10,11,12,13] OD ?_;iterate 3 refine D1 O O ?_
    refine Ds 19 [] O O O (fun τ h=>XJ.cast (v':= .pv (.bool false)) (aQ (Ee h 0 O O) (Ee h 1 O O) O) (af (fun b=>V.pv (.bool b)) (Et OC))) O OD ?_;iterate 10 refine D1 O O ?_
    refine ⟨OD,?_⟩;refine Gc O O (fun hc29=>absurd hc29 OG) (fun hc29=>?_);refine Gx O<|Ge O follows [0,1,2,3,4,5,6,7,8,9,10,11,12,13] OD ?_;iterate 3 refine D1 O O ?_
    refine Ds 35 [] O O O (fun τ h=>XJ.cast (v':= .pv (.bool false)) (aQ (Ee h 0 O O) (Ee h 1 O O) O) (af (fun b=>V.pv (.bool b)) (Et OC))) O OD ?_;iterate 10 refine D1 O O ?_
    refine ⟨OD,?_⟩;refine Gc O O (fun hc45=>absurd hc45 OG) (fun hc45=>?_);refine Il ?_;have hput:dB x out=out.take i++x::out.drop i:=ns hi hall (fun h=>absurd h hi2);have hcut:=fu out i;have hdl:((aB out).drop (i*2)).length=(out.length-i)*2:=by rw [Ak];omega
    have hnews:((eV x).take (1*2)++(aB out).drop (i*2)).take ((1+(out.length-i))*2)=aB (x::out.drop i):=by
     rw [hcut.2,show (eV x).take (1*2)++aB (out.drop i)=aB (x::out.drop i) from O,bk];rw [aK,qU,Ak];omega
    have hnl:(((eV x).take (1*2)++(aB out).drop (i*2)).take ((1+(out.length-i))*2)).length=(1+(out.length-i))*2:=by rw [hnews,aK,qU,Ak];omega
    have hnf:∀ c∈((eV x).take (1*2)++(aB out).drop (i*2)).take ((1+(out.length-i))*2),c.leaf=true:=by rw [hnews];exact dw _
    have hcs:(aB out).take (i*2)++((eV x).take (1*2)++(aB out).drop (i*2)).take ((1+(out.length-i))*2)=aB (dB x out):=by rw [hnews,hcut.1,hput,fj]
    have hil:i+(1+(out.length-i))=(dB x out).length:=by rw [hput,a6,qU,iP,Ak];omega
    refine Ge O follows [0,1,2,3,4,5,6,7,8,9,10] OD ?_;iterate 2 refine D1 O O ?_
    refine Ds 58 [_] O O O (fun τ h=>dC i underlying38 lM (Ee h 0 O O) (Eo h 0 O O) (Ee h 1 O O) O hi) O OD ?_;iterate 4 refine D1 O O ?_
    refine Ds 63 [_] O O O (fun τ h=>dK i underlying38 lM (Ee h 0 O O) (Eo h 0 O O) (Ee h 1 O O) O hi) O OD<|Ds 64 [_,_] O O O (fun τ h=>eI 3 JM (Ee h 0 O O) (Eo h 0 O O) (qT _) (G4.tsl (Ee h 1 O O) (Eo h 1 O O) O hdl) hdl (fun c hc=>dw out c (LM hc)) OC (h.n 0 _ O)) O OD<|Ds 65 [_,_] O O O (fun τ h=>eI 4 JM (Ee h 0 O O) (Eo h 0 O O) OC (jA.any (.inr ⟨_,_,_,_,(Ee h 1 O O),(Eo h 1 O O),O⟩)) hnl hnf OC (h.n 0 _ O)) O OD<|D1 O O ?_;refine ⟨OD,?_⟩;exact Im (St.pn 3 O O OC (fun e=>aW (l:=dB x out) (k:=0) OC (hcs.symm.trans e)))<|Z2 O O O<|⟨(k+1,dB x out),Ip [4] ⟨af (fun n=>V.gsl 4 2 n) hil,O,O,O,OK⟩ ⟨ry (b:=some (.gro 49 ((aB out).take (i*2)++((eV x).take (1*2)++(aB out).drop (i*2)).take ((1+(out.length-i))*2)))) OD (af (fun c=>some (Ob.gro 49 c)) hcs),OK⟩ O O OE O,⟨OC,hsu⟩,OI⟩
 ·refine Im (Ir 0 O O) ?_;have hon:=hs.n;have hol:=aK out;have hfin:lH l=out.filter fun y=>y.w !=0:=by rw [lH,hs.e,show k=l.length by omega,J4]
  refine Gx O<|Z1 O O<|Im (Iu 7 1 2 49 O O)<|Z3 O O O O ?_;refine Gl O (st:=fun x_2:Nat×List Rw=>mkS [(7,.gsl 1 2 x_2.2.length),(67,.pv (bL out)),(68,.pv (.int .i64 out.length)),(69,.pv (.int .i64 x_2.1))] [(1,.gro 49 (aB x_2.2))] 2)
   (I:=fun x_2=>(x_2.1<=out.length/\x_2.2.length<=x_2.1)/\x_2.2=(out.take x_2.1).filter fun y=>y.w !=0) (μ:=fun x_2=>out.length-x_2.1) (x0:=(0,[])) (Io (aS O) (aO O) O O) (⟨⟨eF _,qT _⟩,O⟩) ?_
  rintro ⟨j,q⟩ ⟨hj,hq⟩;try simp only at hj hq ⊢
  refine Z1 O O ?_;refine Gp O O (fun hc70=>?_) (fun hc70=>?_)
  ·have hlj:j<out.length:=OC;have hrj:=aN hlj;have hnj:=aW hlj;have hql:=aK q;have htk:out.take (j+1)=out.take j++[out[j]]:=aR hlj;generalize out[j]=y at*;refine Il<|Z1 O O ?_;first | refine A3 O OF ?_ | refine A1 O ?_
   refine Y2 O O<|Z3 O O O O ?_;refine Gc O O (fun hc75=>?_) (fun hc75=>?_)
   ·refine Gr O ?_;iterate 5 refine A1 O ?_
    exact Z2 O O O<|⟨(j+1,q++[y]),Ip [0,4] ⟨af (fun n=>V.gsl 4 2 n) (show q.length+1=(q++[y]).length by simp),O,O,O,OK⟩ ⟨ry (b:=some (.gro 49 (aB q++eV y))) OD (af (fun c=>some (Ob.gro 49 c)) (dW q y)),OK⟩ O O OE O,⟨⟨OC,by simp only [a6,vt];omega⟩,by rw [htk,Jm,<-hq];simp only [Hf,L4];rw [og hc75]⟩,OI⟩
   ·exact Il<|Z2 O O O<|⟨(j+1,q),Io (aS O) (aO O) O O,⟨⟨OC,OI⟩,by rw [htk,Jm,<-hq];simp only [Hf,L4];rw [ga (by rw [hc75];decide),xd]⟩,OI⟩
  ·exact Im (Ir 1 O O)<|Gx O<|Z2 O O O<|Gt O<|⟨_,_,O,O,by rw [hfin,show out.filter (fun y=>y.w !=0)=q by rw [hq,bk OC]];rfl⟩
end
section
open Mk Jn
def Fk:List ByteArray:=[⟨#[114,101,100]⟩,⟨#[103,114,101,101,110]⟩,⟨#[98,108,117,101]⟩]
def rI:List ByteArray:=[⟨#[49]⟩,⟨#[50]⟩,⟨#[49,48]⟩]
def C6:List ByteArray:=[⟨#[48]⟩,⟨#[49]⟩,⟨#[45,50]⟩,⟨#[49,47,50]⟩,⟨#[51]⟩,⟨#[53,47,51]⟩,⟨#[49]⟩,⟨#[50]⟩]
def gX (kd:Int):List ByteArray:=⟨#[]⟩::(if kd=3 then Fk else if kd=1 then rI else C6)
def FA (c:Nat) (kd:Int):ByteArray:=if c=8 then ⟨#[]⟩ else if kd=3 then Fk.getD (c%3) ⟨#[]⟩ else if kd=1 then rI.getD (c%3) ⟨#[]⟩ else C6.getD c ⟨#[]⟩
theorem fE {l:List ByteArray} {j:Nat} (h:j<l.length):l.getD j ⟨#[]⟩=l[j]/\l[j]∈l:=⟨by simp [List.getD,h],aJ h⟩
theorem Di {c:Nat} (kd:Int) (h:c<9):FA c kd∈gX kd:=by
 unfold FA gX;by_cases h8:c=8
 ·rw [og h8];simp
 ·rw [ga h8];refine vf _ ?_;by_cases h3:kd=3
  ·rw [og h3,og h3];have:=fE (l:=Fk) (j:=c%3) (Lc _ OE);rw [this.1];exact this.2
  ·rw [ga h3,ga h3];by_cases h1:kd=1
   ·rw [og h1,og h1];have:=fE (l:=rI) (j:=c%3) (Lc _ OE);rw [this.1];exact this.2
   ·rw [ga h1,ga h1];have:=fE (l:=C6) (j:=c) (by have e:C6.length=8:=rfl;omega);rw [this.1];exact this.2
theorem vw (L:List Int) (k:Nat) (hL:L.length<=600) (hk:k<=L.length) (nm:ByteArray) (kd:Int):
  FnM Tryz.prog 59 85 (jB L k) [.agg [.str nm,.int .i64 kd]] (fun v c=>v= .str (FA (sNv L k 9).toNat kd)/\c=jB L (sNk L k)):=by
 refine FnM.of func59 O ntmps59 OG O OG fun m0 w0 F R0=>?_
 have hn:=zP L k 9 hL hk OE OE;have hb:=uV L k 9 OE;obtain ⟨c,hc⟩:=rK hb.1;have hc9:c<9:=OC;rw [hc] at hn;rw [hc,yR];refine Z2 O O O<|Z1 O O<|Rs 7 O O (iu call18 hn O O)<|A1 O<|Z3 O O O O ?_;refine Gc O O (fun hc8=>?_) (fun hc8=>?_)
 ·have h8:c=8:=by have h:(c:Int)=8:=(by simpa using hc8);omega
  exact Z1 O O<|Gt O<|⟨_,jB L (sNk L k),O,O,af PV.str (by rw [FA,og h8]),O⟩
 ·have h8:¬ c=8:=by have h:¬ (c:Int)=8:=(by simpa using hc8);omega
  refine Z4 O O O O O ?_;refine Gc O O (fun hc11=>?_) (fun hc11=>?_)
  ·have h3:kd=3:=by simpa using hc11
   have hlt:c%3<Fk.length:=Lc _ OE;have hv:=aM hlt;have hne:=bc hlt;exact Gr O<|Rs 15 O O (aq (vs:=Fk.map fun x=> .pv (.str x)) (cs:=aA Fk) none OG uq O OE OE OD OD)<|A1 O<|Rs 17 O O (XJ.cast (v':= .pv (.int .i64 ((c%3:Nat):Int))) (l8 O O OE) O)<|Rs 18 O O (ag (c%3) underlying47 sz9 O O O hlt hne)<|Rs 19 O O (ai ⟨_,underlying9,O⟩ O hv)<|A1 O<|Gt O<|⟨_,jB L (sNk L k),O,O,af PV.str (by rw [FA,ga h8,og h3,(fE hlt).1]),O⟩
  ·have h3:¬ kd=3:=by simpa using hc11
   refine Z4 O O O O O ?_;refine Gc O O (fun hc20=>?_) (fun hc20=>?_)
   ·have h1:kd=1:=by simpa using hc20
    have hlt:c%3<rI.length:=Lc _ OE;have hv:=aM hlt;have hne:=bc hlt;exact Gr O<|Rs 24 O O (aq (vs:=rI.map fun x=> .pv (.str x)) (cs:=aA rI) none OG uq O OE OE OD OD)<|A1 O<|Rs 26 O O (XJ.cast (v':= .pv (.int .i64 ((c%3:Nat):Int))) (l8 O O OE) O)<|Rs 27 O O (ag (c%3) underlying47 sz9 O O O hlt hne)<|Rs 28 O O (ai ⟨_,underlying9,O⟩ O hv)<|A1 O<|Gt O<|⟨_,jB L (sNk L k),O,O,af PV.str (by rw [FA,ga h8,ga h3,og h1,(fE hlt).1]),O⟩
   ·have h1:¬ kd=1:=by simpa using hc20
    have hlt:c<C6.length:=by have e:C6.length=8:=rfl;omega
    have hv:=aM hlt;have hne:=bc hlt;exact Il<|Gr O<|Rs 29 O O (aq (vs:=C6.map fun x=> .pv (.str x)) (cs:=aA C6) none OG uq O OE OE OD OD)<|A1 O<|Rs 31 O O (ag c underlying47 sz9 O O O hlt hne)<|Rs 32 O O (ai ⟨_,underlying9,O⟩ O hv)<|A1 O<|Gt O<|⟨_,jB L (sNk L k),O,O,af PV.str (by rw [FA,ga h8,ga h3,ga h1,(fE hlt).1]),O⟩
theorem rZ (L:List Int) (k:Nat) (hL:L.length<=600) (hk:k<=L.length) (nm:ByteArray) (kd:Int):
  ∃ x∈gX kd,FnM Tryz.prog 59 85 (jB L k) [.agg [.str nm,.int .i64 kd]] (fun v c=>v= .str x/\c=jB L (sNk L k)):=
 ⟨_,Di kd (by have:=uV L k 9 OE;omega),vw L k hL hk nm kd⟩
end
section
open Mk Jn
theorem yz (x y:Int) (hx:x.natAbs<1000000000) (hy:y.natAbs<1000000000):Gy x y:=by
 have hs:∀ n:Nat,n<1000000000->(aj n).length<=1:=fun n h=>bF.2 OC
 exact sF (fun a b=>a<1000000000/\b<1000000000) (fun a b h h0 h1 _ _=>by
  have:=hs a h.1;have:=hs b h.2;omega) x y ⟨hx,hy⟩ (by have:=hs _ hx;omega) (by have:=hs _ hy;omega)
theorem DR {s:ByteArray} (h:cS s=false):o5 s=⟨#[]⟩:=by
 unfold cS at h;unfold o5;have:∀ l m:List UInt8,(Lib.cut l m).2.2=false->(Lib.cut l m).2.1=[]:=fun l m h=>by
  unfold Lib.cut at h ⊢;split at h
  ·simp at h
  ·split
   ·contradiction
   ·rfl
 rw [this _ _ h]
theorem Ad (z:Int) (hz:z.natAbs<1000000000):FnP Tryz.prog 250 [ec z] (· = .tup [.int .i64 z,.bool true]):=by
 refine FnP.of func250 O ntmps250 OG fun m0 w0 F R0=>?_
 have hlen:(aj z.natAbs).length<=1:=bF.2 OC;have hat:=ja (aj z.natAbs) 2 OC;have hl2:lim (aj z.natAbs) 2=0:=by rw [gA];omega
 generalize lim (aj z.natAbs) 2=L at*;have hsm:=dF z.natAbs OC;have hwr:IntKind.i64.wrap ((z.natAbs:Nat):Int)=(z.natAbs:Int):=eT OC;refine Z3 O O O O<|Gr O ?_;iterate 5 refine A1 O ?_
 apply Ix 5 9 14 [10,11,12,13] O ON
 ·intro hb4;iterate 5 refine A1 O ?_
  exact Iq OM O O O
 ·intro hb4;exact Y2 O O<|Rg 12 O O O (ae call184 hat O)<|Y2 O O<|Iq OM O O O
 refine Gc O O (fun hc14=>absurd hc14 (fun h=>by simp at h;omega)) (fun hc14=>?_);refine Il<|Ge O follows [0,1,2,3,4,5,6,7,8,9] OD ?_;iterate 2 refine D1 O O ?_
 refine Ds 17 [] O O O (fun τ h=>ae call184 hat (h.bt O)) O OD<|Ds 18 [] O O O (fun τ h=>nL (b:=1000000000) (Ee h 0 O O) (Ee h 1 O O) OC) O OD<|Ds 19 [] O O O (fun τ h=>nL (b:=1000000000) (Ee h 0 O O) (Ee h 1 O O) OC) O OD ?_;iterate 2 refine D1 O O ?_
 refine Ds 22 [] O O O (fun τ h=>ae call270 hsm (h.bt O)) O OD<|Ds 23 [] O O O (fun τ h=>XJ.cast (v':= .pv (.int .u64 (z.natAbs:Int))) (nR (b:=z.natAbs) (Ee h 0 O O) (Ee h 1 O O) OC) (af (fun n:Nat=>V.pv (.int .u64 (n:Int))) OC)) O OD<|D1 O O ?_;refine ⟨OD,?_⟩;refine Z2 O O O ?_;refine Gp O O (fun hc25=>absurd hc25 OC) (fun hc25=>?_);refine Il<|Z2 O O O ?_;refine Gc O O (fun hc27=>?_) (fun hc27=>?_)
 ·have hz0:z<0:=Kh hc27;exact Z1 O O<|Rs 29 O O ((en underlying136 underlying3 O).cast (v':= .pv (.int .i64 (z.natAbs:Int))) (af (fun z=>V.pv (.int .i64 z)) hwr))<|Y3 O O O<|Gt O<|⟨_,_,O,O,af (fun q=>PV.tup [PV.int IntKind.i64 q,PV.bool true]) (show-(z.natAbs:Int)=z by omega)⟩
 ·have hz0:¬ z<0:=Kq hc27;exact Il<|Z1 O O<|Rs 32 O O ((en underlying136 underlying3 O).cast (v':= .pv (.int .i64 (z.natAbs:Int))) (af (fun z=>V.pv (.int .i64 z)) hwr))<|Y2 O O<|Gt O<|⟨_,_,O,O,af (fun q=>PV.tup [PV.int IntKind.i64 q,PV.bool true]) (show (z.natAbs:Int)=z by omega)⟩
theorem MA (s:ByteArray) (h:bo s=true) (hz:(rdZ s).natAbs<1000000000):FnP Tryz.prog 218 [.str s] (· = .tup [.int .i64 (rdZ s),.bool true]):=by
 refine FnP.of func218 O ntmps218 OG fun m0 w0 F R0=>?_
 have hv:=cV s;rw [h] at hv;refine Z2 O O O<|Z1 O O<|Rs 5 O O (ae call248 hv O)<|A1 O ?_;refine Gc O O (fun hc6=>absurd hc6 OG) (fun hc6=>?_);refine Il<|Z1 O O<|Rs 8 O O (ae call249 (iC s h) O)<|Rs 9 O O (ae call250 (Ad _ hz) O) ?_;iterate 4 refine A1 O ?_
 exact Gt O<|⟨_,_,O,O,O⟩
theorem jn (s:ByteArray) (h:bo s=true) (hz:(rdZ s).natAbs<1000000000):FnP Tryz.prog 216 [.str s] (· = .bool true):=by
 refine FnP.of func216 O ntmps216 OG fun m0 w0 F R0=>?_
 have h1:decide (rdZ s>= -1000000000)=true:=x7 OC;have h2:decide (rdZ s<=1000000000)=true:=x7 OC;refine Z1 O O<|Z1 O O<|Rs 7 O O (ae call218 (MA s h hz) O) ?_;iterate 5 refine A1 O ?_
 exact Z3 O O O O<|Rg 13 O O O (XJ.cast (v':= .pv (.bool true)) (aQ O O O) (af (fun b=>V.pv (.bool b)) h1))<|Y3 O O O<|Rg 17 O O O (XJ.cast (v':= .pv (.bool true)) (aQ O O O) (af (fun b=>V.pv (.bool b)) h2))<|Y2 O O<|Gt O<|⟨_,_,O,O,O⟩
theorem EP:bo ⟨#[]⟩=false:=OD
theorem zW:FnP Tryz.prog 218 [.str ⟨#[]⟩] (· = .tup [.int .i64 0,.bool false]):=by
 refine FnP.of func218 O ntmps218 OG fun m0 w0 F R0=>?_
 have hv:=cV ⟨#[]⟩;rw [EP] at hv;refine Z2 O O O<|Z1 O O<|Rs 5 O O (ae call248 hv O)<|A1 O ?_;refine Gc O O (fun hc6=>?_) (fun hc6=>absurd hc6 OG);exact Z2 O O O<|Gt O<|⟨_,_,O,O,O⟩
theorem GA:mP ⟨#[]⟩=false:=OD
theorem GR:bo (sO ⟨#[]⟩)=false:=OD
theorem vL:FnP Tryz.prog 217 [.str ⟨#[]⟩] (· = .tup [.str ⟨#[]⟩,.str ⟨#[]⟩,.bool false]):=by
 refine FnP.of func217 O ntmps217 OG fun m0 w0 F R0=>?_
 have hv:=j9 ⟨#[]⟩ OE (fun h=>by rw [GR] at h;cases h);rw [GA] at hv;refine Z3 O O O O<|Z1 O O<|Rs 9 O O (ae call246 hv O)<|A1 O ?_;refine Gc O O (fun hc10=>?_) (fun hc10=>absurd hc10 OG);exact Z3 O O O O<|Gt O<|⟨_,_,O,O,O⟩
structure NumOk (v:ByteArray):Prop where
 s:v.size<4294967281
 r:mP v=true
 n:bo (sO v)=true/\(rdZ (sO v)).natAbs<1000000000
 d:cS v=true->bo (o5 v)=true/\1<=rdZ (o5 v)/\rdZ (o5 v)<=12
theorem vT (v:ByteArray) (h:NumOk v):FnP Tryz.prog 217 [.str v] (· = .tup [.str (sO v),.str (if cS v=true then o5 v else EE),.bool true]):=by
 refine FnP.of func217 O ntmps217 OG fun m0 w0 F R0=>?_
 have hG:bo (sO v)=true->HA v=false->Gy (rdZ (sO v)) (rdZ (o5 v)):=fun _ hb=>by
  refine yz _ _ h.n.2 ?_;have hr:=h.r;unfold mP at hr;by_cases hs:cS v=true
  ·have:=h.d hs;omega
  ·rw [og (by rw [h.n.1,J8 hs];rfl)] at hr;have e:o5 v=⟨#[]⟩:=DR (J8 hs);rw [e];decide
 have hv:=j9 v h.s hG;rw [h.r] at hv;have hc:=DY v ⟨#[47]⟩ h.s;refine Z3 O O O O<|Z1 O O<|Rs 9 O O (ae call246 hv O)<|A1 O ?_;refine Gc O O (fun hc10=>absurd hc10 OG) (fun hc10=>?_);refine Il<|Z1 O O<|Rs 13 O O (ae call247 hc O) ?_;iterate 7 refine A1 O ?_
 refine Z2 O O O ?_;refine Gc O O (fun hc18=>?_) (fun hc18=>?_)
 ·have hs:cS v=false:=by have h9:(!cS v)=true:=hc18;simpa using h9
  rw [hs,ga OE];refine Z1 O O<|Gr O ?_;iterate 5 refine A1 O ?_
  exact Gt O<|⟨_,_,O,O,O⟩
 ·have hs:cS v=true:=by have h9:(!cS v)=false:=hc18;simpa using h9
  rw [hs,og O];refine Il<|Gr O ?_;iterate 5 refine A1 O ?_
  exact Gt O<|⟨_,_,O,O,O⟩
theorem kG (nm v:ByteArray) (h:v=⟨#[]⟩\/bo v=true/\(rdZ v).natAbs<1000000000):FnP Tryz.prog 179 [.agg [.str nm,.int .i64 1],.str v] (· = .bool true):=by
 refine FnP.of func179 O ntmps179 OG fun m0 w0 F R0=>?_
 refine Z2 O O O<|Z2 O O O<|Z2 O O O ?_;refine Gc O O (fun hc12=>?_) (fun hc12=>absurd hc12 OG);by_cases he:v=⟨#[]⟩
 ·subst he;refine Z1 O O<|Rs 15 O O (XJ.cast (v':= .pv (.bool true)) (cF O O O) (af (fun b=>V.pv (.bool b)) (Ls _))) ?_;iterate 5 refine A1 O ?_
  exact Gt O<|⟨_,_,O,O,O⟩
 ·have hne:(v.toList==(⟨#[]⟩:ByteArray).toList)=false:=by rw [La];exact fun e=>he (bytes_inj e)
  obtain ⟨hv1,hv2⟩:=h.resolve_left he;exact Z1 O O<|Rs 15 O O (XJ.cast (v':= .pv (.bool false)) (cF O O O) (af (fun b=>V.pv (.bool b)) hne))<|Y2 O O<|Rg 18 O O O (ae call216 (jn v hv1 hv2) O)<|Y2 O O<|Gt O<|⟨_,_,O,O,O⟩
theorem qW (nm v:ByteArray) (h:v=⟨#[]⟩\/oS v=true/\v.size<=1000):FnP Tryz.prog 179 [.agg [.str nm,.int .i64 3],.str v] (· = .bool true):=by
 refine FnP.of func179 O ntmps179 OG fun m0 w0 F R0=>?_
 refine Z2 O O O<|Z2 O O O<|Z2 O O O ?_;refine Gc O O (fun hc12=>absurd hc12 OG) (fun hc12=>?_);refine Z2 O O O ?_;refine Gc O O (fun hc20=>absurd hc20 OG) (fun hc20=>?_);refine Z2 O O O ?_;refine Gc O O (fun hc50=>?_) (fun hc50=>absurd hc50 OG);by_cases he:v=⟨#[]⟩
 ·subst he;refine Z1 O O<|Rs 53 O O (XJ.cast (v':= .pv (.bool true)) (cF O O O) (af (fun b=>V.pv (.bool b)) (Ls _))) ?_;iterate 5 refine A1 O ?_
  exact Gt O<|⟨_,_,O,O,O⟩
 ·have hne:(v.toList==(⟨#[]⟩:ByteArray).toList)=false:=by rw [La];exact fun e=>he (bytes_inj e)
  obtain ⟨hv1,hv2⟩:=h.resolve_left he;have hws:=q9 v OC;rw [hv1] at hws;exact Z1 O O<|Rs 53 O O (XJ.cast (v':= .pv (.bool false)) (cF O O O) (af (fun b=>V.pv (.bool b)) hne))<|Y2 O O<|Rg 56 O O O (ae call212 hws O)<|Y2 O O<|Gt O<|⟨_,_,O,O,O⟩
theorem yD (nm v:ByteArray) (h:NumOk v) (hne0:v≠⟨#[]⟩):FnP Tryz.prog 179 [.agg [.str nm,.int .i64 2],.str v] (· = .bool true):=by
 refine FnP.of func179 O ntmps179 OG fun m0 w0 F R0=>?_
 have hpa:=vT v h;have hden:bo (if cS v=true then o5 v else EE)=true/\1<=rdZ (if cS v=true then o5 v else EE)/\rdZ (if cS v=true then o5 v else EE)<=12:=by
  by_cases hs:cS v=true
  ·rw [og hs];exact h.d hs
  ·rw [ga hs];exact ⟨nk,by rw [se];decide,by rw [se];decide⟩
 generalize (if cS v=true then o5 v else EE)=dn at*;have hsm:=MA dn hden.1 OC;have hbd:=jn (sO v) h.n.1 h.n.2;have hne:(v.toList==(⟨#[]⟩:ByteArray).toList)=false:=by rw [La];exact fun e=>hne0 (bytes_inj e)
 have h1:decide (rdZ dn>=1)=true:=x7 hden.2.1;have h2:decide (rdZ dn<=12)=true:=x7 hden.2.2;refine Z2 O O O<|Z2 O O O<|Z2 O O O ?_;refine Gc O O (fun hc12=>absurd hc12 OG) (fun hc12=>?_);refine Z2 O O O ?_;refine Gc O O (fun hc20=>?_) (fun hc20=>absurd hc20 OG);refine Z1 O O<|Rs 24 O O (ae call217 hpa O) ?_;iterate 7 refine A1 O ?_
 refine Z1 O O<|Rs 30 O O (ae call218 hsm O) ?_;iterate 5 refine A1 O ?_
 refine Z1 O O<|Rs 34 O O (XJ.cast (v':= .pv (.bool false)) (cF O O O) (af (fun b=>V.pv (.bool b)) hne)) ?_;iterate 4 refine A1 O ?_
 exact Rg 39 O O O (ae call216 hbd O)<|Y3 O O O<|Rg 43 O O O (XJ.cast (v':= .pv (.bool true)) (aQ O O O) (af (fun b=>V.pv (.bool b)) h1))<|Y3 O O O<|Rg 47 O O O (XJ.cast (v':= .pv (.bool true)) (aQ O O O) (af (fun b=>V.pv (.bool b)) h2))<|Y3 O O O<|Gt O<|⟨_,_,O,O,O⟩
theorem vz (nm:ByteArray):FnP Tryz.prog 179 [.agg [.str nm,.int .i64 2],.str ⟨#[]⟩] (· = .bool true):=by
 refine FnP.of func179 O ntmps179 OG fun m0 w0 F R0=>?_
 have hpa:=vL;have hsm:=zW;refine Z2 O O O<|Z2 O O O<|Z2 O O O ?_;refine Gc O O (fun hc12=>absurd hc12 OG) (fun hc12=>?_);refine Z2 O O O ?_;refine Gc O O (fun hc20=>?_) (fun hc20=>absurd hc20 OG);refine Z1 O O<|Rs 24 O O (ae call217 hpa O) ?_;iterate 7 refine A1 O ?_
 refine Z1 O O<|Rs 30 O O (ae call218 hsm O) ?_;iterate 5 refine A1 O ?_
 refine Z1 O O<|Rs 34 O O (XJ.cast (v':= .pv (.bool true)) (cF O O O) (af (fun b=>V.pv (.bool b)) (Ls _))) ?_;iterate 16 refine A1 O ?_
 exact Gt O<|⟨_,_,O,O,O⟩
end
end Go.Proofs.YtedfonppffochaaGreatDoor
namespace Go.Proofs
open Go.Proofs.YtedfonppffochaaGreatDoor
open Go.Shelf
def Tryz.sortRow_ren:Go.Shelf.Ren:=⟨fun | 6=>53 | 15=>104 | 14=>103 | 28=>163 | 29=>164 | 20=>155 | 21=>156 | 22=>157 | 23=>158 | 24=>159 | 25=>160 | 26=>161 | 27=>162 | 46=>197 | 47=>198 | 48=>199 | 49=>200 | 50=>201 | 57=>238 | n=>n,fun | 22=>38 | 24=>49 | 25=>97 | 3=>3 | 39=>161 | 0=>0 | 53=>218 | 55=>136 | 4=>4 | 46=>211 | 45=>210 | 50=>215 | 5=>5 | 9=>9 | 66=>246 | 70=>250 | 76=>279 | 77=>280 | n=>n,fun | n=>n⟩
theorem Tryz.sortRow:Go.Proofs.SlLaysF0.n6 Tryz.prog Tryz.sortRow_ren:={
 mixed:=OD
 f6:=⟨Tryz.f53.name,OE,Tryz.func53.trans (af some OD)⟩
 f14:=⟨Tryz.f103.name,OE,Tryz.func103.trans (af some OD)⟩
 f15:=Tryz.func104.trans (af some OD)
 f20:=⟨Tryz.f155.name,OE,Tryz.func155.trans (af some OD)⟩
 f21:=⟨Tryz.f156.name,OE,Tryz.func156.trans (af some OD)⟩
 f22:=⟨Tryz.f157.name,OE,Tryz.func157.trans (af some OD)⟩
 f23:=⟨Tryz.f158.name,OE,Tryz.func158.trans (af some OD)⟩
 f24:=⟨Tryz.f159.name,OE,Tryz.func159.trans (af some OD)⟩
 f25:=⟨Tryz.f160.name,OE,Tryz.func160.trans (af some OD)⟩
 f26:=⟨Tryz.f161.name,OE,Tryz.func161.trans (af some OD)⟩
 f27:=⟨Tryz.f162.name,OE,Tryz.func162.trans (af some OD)⟩
 f28:=Tryz.func163.trans (af some OD)
 f29:=Tryz.func164.trans (af some OD)
 f46:=⟨Tryz.f197.name,OE,Tryz.func197.trans (af some OD)⟩
 f47:=Tryz.func198.trans (af some OD)
 f48:=Tryz.func199.trans (af some OD)
 f49:=⟨Tryz.f200.name,OE,Tryz.func200.trans (af some OD)⟩
 f50:=⟨Tryz.f201.name,OE,Tryz.func201.trans (af some OD)⟩
 f57:=⟨Tryz.f238.name,OE,Tryz.func238.trans (af some OD)⟩
 t0:=Tryz.underlying0
 a0:=Tryz.isAgg0
 z0:=Tryz.sizeOf0
 v0:=Tryz.zeroValue0
 t3:=Tryz.underlying3
 a3:=Tryz.isAgg3
 z3:=Tryz.sizeOf3
 v3:=Tryz.zeroValue3
 t4:=Tryz.underlying4
 a4:=Tryz.isAgg4
 z4:=Tryz.sizeOf4
 v4:=Tryz.zeroValue4
 t5:=Tryz.underlying5
 a5:=Tryz.isAgg5
 z5:=Tryz.sizeOf5
 v5:=Tryz.zeroValue5
 t9:=Tryz.underlying9
 a9:=Tryz.isAgg9
 z9:=Tryz.sizeOf9
 v9:=Tryz.zeroValue9
 t22:=Tryz.underlying38
 a22:=Tryz.isAgg38
 z22:=Tryz.sizeOf38
 v22:=Tryz.zeroValue38
 t25:=Tryz.underlying97
 a25:=Tryz.isAgg97
 z25:=Tryz.sizeOf97
 v25:=Tryz.zeroValue97
 t39:=Tryz.underlying161
 a39:=Tryz.isAgg161
 z39:=Tryz.sizeOf161
 v39:=Tryz.zeroValue161
 t45:=Tryz.underlying210
 a45:=Tryz.isAgg210
 z45:=Tryz.sizeOf210
 v45:=Tryz.zeroValue210
 t46:=Tryz.underlying211
 a46:=Tryz.isAgg211
 z46:=Tryz.sizeOf211
 v46:=Tryz.zeroValue211
 t50:=Tryz.underlying215
 a50:=Tryz.isAgg215
 z50:=Tryz.sizeOf215
 v50:=Tryz.zeroValue215
 t53:=Tryz.underlying218
 a53:=Tryz.isAgg218
 z53:=Tryz.sizeOf218
 v53:=Tryz.zeroValue218
 t55:=Tryz.underlying136
 a55:=Tryz.isAgg136
 z55:=Tryz.sizeOf136
 v55:=Tryz.zeroValue136
 t66:=Tryz.underlying246
 a66:=Tryz.isAgg246
 z66:=Tryz.sizeOf246
 v66:=Tryz.zeroValue246
 t70:=Tryz.underlying250
 a70:=Tryz.isAgg250
 z70:=Tryz.sizeOf250
 v70:=Tryz.zeroValue250
 t76:=Tryz.underlying279
 a76:=Tryz.isAgg279
 z76:=Tryz.sizeOf279
 v76:=Tryz.zeroValue279
 t77:=Tryz.underlying280
 a77:=Tryz.isAgg280
 z77:=Tryz.sizeOf280
 v77:=Tryz.zeroValue280 }
end Go.Proofs
namespace Go.Proofs.YtedfonppffochaaGreatDoor
section
open Mk Jn
def xk (s t:ByteArray):Int:=if Op.bytesLess s.toList t.toList=true then-1 else if (s.toList==t.toList)=true then 0 else 1
def lN (a b:List ByteArray):Int:=if aZ a b=true then-1 else if a=b then 0 else 1
theorem Af (s:ByteArray) (w:World):Calls Tryz.prog 172 #[.string s] w fun e w'=>e= .returned (.bool false)/\w=w':=by
 have hs:(s.toList !=s.toList)=false:=OG
 go_enter func172,ntmps172
 go_wp2
 go_ret
 exact ⟨O,O⟩
theorem Ce (s t:ByteArray) (w:World):Calls Tryz.prog 111 #[.string s,.string t] w fun e w'=>e= .returned (.int .i64 (xk s t))/\w=w':=by
 have hn:=Af
 go_enter func111,ntmps111
 go_wp2_with (go_at_call 172;refine (hn _ _).mono ?_;rintro e w' ⟨rfl,rfl⟩)
 ·have h1:Op.bytesLess s.toList t.toList=true:=OF
  go_ret
  exact ⟨gp (by unfold xk;rw [og h1]),O⟩
 ·have h1:Op.bytesLess s.toList t.toList=false:=OF;have h2:(!s.toList==t.toList)=true:=OF
  go_ret
  refine ⟨gp ?_,O⟩;unfold xk;rw [h1,ga OE,ga (by simpa using h2)]
 ·have h1:Op.bytesLess s.toList t.toList=false:=OF;have h2:(!s.toList==t.toList)=false:=OF
  go_ret
  refine ⟨gp ?_,O⟩;unfold xk;rw [h1,ga OE,og (by simpa using h2)]
theorem xr {s t:ByteArray} (h:xk s t=0):s=t:=by
 unfold xk at h;split at h
 ·cases h
 ·split at h
  ·next h2=>exact bytes_inj (by simpa using h2)
  ·cases h
theorem E9 {a b:List ByteArray} {k:Nat} (ha:k<a.length) (hb:k<b.length) (e:a.take k=b.take k) (hne:xk a[k] b[k]≠0):lN a b=xk a[k] b[k]:=by
 have hd:a[k]≠b[k]:=fun e2=>hne (by
  unfold xk;rw [e2,ga (by rw [jG];simp),og OG])
 have hl:=oD ha hb e hd;have hab:a≠b:=fun e2=>by subst e2;exact hd O
 have ht:(a[k].toList==b[k].toList)=false:=by
  cases hh:(a[k].toList==b[k].toList) with
  | false=>rfl
  | true=>exact absurd (bytes_inj (by simpa using hh)) hd
 unfold lN xk;rw [hl,ga hab,ht];simp
theorem xY {a b:List ByteArray} {k:Nat} (ha:k<a.length) (hb:k=b.length) (e:a.take k=b.take k):lN a b=1:=by
 have hl:=gL (a:=a) (b:=b) (i:=k) OC OC (.inr hb) e;unfold lN;rw [hl,ga OH,ga (by rintro rfl;omega)]
theorem vn {a b:List ByteArray} {k:Nat} (ha:k=a.length) (hb:k<=b.length) (e:a.take k=b.take k):lN a b=if (a.length:Int)<b.length then-1 else 0:=by
 have hl:=gL (a:=a) (b:=b) (i:=k) OC OC (.inl ha) e;unfold lN;rw [hl];by_cases h:(a.length:Int)<b.length
 ·rw [x7 h];simp [h]
 ·rw [Et h,ga OE,og,ga h];rw [bk OC,bk OC] at e;exact e
theorem uD (A B:Option Addr) (c d:Nat) (l m:List ByteArray) (w:World) {R:Nat->Prop} (h:Row w R A (GF l)) {R':Nat->Prop} (h':Row w R' B (GF m)) (hl:l.length<=1000000) (hm:m.length<=1000000):
  Calls Tryz.prog 74 #[.slice A l.length c,.slice B m.length d] w fun e w'=>e= .returned (.int .i64 (lN l m))/\w=w':=by
 have hcc:=Ce;have hA:=@Row.D4 _ _ _ _ h;have hB:=@Row.D4 _ _ _ _ h';clear h h'
 go_enter func74,ntmps74
 go_wp2
 go_loop [11] (fun i=>∃ k:Nat,k<=l.length/\k<=m.length/\i= .int .i64 k/\l.take k=m.take k) (fun i=>l.length-(intOf i).toNat)
 case atStart=>exact ⟨0,eF _,eF _,O,OG⟩
 case round=>
  obtain ⟨k,hk,hkm,rfl,hno⟩:=hrel;have HN:=Lib.hid hno;clear hno;by_cases hlt:k<l.length
  ·obtain ⟨b,off,rfl,hb,hck⟩:=hA hlt;by_cases hlt':k<m.length
   ·obtain ⟨b',off',rfl,hb',hck'⟩:=hB hlt';clear hA hB
    go_wp2_with (go_at_call 111;refine (hcc _ _ _).mono ?_;rintro e w' ⟨rfl,rfl⟩)
    ·have he:(xk l[k] m[k] !=0)=true:=OF
     go_ret
     exact ⟨gp (E9 hlt hlt' HN.out (by simpa using he)).symm,O⟩
    ·have he:(xk l[k] m[k] !=0)=false:=OF;refine ⟨⟨k+1,OC,OC,by go_num,?_⟩,by simp [intOf];omega⟩;have hn:=HN.out;rw [aR hlt,aR hlt',hn,xr (s:=l[k]) (t:=m[k]) (by simpa using he)]
   ·obtain rfl:k=m.length:=OC;clear hA hB
    go_wp2
    go_ret
    exact ⟨gp (xY hlt O HN.out).symm,O⟩
  ·clear hA hB
   go_wp2
   ·have he:l.length<m.length:=OF
    go_ret
    refine ⟨gp ?_,O⟩;rw [vn OC hkm HN.out,og OC]
   ·have he:¬ l.length<m.length:=OF
    go_ret
    refine ⟨gp ?_,O⟩;rw [vn OC hkm HN.out,ga OC]
theorem sj (A B:Option Addr) (c d:Nat) (l m:List ByteArray) (p q:Int) (w:World) {R:Nat->Prop} (h:Row w R A (GF l)) {R':Nat->Prop} (h':Row w R' B (GF m)) (hl:l.length<=1000000) (hm:m.length<=1000000):
  Calls Tryz.prog 54 #[.agg #[.slice A l.length c,.int .i64 p],.agg #[.slice B m.length d,.int .i64 q]] w fun e w'=>e= .returned (.int .i64 (lN l m))/\∃ n os',w'=Go.Sort.grow (w.drewN n) os':=by
 have hcon:=fun o1 o2=>uD A B c d l m ((w.alloc o1).alloc o2) ((h.alloc o1).alloc o2) ((h'.alloc o1).alloc o2) hl hm
 clear h h';generalize lN l m=z at hcon ⊢
 go_enter func54,ntmps54
 go_wp2_with (go_at_call 74;refine (hcon _ _).mono ?_;rintro e w' ⟨rfl,rfl⟩)
 go_ret
 exact ⟨O,0,_,by rw [Go.Sort.alloc_eq_grow,Go.Sort.alloc_eq_grow,Go.Sort.grow_grow];rfl⟩
end
section
open Mk Jn
theorem n0:NumOk ⟨#[48]⟩:=⟨OE,OD,⟨OD,by decide+kernel⟩,fun h=>absurd h (by decide+kernel)⟩
theorem n1:NumOk ⟨#[49]⟩:=⟨OE,OD,⟨OD,by decide+kernel⟩,fun h=>absurd h (by decide+kernel)⟩
theorem n2:NumOk ⟨#[50]⟩:=⟨OE,OD,⟨OD,by decide+kernel⟩,fun h=>absurd h (by decide+kernel)⟩
theorem n3:NumOk ⟨#[51]⟩:=⟨OE,OD,⟨OD,by decide+kernel⟩,fun h=>absurd h (by decide+kernel)⟩
theorem nm2:NumOk ⟨#[45,50]⟩:=⟨OE,OD,⟨OD,by decide+kernel⟩,fun h=>absurd h (by decide+kernel)⟩
theorem nh:NumOk ⟨#[49,47,50]⟩:=⟨OE,OD,⟨OD,by decide+kernel⟩,fun _=>⟨OD,by decide+kernel,by decide+kernel⟩⟩
theorem n53:NumOk ⟨#[53,47,51]⟩:=⟨OE,OD,⟨OD,by decide+kernel⟩,fun _=>⟨OD,by decide+kernel,by decide+kernel⟩⟩
theorem we (nm v:ByteArray) (kd:Int) (hk:kd=1\/kd=2\/kd=3) (hv:v∈gX kd):FnP Tryz.prog 179 [.agg [.str nm,.int .i64 kd],.str v] (· = .bool true):=by
 rcases hk with rfl | rfl | rfl
 ·refine kG nm v ?_;simp only [gX,rI,k6,Lf,or_false] at hv;rcases hv with rfl | hv
  ·exact .inl O
  ·right
   simp at hv;rcases hv with rfl | rfl | rfl<;>exact ⟨OD,by decide+kernel⟩
 ·by_cases hne:v=⟨#[]⟩
  ·rw [hne];exact vz nm
  ·refine yD nm v ?_ hne;simp only [gX,C6,k6,Lf,or_false] at hv;have hv:=hv.resolve_left hne;simp at hv;rcases hv with rfl | rfl | rfl | rfl | rfl | rfl | rfl | rfl
   ·exact n0
   ·exact n1
   ·exact nm2
   ·exact nh
   ·exact n3
   ·exact n53
   ·exact n1
   ·exact n2
 ·refine qW nm v ?_;simp only [gX,Fk,k6,Lf,or_false] at hv;rcases hv with rfl | hv
  ·exact .inl O
  ·right
   simp at hv;rcases hv with rfl | rfl | rfl<;>exact ⟨OD,OE⟩
theorem mf {w:World} {R:Nat->Prop}:∀ {l:List ByteArray} {us:List Value},RelPL w R (aA l) us->us=l.map Value.string
 | [],us,h=>by simpa [RelPL] using h
 | x::l,us,h=>by
   simp only [jt,RelPL,RelP] at h;obtain ⟨u,vs,rfl,rfl,h2⟩:=h;rw [mf h2];rfl
theorem tK {w:World} {R:Nat->Prop} (hR:∀ b,R b->b<w.heap.size) {l:List ByteArray} {us:List Value} {ps:List PV} (h:RelPL w R (aI l::ps) us):∃ A c vs,us= .slice A l.length c::vs/\Row w R A (GF l)/\RelPL w R ps vs:=by
 simp only [RelPL,RelP] at h;obtain ⟨u,vs,rfl,⟨A,c,rfl,_,_,_,_,h5⟩,h6⟩:=h;refine ⟨A,c,vs,O,fun hne=>?_,h6⟩;obtain ⟨b,off,us,rfl,h6,h7,h8⟩:=h5 (fun e=>hne (by rw [List.map_eq_nil_iff] at e ⊢; exact e));have e7:us=l.map Value.string:=mf h6;subst e7;exact ⟨b,off,O,h7,hR b h7,h8⟩
theorem x9 (a b:List ByteArray) (ha:a.length<=1000000) (hb:b.length<=1000000):FnP Tryz.prog 74 [aI a,aI b] (· = .int .i64 (lN a b)):=by
 intro w R us hG hR hrel;obtain ⟨A,c,vs,rfl,r1,h1⟩:=tK hR hrel;obtain ⟨B,d,vs,rfl,r2,h2⟩:=tK hR h1;obtain rfl:=(by simpa [RelPL] using h2:vs=[]);exact (uD A B c d a b w r1 r2 ha hb).mono fun e w' ⟨he,hw⟩=>⟨_,_,he,O,by rw [<-hw];exact Below.refl _ _,by simp only [RelP]⟩
theorem Eb (a b:List ByteArray):decide (lN a b<0)=aZ a b:=by
 unfold lN;cases h:aZ a b with
 | true=>rw [og O];rfl
 | false=>rw [ga OE];by_cases h2:a=b<;>simp [h2]
theorem xb (a b:List ByteArray) (ha:a.length<=1000000) (hb:b.length<=1000000):FnP Tryz.prog 32 [aI a,aI b] (· = .bool (aZ a b)):=by
 refine FnP.of func32 O ntmps32 OG fun m0 w0 F R0=>?_
 have hc:=x9 a b ha hb;exact Z1 O O<|Z2 O O O<|Rs 7 O O (ae call74 hc O)<|Y2 O O<|Gt O<|⟨_,_,O,O,af PV.bool (Eb a b)⟩
end
section
open Mk Jn
def MdV (S:Sch) (A:List Int) (v:List ByteArray):Prop:=v.length=A.length/\∀ i (h:i<v.length) (h2:i<A.length),v[i]∈gX (S.attrs.getD A[i].toNat default).2
def MdR (S:Sch) (A:List Int) (x:Rw):Prop:=(1<=x.w/\x.w<=5)/\MdV S A x.v
def MdT (S:Sch) (A:List Int) (most:Nat) (l:List Rw):Prop:=∃ l0,l=lH l0/\l0.length<=most/\∀ x∈l0,MdR S A x
theorem Gb (v:List ByteArray) (x:ByteArray):aA v++[PV.str x]=aA (v++[x]):=OG
theorem MdV.snoc {S:Sch} {A:List Int} {v:List ByteArray} {j:Nat} (hj:j<A.length) (h:v.length=j/\∀ i (h:i<v.length) (h2:i<A.length),v[i]∈gX (S.attrs.getD A[i].toNat default).2) {x:ByteArray} (hx:x∈gX (S.attrs.getD A[j].toNat default).2):
  (v++[x]).length=j+1/\∀ i (h:i<(v++[x]).length) (h2:i<A.length),(v++[x])[i]∈gX (S.attrs.getD A[i].toNat default).2:=by
 obtain ⟨rfl,hv⟩:=h;refine ⟨OG,fun i h h2=>?_⟩;rcases LK i v.length with h3 | h3
 ·rw [Ln h3];exact hv i h3 h2
 ·have e:i=v.length:=by simp at h;omega
  subst e;rw [List.getElem_append_right (qT _)];simpa using hx
theorem bW {α:Type} (l:List α) (a:α):l.length+1=(l++[a]).length:=OG
theorem pV (L:List Int) (k:Nat) (hL:L.length<=600) (hk:k<=L.length) (S:Sch) (r most:Nat) (hm:most<=100) (hr:r<S.rels.length) (hA:S.rels[r].2.length<=1000) (hb:∀ a∈S.rels[r].2,0<=a/\a<S.attrs.length):
  FnM Tryz.prog 15 85 (jB L k) [gK S,.int .i64 r,.int .i64 most] (fun v c=>(∃ l,MdT S S.rels[r].2 most l/\v=bL l)/\∃ k',k'<=L.length/\c=jB L k'):=by
 refine FnM.of func15 O ntmps15 OG O OG fun m0 w0 F R0=>?_
 have hkk:∀ k,k<=L.length->sNk L k<=L.length:=fun k hk=>by unfold sNk;split<;>omega
 have hk1:=hkk _ hk;have hn1:=zP L k ((most:Int)+1) hL hk OC OC;have hb1:=uV L k ((most:Int)+1) OC;generalize sNv L k ((most:Int)+1)=nb at*;have hrne:=ew hr;have hra:(bj S.rels)[r*2+1]? =some (ak S.rels[r].2):=by
  have h2:(((bj S.rels).drop (r*2)).take 2)[1]? =[PV.str S.rels[r].1,ak S.rels[r].2][1]? :=by rw [cW hr]
  simpa [vR,FJ] using h2
 generalize S.rels[r].2=A at*;refine Z2 O O O<|Z1 O O<|Im (Iu 9 1 2 49 O O)<|Z3 O O O O<|Rs 17 O O (iu call18 hn1 O O)<|A1 O ?_;refine Gl O (st:=fun x_0:Int×Nat×List Rw=>mkS [(0,.ptr big 0),(2,.pv (.int .i64 r)),(5,.ptr 0 0),(9,.gsl 1 2 x_0.2.2.length),(10,.pv (.int .i64 x_0.1))] [(big,HD L x_0.2.1),(0,.mix 34 [.pv (.sl none S.attrs.length (cc S.attrs)),.pv (.sl none S.rels.length (bj S.rels)),.pv (.sl none S.feats.length (bm S.feats)),.pv (.int .i64 S.label)]),(1,.gro 49 (aB x_0.2.2))] 2)
  (I:=fun x_0=>(((0<=x_0.1/\x_0.1<=most)/\(x_0.2.2.length:Int)+x_0.1<=most)/\x_0.2.1<=L.length)/\∀ x∈x_0.2.2,MdR S A x) (μ:=fun x_0=>x_0.1.toNat) (x0:=(nb,sNk L k,[])) (Io (aS O) (aO O) O O) (⟨⟨⟨⟨OI,OI⟩,by simp only [Ot];omega⟩,hk1⟩,fun _ h=>absurd h OG⟩) ?_
 rintro ⟨i,k2,l⟩ ⟨⟨⟨hi,hli⟩,hk2⟩,hl⟩;try simp only at hi hli hk2 hl ⊢
 refine Z2 O O O ?_;refine Gp O O (fun hc19=>?_) (fun hc19=>?_)
 ·obtain ⟨pk,hpk1,hpk⟩:=wm L k2 [1,1,2,5] hL hk2 OG OG;have hpk2:1<=pk/\pk<=5:=by simp at hpk1;omega
  have hk3:=hkk _ hk2;have hll:=aK l;refine Il<|Z1 O O<|Rs 23 O O (aq none OG xj O OE OE O O)<|Rs 24 O O (iu call58 hpk O O)<|Y3 O O O<|Im (St.er (T':=49) (cs:=[.pv nS,.pv (.int .i64 pk)]) 2 0 3 1 9 OD O OD)<|Z3 O O O O<|Rs 29 O O (ag r underlying31 Eu O O O hr hrne)<|A1 O<|Rs 31 O O (ai ⟨_,underlying22,O⟩ O hra)<|Y2 O O ?_;refine Gl O (st:=fun x_1:Nat×Nat×List ByteArray=>mkS [(0,.ptr big 0),(2,.pv (.int .i64 r)),(5,.ptr 0 0),(9,.gsl 1 2 l.length),(10,.pv (.int .i64 i)),(11,.ptr 2 0),(31,.pv (ak A)),(32,.pv (.int .i64 A.length)),(33,.pv (.int .i64 x_1.1))] [(big,HD L x_1.2.1),(0,.mix 34 [.pv (.sl none S.attrs.length (cc S.attrs)),.pv (.sl none S.rels.length (bj S.rels)),.pv (.sl none S.feats.length (bm S.feats)),.pv (.int .i64 S.label)]),(1,.gro 49 (aB l)),(2,.mix 49 [.gsl 3 1 x_1.2.2.length,.pv (.int .i64 pk)]),(3,.gro 9 (aA x_1.2.2))] 4)
   (I:=fun x_1=>(x_1.1<=A.length/\x_1.2.1<=L.length)/\(x_1.2.2.length=x_1.1/\∀ i (h:i<x_1.2.2.length) (h2:i<A.length),x_1.2.2[i]∈gX (S.attrs.getD A[i].toNat default).2)) (μ:=fun x_1=>A.length-x_1.1) (x0:=(0,sNk L k2,[])) (Io (aS O) (aO O) O O) (⟨⟨eF _,hk3⟩,O,fun i h=>absurd h OG⟩) ?_
  rintro ⟨j,k3,v⟩ ⟨⟨hj,hk4⟩,hmd⟩;try simp only at hj hk4 hmd ⊢
  refine Z1 O O ?_;refine Gp O O (fun hc34=>?_) (fun hc34=>?_)
  ·have hlj:j<A.length:=OC;obtain ⟨a,haa⟩:=rK (hb _ (aJ hlj)).1;have hal:a<S.attrs.length:=by have:=(hb _ (aJ hlj)).2;omega
   have hpv:(aE A)[j*1]? =some (.int .i64 (a:Int)):=by rw [<-haa];simp [hlj]
   have hpn:=aH hlj;have har:=od hal;have han:=lq hal;obtain ⟨x,hxm,hxs⟩:=rZ L k3 hL hk4 S.attrs[a].1 S.attrs[a].2;have hmd2:=MdV.snoc hlj hmd (x:=x) (by rw [haa,yR];simpa [List.getD,hal] using hxm);have hk5:=hkk _ hk4;have hvl:=hmd.1;refine Il<|Gr O<|Rs 35 O O (ag j underlying22 sz3 O O O hlj hpn)<|Rs 36 O O (ai ⟨_,underlying3,O⟩ O hpv)<|A1 O<|Ge O follows [0,1,2,3,4,5,6,7,8,9,10,11,12] OD ?_;iterate 6 refine D1 O O ?_
   refine Ds 43 [] O O O (fun τ h=>ag a underlying28 G1 (Ee h 0 O O) (Ee h 1 O O) O hal han) O OD<|Ds 44 [] O O O (fun τ h=>db ⟨_,underlying27,O⟩ G1 (Ee h 0 O O) har O) O OD<|Ds 45 [_] O O O (fun τ h=>iu call59 hxs (h.args.trans O) (Eo h 0 O O)) O OD ?_;iterate 4 refine D1 O O ?_
   refine ⟨OD,?_⟩;exact Z2 O O O<|⟨(j+1,sNk L k3,v++[x]),Ip [0,1,2,5] (aT O) ⟨O,O,O,ry (b:=some (.mix 49 [.gsl 5 1 (v.length+1),.pv (.int .i64 pk)])) OD (af (fun n=>some (Ob.mix 49 [.gsl 5 1 n,.pv (.int .i64 pk)])) (bW v x)),ry (b:=some (.gro 9 (aA v++[.str x]))) OD (af (fun c=>some (Ob.gro 9 c)) (Gb v x)),OK⟩ O O OE O,⟨⟨OC,hk5⟩,hmd2⟩,OI⟩
  ·refine Im (Ir 3 O O) ?_;have hmr:MdR S A ⟨v,pk⟩:=⟨hpk2,(by have:=hmd.1;omega:v.length=A.length),hmd.2⟩;refine Gx O<|Gr O ?_;iterate 5 refine A1 O ?_
   exact Z3 O O O O<|⟨(i-1,k3,l++[⟨v,pk⟩]),Ip [0,5] ⟨O,O,O,af (fun n=>V.gsl 5 2 n) (bW l ⟨v,pk⟩),O,OK⟩ ⟨O,O,ry (b:=some (.gro 49 (aB l++eV ⟨v,pk⟩))) OD (af (fun c=>some (Ob.gro 49 c)) (dW l ⟨v,pk⟩)),OK⟩ O O OE O,⟨⟨⟨OI,by simp only [a6,vt];omega⟩,hk4⟩,fun y hy=>by rcases my.1 hy with h | h;exact hl y h;rw [fe.1 h];exact hmr⟩,OI⟩
 ·refine Im (Ir 1 O O) ?_;have hso:=wM l OC (fun x hx=>by have:=(hl x hx).2.1;omega) (fun x hx=>by have:=(hl x hx).1;omega);exact Gx O<|Z1 O O<|Rs 55 O O (ae call31 hso O)<|A1 O<|Gt O<|⟨_,jB L k2,O,O,⟨lH l,⟨l,O,OC,hl⟩,O⟩,k2,hk2,O⟩
def Cq (d:List (List Rw)):List PV:=d.map bL
abbrev dbP (d:List (List Rw)):PV:= .sl none d.length (Cq d)
theorem jE (d:List (List Rw)) (l:List Rw):Cq d++[bL l]=Cq (d++[l]):=by simp [Cq]
theorem dH (d:List (List Rw)):(Cq d).length=d.length*1:=by simp [Cq]
def MdD (S:Sch) (most n:Nat) (d:List (List Rw)):Prop:=d.length=n/\∀ i (h:i<d.length) (h2:i<S.rels.length),MdT S S.rels[i].2 most d[i]
theorem MdD.snoc {S:Sch} {most n:Nat} {d:List (List Rw)} (h:MdD S most n d) (hn:n<S.rels.length) {l:List Rw} (hl:MdT S S.rels[n].2 most l):MdD S most (n+1) (d++[l]):=by
 obtain ⟨rfl,hd⟩:=h;refine ⟨OG,fun i h h2=>?_⟩;rcases LK i d.length with h3 | h3
 ·rw [Ln h3];exact hd i h3 h2
 ·have e:i=d.length:=by simp at h;omega
  subst e;rw [List.getElem_append_right (qT _)];simpa using hl
theorem nB (L:List Int) (k:Nat) (hL:L.length<=600) (hk:k<=L.length) (S:Sch) (most:Nat) (hm:most<=100) (hS:S.rels.length<=1000) (hA:∀ r∈S.rels,r.2.length<=1000/\∀ a∈r.2,0<=a/\a<S.attrs.length):
  FnM Tryz.prog 11 85 (jB L k) [gK S,.int .i64 most] (fun v c=>(∃ d,MdD S most S.rels.length d/\v=dbP d)/\∃ k',k'<=L.length/\c=jB L k'):=by
 refine FnM.of func11 O ntmps11 OG O OG fun m0 w0 F R0=>?_
 refine Z2 O O O<|Z1 O O<|Im (Iu 7 1 1 38 O O)<|Z4 O O O O O ?_;refine Gl O (st:=fun x_0:Nat×Nat×List (List Rw)=>mkS [(0,.ptr big 0),(2,.pv (.int .i64 most)),(4,.ptr 0 0),(7,.gsl 1 1 x_0.2.2.length),(11,.pv (.int .i64 S.rels.length)),(12,.pv (.int .i64 x_0.1))] [(big,HD L x_0.2.1),(0,.mix 34 [.pv (.sl none S.attrs.length (cc S.attrs)),.pv (.sl none S.rels.length (bj S.rels)),.pv (.sl none S.feats.length (bm S.feats)),.pv (.int .i64 S.label)]),(1,.gro 38 (Cq x_0.2.2))] 2)
  (I:=fun x_0=>(x_0.1<=S.rels.length/\x_0.2.1<=L.length)/\MdD S most x_0.1 x_0.2.2) (μ:=fun x_0=>S.rels.length-x_0.1) (x0:=(0,k,[])) (Io (aS O) (aO O) O O) (⟨⟨eF _,hk⟩,O,fun i h=>absurd h OG⟩) ?_
 rintro ⟨i,k2,d⟩ ⟨⟨hi,hk2⟩,hd⟩;try simp only at hi hk2 hd ⊢
 refine Z1 O O ?_;refine Gp O O (fun hc13=>?_) (fun hc13=>?_)
 ·have hlt:i<S.rels.length:=OC;have hrA:=hA _ (aJ hlt);have hdl:=hd.1;have htl:=dH d;refine Il<|Z2 O O O<|Gr O ?_;iterate 5 refine A1 O ?_
  refine RL.call O (jW call15 (pV L k2 hL hk2 S i most hm hlt hrA.1 hrA.2) O O ?_);rintro _ _ ⟨⟨l,hml,rfl⟩,k3,hk3,rfl⟩;have hsn:=hd.snoc hlt hml;exact Y3 O O O<|Z2 O O O<|⟨(i+1,k3,d++[l]),Ip [0,3] ⟨O,O,O,af (fun n=>V.gsl 3 1 n) (bW d l),O,O,OK⟩ ⟨O,O,ry (b:=some (.gro 38 (Cq d++[bL l]))) OD (af (fun c=>some (Ob.gro 38 c)) (jE d l)),OK⟩ O O OE O,⟨⟨OC,hk3⟩,hsn⟩,OI⟩
 ·refine Im (Ir 1 O O) ?_;have hin:i=S.rels.length:=OC;subst hin;exact Gx O<|Z2 O O O<|Gt O<|⟨_,jB L k2,O,O,⟨d,hd,O⟩,k2,hk2,O⟩
end
section
open Mk Jn
section
variable {C:Ctx} {n:Nat} {σ:St} {dst:Option Tmp} {ty t t':TypeId} {pos:String} {after:Array Edge} {gd:Option (Nat×Bool)} {x:Operand}
theorem l9 {e:TypeId} {k:Nat} {cs:List PV} {K:St->Prop} (hu:C.P.underlying t=some (.slice e)) (hx:σ.ev n x= .pv (.sl none k cs)) (hk:∀ b:Bool,(b=true->cs=[])->K (σ.app dst ⟨.pv (.bool b),[],[]⟩)):
  OJ C n ⟨dst,.binOp .eql t x (.const (.slice none 0 0)) t',ty,pos,after,gd⟩ K σ:=by
 rintro a w Q ⟨m,R,hw⟩;have:=hw.pv hx;simp only [RelP] at this;obtain ⟨A,c,e1,_,_,_,_,h5⟩:=this;have hc:a.eval (.const (.slice none 0 0))= .slice none 0 0:=rfl;have hb:A.isNone=true->cs=[]:=fun h=>by
  cases cs with
  | nil=>rfl
  | cons c cs=>
    obtain ⟨b,off,us,rfl,_⟩:=h5 OG;cases h
 have hrun:(execOp a.eval ⟨dst,.binOp .eql t x (.const (.slice none 0 0)) t',ty,pos,after,gd⟩).run C.P w= .ok (.value (.bool A.isNone)) w:=by
  simp [execOp,e1,eqGuard,binOp,hc,run_equal_slice_nil _ _ _ _ _ _ hu]
 unfold Oper.wp;rw [hrun];exact ⟨_,hk A.isNone hb,m,R,St.dX σ dst _▸hw.put dst (by simp only [Rel,RelP])⟩
theorem ek {T e:TypeId} {z:Value} {size bytes:Nat} (id:Nat) (he:ElemIs C.P T e z size bytes) (hid:σ.av id=true):
  XJ C n ⟨dst,.buildSlice T 0 #[],ty,pos,after,gd⟩ σ ⟨.osl id size 0,[(id,some (.cells e []))],[id]⟩:=by
 rintro a w Q ⟨m,R,hw⟩;obtain ⟨i,hi,hz,hsize,hbytes⟩:=info_parts he.info;have hrun:(execOp a.eval ⟨dst,.buildSlice T 0 #[],ty,pos,after,gd⟩).run C.P w= .ok (.value (.slice (some ⟨w.heap.size,0,none⟩) 0 0)) (w.alloc (.cells #[] e)):=by
  have hb:(Instr.buildSlice T 0 #[]).run C.P w= .ok (.slice (some ⟨w.heap.size,0,none⟩) 0 0) (w.alloc (.cells #[] e)):=by
   simp [Instr.buildSlice,run_underlying he.u,sizeOf,typeInfo,hi,Instr.fill,newRow]
   congr 2
   exact Array.eq_empty_of_size_eq_zero OG
  have hm:(#[]:Array (Nat×Operand)).map (fun x=>(x.1,a.eval x.2))= #[]:=OG;simp only [execOp,hm,Sem.run_bind,hb,Result.andThen_ok,Sem.run_pure]
 unfold Oper.wp;rw [hrun];refine ⟨_,O,upd m id (some (w.heap.size,0)),R,?_⟩;rw [Iw];refine SW.put (hw.alloc hid #[] e (.cells e []) ?_) dst ?_
 ·intro w' m' av' hR hm ha hb;exact ⟨_,hb,O,qT _,RelPL.nil⟩
 ·simp only [Rel];refine ⟨by simp [avL],fun b N h=>?_⟩;rw [au] at h;cases h;exact ⟨0,O,qT _,by simp [maxLen],OG⟩
end
theorem fX (l:List ByteArray) (hl:l.length<=1000000):FnP Tryz.prog 99 [aI l] (· =aI l):=by
 refine FnP.fg2 (FnP.of func99 O ntmps99 OG fun m0 w0 F R0=>?_);refine Z1 O O<|Z1 O O ?_;refine RL.call O (l9 underlying47 O ?_);intro b hb;refine Gc O O (fun hc4=>?_) (fun hc4=>?_)
 ·have hl0:l=[]:=List.map_eq_nil_iff.1 (hb hc4);exact Z1 O O<|Gt O<|⟨_,_,O,O,by rw [hl0];rfl⟩
 ·refine Il<|Gr O<|Rs 5 O O (ek 0 uq O)<|A1 O<|Rs 7 O O (fc 1 uq O O O (.inl ⟨none,O⟩) OG (fun c hc=>by obtain ⟨y,_,rfl⟩:=uF.1 hc;rfl) OC O) ?_;exact A1 O<|Im (Ir 1 O O)<|Gt O<|⟨_,_,O,O,show PV.sl none (0+l.length) ([]++aA l)=_ by rw [Dq,Ew]⟩
def eB (ls:List Int) (n:Nat):List Int:=(List.range n).map fun a:Nat=>((ls.count (a:Int):Nat):Int)
theorem p9 (ls:List Int) (n:Nat):(eB ls n).length=n:=by simp [eB]
theorem u6 {ls:List Int} {n a:Nat} (h:a<n):(aE (eB ls n))[a*1]? =some (.int .i64 ((ls.count (a:Int):Nat):Int)):=by simp [eB,h]
theorem xC {ls:List Int} {n a:Nat} (h:a<n):(aE (eB ls n)).set (a*1) (.int .i64 (((ls.count (a:Int):Nat):Int)+1))=aE (eB (ls++[(a:Int)]) n):=by
 apply H2
 ·simp [eB]
 ·intro i h1 h2;simp only [eB,J2,Kg,LY,List.count_append,ID];by_cases e:a=i
  ·subst e;rw [og O];simp
  ·rw [ga e];have:List.count (i:Int) [(a:Int)]=0:=by rw [List.count_eq_zero];simp;omega
   rw [this,KX]
theorem vU (n:Nat):List.replicate n (PV.int .i64 0)=aE (eB [] n):=by
 apply H2
 ·simp [eB]
 ·intro i h1 h2;simp [eB]
def bE (ls:List Int) (A:List Int) (x:Rw):Bool:=(A.zip x.v).all fun p=> !(p.2.toList==(⟨#[]⟩:ByteArray).toList)||((ls.count p.1:Nat):Int)==1
def gF (S:Sch) (A:List Int) (l:List Rw):List Rw:=l.filter (bE (S.rels.flatMap (·.2)) A)
end
section
open Mk Jn
structure SJn (S:Sch):Prop where
 a:S.attrs.length<=1000
 r:S.rels.length<=1000
 l:∀ r∈S.rels,r.2.length<=1000
 b:∀ r∈S.rels,∀ a∈r.2,0<=a/\a<S.attrs.length
theorem xL {l:List (ByteArray×List Int)} {k:Nat} (h:k<l.length):(l.take (k+1)).flatMap (·.2)=(l.take k).flatMap (·.2)++l[k].2:=by
 rw [aR h,Jw];simp
theorem eM {A:List Int} {v:List ByteArray} (hl:v.length=A.length) {j:Nat} (hj:j<A.length) (f:Int×ByteArray->Bool):((A.zip v).take (j+1)).all f=(((A.zip v).take j).all f&&f (A[j],v[j]'OC)):=by
 have h:j<(A.zip v).length:=by simp;omega
 rw [aR h,List.all_append];simp
theorem yO {l:List (ByteArray×List Int)} (h:∀ r∈l,r.2.length<=1000):(l.flatMap (·.2)).length<=l.length*1000:=by
 induction l with
 | nil=>simp
 | cons a l ih=>
   have h1:=h a OG;have h2:=ih fun r hr=>h r (by simp [hr])
   rw [IG,a6,qU];omega
theorem zS (S:Sch) (hS:SJn S) (r:Nat) (hr:r<S.rels.length) (l:List Rw) (hl:l.length<=1000) (hv:∀ x∈l,x.v.length=S.rels[r].2.length):
  FnP Tryz.prog 73 [gK S,.int .i64 r,bL l] (· =bL (gF S S.rels[r].2 l)):=by
 refine FnP.of func73 O ntmps73 OG fun m0 w0 F R0=>?_
 have hll:=aK l;have hSa:=hS.a;have hSr:=hS.r;have hrne:=ew hr;have hra:(bj S.rels)[r*2+1]? =some (ak S.rels[r].2):=by
  have h2:(((bj S.rels).drop (r*2)).take 2)[1]? =[PV.str S.rels[r].1,ak S.rels[r].2][1]? :=by rw [cW hr]
  simpa [vR,FJ] using h2
 have hrl:=hS.l _ (aJ hr);have hrb:=hS.b _ (aJ hr);unfold gF;generalize S.rels[r].2=A at*;refine Z2 O O O<|Gr O ?_;iterate 5 refine A1 O ?_
 refine Z4 O O O O O ?_;refine Gl O (st:=fun x_0:Nat=>mkS [(1,.pv (.int .i64 r)),(2,.pv (bL l)),(3,.ptr 0 0),(7,.osl 1 1 S.attrs.length),(23,.pv (.sl none S.rels.length (bj S.rels))),(24,.pv (.int .i64 S.rels.length)),(25,.pv (.int .i64 x_0))] [(0,.mix 34 [.pv (.sl none S.attrs.length (cc S.attrs)),.pv (.sl none S.rels.length (bj S.rels)),.pv (.sl none S.feats.length (bm S.feats)),.pv (.int .i64 S.label)]),(1,.cells 3 (aE (eB ((S.rels.take x_0).flatMap (·.2)) S.attrs.length)))] 2)
  (I:=fun x_0=>x_0<=S.rels.length) (μ:=fun x_0=>S.rels.length-x_0) (x0:=(0)) (Io (aS O) ⟨O,af (fun c=>some (Ob.cells 3 c)) ((ct (.int .i64 0) (S.attrs.length*1)).trans (by rw [ID,vU];rfl)),OK⟩ O O) (eF _) ?_
 rintro k hk;refine Z1 O O ?_;refine Gp O O (fun hc26=>?_) (fun hc26=>?_)
 ·have hlt:k<S.rels.length:=OC;have hrow:=cW hlt;have hne:=ew hlt;have hkl:=hS.l _ (aJ hlt);have hkb:=hS.b _ (aJ hlt);have hfs:=xL hlt;generalize S.rels[k]=rk at*;refine Il<|Z1 O O ?_;first | refine A3 O OF ?_ | refine A1 O ?_
  refine Y2 O O<|Z4 O O O O O ?_;refine Gl O (st:=fun x_1:Nat=>mkS [(1,.pv (.int .i64 r)),(2,.pv (bL l)),(3,.ptr 0 0),(7,.osl 1 1 S.attrs.length),(23,.pv (.sl none S.rels.length (bj S.rels))),(24,.pv (.int .i64 S.rels.length)),(25,.pv (.int .i64 k)),(30,.pv (ak rk.2)),(31,.pv (.int .i64 rk.2.length)),(32,.pv (.int .i64 x_1))] [(0,.mix 34 [.pv (.sl none S.attrs.length (cc S.attrs)),.pv (.sl none S.rels.length (bj S.rels)),.pv (.sl none S.feats.length (bm S.feats)),.pv (.int .i64 S.label)]),(1,.cells 3 (aE (eB ((S.rels.take k).flatMap (·.2)++rk.2.take x_1) S.attrs.length)))] 3)
   (I:=fun x_1=>x_1<=rk.2.length) (μ:=fun x_1=>rk.2.length-x_1) (x0:=(0)) (Io (aS O) ⟨O,af (fun c=>some (Ob.cells 3 (aE (eB c S.attrs.length)))) OG,OK⟩ O O) (eF _) ?_
  rintro j hj;refine Z1 O O ?_;refine Gp O O (fun hc33=>?_) (fun hc33=>?_)
  ·have hlj:j<rk.2.length:=OC;obtain ⟨a,haa⟩:=rK (hkb _ (aJ hlj)).1;have hal:a<S.attrs.length:=by have:=(hkb _ (aJ hlj)).2;omega
   have hpv:(aE rk.2)[j*1]? =some (.int .i64 (a:Int)):=by rw [<-haa];simp [hlj]
   have hpn:=aH hlj;have htk:rk.2.take (j+1)=rk.2.take j++[(a:Int)]:=by rw [aR hlj,haa]
   have hfl:=yO (l:=S.rels.take k) fun r hr=>hS.l r (Kk hr)
   have htl:(S.rels.take k).length<=1000:=by rw [iP];omega
   have hLl:((S.rels.take k).flatMap (·.2)++rk.2.take j).length<=2000000:=by rw [a6,iP];omega
   generalize hLS:(S.rels.take k).flatMap (·.2)++rk.2.take j=LS at*;have hua:=u6 (ls:=LS) hal;have hus:=xC (ls:=LS) hal;have hul:(aE (eB LS S.attrs.length)).length=S.attrs.length:=by rw [rJ,p9]
   have hcb:LS.count (a:Int)<=2000000:=uv List.count_le_length hLl;exact Il<|Z1 O O<|Rs 35 O O (ai ⟨_,underlying3,O⟩ O hpv)<|A1 O<|Z3 O O O O<|Rs 39 O O (aC ⟨_,underlying3,O⟩ O O hua)<|Y2 O O<|RL.step (d:=none) O O (aF sz3 O O O O OC)<|Z2 O O O<|⟨(j+1),Io (aS O) ⟨O,ry (b:=some (.cells 3 ((aE (eB LS S.attrs.length)).set (a*1) (.int .i64 (((LS.count (a:Int):Nat):Int)+1))))) OD (af (fun c=>some (Ob.cells 3 c)) (hus.trans (by rw [htk,<-xJ,hLS]))),OK⟩ O O,OC,OC⟩
  ·exact Gx O<|Z2 O O O<|⟨(k+1),Io (aS O) ⟨O,af (fun c=>some (Ob.cells 3 (aE (eB c S.attrs.length)))) (by rw [hfs,show rk.2.take j=rk.2 from bk OC]),OK⟩ O O,OC,OC⟩
 ·have hLl:=yO (l:=S.rels) fun r hr=>hS.l r hr
  rw [show S.rels.take k=S.rels from bk OC];generalize S.rels.flatMap (·.2)=LS at*;have hul:(aE (eB LS S.attrs.length)).length=S.attrs.length:=by rw [rJ,p9]
  refine Gx O<|Z1 O O<|Im (Iu 12 2 2 49 O O)<|Z3 O O O O ?_;refine Gl O (st:=fun x_2:Nat×List Rw=>mkS [(1,.pv (.int .i64 r)),(3,.ptr 0 0),(7,.osl 1 1 S.attrs.length),(12,.gsl 2 2 x_2.2.length),(44,.pv (bL l)),(45,.pv (.int .i64 l.length)),(46,.pv (.int .i64 x_2.1))] [(0,.mix 34 [.pv (.sl none S.attrs.length (cc S.attrs)),.pv (.sl none S.rels.length (bj S.rels)),.pv (.sl none S.feats.length (bm S.feats)),.pv (.int .i64 S.label)]),(1,.cells 3 (aE (eB LS S.attrs.length))),(2,.gro 49 (aB x_2.2))] 3)
   (I:=fun x_2=>(x_2.1<=l.length/\x_2.2.length<=x_2.1)/\x_2.2=(l.take x_2.1).filter (bE LS A)) (μ:=fun x_2=>l.length-x_2.1) (x0:=(0,[])) (Io (aS O) (aO O) O O) (⟨⟨eF _,qT _⟩,O⟩) ?_
  rintro ⟨i,q⟩ ⟨hi,hq⟩;try simp only at hi hq ⊢
  refine Z1 O O ?_;refine Gp O O (fun hc47=>?_) (fun hc47=>?_)
  ·have hil:i<l.length:=OC;have hrw:=aN hil;have hrn:=aW hil;have hxl:=hv _ (aJ hil);have hql:=aK q;have htk2:l.take (i+1)=l.take i++[l[i]]:=aR hil;generalize l[i]=x at*;refine Il<|Z1 O O ?_;first | refine A3 O OF ?_ | refine A1 O ?_
   refine Y2 O O<|Z1 O O<|Z3 O O O O<|Rs 53 O O (ag r underlying31 Eu O O O hr hrne)<|A1 O<|Rs 55 O O (ai ⟨_,underlying22,O⟩ O hra)<|Y2 O O ?_;refine Gl O (st:=fun x_3:Nat×Bool=>mkS [(1,.pv (.int .i64 r)),(3,.ptr 0 0),(7,.osl 1 1 S.attrs.length),(12,.gsl 2 2 q.length),(14,.ptr 3 0),(15,.pv (.bool x_3.2)),(44,.pv (bL l)),(45,.pv (.int .i64 l.length)),(46,.pv (.int .i64 i)),(55,.pv (ak A)),(56,.pv (.int .i64 A.length)),(57,.pv (.int .i64 x_3.1))] [(0,.mix 34 [.pv (.sl none S.attrs.length (cc S.attrs)),.pv (.sl none S.rels.length (bj S.rels)),.pv (.sl none S.feats.length (bm S.feats)),.pv (.int .i64 S.label)]),(1,.cells 3 (aE (eB LS S.attrs.length))),(2,.gro 49 (aB q)),(3,.mix 49 [.pv (aI x.v),.pv (.int .i64 x.w)])] 4)
    (I:=fun x_3=>x_3.1<=A.length/\x_3.2=((A.zip x.v).take x_3.1).all fun p=> !(p.2.toList==(⟨#[]⟩:ByteArray).toList)||((LS.count p.1:Nat):Int)==1) (μ:=fun x_3=>A.length-x_3.1) (x0:=(0,true)) (Io (aS O) (aO O) O O) (⟨eF _,O⟩) ?_
   rintro ⟨j,b⟩ ⟨hj,hb⟩;try simp only at hj hb ⊢
   refine Z1 O O ?_;refine Gp O O (fun hc58=>?_) (fun hc58=>?_)
   ·have hlj:j<A.length:=OC;have hzs:=eM hxl hlj fun p=> !(p.2.toList==(⟨#[]⟩:ByteArray).toList)||((LS.count p.1:Nat):Int)==1
    obtain ⟨a,haa⟩:=rK (hrb _ (aJ hlj)).1;have hal:a<S.attrs.length:=by have:=(hrb _ (aJ hlj)).2;omega
    have hpv:(aE A)[j*1]? =some (.int .i64 (a:Int)):=by rw [<-haa];simp [hlj]
    have hpn:=aH hlj;have hjv:j<x.v.length:=OC;have hsv:=aM hjv;have hsn:=bc hjv;have hua:=u6 (ls:=LS) hal;rw [<-hb,haa] at hzs;simp only at hzs;refine Il<|Z2 O O O<|Rs 61 O O (ai ⟨_,underlying3,O⟩ O hpv)<|Y2 O O ?_;by_cases hbt:b=true
    ·by_cases hve:(x.v[j].toList==(⟨#[]⟩:ByteArray).toList)=true
     ·refine Gr O<|Rs 62 O O (XJ.cast (v':= .pv (.bool true)) (jP O) (af (fun b=>V.pv (.bool b)) hbt)) ?_;iterate 5 refine A1 O ?_
      refine Rg 68 O O O (ai ⟨_,underlying9,O⟩ O hsv)<|Rg 69 O O O (XJ.cast (v':= .pv (.bool false)) (cF O O O) (af (fun b=>V.pv (.bool !b)) hve)) ?_;iterate 4 refine A1 O ?_
      refine Rg 74 O O O (aC ⟨_,underlying3,O⟩ O O hua) ?_;iterate 4 refine A1 O ?_
      exact Z2 O O O<|⟨(j+1,(((LS.count (a:Int):Nat):Int)==1)),Io (aS O) (aO O) O O,⟨OC,by simp only;rw [hzs,hbt,hve];rfl⟩,OI⟩
     ·refine Gr O<|Rs 62 O O (XJ.cast (v':= .pv (.bool true)) (jP O) (af (fun b=>V.pv (.bool b)) hbt)) ?_;iterate 5 refine A1 O ?_
      refine Rg 68 O O O (ai ⟨_,underlying9,O⟩ O hsv)<|Rg 69 O O O (XJ.cast (v':= .pv (.bool true)) (cF O O O) (af (fun b=>V.pv (.bool !b)) (J8 hve))) ?_;iterate 9 refine A1 O ?_
      exact Z2 O O O<|⟨(j+1,true),Io (aS O) (aO O) O O,⟨OC,by simp only;rw [hzs,hbt,J8 hve];rfl⟩,OI⟩
    ·refine Gr O<|Rs 62 O O (XJ.cast (v':= .pv (.bool false)) (jP O) (af (fun b=>V.pv (.bool b)) (J8 hbt))) ?_;iterate 16 refine A1 O ?_
     exact Z2 O O O<|⟨(j+1,false),Io (aS O) (aO O) O O,⟨OC,by simp only;rw [hzs,J8 hbt,Bool.false_and]⟩,OI⟩
   ·have hbl:bE LS A x=b:=by unfold bE;rw [hb,bk OH]
    refine Gx O<|Z1 O O ?_;refine Gc O O (fun hc79=>?_) (fun hc79=>?_)
    ·refine Ge O follows [0,1,2,3,4,5,6,7,8,9] OD ?_;iterate 3 refine D1 O O ?_
     refine Ds 83 [] O O O (fun τ h=>ae call99 (fX x.v OC) (h.bt O)) O OD ?_;iterate 6 refine D1 O O ?_
     refine ⟨OD,?_⟩;exact Z2 O O O<|⟨(i+1,q++[x]),Ip [0,1,5] ⟨O,O,O,af (fun n=>V.gsl 5 2 n) (bW q x),O,O,O,OK⟩ ⟨O,O,ry (b:=some (.gro 49 (aB q++eV x))) OD (af (fun c=>some (Ob.gro 49 c)) (dW q x)),OK⟩ O O OE O,⟨⟨OC,by simp only [a6,vt];omega⟩,by rw [htk2,Jm,<-hq];simp only [Hf,L4];rw [og (hbl.trans hc79)]⟩,OI⟩
    ·exact Il<|Z2 O O O<|⟨(i+1,q),Io (aS O) (aO O) O O,⟨⟨OC,OI⟩,by rw [htk2,Jm,<-hq];simp only [Hf,L4];rw [ga (by rw [hbl,hc79];decide),xd]⟩,OI⟩
  ·exact Im (Ir 2 O O)<|Gx O<|Z2 O O O<|Gt O<|⟨_,_,O,O,by rw [show l.filter (bE LS A)=q by rw [hq,bk OC]];rfl⟩
end
namespace Jn
set_option autoImplicit false
section
variable {α:Type} [DecidableEq α]
abbrev Asg (α:Type):=Int->Option α
def put (σ:Asg α) (a:Int) (x:α):Asg α:=fun b=>if b=a then some x else σ b
def agr (A:List Int) (σ:Asg α) (row:List α):Bool:=(A.zip row).all fun p=>match σ p.1 with
 | none=>true
 | some x=>decide (x=p.2)
theorem ib {A:List Int} {σ τ:Asg α} (h:∀ a∈A,σ a=τ a) (row:List α):agr A σ row=agr A τ row:=by
 unfold agr;rw [BY,nP,nP];constructor
 ·intro k p hp;have:=k p hp;rw [<-h p.1 (Oc hp).1];exact this
 ·intro k p hp;have:=k p hp;rw [h p.1 (Oc hp).1];exact this
def Sub (σ τ:Asg α):Prop:=∀ a x,σ a=some x->τ a=some x
theorem zw {A:List Int} {σ τ:Asg α} (h:Sub σ τ) {row:List α} (k:agr A τ row=true):agr A σ row=true:=by
 unfold agr at*;rw [nP] at*;intro p hp;have:=k p hp;cases e:σ p.1 with
 | none=>rfl
 | some x=>rw [h _ _ e] at this;exact this
structure Rels (α:Type) where
 A:List (List Int)
 T:List (List (List α))
def Rels.at (P:Rels α) (r:Nat):List Int:=P.A.getD r []
def Rels.rows (P:Rels α) (r:Nat):List (List α):=P.T.getD r []
def Bd (P:Rels α) (r:Nat) (σ:Asg α):Bool:=(P.rows r).any (agr (P.at r) σ)
def bw (P:Rels α) (v:Int):List Nat:=(List.range P.A.length).filter fun r=>decide (v∈P.at r)
structure IsCand (P:Rels α) (v:Int) (σ:Asg α) (cs:List α):Prop where
 nd:cs.Nodup
 mem:∀ x,x∈cs↔∀ r∈bw P v,Bd P r (put σ v x)=true
theorem yx {P:Rels α} {r:Nat} {σ τ:Asg α} (h:Sub σ τ) (k:Bd P r τ=true):Bd P r σ=true:=by
 unfold Bd at*;rw [IF] at*;obtain ⟨row,h1,h2⟩:=k;exact ⟨row,h1,zw h h2⟩
theorem fZ {P:Rels α} {r:Nat} {σ τ:Asg α} (h:∀ a∈P.at r,σ a=τ a):Bd P r σ=Bd P r τ:=by
 unfold Bd;rw [BY,IF,IF];exact ⟨fun ⟨x,h1,h2⟩=>⟨x,h1,by rw [<-ib h];exact h2⟩,fun ⟨x,h1,h2⟩=>⟨x,h1,by rw [ib h];exact h2⟩⟩
def enW (cd:Int->Asg α->List α):List Int->Asg α->List (Asg α)
 | [],σ=>[σ]
 | v::vs,σ=>(cd v σ).flatMap fun x=>enW cd vs (put σ v x)
omit [DecidableEq α] in
theorem cG (σ:Asg α) (a:Int) (x:α):put σ a x a=some x:=og O
omit [DecidableEq α] in
theorem dZ (σ:Asg α) {a b:Int} (x:α) (h:b≠a):put σ a x b=σ b:=ga h
omit [DecidableEq α] in
theorem gu {cd:Int->Asg α->List α}:∀ {vs:List Int} {σ τ:Asg α},τ∈enW cd vs σ->∀ a,a∉vs->τ a=σ a
 | [],σ,τ,h,a,_=>by rw [enW,fe] at h;rw [h]
 | v::vs,σ,τ,h,a,ha=>by
   rw [enW,AT] at h;obtain ⟨x,_,h⟩:=h;rw [gu h a (fun e=>ha (by simp [e])),dZ _ _ (fun e=>ha (by simp [e]))]
omit [DecidableEq α] in
theorem qM {cd:Int->Asg α->List α} (hc:∀ v σ,(cd v σ).Nodup):∀ {vs:List Int} {σ:Asg α},vs.Nodup->(enW cd vs σ).Nodup
 | [],σ,_=>by simp [enW]
 | v::vs,σ,hn=>by
   rw [K1] at hn;rw [enW];have key:∀ (l:List α),l.Nodup->(l.flatMap fun x=>enW cd vs (put σ v x)).Nodup:=by
    intro l;induction l with
    | nil=>intro _;simp
    | cons x l ih=>
      intro hl;rw [K1] at hl;rw [IG,List.nodup_append];refine ⟨qM hc hn.2,ih hl.2,fun τ h1 τ' h2 e=>?_⟩;subst e;obtain ⟨y,hy,h2⟩:=AT.1 h2;have e1:=gu h1 v hn.1;have e2:=gu h2 v hn.1;rw [cG] at e1 e2;rw [e1] at e2;cases e2;exact hl.1 hy
   exact key _ (hc v σ)
theorem nM {P:Rels α} {cd:Int->Asg α->List α}:∀ {vs:List Int} (_:∀ v∈vs,∀ σ,IsCand P v σ (cd v σ)) {σ τ:Asg α},vs.Nodup->(∀ a∈vs,σ a=none)->
  (τ∈enW cd vs σ↔(∀ a,a∉vs->τ a=σ a)/\(∀ a∈vs,(τ a).isSome=true)/\∀ r<P.A.length,(∃ a∈vs,a∈P.at r)->Bd P r τ=true)
 | [],_,σ,τ,_,_=>by
   rw [enW,fe];constructor
   ·rintro rfl;exact ⟨fun _ _=>rfl,fun _ h=>absurd h OG,fun _ _ ⟨_,h,_⟩=>absurd h OG⟩
   ·intro h;funext a;exact h.1 a OG
 | v::vs,hc,σ,τ,hn,hs=>by
   rw [K1] at hn;have hc':∀ v∈vs,∀ σ,IsCand P v σ (cd v σ):=fun u hu=>hc u (by simp [hu])
   have hs':∀ x,∀ a∈vs,put σ v x a=none:=fun x a ha=>by rw [dZ _ _ (fun e:a=v=>hn.1 (by rw [<-e];exact ha))];exact hs a (by simp [ha])
   rw [enW,AT];constructor
   ·rintro ⟨x,hx,h⟩;have hm:=(nM hc' hn.2 (hs' x)).1 h;have hv:τ v=some x:=by rw [hm.1 v hn.1,cG]
    refine ⟨fun a ha=>?_,fun a ha=>?_,fun r hr ⟨a,ha,hra⟩=>?_⟩
    ·rw [hm.1 a (fun e=>ha (by simp [e])),dZ _ _ (fun e=>ha (by simp [e]))]
    ·rcases k6.1 ha with rfl | ha
     ·rw [hv];rfl
     ·exact hm.2.1 a ha
    ·by_cases h2:∃ b∈vs,b∈P.at r
     ·exact hm.2.2 r hr h2
     ·have hav:a=v:=by
       rcases k6.1 ha with e | e
       ·exact e
       ·exact absurd ⟨a,e,hra⟩ h2
      subst hav;have:=((hc a OG σ).mem x).1 hx r (wU.2 ⟨Hq.2 hr,by simpa using hra⟩);rw [<-this];exact fZ fun b hb=>hm.1 b fun e=>h2 ⟨b,e,hb⟩
   ·rintro ⟨h1,h2,h3⟩;obtain ⟨x,hx⟩:=tH.1 (h2 v OG);have hsub:Sub (put σ v x) τ:=fun a y e=>by
     by_cases hav:a=v
     ·subst hav;rw [cG] at e;cases e;exact hx
     ·rw [dZ _ _ hav] at e;by_cases hvs:a∈v::vs
      ·rw [hs a hvs] at e;cases e
      ·rw [h1 a hvs];exact e
    refine ⟨x,((hc v OG σ).mem x).2 fun r hr=>?_,(nM hc' hn.2 (hs' x)).2 ⟨fun a ha=>?_,fun a ha=>h2 a (by simp [ha]),fun r hr ⟨a,ha,hra⟩=>h3 r hr ⟨a,by simp [ha],hra⟩⟩⟩
    ·obtain ⟨hr1,hr2⟩:=wU.1 hr;exact yx hsub (h3 r (Hq.1 hr1) ⟨v,OG,by simpa using hr2⟩)
    ·by_cases hav:a=v
     ·subst hav;rw [cG,hx]
     ·rw [dZ _ _ hav];exact h1 a (by simp [hav,ha])
end
structure SR (R:Type) where
 zero:R
 one:R
 add:R->R->R
 mul:R->R->R
 add_assoc:∀ a b c,add (add a b) c=add a (add b c)
 zero_add:∀ a,add zero a=a
 add_zero:∀ a,add a zero=a
 mul_assoc:∀ a b c,mul (mul a b) c=mul a (mul b c)
 mul_comm:∀ a b,mul a b=mul b a
 one_mul:∀ a,mul one a=a
 zero_mul:∀ a,mul zero a=zero
 add_mul:∀ a b c,mul (add a b) c=add (mul a c) (mul b c)
section
variable {R:Type} (S:SR R)
def kH:List R->R
 | []=>S.zero
 | a::l=>S.add a (kH l)
theorem kK (l m:List R):kH S (l++m)=S.add (kH S l) (kH S m):=by
 induction l with
 | nil=>rw [Ew,kH,S.zero_add]
 | cons a l ih=>rw [F8,kH,ih,kH,S.add_assoc]
theorem uS (l:List R) (c:R):kH S (l.map fun a=>S.mul a c)=S.mul (kH S l) c:=by
 induction l with
 | nil=>rw [Jl,kH,S.zero_mul]
 | cons a l ih=>rw [jt,kH,ih,kH,S.add_mul]
theorem vq (l:List R) (c:R):kH S (l.map fun a=>S.mul c a)=S.mul c (kH S l):=by
 rw [S.mul_comm c,<-uS]
 congr 1
 exact Cz fun a _=>S.mul_comm c a
theorem jb {β γ:Type} (l:List β) (f:β->List γ) (w:γ->R):kH S ((l.flatMap f).map w)=kH S (l.map fun b=>kH S ((f b).map w)):=by
 induction l with
 | nil=>rfl
 | cons b l ih=>rw [IG,Ho,kK,ih,jt,kH]
theorem cx {β:Type} {l:List β} {f g:β->R} (h:∀ b∈l,f b=g b):kH S (l.map f)=kH S (l.map g):=by rw [Cz h]
end
inductive Tr where
 | node (v:Int) (ts:List Tr)
mutual
def Tr.vs:Tr->List Int
 | .node v ts=>v::vsL ts
def vsL:List Tr->List Int
 | []=>[]
 | t::ts=>t.vs++vsL ts
end
section
variable {α R:Type} (S:SR R) (cd:Int->Asg α->List α) (g:Int->Asg α->R)
mutual
def val:Tr->Asg α->R
 | .node v ts,σ=>kH S ((cd v σ).map fun x=>S.mul (g v (put σ v x)) (valL ts (put σ v x)))
def valL:List Tr->Asg α->R
 | [],_=>S.one
 | t::ts,σ=>S.mul (val t σ) (valL ts σ)
end
def wts:List Int->Asg α->R
 | [],_=>S.one
 | v::vs,τ=>S.mul (g v τ) (wts vs τ)
theorem wy (l m:List Int) (τ:Asg α):wts S g (l++m) τ=S.mul (wts S g l τ) (wts S g m τ):=by
 induction l with
 | nil=>rw [Ew,wts,S.one_mul]
 | cons v l ih=>rw [F8,wts,ih,wts,S.mul_assoc]
theorem ni (l m:List Int) (σ:Asg α):enW cd (l++m) σ=(enW cd l σ).flatMap (enW cd m):=by
 induction l generalizing σ with
 | nil=>simp [enW]
 | cons v l ih=>
   rw [F8,enW,enW,List.flatMap_assoc]
   congr 1
   funext x;exact ih _
structure Dep (D E:Int->List Int):Prop where
 d:∀ v σ τ,(∀ a∈D v,σ a=τ a)->cd v σ=cd v τ
 e:∀ v σ τ,(∀ a∈E v,σ a=τ a)->g v σ=g v τ
variable (D E:Int->List Int)
mutual
def Tr.Sep:Tr->Prop
 | .node v ts=>(∀ a∈E v,a∉vsL ts)/\SepL ts
def SepL:List Tr->Prop
 | []=>True
 | t::ts=>t.Sep/\SepL ts/\(∀ w∈t.vs,(∀ a∈D w,a∉vsL ts)/\∀ a∈E w,a∉vsL ts)/\∀ w∈vsL ts,(∀ a∈D w,a∉t.vs)/\∀ a∈E w,a∉t.vs
end
variable {cd g D E}
theorem ng {σ τ:Asg α} {l:List Int} (h:∀ a∈l,σ a=τ a) (v:Int) (x:α):∀ a∈l,put σ v x a=put τ v x a:=fun a ha=>by
 unfold put;split
 ·rfl
 ·exact h a ha
mutual
theorem val_congr (hd:Dep cd g D E):∀ (t:Tr) (σ τ:Asg α),(∀ w∈t.vs,(∀ a∈D w,σ a=τ a)/\∀ a∈E w,σ a=τ a)->val S cd g t σ=val S cd g t τ
 | .node v ts,σ,τ,h=>by
   have hv:=h v (by simp [Tr.vs]);rw [val,val,hd.d v σ τ hv.1];refine cx S fun x _=>?_
   rw [hd.e v _ _ (ng hv.2 v x),valL_congr hd ts _ _ fun w hw=>⟨ng (h w (by simp [Tr.vs,hw])).1 v x,ng (h w (by simp [Tr.vs,hw])).2 v x⟩]
theorem valL_congr (hd:Dep cd g D E):∀ (ts:List Tr) (σ τ:Asg α),(∀ w∈vsL ts,(∀ a∈D w,σ a=τ a)/\∀ a∈E w,σ a=τ a)->valL S cd g ts σ=valL S cd g ts τ
 | [],_,_,_=>by rw [valL,valL]
 | t::ts,σ,τ,h=>by
   rw [valL,valL,val_congr hd t σ τ fun w hw=>h w (by simp [vsL,hw]),valL_congr hd ts σ τ fun w hw=>h w (by simp [vsL,hw])]
end
theorem Ag (hd:Dep cd g D E) {l:List Int} {σ τ:Asg α} (h:∀ w∈l,∀ a∈E w,σ a=τ a):wts S g l σ=wts S g l τ:=by
 induction l with
 | nil=>rfl
 | cons v l ih=>rw [wts,wts,hd.e v σ τ (h v OG),ih fun w hw=>h w (by simp [hw])]
mutual
theorem val_sum (hd:Dep cd g D E):∀ (t:Tr) (σ:Asg α),t.Sep D E->val S cd g t σ=kH S ((enW cd t.vs σ).map (wts S g t.vs))
 | .node v ts,σ,hs=>by
   rw [Tr.Sep] at hs;rw [val,Tr.vs,enW,jb];refine cx S fun x _=>?_
   rw [valL_sum hd ts _ hs.2,<-vq,Of];refine cx S fun τ hτ=>?_
   show S.mul _ (wts S g (vsL ts) τ)=wts S g (v::vsL ts) τ;rw [wts,hd.e v (put σ v x) τ fun a ha=>(gu hτ a (hs.1 a ha)).symm]
theorem valL_sum (hd:Dep cd g D E):∀ (ts:List Tr) (σ:Asg α),SepL D E ts->valL S cd g ts σ=kH S ((enW cd (vsL ts) σ).map (wts S g (vsL ts)))
 | [],σ,_=>by
   rw [valL,vsL,enW,jt,Jl,kH,kH,wts];rw [S.add_zero]
 | t::ts,σ,hs=>by
   rw [SepL] at hs;obtain ⟨h1,h2,h3,h4⟩:=hs;rw [valL,vsL,ni,jb,val_sum hd t σ h1,<-uS,Of];refine cx S fun τ hτ=>?_
   show S.mul (wts S g t.vs τ) _=_;have e1:∀ τ'∈enW cd (vsL ts) τ,wts S g (t.vs++vsL ts) τ'=S.mul (wts S g t.vs τ) (wts S g (vsL ts) τ'):=fun τ' h'=>by
    rw [wy,Ag S hd fun w hw a ha=>gu h' a ((h3 w hw).2 a ha)]
   rw [cx S e1,<-Function.comp_def (f:=fun b=>S.mul (wts S g t.vs τ) b),<-Of,vq,<-valL_sum hd ts τ h2];rw [valL_congr S hd ts σ τ fun w hw=>⟨fun a ha=>(gu hτ a ((h4 w hw).1 a ha)).symm,fun a ha=>(gu hτ a ((h4 w hw).2 a ha)).symm⟩]
end
end
end Jn
namespace Jn
set_option autoImplicit false
def bG:SR Nat:=⟨0,1,Nat.add,Nat.mul,Ov,Dq,KX,Le,KK,Ow,OB,Oe⟩
def aU:SR Bool:=⟨false,true,or,and,Bool.or_assoc,Bool.false_or,J9,Bool.and_assoc,Bool.and_comm,Oh,Bool.false_and,fun a b c=>by cases a<;>cases b<;>cases c<;>rfl⟩
section
variable {α:Type} {cd:Int->Asg α->List α} {D E:Int->List Int}
theorem xD {R:Type} (S:SR R) (vs:List Int) (τ:Asg α):wts S (fun _ _=>S.one) vs τ=S.one:=by
 induction vs with
 | nil=>rfl
 | cons v vs ih=>rw [wts,ih,S.one_mul]
theorem BQ {β:Type} (l:List β):kH bG (l.map fun _=>1)=l.length:=by
 induction l with
 | nil=>rfl
 | cons a l ih=>rw [jt,kH,ih,qU,LL];rfl
theorem xo {β:Type} (l:List β):kH aU (l.map fun _=>true)= !l.isEmpty:=by
 cases l with
 | nil=>rfl
 | cons a l=>rw [jt,kH];rfl
def cntL (cd:Int->Asg α->List α) (ts:List Tr) (σ:Asg α):Nat:=valL bG cd (fun _ _=>1) ts σ
def GW (cd:Int->Asg α->List α) (ts:List Tr) (σ:Asg α):Bool:=valL aU cd (fun _ _=>true) ts σ
theorem qF {R:Type} {c:R} (hd:∀ v (σ τ:Asg α),(∀ a∈D v,σ a=τ a)->cd v σ=cd v τ):Dep cd (fun _ _=>c) D (fun _=>[]):=⟨hd,fun _ _ _ _=>rfl⟩
theorem BN (hd:∀ v (σ τ:Asg α),(∀ a∈D v,σ a=τ a)->cd v σ=cd v τ) {ts:List Tr} (hs:SepL D (fun _=>[]) ts) (σ:Asg α):cntL cd ts σ=(enW cd (vsL ts) σ).length:=by
 rw [cntL,valL_sum bG (qF hd) ts σ hs,<-BQ];exact cx bG fun τ _=>xD bG _ τ
theorem tY (hd:∀ v (σ τ:Asg α),(∀ a∈D v,σ a=τ a)->cd v σ=cd v τ) {ts:List Tr} (hs:SepL D (fun _=>[]) ts) (σ:Asg α):GW cd ts σ= !(enW cd (vsL ts) σ).isEmpty:=by
 rw [GW,valL_sum aU (qF hd) ts σ hs,<-xo];exact cx aU fun τ _=>xD aU _ τ
def enT (cd:Int->Asg α->List α) (br:Int->Asg α->Bool):List Int->Asg α->List (Asg α)
 | [],σ=>[σ]
 | v::vs,σ=>(cd v σ).flatMap fun x=>if br v (put σ v x)=true then enT cd br vs (put σ v x) else []
mutual
def Tr.Ch (ch:Int->List Tr):Tr->Prop
 | .node v ts=>ch v=ts/\ChL ch ts
def ChL (ch:Int->List Tr):List Tr->Prop
 | []=>True
 | t::ts=>t.Ch ch/\ChL ch ts
end
mutual
theorem enT_tree (hd:∀ v (σ τ:Asg α),(∀ a∈D v,σ a=τ a)->cd v σ=cd v τ) {ch:Int->List Tr} (rest:List Int) (hr:∀ σ,enT cd (fun v τ=>GW cd (ch v) τ) rest σ=enW cd rest σ):
  ∀ (t:Tr) (σ:Asg α),t.Sep D (fun _=>[])->t.Ch ch->enT cd (fun v τ=>GW cd (ch v) τ) (t.vs++rest) σ=enW cd (t.vs++rest) σ
 | .node v ts,σ,hs,hc=>by
   rw [Tr.Sep] at hs;rw [Tr.Ch] at hc;rw [Tr.vs,F8,enT,enW]
   congr 1
   funext x;rw [hc.1,enT_forest hd rest hr ts _ hs.2 hc.2,tY hd hs.2];split
   ·rfl
   ·rename_i h;rw [ni];have:enW cd (vsL ts) (put σ v x)=[]:=by simpa using h
    rw [this];rfl
theorem enT_forest (hd:∀ v (σ τ:Asg α),(∀ a∈D v,σ a=τ a)->cd v σ=cd v τ) {ch:Int->List Tr} (rest:List Int) (hr:∀ σ,enT cd (fun v τ=>GW cd (ch v) τ) rest σ=enW cd rest σ):
  ∀ (ts:List Tr) (σ:Asg α),SepL D (fun _=>[]) ts->ChL ch ts->enT cd (fun v τ=>GW cd (ch v) τ) (vsL ts++rest) σ=enW cd (vsL ts++rest) σ
 | [],σ,_,_=>by rw [vsL,Ew];exact hr σ
 | t::ts,σ,hs,hc=>by
   rw [SepL] at hs;rw [ChL] at hc;rw [vsL,xJ];exact enT_tree hd (vsL ts++rest) (fun τ=>enT_forest hd rest hr ts τ hs.2.1 hc.2) t σ hs.1 hc.1
end
end
section
variable {α:Type} [DecidableEq α]
def gf (σ:Asg α) (v:Int):Asg α:=fun b=>if b=v then none else σ b
def bC (P:Rels α) (sd:List α->List α) (v:Int) (σ:Asg α):List α:=match bw P v with
 | []=>[]
 | f::_=>(sd (((P.rows f).filter (agr (P.at f) (gf σ v))).filterMap fun row=>row[(P.at f).idxOf v]?)).filter fun x=>(bw P v).all fun r=>Bd P r (put σ v x)
def dom (P:Rels α) (v:Int):List Int:=(bw P v).flatMap P.at
omit [DecidableEq α] in
theorem Dt {P:Rels α} {v:Int} {r:Nat} (h:r∈bw P v):v∈P.at r:=by simpa using (wU.1 h).2
theorem kI (P:Rels α) (sd:List α->List α) (v:Int) (σ τ:Asg α) (h:∀ a∈dom P v,σ a=τ a):bC P sd v σ=bC P sd v τ:=by
 unfold bC;have hr:∀ r∈bw P v,∀ a∈P.at r,σ a=τ a:=fun r hr a ha=>h a (AT.2 ⟨r,hr,ha⟩)
 cases hw:bw P v with
 | nil=>rfl
 | cons f l=>
   simp only;rw [hw] at hr;have e1:((P.rows f).filter (agr (P.at f) (gf σ v)))=((P.rows f).filter (agr (P.at f) (gf τ v))):=by
    refine List.filter_congr fun row _=>ib (fun a ha=>?_) row
    unfold gf;split
    ·rfl
    ·exact hr f OG a ha
   rw [e1];refine List.filter_congr fun x _=>?_
   rw [BY,nP,nP];constructor
   ·intro k r hm;rw [<-k r hm];exact (fZ fun a ha=>ng (hr r hm) v x a ha).symm
   ·intro k r hm;rw [<-k r hm];exact fZ fun a ha=>ng (hr r hm) v x a ha
omit [DecidableEq α] in
theorem Fi {A:List Int} {row:List α} {v:Int} (hv:v∈A) (hl:row.length=A.length):∃ x,row[A.idxOf v]? =some x/\(v,x)∈A.zip row:=by
 have h1:A.idxOf v<A.length:=Kr hv;have h2:A.idxOf v<row.length:=OC;refine ⟨row[A.idxOf v],fI h2,?_⟩;have h3:(A.zip row)[A.idxOf v]'OH=(A[A.idxOf v],row[A.idxOf v]):=List.getElem_zip;have h4:A[A.idxOf v]=v:=List.getElem_idxOf h1;rw [h4] at h3;rw [<-h3];exact aJ _
theorem Dv {P:Rels α} {sd:List α->List α} (hn:∀ l,(sd l).Nodup) (hm:∀ l x,x∈sd l↔x∈l) {v:Int} (hw:bw P v≠[])
  (hl:∀ r∈bw P v,∀ row∈P.rows r,row.length=(P.at r).length) (σ:Asg α):IsCand P v σ (bC P sd v σ):=by
 unfold bC;cases hw2:bw P v with
 | nil=>exact absurd hw2 hw
 | cons f l=>
   simp only;refine ⟨(hn _).filter _,fun x=>?_⟩;rw [hw2];rw [wU,nP];constructor
   ·exact fun h=>h.2
   ·intro h;refine ⟨?_,h⟩;rw [hm,List.mem_filterMap];have hf:=h f OG;unfold Bd at hf;obtain ⟨row,h1,h2⟩:=IF.1 hf;have hvf:v∈P.at f:=Dt (P:=P) (v:=v) (r:=f) (by rw [hw2];simp);obtain ⟨y,hy,hz⟩:=Fi hvf (hl f (by rw [hw2];simp) row h1);have h3:=nP.1 (show ((P.at f).zip row).all _=true from h2) (v,y) hz;simp only [cG,AS] at h3;refine ⟨row,wU.2 ⟨h1,zw (fun a z e=>?_) h2⟩,by rw [hy,h3]⟩;unfold gf at e;split at e
    ·cases e
    ·rename_i hav;rw [dZ _ _ hav];exact e
end
end Jn
namespace Jn
open Mk
def a7 (P:List Int):Nat->Int->Tr
 | 0,v=> .node v []
 | k+1,v=> .node v ((bq P v).map (a7 P k))
theorem aX {P:List Int} {v c:Int}:c∈bq P v↔∃ n:Nat,n<P.length/\c=(n:Int)/\P.getD n 0=v:=by
 unfold bq;rw [wU,bx];constructor
 ·rintro ⟨⟨a,ha,rfl⟩,h⟩;exact ⟨a,ha,O,by simpa using h⟩
 ·rintro ⟨a,ha,rfl,h⟩;exact ⟨⟨a,ha,O⟩,by simpa using h⟩
theorem kD (P:List Int) (v:Int):(bq P v).Nodup:=(cJ _).filter _
theorem dm (ts:List Tr):vsL ts=ts.flatMap Tr.vs:=by
 induction ts with
 | nil=>rfl
 | cons t ts ih=>rw [vsL,ih,IG]
theorem rL {α β:Type} (p:α->Bool) (f:α->List β) (l:List α):(l.filter p).flatMap f=l.flatMap fun a=>if p a=true then f a else []:=by
 induction l with
 | nil=>rfl
 | cons a l ih=>
   rw [Hf,IG,<-ih];split
   ·rw [IG]
   ·rw [Ew]
mutual
theorem tree_vs (P:List Int):∀ (k:Nat) (v:Int),(a7 P k v).vs=v::fy P k v
 | 0,v=>by rw [a7,Tr.vs,vsL,fy]
 | k+1,v=>by rw [a7,Tr.vs,kids_vs P k v]
theorem kids_vs (P:List Int):∀ (k:Nat) (v:Int),vsL ((bq P v).map (a7 P k))=fy P (k+1) v
 | k,v=>by
   rw [dm,List.flatMap_map,fy];unfold bq;rw [rL]
   congr 1
   funext a;rw [tree_vs P k a];simp only [Li]
end
theorem ij (P:List Int):vsL ((bq P (-1)).map (a7 P P.length))=aD P:=kids_vs P P.length (-1)
theorem getD_at {P:List Int} {n:Nat} (hn:n<P.length):P.getD n 0=P[n]:=by simp [List.getD,hn]
theorem map_inj {α β:Type} {f:α->β}:∀ {l:List α},(l.map f).Nodup->∀ {a b:α},a∈l->b∈l->f a=f b->a=b
 | x::l,h,a,b,ha,hb,e=>by
   rw [jt,K1] at h;rcases k6.1 ha with ha | ha<;>rcases k6.1 hb with hb | hb
   ·rw [ha,hb]
   ·exact absurd (uF.2 ⟨b,hb,by rw [<-e,ha]⟩) h.1
   ·exact absurd (uF.2 ⟨a,ha,by rw [e,hb]⟩) h.1
   ·exact map_inj h.2 ha hb e
section
variable {P:List Int} (hP:UpOk P)
include hP
theorem yw {m c c':Nat} (hm:m<P.length) (hc:(c:Int)∈(m:Int)::bp P m) (hc':(c':Int)∈(m:Int)::bp P m) (h:P.getD c 0=P.getD c' 0):c=c':=by
 have hn:(((m:Int)::bp P m).map fun a=>P.getD a.toNat 0).Nodup:=by rw [kB hP m hm];exact pG hP hm
 have:=map_inj hn hc hc' (by simpa using h);omega
theorem bO {c:Nat} {v:Nat} (hc:c<P.length) (hv:v<P.length) (h:P.getD c 0=(v:Int)):bp P c=(v:Int)::bp P v:=
 ik hP hc hv (by rw [<-getD_at hc];exact h)
theorem gR:∀ (k:Nat) (v:Nat),v<P.length->∀ x∈(a7 P k v).vs,∃ m:Nat,m<P.length/\x=(m:Int)/\(v:Int)∈(m:Int)::bp P m
 | 0,v,hv,x,hx=>by
   rw [a7,Tr.vs,vsL,fe] at hx;exact ⟨v,hv,hx,OG⟩
 | k+1,v,hv,x,hx=>by
   rw [a7,Tr.vs,dm,List.flatMap_map] at hx;rcases k6.1 hx with rfl | hx
   ·exact ⟨v,hv,O,OG⟩
   ·obtain ⟨c,hc,hx⟩:=AT.1 hx;obtain ⟨n,hn,rfl,hp⟩:=aX.1 hc;obtain ⟨m,hm,rfl,hu⟩:=gR k n hn x hx;have e:=bO hP hn hv hp;refine ⟨m,hm,O,vf _ ?_⟩;rcases k6.1 hu with h | h
    ·have:n=m:=OC;subst this;rw [e];simp
    ·exact fH hP hm (by rw [e];simp) h
theorem lu {v:Nat} (hv:v<P.length):(bp P v).length+1<=P.length:=by
 have h1:=(jm hP hv).length_eq;have h2:=IE (fun a=>decide (a∈(v:Int)::bp P v)) (upZ P.length);rw [h1,a8,qU] at h2;exact h2
theorem ln {v:Nat} (hv:v<P.length) (h:P.length<=1+(bp P v).length):bq P v=[]:=by
 rw [List.eq_nil_iff_forall_not_mem];intro c hc;obtain ⟨n,hn,rfl,hp⟩:=aX.1 hc;have h1:=lu hP hn;rw [bO hP hn hv hp,qU] at h1;omega
theorem iy:∀ (k:Nat) (v:Nat),v<P.length->P.length<=k+1+(bp P v).length->a7 P (k+1) v=a7 P k v
 | 0,v,hv,h=>by rw [a7,a7,ln hP hv OC];rfl
 | k+1,v,hv,h=>by
   rw [a7,a7]
   congr 1
   refine Cz fun c hc=>?_
   obtain ⟨n,hn,rfl,hp⟩:=aX.1 hc;have e:=bO hP hn hv hp;exact iy k n hn (by rw [e,qU];omega)
theorem qZ:∀ (j k:Nat) (v:Nat),v<P.length->P.length<=k+1+(bp P v).length->a7 P (k+j) v=a7 P k v
 | 0,_,_,_,_=>rfl
 | j+1,k,v,hv,h=>by
   rw [show k+(j+1)=(k+j)+1 by omega,iy hP (k+j) v hv OC];exact qZ j k v hv h
theorem Ga {v:Nat} (hv:v<P.length):a7 P P.length v= .node v ((bq P v).map (a7 P P.length)):=by
 rw [<-iy hP P.length v hv OC,a7]
theorem zG:∀ (k:Nat) (v:Nat),v<P.length->P.length<=k+1+(bp P v).length->k<=P.length->(a7 P k v).Ch fun a=>(bq P a).map (a7 P P.length)
 | 0,v,hv,h,_=>by
   rw [a7,Tr.Ch,ln hP hv OC];exact ⟨O,OK⟩
 | k+1,v,hv,h,hk=>by
   rw [a7,Tr.Ch];have hc:∀ c∈bq P v,∃ n:Nat,n<P.length/\c=(n:Int)/\P.length<=k+1+(bp P n).length:=fun c hc=>by
    obtain ⟨n,hn,e,hp⟩:=aX.1 hc;exact ⟨n,hn,e,by rw [bO hP hn hv hp,qU];omega⟩
   constructor
   ·refine Cz fun c h1=>?_
    obtain ⟨n,hn,rfl,h2⟩:=hc c h1;have:=qZ hP (P.length-k) k n hn h2;rwa [show k+(P.length-k)=P.length by omega] at this
   ·have key:∀ l:List Int,(∀ c∈l,c∈bq P v)->ChL (fun a=>(bq P a).map (a7 P P.length)) (l.map (a7 P k)):=by
     intro l;induction l with
     | nil=>intro _;trivial
     | cons c l ih=>
       intro hl;obtain ⟨n,hn,rfl,h2⟩:=hc c (hl c OG);rw [jt,ChL];exact ⟨zG k n hn h2 OC,ih fun x hx=>hl x (by simp [hx])⟩
    exact key _ fun _ h=>h
end
section
variable {S:Sch} {P:List Int} (h:OrdOk S P) {D:Int->List Int} (hD:∀ w,∀ a∈D w,∃ r∈S.rels,w∈r.2/\a∈r.2)
include h hD
theorem I5 {k:Nat} {v:Int} {c c':Int} (hc:c∈bq P v) (hc':c'∈bq P v) (hne:c≠c'):∀ w∈(a7 P k c).vs,∀ a∈D w,a∉(a7 P k c').vs:=by
 intro w hw a ha ha2;have hP:=h.dP;obtain ⟨n,hn,rfl,hp⟩:=aX.1 hc;obtain ⟨n',hn',rfl,hp'⟩:=aX.1 hc';obtain ⟨m,hm,rfl,hu⟩:=gR hP k n hn w hw;obtain ⟨m',hm',rfl,hu'⟩:=gR hP k n' hn' a ha2;obtain ⟨r,hr,h1,h2⟩:=hD _ _ ha;have hs:P.getD n 0=P.getD n' 0:=by rw [hp,hp']
 have up:∀ {x y z:Nat},z<P.length->(x:Int)∈(y:Int)::bp P y->(y:Int)∈(z:Int)::bp P z->(x:Int)∈(z:Int)::bp P z:=by
  intro x y z hz h3 h4;rcases k6.1 h4 with e | h4
  ·have:y=z:=OC;subst this;exact h3
  ·rcases k6.1 h3 with e | h3
   ·have:x=y:=OC;subst this;exact vf _ h4
   ·exact vf _ (fH hP hz h3 h4)
 have fin:n=n':=by
  rcases iU (h.rt r hr) h1 h2 with e | e | e
  ·have:m=m':=OC;subst this;exact yw hP hm hu hu' hs
  ·exact yw hP hm' (up hm' hu (vf _ e)) hu' hs
  ·exact yw hP hm hu (up hm hu' (vf _ e)) hs
 exact hne (by rw [fin])
theorem oe {k:Nat} {v:Int} (ht:∀ c∈bq P v,(a7 P k c).Sep D fun _=>[]):∀ (l:List Int),l.Nodup->(∀ c∈l,c∈bq P v)->SepL D (fun _=>[]) (l.map (a7 P k))
 | [],_,_=>trivial
 | c::l,hn,hl=>by
   rw [K1] at hn;have hne:∀ c'∈l,c≠c':=fun c' hc' e=>hn.1 (by rw [e];exact hc')
   rw [jt,SepL,dm,List.flatMap_map];refine ⟨ht c (hl c OG),oe ht l hn.2 fun x hx=>hl x (by simp [hx]),fun w hw=>⟨fun a ha ha2=>?_,fun a ha=>absurd ha OG⟩,fun w hw=>⟨fun a ha ha2=>?_,fun a ha=>absurd ha OG⟩⟩
   ·obtain ⟨c',hc',ha2⟩:=AT.1 ha2;exact I5 h hD (hl c OG) (hl c' (by simp [hc'])) (hne c' hc') w hw a ha ha2
   ·obtain ⟨c',hc',hw⟩:=AT.1 hw;exact I5 h hD (hl c' (by simp [hc'])) (hl c OG) (fun e=>hne c' hc' e.symm) w hw a ha ha2
theorem u3:∀ (k:Nat) (v:Int),(a7 P k v).Sep D fun _=>[]
 | 0,v=>by rw [a7,Tr.Sep];exact ⟨fun _ ha=>absurd ha OG,OK⟩
 | k+1,v=>by
   rw [a7,Tr.Sep];exact ⟨fun _ ha=>absurd ha OG,oe h hD (fun c _=>u3 k c) _ (kD P v) fun _ hc=>hc⟩
theorem w5 (k:Nat) (v:Int):SepL D (fun _=>[]) ((bq P v).map (a7 P k)):=oe h hD (fun c _=>u3 h hD k c) _ (kD P v) fun _ hc=>hc
end
end Jn
section
section
variable {C:Ctx} {n:Nat} {σ:St} {dst:Option Tmp} {ty:TypeId} {ts:Array TypeId} {pos:String} {after:Array Edge} {gd:Option (Nat×Bool)}
theorem ah {f:FuncId} {xs:Array Operand} {args:List V} {os:List (Nat×Ob)} {k':Nat} {r:V} {X:Nat->Option Ob} (ids:List Nat) (base:Nat) (hc:bN C.P f) (hf:FnO C.P f ids.length k' args os (fun v ob'=>v=r/\ob'=X)) (hxs:xs.toList.map (σ.ev n)=V.renL (cm ids base) args)
  (ha:V.allL (okR ids.length 0) args=true) (hos:os.map (·.1)=(List.range ids.length).map (big+ ·)) (hob:os.all (fun p=>p.2.all (okR ids.length 0))=true) (hobs:dD σ (cm ids base) os)
  (hnd:ids.Nodup) (hav:(nwO base k').all σ.av=true):
  XJ C n ⟨dst,.call { callee:= .value (.func f),args:=xs,argTypes:=ts },ty,pos,after,gd⟩ σ ⟨r.ren (cm ids base),wrO ids base k' X,nwO base k'⟩:=
 dU ids base hc hxs ha hos hob hobs hnd hav hf (by rintro _ _ ⟨rfl,rfl⟩;rfl)
end
end
section
section
variable {C:Ctx} {n:Nat} {σ:St} {dst:Option Tmp} {ty t:TypeId} {pos:String} {after:Array Edge} {gd:Option (Nat×Bool)} {x:Operand}
theorem kn {e T:TypeId} {z:Value} {bytes id off k:Nat} {cs:List PV} (he:ElemIs C.P t e z 1 bytes) (h1:z.oneCell'=true) (hx:σ.ev n x= .tsl id off k) (ho:σ.ob id=some (.cells T cs)) (hle:off+k<=cs.length):
  XJ C n ⟨dst,.call { callee:= .builtin .clear,args:= #[x],argTypes:= #[t] },ty,pos,after,gd⟩ σ ⟨.pv (.tup []),[(id,some (.cells T (cs.take off)))],[]⟩:=by
 rintro a w Q ⟨m,R,hw⟩;obtain ⟨b,N,hm,arr,hb,hN,hle',hr⟩:=hw.live ho;have h:=hw.ev x;rw [hx] at h;simp only [Rel] at h;obtain ⟨hav,A,c,hev,hA⟩:=h;have hz:z.cells= #[z]:=by
  generalize z=u at h1;cases u<;>simp [Value.oneCell'] at h1<;>rfl
 have hzr:∀ w,(zeroValue e).run C.P w= .ok z w:=fun w=>by
  have:=he.info;cases hq:C.P.info? e with
  | none=>simp [hq] at this
  | some i=>simp [hq] at this;simp [zeroValue,typeInfo,hq,this.1]
 rcases J6 k with h0 | hp
 ·subst h0;have hrun:(execOp a.eval ⟨dst,.call { callee:= .builtin .clear,args:= #[x],argTypes:= #[t] },ty,pos,after,gd⟩).run C.P w= .ok (.value (.tuple #[])) w:=by
   cases A<;>simp [execOp,resolve,invoke,builtin,Builtin.clear_,hev,run_underlying he.u,Result.andThen]
  unfold Oper.wp;rw [hrun];have hw':=hw.turn hm w O (fun _ _=>rfl) O O O (.cells T (cs.take off)) (fun hR=>⟨arr,hb,hN,OH,by
   have:=hr.take off;rw [LC] at this;rw [iP];exact this⟩)
  refine ⟨_,O,m,R,?_⟩;rw [Iw];exact SW.put hw' dst (by simp only [Rel,RelP];exact ⟨[],O,RelPL.nil⟩)
 ·have hA':=hA hp b N hm;subst hA';have hrep:(Builtin.zeroCells z.cells k).toList=List.replicate k z:=by
   rw [hz];simp [Builtin.zeroCells];apply H2
   ·simp
   ·intro i h1 h2;simp [Nat.mod_one]
  have hst:=run_storeCells_at (P:=C.P) b off T (List.replicate k z) 0 arr w hb OH (fun v hv=>by rw [(List.mem_replicate.1 hv).2];exact h1);simp only [KX] at hst;have hk0:k≠0:=OC;have hrun:(execOp a.eval ⟨dst,.call { callee:= .builtin .clear,args:= #[x],argTypes:= #[t] },ty,pos,after,gd⟩).run C.P w= .ok (.value (.tuple #[])) (w.setRow b (arr.toList.take off++List.replicate k z++arr.toList.drop (off+(List.replicate k z).length)).toArray):=by
   cases k with
   | zero=>omega
   | succ k=>simp [execOp,resolve,invoke,builtin,Builtin.clear_,hev,run_underlying he.u,hzr,hrep,hst,Result.andThen]
  unfold Oper.wp;rw [hrun];have hw':=hw.store hm arr (arr.toList.take off++List.replicate k z++arr.toList.drop (off+(List.replicate k z).length)).toArray T hb OH (.cells T (cs.take off)) (fun w' hR hb'=>⟨_,hb',OH,OH,by
   have:=(hr.take off).mono hR;rw [LC] at this;rw [iP];have e:(arr.toList.take off++List.replicate k z++arr.toList.drop (off+(List.replicate k z).length)).toArray.toList.take (min off cs.length)=arr.toList.take (min off cs.length):=by
    show List.take _ (_++_++_)=_;rw [xJ,LN OH,LC]
    congr 1
    omega
   rw [e];exact this⟩)
  refine ⟨_,O,m,R,?_⟩;rw [Iw];exact SW.put hw' dst (by simp only [Rel,RelP];exact ⟨[],O,RelPL.nil⟩)
theorem EI {e:TypeId} {id off k:Nat} (hu:C.P.underlying t=some (.slice e)) (hx:σ.ev n x= .tsl id off k):
  XJ C n ⟨dst,.call { callee:= .builtin .len,args:= #[x],argTypes:= #[t] },ty,pos,after,gd⟩ σ ⟨.pv (.int .i64 k),[],[]⟩:=
 .val fun a w m R hw=>by
  have h:=hw.ev x;rw [hx] at h;simp only [Rel] at h;obtain ⟨hav,A,c,hev,hA⟩:=h;exact ⟨.int .i64 k,by cases A<;>simp [execOp,resolve,invoke,builtin,Builtin.len_,hev,run_underlying hu,goInt,Result.andThen],by simp only [Rel,RelP]⟩
theorem eR {T e:TypeId} {s k id off:Nat} {kk:IntKind} {i:Int} {o:Ob} {y:Operand} (j:Nat) (hT:C.P.underlying T=some (.slice e)) (hs:dx C.P e s) (hx:σ.ev n x= .tsl id off k) (ho:σ.ob id=some o) (hy:σ.ev n y= .pv (.int kk i)) (hi:i=(j:Int)) (hj:j<k) (hre:o.real=true:=by rfl):
  XJ C n ⟨dst,.indexAddr T x y,ty,pos,after,gd⟩ σ ⟨.ptr id (off+j*s),[],[]⟩:=
 .val fun a w m R hw=>by
  obtain ⟨b,N,hm,_⟩:=hw.live ho hre;have hx':=hw.ev x;rw [hx] at hx';simp only [Rel] at hx';obtain ⟨hav,A,c,he,hA⟩:=hx';have hA':=hA OC b N hm;subst hA';refine ⟨_,by simp only [execOp,he,hw.int hy,Sem.run_bind,gq hT hs hi hj,Result.andThen_ok];rfl,?_⟩;simp only [Rel];exact ⟨hav,fun b' N' e=>by rw [hm] at e;cases e;rfl⟩
end
end
section
open Mk Jn
structure JD where
 S:Sch
 T:List (List Rw)
 lp:PV
 pk:List PV
 pv:List PV
structure WD where
 ch:PV
 ke:PV
 ho:PV
 wa:PV
 g0:PV
 g1:PV
 g2:PV
 g3:PV
 g4:PV
 g5:PV
 g6:PV
 lf:PV
 wt:PV
structure JOk (J:JD):Prop where
 s:SJn J.S
 n:J.T.length=J.S.rels.length
 l:∀ l∈J.T,l.length<=1000
 v:∀ r (h:r<J.T.length) (h2:r<J.S.rels.length),∀ x∈J.T[r],x.v.length=J.S.rels[r].2.length
structure NowOk (n:Nat) (σ:Asg ByteArray) (now:List ByteArray):Prop where
 l:now.length=n
 e:∀ a (h:a<now.length) x,σ (a:Int)=some x->now[a]=x
 o:∀ a:Int,(∀ i:Nat,i<n->a≠(i:Int))->σ a=none
def stL (σ:Asg ByteArray) (n:Nat):List Bool:=(List.range n).map fun a:Nat=>(σ (a:Int)).isSome
theorem cK (σ:Asg ByteArray) (n:Nat):(stL σ n).length=n:=by simp [stL]
theorem DW {σ:Asg ByteArray} {n a:Nat} (h:a<n):(ay (stL σ n))[a*1]? =some (.bool (σ (a:Int)).isSome):=by simp [stL,h]
theorem kZ {σ:Asg ByteArray} {n a:Nat} (h:a<n) (x:ByteArray):(ay (stL σ n)).set (a*1) (.bool true)=ay (stL (put σ a x) n):=by
 apply H2
 ·simp [stL]
 ·intro i h1 h2;simp only [tx,rJ,stL,List.length_range] at h1;simp only [stL,J2,Kg,LY,ID,put];by_cases e:a=i
  ·subst e;simp
  ·rw [ga e,ga OC]
theorem qO {σ:Asg ByteArray} {n a:Nat} (h:a<n):(ay (stL σ n)).set (a*1) (.bool false)=ay (stL (gf σ a) n):=by
 apply H2
 ·simp [stL]
 ·intro i h1 h2;simp only [tx,rJ,stL,List.length_range] at h1;simp only [stL,J2,Kg,LY,ID,gf];by_cases e:a=i
  ·subst e;simp
  ·rw [ga e,ga OC]
theorem jS {l:List ByteArray} {a:Nat} (x:ByteArray):(aA l).set (a*1) (.str x)=aA (l.set a x):=by simp [Kx]
theorem NowOk.put {n:Nat} {σ:Asg ByteArray} {now:List ByteArray} (h:NowOk n σ now) {a:Nat} (ha:a<n) (x:ByteArray):NowOk n (put σ a x) (now.set a x):=by
 refine ⟨by simp [h.l],fun i hi y e=>?_,fun i hi=>?_⟩
 ·rw [J2];by_cases ea:a=i
  ·subst ea;rw [cG] at e;cases e;simp
  ·rw [dZ _ _ OC] at e;rw [ga ea];exact h.e i (by simpa using hi) y e
 ·rw [dZ _ _ (hi a ha)];exact h.o i hi
theorem NowOk.un {n:Nat} {σ:Asg ByteArray} {now:List ByteArray} (h:NowOk n σ now) (a:Int):NowOk n (gf σ a) now:=by
 refine ⟨h.l,fun i hi y e=>?_,fun i hi=>?_⟩
 ·unfold gf at e;split at e
  ·cases e
  ·exact h.e i hi y e
 ·unfold gf;split
  ·rfl
  ·exact h.o i hi
theorem cO {σ:Asg ByteArray} {a:Int} {x:ByteArray} (h:σ a=none):gf (put σ a x) a=σ:=by
 funext b;unfold gf put;split
 ·next e=>rw [e,h]
 ·rfl
abbrev sJ (x:Rw):PV:= .agg (eV x)
def cy (J:JD) (r:Nat):List Int:=(J.S.rels.getD r default).2
def dh (J:JD) (r:Nat):List Rw:=J.T.getD r []
def agP (σ:Asg ByteArray) (p:Int×ByteArray):Bool:=match σ p.1 with
 | none=>true
 | some x=>decide (x=p.2)
theorem oM {σ:Asg ByteArray} {a:Int} {y:ByteArray} (h:σ a=none):agP σ (a,y)=true:=by unfold agP;simp only [h]
theorem gW {σ:Asg ByteArray} {a:Int} {x y:ByteArray} (h:σ a=some x):agP σ (a,y)=decide (x=y):=by unfold agP;simp only [h]
theorem pq (A:List Int) (σ:Asg ByteArray) (v:List ByteArray):agr A σ v=(A.zip v).all (agP σ):=by
 unfold agr
 congr 1
 funext p;unfold agP;cases σ p.1 with
 | none=>rfl
 | some x=>simp
theorem Ha {a b:ByteArray} (h:(a.toList !=b.toList)=true):decide (a=b)=false:=Et fun e=>by subst e;simp at h
theorem G6 {a b:ByteArray} (h:(a.toList !=b.toList)=false):decide (a=b)=true:=x7 (bytes_inj (by simpa using h))
theorem pZ {α:Type} {l:List α} {f:α->Bool} {k:Nat} (h:(l.take k).all f=false):l.all f=false:=by
 rw [Od] at*;obtain ⟨x,hx,hf⟩:=h;exact ⟨x,Kk hx,hf⟩
theorem jg {α:Type} (l:List α) (p:α->Bool):∃ i:Int,decide (i>=0)=l.any p/\((∀ k (h:k<l.length),p l[k]=true->(∀ j (h:j<l.length),j<k->p l[j]=false)->i=k)/\((∀ j (h:j<l.length),p l[j]=false)->i= -1)):=by
 by_cases hx:∃ k:Nat,∃ h:k<l.length,p l[k]=true/\∀ j (h:j<l.length),j<k->p l[j]=false
 ·obtain ⟨k,h,h1,h2⟩:=hx;refine ⟨k,?_,fun k' h' a b=>?_,fun a=>?_⟩
  ·rw [IF.2 ⟨_,aJ h,h1⟩];simp
  ·rcases Nat.lt_trichotomy k k' with c | c | c
   ·rw [b k h c] at h1;cases h1
   ·rw [c]
   ·rw [h2 k' h' c] at a;cases a
  ·rw [a k h] at h1;cases h1
 ·have hno:∀ k,∀ j (h:j<l.length),j<k->p l[j]=false:=by
   intro k;induction k with
   | zero=>intro j _ h;omega
   | succ k ih=>
     intro j h hj;rcases DJ.1 hj with h1 | h1
     ·exact ih j h h1
     ·subst h1;cases hp:p l[j] with
      | false=>rfl
      | true=>exact absurd ⟨j,h,hp,ih⟩ hx
  refine ⟨-1,?_,fun k h a _=>?_,fun _=>rfl⟩
  ·have:l.any p=false:=by
    rw [List.any_eq_false];intro x hx;obtain ⟨j,h,rfl⟩:=IQ.1 hx;rw [hno (j+1) j h OC];decide
   rw [this];rfl
  ·rw [hno (k+1) k h OC] at a;cases a
theorem cD {d:List (List Rw)} {r:Nat} (h:r<d.length):(Cq d)[r*1]? =some (bL d[r]):=by simp [Cq,h]
theorem dN {d:List (List Rw)} {r:Nat} (h:r<d.length):Cq d≠[]:=fun e=>by have:=dH d;rw [e] at this;simp at this;omega
def RJ (J:JD):Rels ByteArray:=⟨J.S.rels.map (·.2),J.T.map fun l=>l.map (·.v)⟩
theorem qX (J:JD) (r:Nat):(RJ J).at r=cy J r:=by
 unfold Rels.at RJ cy;simp only [sh,Ko];cases J.S.rels[r]? <;>rfl
theorem kF (J:JD) (r:Nat):(RJ J).rows r=(dh J r).map (·.v):=by
 unfold Rels.rows RJ dh;simp only [sh,Ko];cases J.T[r]? <;>rfl
theorem oK (J:JD) (r:Nat) (σ:Asg ByteArray):Bd (RJ J) r σ=(dh J r).any fun x=>agr (cy J r) σ x.v:=by
 unfold Bd;rw [kF,qX,List.any_map];rfl
theorem ix {l:List ByteArray} {a:Nat} (x:ByteArray):(aA l).set (a*1) (.str x)=aA (l.set a x):=jS x
theorem kR {α:Type} (l:List α) (p:α->Bool) (x:α):(l++[x]).filter (fun x=> !p x)=l.filter (fun x=> !p x)++if p x=true then [] else [x]:=by
 rw [Jm];cases h:p x<;>simp [Hf,h]
def dS (J:JD) (rs:List Nat) (σ:Asg ByteArray) (a:Nat) (x:ByteArray):Bool:=rs.any fun r=> !(Bd (RJ J) r (put σ a x))
def tst (now:List ByteArray) (a:Nat) (xs:List ByteArray):List ByteArray:=xs.foldl (fun z x=>z.set a x) now
theorem jJ {now l:List ByteArray} {a k:Nat} (h:k<l.length):(tst now a (l.take k)).set a l[k]=tst now a (l.take (k+1)):=by
 unfold tst;rw [aR h,J0];rfl
theorem NowOk.tried {n:Nat} {σ:Asg ByteArray} {now:List ByteArray} (h:NowOk n σ now) {a:Nat} (ha:a<n) (hσ:σ (a:Int)=none) (x:ByteArray):NowOk n σ (now.set a x):=by
 have:=(h.put ha x).un (a:Int);rwa [cO hσ] at this
theorem ki {n:Nat} {σ:Asg ByteArray} {now:List ByteArray} {a:Nat} (h:NowOk n σ now) (ha:a<n) (hσ:σ (a:Int)=none) (xs:List ByteArray):NowOk n σ (tst now a xs):=by
 unfold tst;induction xs generalizing now with
 | nil=>exact h
 | cons x xs ih=>exact ih (h.tried ha hσ x)
theorem sH {α:Type} {l:List α} {p:α->Bool} {i:Int} (hi:decide (i>=0)=l.any p) (h1:∀ k (h:k<l.length),p l[k]=true->(∀ j (h:j<l.length),j<k->p l[j]=false)->i=k) (h2:(∀ j (h:j<l.length),p l[j]=false)->i= -1):
  (i= -1->∀ x∈l,p x=false)/\(¬ i= -1->∃ i0:Nat,i=(i0:Int)/\i0<l.length/\(l.take (i0+1)).filter (fun x=> !p x)=l.take i0):=by
 constructor
 ·intro e x hx;rw [e] at hi;have:l.any p=false:=by rw [<-hi];decide
  rw [List.any_eq_false] at this;have:=this x hx;cases hp:p x with
  | false=>rfl
  | true=>exact absurd hp this
 ·intro e;have hex:∃ k:Nat,∃ h:k<l.length,p l[k]=true/\∀ j (h:j<l.length),j<k->p l[j]=false:=by
   refine CP fun hx=>e (h2 ?_)
   have hno:∀ k,∀ j (h:j<l.length),j<k->p l[j]=false:=by
    intro k;induction k with
    | zero=>intro j _ h;omega
    | succ k ih=>
      intro j h hj;rcases DJ.1 hj with h1 | h1
      ·exact ih j h h1
      ·subst h1;cases hp:p l[j] with
       | false=>rfl
       | true=>exact absurd ⟨j,h,hp,ih⟩ hx
   exact fun j h=>hno (j+1) j h OC
  obtain ⟨k,h,ha,hb⟩:=hex;refine ⟨k,h1 k h ha hb,h,?_⟩;rw [aR h,Jm];have:(l.take k).filter (fun x=> !p x)=l.take k:=Ol.2 fun x hx=>by
   obtain ⟨j,hj,rfl⟩:=IQ.1 hx;rw [iP] at hj;rw [Lx,hb j OC OC];rfl
  rw [this];simp [Hf,ha]
end
section
open Mk Jn
abbrev oZ (S:Sch):Ob:= .mix 34 [.pv (.sl none S.attrs.length (cc S.attrs)),.pv (.sl none S.rels.length (bj S.rels)),.pv (.sl none S.feats.length (bm S.feats)),.pv (.int .i64 S.label)]
abbrev oX (S:Sch) (v l:V) (m:Nat):Ob:= .mix 127 [.pv (.sl none S.attrs.length (cc S.attrs)),.pv (.sl none S.rels.length (bj S.rels)),.pv (.sl none S.feats.length (bm S.feats)),.pv (.int .i64 S.label),v,l,.map m]
abbrev oX2 (J:JD) (m:Nat):Ob:=oX J.S (.pv (dbP J.T)) (.pv J.lp) m
abbrev oB (W:WD) (p a l b c:Nat):Ob:= .mix 155 [.ptr p 0,.pv W.ch,.pv W.ke,.pv W.ho,.pv W.wa,.pv W.g0,.pv W.g1,.pv W.g2,.pv W.g3,.pv W.g4,.pv W.lf,.pv W.wt,.pv .nilmap,.osl a 1 l,.osl b 1 l,.map c]
abbrev oN (W:WD) (p a l b c:Nat):Ob:= .mix 240 [.ptr p 0,.pv W.ch,.pv W.ke,.pv W.ho,.pv W.wa,.pv W.g0,.pv W.g1,.pv W.g2,.pv W.g3,.pv W.g4,.pv W.g5,.pv W.g6,.pv W.lf,.pv W.wt,.pv .nilmap,.osl a 1 l,.osl b 1 l,.map c]
end
section
open Mk Jn
abbrev o6B (J:JD) (W:WD) (σ:Asg ByteArray) (now:List ByteArray) (mk mv:List PV):List (Nat×Ob):=[(big,oB W 9004 9001 J.S.attrs.length 9002 9003),(9001,.cells 9 (aA now)),(9002,.cells 4 (ay (stL σ J.S.attrs.length))),(9003,.mp mk mv),(9004,oX2 J 9005),(9005,.mp J.pk J.pv)]
theorem dV (J:JD) (hJ:JOk J) (W:WD) (σ:Asg ByteArray) (now:List ByteArray) (hn:NowOk J.S.attrs.length σ now) (mk mv:List PV) (r:Nat) (hr:r<J.S.rels.length) (x:Rw) (hx:x.v.length=J.S.rels[r].2.length):
  FnO Tryz.prog 102 6 0 [.ptr big 0,.pv (.int .i64 r),.pv (sJ x)] (o6B J W σ now mk mv) (fun v ob'=>v= .pv (.bool (agr J.S.rels[r].2 σ x.v))/\ob'=ar (o6B J W σ now mk mv)):=by
 refine FnO.of func102 O ntmps102 OG fun m0 w0 F R0=>?_
 have hS:=hJ.s;have hrne:=ew hr;have hra:(bj J.S.rels)[r*2+1]? =some (ak J.S.rels[r].2):=by
  have h2:(((bj J.S.rels).drop (r*2)).take 2)[1]? =[PV.str J.S.rels[r].1,ak J.S.rels[r].2][1]? :=by rw [cW hr]
  simpa [vR,FJ] using h2
 have hrl:=hS.l _ (aJ hr);have hrb:=hS.b _ (aJ hr);have hSr:=hS.r;have hnl:=hn.l;rw [pq];generalize J.S.rels[r].2=A at*;refine Z2 O O O<|Gr O ?_;iterate 9 refine A1 O ?_
 refine Rs 18 O O (ag r underlying31 Eu O O O hr hrne)<|A1 O<|Rs 20 O O (ai ⟨_,underlying22,O⟩ O hra)<|Y2 O O ?_;refine Gl O (st:=fun x_0:Nat=>mkS [(0,.ptr big 0),(5,.ptr 0 0),(20,.pv (ak A)),(21,.pv (.int .i64 A.length)),(22,.pv (.int .i64 x_0))] [(big,oB W 9004 9001 J.S.attrs.length 9002 9003),(0,.mix 49 [.pv (aI x.v),.pv (.int .i64 x.w)]),(9001,.cells 9 (aA now)),(9002,.cells 4 (ay (stL σ J.S.attrs.length))),(9003,.mp mk mv),(9004,oX2 J 9005),(9005,.mp J.pk J.pv)] 1)
  (I:=fun x_0=>x_0<=A.length/\((A.zip x.v).take x_0).all (agP σ)=true) (μ:=fun x_0=>A.length-x_0) (x0:=(0)) (Io (aS O) (aO O) O O) (⟨eF _,O⟩) ?_
 rintro j ⟨hj,hall⟩;refine Z1 O O ?_;refine Gp O O (fun hc23=>?_) (fun hc23=>?_)
 ·have hlj:j<A.length:=OC;have hzs:=eM hx hlj (agP σ);obtain ⟨a,haa⟩:=rK (hrb _ (aJ hlj)).1;have hal:a<J.S.attrs.length:=by have:=(hrb _ (aJ hlj)).2;omega
  have hpv:(aE A)[j*1]? =some (.int .i64 (a:Int)):=by rw [<-haa];simp [hlj]
  have hpn:=aH hlj;have hjv:j<x.v.length:=OC;have hsv:=aM hjv;have hsn:=bc hjv;have hset:=DW (σ:=σ) hal;have hnow:=aM (l:=now) (k:=a) OC;have hsl:(ay (stL σ J.S.attrs.length)).length=J.S.attrs.length:=by rw [rJ,cK]
  have hnl2:(aA now).length=J.S.attrs.length:=by rw [rJ,hnl]
  rw [hall,haa,Oh] at hzs;refine Il<|Z2 O O O<|Rs 26 O O (ai ⟨_,underlying3,O⟩ O hpv)<|Y2 O O ?_;by_cases hsg:(σ (a:Int)).isSome=true
  ·have hval:=Option.some_get hsg;have hnv:now[a]'OC=(σ (a:Int)).get hsg:=hn.e a OC _ hval.symm;generalize hgz:(σ (a:Int)).get hsg=z at*;rw [gW hval.symm] at hzs;rw [hsg] at hset;rw [hnv] at hnow;refine Ge O follows [0,1,2,3,4,5,6,7,8,9,10,11,12,13,14,15,16,17,18,19,20,21] OD ?_;iterate 6 refine D1 O O ?_
   refine Ds 33 [_] O O O (fun τ h=>aC ⟨_,underlying4,O⟩ (Ee h 0 O O) (Eo h 0 O O) hset) O OD ?_;iterate 7 refine D1 O O ?_
   refine Dg 41 [_] O O O O (fun τ h=>aC ⟨_,underlying9,O⟩ (Ee h 0 O O) (Eo h 0 O O) hnow) O OD ?_;iterate 4 refine D1 O O ?_
   refine Dg 46 [] O O O O (fun τ h=>ai ⟨_,underlying9,O⟩ (Ee h 0 O O) hsv) O OD ?_;iterate 2 refine D1 O O ?_
   refine ⟨OD,?_⟩;refine Gc O O (fun hc48=>?_) (fun hc48=>?_)
   ·exact Z1 O O<|Gt O<|⟨[(6,.pv (.bool false))],o6B J W σ now mk mv,[.pv (.bool false)],Io (aS O) (aO O) O O,O,O,O,af (fun b=>V.pv (.bool b)) (pZ (hzs.trans (Ha hc48))).symm,O⟩
   ·exact Il<|Z2 O O O<|⟨(j+1),Io (aS O) (aO O) O O,⟨OC,hzs.trans (G6 hc48)⟩,OC⟩
  ·have hno:σ (a:Int)=none:=by cases h:σ (a:Int) with | none=>rfl | some x=>rw [h] at hsg;exact absurd O hsg
   rw [oM hno] at hzs;rw [J8 hsg] at hset;refine Ge O follows [0,1,2,3,4,5,6,7,8,9,10,11,12,13,14,15,16,17,18,19,20,21] OD ?_;iterate 6 refine D1 O O ?_
   refine Ds 33 [_] O O O (fun τ h=>aC ⟨_,underlying4,O⟩ (Ee h 0 O O) (Eo h 0 O O) hset) O OD ?_;iterate 15 refine D1 O O ?_
   refine ⟨OD,?_⟩;refine Gc O O (fun hc48=>absurd hc48 OG) (fun hc48=>?_);exact Il<|Z2 O O O<|⟨(j+1),Io (aS O) (aO O) O O,⟨OC,hzs⟩,OC⟩
 ·rw [bk OH] at hall;exact Gx O<|Z1 O O<|Gt O<|⟨[(6,.pv (.bool true))],o6B J W σ now mk mv,[.pv (.bool true)],Io (aS O) (aO O) O O,O,O,O,af (fun b=>V.pv (.bool b)) hall.symm,O⟩
end
end Go.Proofs.YtedfonppffochaaGreatDoor
