/- Lemmas. No condition. -/
import Derived.Handed
import Derived.LaidMore
import Derived.LaidLaws
import Derived.LaidHandle
import Derived.MakeChecks
import Derived.Lib.LaidTab
import Derived.Deep.Slices
import Derived.ChangeArms
import Derived.OpenShut
import Derived.Test.YtedfonppffochaaGreatDoorJ913
set_option maxRecDepth 100000
set_option maxHeartbeats 4000000
open Go.RowKit Go.Proofs.Tryz
namespace Go.Proofs.YtedfonppffochaaGreatDoor
section
open Mk Jn
theorem Ld {z:Nat} (h0:z≠0) (hz:z<1000000000):aj z=[z]:=by
 rw [aj,kH h0,OT hz,OR hz,aj,qY O]
theorem J6 (s:ByteArray) (h:bo s=true) (hz:(rdZ s).natAbs<1000000000):FnP prog 181 [.str s] (· = .tup [.int .i64 (rdZ s),.bool true]):=by
 refine FnP.of func181 O ntmps181 Ps fun m0 w0 F R0=>?_
 have hv:=H2 s;rw [h] at hv;have hrd:FnP prog 114 [.str s] (· = .agg [.bool (decide (rdZ s<0)),pli (aj (rdZ s).natAbs)]):=IF s (dA h).1 (by have:=(dA h).2;omega);have hof:FnP prog 56 [.int .i64 4611686018427387904] (· = .agg [.bool false,pli (aj (4611686018427387904:Int).natAbs)]):=Kv 4611686018427387904 Pq Pq;have hl1:(aj (rdZ s).natAbs).length<=1:=bF.2 Po;have hl2:(aj (4611686018427387904:Int).natAbs).length<=3:=bF.2 Pq;have hsz:=Dq (rdZ s).natAbs (4611686018427387904:Int).natAbs Po Po;have hcm:Ep (rdZ s).natAbs (4611686018427387904:Int).natAbs= -1:=by unfold Ep;rw [qY Po]
 rw [hcm] at hsz;have hlm:∀ k,k<(aj (rdZ s).natAbs).length->k=0/\(aj (rdZ s).natAbs).length=1/\lim (aj (rdZ s).natAbs) k=(rdZ s).natAbs:=fun k hk=>by
  have h0:(rdZ s).natAbs≠0:=fun e=>by rw [e,aV] at hk;simp at hk
  rw [Ld h0 hz] at hk ⊢;have:k=0:=by simpa using hk
  subst this;exact ⟨O,O,by simp [lim]⟩
 have hl0:(aj (rdZ s).natAbs).length=0->(rdZ s).natAbs=0:=fun e=>cU.1 e
 have hfl:=fun k (hk:k<(aj (rdZ s).natAbs).length)=>BX hk
 have hfn:=fun k (hk:k<(aj (rdZ s).natAbs).length)=>C4 hk
 generalize aj (rdZ s).natAbs=L at*;generalize aj (4611686018427387904:Int).natAbs=M at*;refine Z2 O O O<|Z1 O O<|Rs 9 O O (ae call113 hv O)<|A1 O ?_;refine Gc O O (fun hc10=>absurd hc10 Ps) (fun hc10=>?_);refine Il<|Z1 O O<|Rs 12 O O (ae call114 hrd O)<|Y2 O O<|Gr O<|Rs 13 O O (ae call56 hof O)<|Y2 O O<|Z4 O O O O O<|Rs 18 O O (ae call173 hsz O)<|A1 O ?_;refine Gp O O (fun hc19=>absurd hc19 Ps) (fun hc19=>?_);refine Il<|Z1 O O<|Gr O ?_;iterate 5 refine A1 O ?_
 refine Gl O (st:=fun ac:Nat×Int=>mkS [(4,.ptr 0 0),(6,.pv (.int .i64 ac.2)),(7,.pv (.int .i64 ((ac.1:Int)-1)))] [(0,.mix 100 [.pv (.bool (decide (rdZ s<0))),.pv (pli L)])] 2)
  (I:=fun ac=>ac.1<=L.length/\ac.2=if ac.1=0 then ((rdZ s).natAbs:Int) else 0) (μ:=fun ac=>ac.1) (x0:=(L.length,0)) (Io (aS O) (aO O) O O) (⟨xV _,by split;(have:=hl0 Pr;omega);rfl⟩) ?_
 rintro ⟨k,n⟩ ⟨hk,hn⟩;try simp only at hk hn ⊢
 refine Z2 O O O ?_;refine Gp O O (fun hc25=>?_) (fun hc25=>?_)
 ·have hk0:1<=k:=Po;obtain ⟨hj0,hLl,hlim⟩:=hlm (k-1) Po;have hk1:k=1:=Po;subst hk1;have hn0:n=0:=by rw [hn,kH Po]
  subst hn0;have hf:=hfl 0 Po;have hfe:=hfn 0 Po;rw [show lim L 0=(rdZ s).natAbs from hlim] at hf;refine Il<|Gr O ?_;iterate 5 refine A1 O ?_
  exact Rs 33 O O (ag 0 underlying22 sz3 O O Po Po hfe)<|Rs 34 O O (ai ⟨_,underlying3,O⟩ O hf)<|Y2 O O<|Z3 O O O O<|⟨(0,((rdZ s).natAbs:Int)),Io ⟨O,af (fun z=>V.pv (.int .i64 z)) Po,O,Pw⟩ (aO O) O O,⟨bk _,by rw [qY O]⟩,Pv⟩
 ·have hk0:k=0:=Po;subst hk0;rw [qY O] at hn;subst hn;refine Gx O<|Z2 O O O ?_;refine Gc O O (fun hc37=>?_) (fun hc37=>?_)
  ·refine Z3 O O O O<|Z3 O O O O<|Gt O ?_;have hz0:rdZ s<0:=by simpa using hc37
   exact ⟨_,_,O,O,af (fun q=>PV.tup [PV.int IntKind.i64 q,PV.bool true]) (show-((rdZ s).natAbs:Int)=rdZ s by omega)⟩
  ·refine Il<|Z3 O O O O<|Gt O ?_;have hz0:¬ rdZ s<0:=by simpa using hc37
   exact ⟨_,_,O,O,af (fun q=>PV.tup [PV.int IntKind.i64 q,PV.bool true]) (show ((rdZ s).natAbs:Int)=rdZ s by omega)⟩
theorem Ks {v:ByteArray} (h:cS v=false):Et v=EE:=by unfold Et;rw [h];rfl
theorem LR {v:ByteArray} (h:NumOk v):bo (Et v)=true/\1<=rdZ (Et v)/\rdZ (Et v)<=12:=by
 cases hs:cS v with
 | true=>have e:Et v=o5 v:=by unfold Et;rw [hs];rfl
         rw [e];exact h.d hs
 | false=>rw [Ks hs];exact ⟨nk,by rw [se];decide,by rw [se];decide⟩
theorem Ho (nm v:ByteArray) (kd:Int) (hk:kd=1\/kd=2) (h1:kd=1->cS v=false) (h:NumOk v) (hne0:v≠⟨#[]⟩):FnP prog 126 [.agg [.str nm,.int .i64 kd],.str v] (· = .bool true):=by
 refine FnP.of func126 O ntmps126 Ps fun m0 w0 F R0=>?_
 have hpa:=Kh v (by have:=J0 v h.r;omega);rw [h.r,qY O,qY O] at hpa;have hden:=LR h;have hd1:kd=1->Et v=EE:=fun e=>Ks (h1 e)
 generalize Et v=dn at*;have hs1:=J6 (sO v) h.n.1 h.n.2;have hs2:=J6 dn hden.1 Po;have hn2:=h.n.2;have hne:(v.toList==(⟨#[]⟩:ByteArray).toList)=false:=by rw [MQ];exact fun e=>hne0 (bytes_inj e)
 have e1:decide (rdZ (sO v)>= -1000000000)=true:=IS Po;have e2:decide (rdZ (sO v)<=1000000000)=true:=IS Po;have e3:decide (rdZ dn<=12)=true:=IS hden.2.2;refine Z2 O O O<|Z4 O O O O O ?_;apply Ix 4 15 19 [16,17,18] O Py
 ·intro hb3;iterate 4 refine A1 O ?_
  exact Iq Px O O O
 ·intro hb3;iterate 4 refine A1 O ?_
  exact Iq Px O O O
 refine Gc O O (fun hc19=>absurd hc19 (fun h=>by simp at h;omega)) (fun hc19=>?_);refine Il<|Z1 O O<|Rs 21 O O (XJ.cast (v':= .pv (.bool false)) (cF O O O) (af (fun b=>V.pv (.bool b)) hne)) ?_;refine Gc O O (fun hc21=>absurd hc21 Ps) (fun hc21=>?_);refine Il<|Z3 O O O O ?_;refine Gc O O (fun hc24=>absurd hc24 Pt) (fun hc24=>?_);refine Il<|Z1 O O<|Rs 29 O O (ae call180 hpa O) ?_;iterate 7 refine A1 O ?_
 by_cases hk1:kd=1
 ·subst hk1;obtain rfl:=hd1 O;refine Gr O ?_;iterate 8 refine A1 O ?_
  refine Rg 41 O O O (XJ.cast (v':= .pv (.bool false)) (cF O O O) (af (fun b=>V.pv (.bool b)) Pp))<|Y2 O O ?_;refine Gc O O (fun hc43=>absurd hc43 Ps) (fun hc43=>?_);refine Il<|Z1 O O<|Rs 46 O O (ae call181 hs1 O) ?_;iterate 5 refine A1 O ?_
  refine Z1 O O<|Rs 51 O O (ae call181 hs2 O) ?_;iterate 5 refine A1 O ?_
  refine Gr O ?_;iterate 6 refine A1 O ?_
  exact Rg 60 O O O (XJ.cast (v':= .pv (.bool true)) (aQ O O O) (af (fun b=>V.pv (.bool b)) e1))<|Y3 O O O<|Rg 64 O O O (XJ.cast (v':= .pv (.bool true)) (aQ O O O) (af (fun b=>V.pv (.bool b)) e2))<|Y3 O O O<|Rg 68 O O O (XJ.cast (v':= .pv (.bool true)) (aQ O O O) (af (fun b=>V.pv (.bool b)) e3))<|Y2 O O<|Gt O<|⟨_,_,O,O,O⟩
 ·have hk2:(kd==1)=false:=by simpa using hk1
  refine Gr O ?_;iterate 5 refine A1 O ?_
  refine Rg 38 O O O (XJ.cast (v':= .pv (.bool false)) (aQ O O O) (af (fun b=>V.pv (.bool b)) hk2)) ?_;iterate 5 refine A1 O ?_
  refine Gc O O (fun hc43=>absurd hc43 Ps) (fun hc43=>?_);refine Il<|Z1 O O<|Rs 46 O O (ae call181 hs1 O) ?_;iterate 5 refine A1 O ?_
  refine Z1 O O<|Rs 51 O O (ae call181 hs2 O) ?_;iterate 5 refine A1 O ?_
  refine Gr O ?_;iterate 6 refine A1 O ?_
  exact Rg 60 O O O (XJ.cast (v':= .pv (.bool true)) (aQ O O O) (af (fun b=>V.pv (.bool b)) e1))<|Y3 O O O<|Rg 64 O O O (XJ.cast (v':= .pv (.bool true)) (aQ O O O) (af (fun b=>V.pv (.bool b)) e2))<|Y3 O O O<|Rg 68 O O O (XJ.cast (v':= .pv (.bool true)) (aQ O O O) (af (fun b=>V.pv (.bool b)) e3))<|Y2 O O<|Gt O<|⟨_,_,O,O,O⟩
theorem Kf (nm:ByteArray) (kd:Int) (hk:kd=1\/kd=2\/kd=3):FnP prog 126 [.agg [.str nm,.int .i64 kd],.str ⟨#[]⟩] (· = .bool true):=by
 refine FnP.of func126 O ntmps126 Ps fun m0 w0 F R0=>?_
 refine Z2 O O O<|Z4 O O O O O ?_;apply Ix 4 15 19 [16,17,18] O Py
 ·intro hb3;iterate 4 refine A1 O ?_
  exact Iq Px O O O
 ·intro hb3;iterate 4 refine A1 O ?_
  exact Iq Px O O O
 refine Gc O O (fun hc19=>absurd hc19 (fun h=>by simp at h;omega)) (fun hc19=>?_);refine Il<|Z1 O O<|Rs 21 O O (XJ.cast (v':= .pv (.bool true)) (cF O O O) (af (fun b=>V.pv (.bool b)) (NZ _))) ?_;refine Gc O O (fun hc21=>?_) (fun hc21=>absurd hc21 Ps);exact Z1 O O<|Gt O<|⟨_,_,O,O,O⟩
theorem KO (nm v:ByteArray) (hw:oS v=true) (hv:v.size<=1000) (hne0:v≠⟨#[]⟩):FnP prog 126 [.agg [.str nm,.int .i64 3],.str v] (· = .bool true):=by
 refine FnP.of func126 O ntmps126 Ps fun m0 w0 F R0=>?_
 have hne:(v.toList==(⟨#[]⟩:ByteArray).toList)=false:=by rw [MQ];exact fun e=>hne0 (bytes_inj e)
 have hws:=fI v Po;rw [hw] at hws;refine Z2 O O O<|Z4 O O O O O ?_;apply Ix 4 15 19 [16,17,18] O Py
 ·intro hb3;iterate 4 refine A1 O ?_
  exact Iq Px O O O
 ·intro hb3;iterate 4 refine A1 O ?_
  exact Iq Px O O O
 refine Gc O O (fun hc19=>absurd hc19 Ps) (fun hc19=>?_);refine Il<|Z1 O O<|Rs 21 O O (XJ.cast (v':= .pv (.bool false)) (cF O O O) (af (fun b=>V.pv (.bool b)) hne)) ?_;refine Gc O O (fun hc21=>absurd hc21 Ps) (fun hc21=>?_);refine Il<|Z3 O O O O ?_;refine Gc O O (fun hc24=>?_) (fun hc24=>absurd hc24 Ps);exact Z1 O O<|Rs 26 O O (ae call124 hws O)<|A1 O<|Gt O<|⟨_,_,O,O,O⟩
theorem n10:NumOk ⟨#[49,48]⟩:=⟨Pq,Pp,⟨Pp,by decide+kernel⟩,fun h=>absurd h (by decide+kernel)⟩
theorem Kj (nm v:ByteArray) (kd:Int) (hk:kd=1\/kd=2\/kd=3) (hv:v∈gX kd):FnP prog 126 [.agg [.str nm,.int .i64 kd],.str v] (· = .bool true):=by
 by_cases hne:v=⟨#[]⟩
 ·rw [hne];exact Kf nm kd hk
 rcases hk with rfl | rfl | rfl
 ·simp only [gX,rI,sh,NC,Pf] at hv;have hv:=hv.resolve_left hne;simp at hv;rcases hv with rfl | rfl | rfl
  ·exact Ho nm _ 1 (.inl O) (fun _=>by kernel_rfl) n1 hne
  ·exact Ho nm _ 1 (.inl O) (fun _=>by kernel_rfl) n2 hne
  ·exact Ho nm _ 1 (.inl O) (fun _=>by kernel_rfl) n10 hne
 ·refine Ho nm v 2 (.inr O) (fun h=>absurd h Pq) ?_ hne;simp only [gX,C6,sh,NC,Pf] at hv;have hv:=hv.resolve_left hne;simp at hv;rcases hv with rfl | rfl | rfl | rfl | rfl | rfl | rfl | rfl
  ·exact n0
  ·exact n1
  ·exact nm2
  ·exact nh
  ·exact n3
  ·exact n53
  ·exact n1
  ·exact n2
 ·simp only [gX,Fk,sh,NC,Pf] at hv;have hv:=hv.resolve_left hne;simp at hv;rcases hv with rfl | rfl | rfl<;>exact KO nm _ Pp Pq hne
structure Tbl6 (S:Sch) (A:List Int) (l:List Rw):Prop where
 v:∀ x∈l,MdV S A x.v
 w:∀ x∈l,1<=x.w/\x.w<=100
 asc:Aj l
theorem KX {S:Sch} {A:List Int} {most:Nat} (hm:most<=20) {l:List Rw} (h:MdT S A most l):Tbl6 S A l:=by
 obtain ⟨l0,rfl,hl,hx⟩:=h;have hp:∀ z∈l0,0<z.w:=fun z hz=>by have:=(hx z hz).1;omega
 have hs:=tU hp;have ht:o0 l0<=5*l0.length:=GK fun x hx'=>(hx x hx').1.2
 refine ⟨fun x hx'=>?_,fun x hx'=>?_,hs.asc⟩
 ·obtain ⟨z,hz,e⟩:=hs.val x hx';rw [e];exact (hx z hz).2
 ·have h1:=zR (hs.pos hp) x hx';rw [hs.tot] at h1;have:=hs.pos hp x hx';omega
theorem Kn (S:Sch) (hB:SB S) (hS:SJn S) (hV:cI S=0) (hk:∀ a∈S.attrs,a.2=1\/a.2=2\/a.2=3) (r:Nat) (hr:r<S.rels.length) (l:List Rw) (hl:l.length<=60) (hT:Tbl6 S S.rels[r].2 l):FnP prog 84 [gK S,.int .i64 r,bL l,.int .i64 1,.int .i64 60] (· = .int .i64 0):=by
 refine FnP.of func84 O ntmps84 Ps fun m0 w0 F R0=>?_
 have hchk:=qT S hB;rw [hV] at hchk;have hrow:=cW hr;have hrne:=ew hr;have hrl:=hS.l _ (aJ hr);have hrb:=hS.b _ (aJ hr);have hSr:=hS.r;have hSa:=hS.a;have hTv:=hT.v;have hTw:=hT.w;have hTa:=hT.asc;clear hT;generalize S.rels[r]=rr at*;refine Z2 O O O<|Z1 O O<|Rs 18 O O (ae call82 hchk O)<|A1 O<|Z2 O O O ?_;refine Gc O O (fun hc20=>absurd hc20 Ps) (fun hc20=>?_);refine Il<|Z3 O O O O ?_;apply Ix 6 24 30 [25,26,27,28,29] O Py
 ·intro hb2;iterate 6 refine A1 O ?_
  exact Iq Px O O O
 ·intro hb2;iterate 6 refine A1 O ?_
  exact Iq Px O O O
 refine Gc O O (fun hc30=>absurd hc30 (fun h=>by simp at h;omega)) (fun hc30=>?_);refine Il<|Z4 O O O O O ?_;refine Gp O O (fun hc34=>absurd hc34 Po) (fun hc34=>?_);refine Il<|Z4 O O O O O ?_;first | refine A3 O Pr ?_ | refine A1 O ?_
 refine Y2 O O<|Z3 O O O O ?_;refine Gl O (st:=fun ac:Nat=>mkS [(2,.pv (bL l)),(3,.pv (.int .i64 1)),(5,.ptr 0 0),(12,.ptr 1 0),(40,.pv (bL l)),(41,.pv (.int .i64 l.length)),(42,.pv (.int .i64 ac))] [(0,oZ S),(1,.mix 30 [.pv (.str rr.1),.pv (ak rr.2)])] 2)
  (I:=fun ac=>ac<=l.length) (μ:=fun ac=>l.length-ac) (x0:=(0)) (Io (aS O) (aO Pp) O O) (bk _) ?_
 rintro k hk2;refine Z1 O O ?_;refine Gp O O (fun hc43=>?_) (fun hc43=>?_)
 ·have hlt:k<l.length:=Po;have hrw:=aN hlt;have hrn:=aW hlt;obtain ⟨hxl,hxv⟩:=hTv _ (aJ hlt);obtain ⟨hw1,hw2⟩:=hTw _ (aJ hlt);have hprev:0<k->∃ hq:k-1<l.length,aZ (l[k-1]'hq).v l[k].v=true:=fun h0=>by
   obtain ⟨j,rfl⟩:∃ j,k=j+1:=⟨k-1,Po⟩;exact ⟨by simp only [Nat.add_sub_cancel];omega,by simpa using xS hTa hlt⟩
  have hpl:∀ hq:k-1<l.length,(l[k-1]'hq).v.length=rr.2.length:=fun hq=>(hTv _ (aJ hq)).1
  have hpr:∀ hq:k-1<l.length,(aB l)[(k-1)*2]? =some (aI (l[k-1]'hq).v):=fun hq=>nr hq
  generalize l[k]=x at*;refine Il<|Z2 O O O ?_;first | refine A3 O Pr ?_ | refine A1 O ?_
  refine Y3 O O O<|Gr O ?_;iterate 7 refine A1 O ?_
  refine Gc O O (fun hc53=>absurd hc53 Pt) (fun hc53=>?_);refine Il<|Z4 O O O O O ?_;refine Gl O (st:=fun x_1:Nat=>mkS [(2,.pv (bL l)),(3,.pv (.int .i64 1)),(5,.ptr 0 0),(12,.ptr 1 0),(13,.pv (.int .i64 k)),(14,.ptr 2 0),(40,.pv (bL l)),(41,.pv (.int .i64 l.length)),(42,.pv (.int .i64 k)),(55,.pv (aI x.v)),(56,.pv (.int .i64 x.v.length)),(57,.pv (.int .i64 x_1))] [(0,oZ S),(1,.mix 30 [.pv (.str rr.1),.pv (ak rr.2)]),(2,.mix 49 [.pv (aI x.v),.pv (.int .i64 x.w)])] 3)
   (I:=fun x_1=>x_1<=x.v.length) (μ:=fun x_1=>x.v.length-x_1) (x0:=(0)) (Io (aS O) (aO Pp) O O) (bk _) ?_
  rintro j hj;refine Z1 O O ?_;refine Gp O O (fun hc58=>?_) (fun hc58=>?_)
  ·have hjv:j<x.v.length:=Po;have hlj:j<rr.2.length:=Po;obtain ⟨a,haa⟩:=so (hrb _ (aJ hlj)).1;have hal:a<S.attrs.length:=by have:=(hrb _ (aJ hlj)).2;omega
   have hpv:(aE rr.2)[j*1]? =some (.int .i64 (a:Int)):=by rw [<-haa];simp [hlj]
   have hpn:=aH hlj;have hsv:=aM hjv;have hsn:=bc hjv;have har:=od hal;have han:=lq hal;have hmv:=hxv j hjv hlj;rw [haa,Mb,mC hal] at hmv;have hvl:=Kj S.attrs[a].1 _ _ (hk _ (aJ hal)) hmv;refine Il<|Z2 O O O<|Rs 61 O O (ai ⟨_,underlying9,O⟩ O hsv)<|Y2 O O<|Ge O follows [0,1,2,3,4,5,6,7,8,9,10,11] Pp ?_;iterate 6 refine D1 O O ?_
   refine Ds 68 [] O O O (fun τ h=>ai ⟨_,underlying3,O⟩ (Ee h 0 O O) hpv) O Pp<|Ds 69 [] O O O (fun τ h=>ag a underlying28 G1 (Ee h 0 O O) (Ee h 1 O O) O hal han) O Pp ?_;first | refine D3 O O Pr ?_ | refine D1 O O ?_
   refine D1 O O<|Ds 72 [] O O O (fun τ h=>ae call126 hvl (h.bt O)) O Pp<|D1 O O ?_;refine ⟨Pp,?_⟩;refine Gc O O (fun hc73=>absurd hc73 Ps) (fun hc73=>?_);exact Il<|Z2 O O O<|⟨(j+1),Io (aS O) (aO Pp) O O,Po,Po⟩
  ·refine Gx O<|Gr O ?_;iterate 5 refine A1 O ?_
   apply Ix 4 79 83 [80,81,82] O Py
   ·intro hb4;iterate 4 refine A1 O ?_
    exact Iq Px O O O
   ·intro hb4;iterate 4 refine A1 O ?_
    exact Iq Px O O O
   refine A1 O ?_;apply Ix 4 84 88 [85,86,87] O Py
   ·intro hb9;iterate 4 refine A1 O ?_
    exact Iq Px O O O
   ·intro hb9;iterate 4 refine A1 O ?_
    exact Iq Px O O O
   refine Gc O O (fun hc88=>absurd hc88 (fun h=>by simp at h;omega)) (fun hc88=>?_);refine Il ?_;by_cases hk0:k=0
   ·refine Ge O follows [0,1,2,3,4,5,6,7,8,9,10,11,12,13] Pp<|D1 O O<|Ds 90 [] O O O (fun τ h=>XJ.cast (v':= .pv (.bool false)) (aQ (Ee h 0 O O) (Ee h 1 O O) O) (af (fun b=>V.pv (.bool b)) (Mu Po))) O Pp ?_;iterate 12 refine D1 O O ?_
    refine ⟨Pp,?_⟩;refine Gc O O (fun hc102=>absurd hc102 Ps) (fun hc102=>?_);exact Il<|Z2 O O O<|⟨(k+1),Io (aS O) (aO Pp) O O,Po,Po⟩
   ·obtain ⟨hq,hls⟩:=hprev Po;have hjl:=vV _ x.v (by rw [hpl hq];omega) Po;rw [hls] at hjl;have hpq:=hpr hq;refine Ge O follows [0,1,2,3,4,5,6,7,8,9,10,11,12,13] Pp<|D1 O O<|Ds 90 [] O O O (fun τ h=>XJ.cast (v':= .pv (.bool true)) (aQ (Ee h 0 O O) (Ee h 1 O O) O) (af (fun b=>V.pv (.bool b)) (IS Po))) O Pp ?_;iterate 4 refine D1 O O ?_
    refine Dg 95 [] O O O O (fun τ h=>ag (k-1) underlying38 lM (Ee h 0 O O) (Ee h 1 O O) Po hq hrn) O Pp<|D1 O O<|Dg 97 [] O O O O (fun τ h=>ai ⟨_,underlying47,O⟩ (Ee h 0 O O) hpq) O Pp ?_;iterate 2 refine D1 O O ?_
    refine Dg 100 [] O O O O (fun τ h=>ae call20 hjl (h.bt O)) O Pp ?_;iterate 2 refine D1 O O ?_
    refine ⟨Pp,?_⟩;refine Gc O O (fun hc102=>absurd hc102 Ps) (fun hc102=>?_);exact Il<|Z2 O O O<|⟨(k+1),Io (aS O) (aO Pp) O O,Po,Po⟩
 ·exact Gx O<|Z1 O O<|Gt O<|⟨_,_,O,O,O⟩
theorem Le (S:Sch) (hB:SB S) (hS:SJn S) (hV:cI S=0) (hk:∀ a∈S.attrs,a.2=1\/a.2=2\/a.2=3) (r:Nat) (hr:r<S.rels.length) (l:List Rw) (hl:l.length<=60) (hT:Tbl6 S S.rels[r].2 l):FnP prog 46 [gK S,.int .i64 r,bL l] (· = .int .i64 0):=by
 refine FnP.of func46 O ntmps46 Ps fun m0 w0 F R0=>?_
 have hr:=Kn S hB hS hV hk r hr l hl hT;exact Z2 O O O<|Z3 O O O O<|Rs 10 O O (ae call84 hr O)<|A1 O<|Gt O<|⟨_,_,O,O,O⟩
theorem Jt (S:Sch) (hB:SB S) (hS:SJn S) (hV:cI S=0) (hn:∀ r∈S.rels,r.2.Nodup) (hk:∀ a∈S.attrs,a.2=1\/a.2=2\/a.2=3) (r:Nat) (hr:r<S.rels.length) (l:List Rw) (hl:l.length<=60) (hT:Tbl6 S S.rels[r].2 l):
  FnP prog 21 [gK S,.int .i64 r,bL l] (· =bL (gF S S.rels[r].2 l)):=by
 refine FnP.of func21 O ntmps21 Ps fun m0 w0 F R0=>?_
 have ht:=Le S hB hS hV hk r hr l hl hT;have hjn:=ga S hB hS hV;have hml:=fun (x:Rw)=>tx (jF hV) hn (aJ hr) x
 have hJl:=Ak (S:=S) (n:=S.attrs.length);have hrn:=ew hr;have hra:=yR hr;have hrl:=hS.l _ (aJ hr);have hSa:=hS.a;have hxl:=fun x hx=>(hT.v x hx).1
 unfold gF;clear hT;generalize bE (S.rels.flatMap (·.2)) S.rels[r].2=f at*;generalize S.rels[r].2=A at*;generalize (joK S S.attrs.length).map Int.ofNat=J at*;refine Z2 O O O<|Z3 O O O O<|Rs 17 O O (ae call46 ht O)<|A1 O ?_;refine Gc O O (fun hc18=>absurd hc18 Ps) (fun hc18=>?_);refine Il<|Z1 O O<|Rs 20 O O (ae call26 hjn O)<|A1 O<|Z1 O O<|Im (Iu 8 1 2 49 O O)<|Z3 O O O O ?_;refine Gl O (st:=fun ac:Nat=>mkS [(1,.pv (.int .i64 r)),(3,.ptr 0 0),(7,.pv (ak J)),(8,.gsl 1 2 (iP f l ac)),(21,.pv (bL l)),(22,.pv (.int .i64 l.length)),(23,.pv (.int .i64 ac))] [(0,oZ S),(1,.gro 49 (aB ((l.take ac).filter f)))] 2)
  (I:=fun ac=>ac<=l.length) (μ:=fun ac=>l.length-ac) (x0:=(0)) (Io (aS O) (aO Pp) O O) (bk _) ?_
 rintro k hk2;refine Z1 O O ?_;refine Gp O O (fun hc24=>?_) (fun hc24=>?_)
 ·have hkl:k<l.length:=Po;have hyr:=aN hkl;have hyn:=aW hkl;have hyv:=hxl _ (aJ hkl);have hmy:=hml l[k];have hls:=ry (f:=f) hkl;have hlk:iP f l k<=k:=by unfold iP;exact AT (Mn _ _) Pt
  have hfs:(l.take (k+1)).filter f=if f l[k]=true then (l.take k).filter f++[l[k]] else (l.take k).filter f:=by
   rw [aR hkl,MR];by_cases hf:f l[k]=true<;>simp [hf]
  have hlc:(aB ((l.take k).filter f)).length=iP f l k*2:=by rw [aK];rfl
  generalize l[k]=y at*;refine Il<|Gr O<|Rs 25 O O (ag k underlying38 lM O O O hkl hyn)<|Rs 26 O O (db ⟨_,underlying49,O⟩ lM O hyr O)<|Y2 O O<|Z1 O O<|Z3 O O O O<|Rs 30 O O (ag r underlying31 Eu O O O hr hrn)<|A1 O<|Rs 32 O O (ai ⟨_,underlying22,O⟩ O hra)<|Y2 O O ?_;refine Gl O (st:=fun x_1:Nat=>mkS [(1,.pv (.int .i64 r)),(3,.ptr 0 0),(7,.pv (ak J)),(8,.gsl 1 2 (iP f l k)),(10,.ptr 2 0),(11,.pv (.bool (!zj J A y.v x_1))),(21,.pv (bL l)),(22,.pv (.int .i64 l.length)),(23,.pv (.int .i64 k)),(32,.pv (ak A)),(33,.pv (.int .i64 A.length)),(34,.pv (.int .i64 x_1))] [(0,oZ S),(1,.gro 49 (aB ((l.take k).filter f))),(2,.mix 49 [.pv (aI y.v),.pv (.int .i64 y.w)])] 3)
   (I:=fun x_1=>x_1<=A.length) (μ:=fun x_1=>A.length-x_1) (x0:=(0)) (Io (aS O) (aO Pp) O O) (bk _) ?_
  rintro n hn2;refine Z1 O O ?_;refine Gp O O (fun hc35=>?_) (fun hc35=>?_)
  ·have hna:n<A.length:=Po;have hnv:n<y.v.length:=Po;have han:=aH hna;have hai:(aE A)[n*1]? =some (.int .i64 A[n]):=by simp [hna]
   have hyi:(aA y.v)[n*1]? =some (.str y.v[n]):=by simp [hnv]
   have hyne:=bc hnv;have hms:=qU (J:=J) hna hnv;have hin:=rK J A[n] Po;refine Il<|Z1 O O<|Rs 37 O O (ag n underlying22 sz3 O O O hna han)<|Rs 38 O O (ai ⟨_,underlying3,O⟩ O hai)<|Y2 O O ?_;obtain ⟨b1,hb1⟩:∃ b,b=zj J A y.v n:=⟨_,O⟩;obtain ⟨b2,hb2⟩:∃ b,b=(y.v[n].toList==(⟨#[]⟩:ByteArray).toList):=⟨_,O⟩;rw [<-hb1,<-hb2] at hms;rw [<-hb1];by_cases g1:b1=true
   ·subst g1;refine Gr O ?_;iterate 16 refine A1 O ?_
    exact Z2 O O O<|⟨(n+1),Io ⟨O,O,O,O,O,af (fun b=>V.pv (.bool b)) (by rw [hms];simp),O,O,O,O,O,O,Pw⟩ (aO Pp) O O,Po,Po⟩
   ·by_cases g2:b2=true
    ·obtain rfl:b1=false:=MH g1;subst g2;refine Gr O ?_;iterate 5 refine A1 O ?_
     refine Rg 44 O O O (ag n underlying47 sz9 O O O hnv hyne)<|Rg 45 O O O (ai ⟨_,underlying9,O⟩ O hyi)<|Rg 46 O O O (XJ.cast (v':= .pv (.bool false)) (cF O O O) (af (fun b=>V.pv (.bool (!b))) hb2.symm))<|Y3 O O O<|Rg 50 O O O (ae call64 hin O) ?_;iterate 4 refine A1 O ?_
     exact Z2 O O O<|⟨(n+1),Io ⟨O,O,O,O,O,af (fun b=>V.pv (.bool b)) (by rw [hms];simp),O,O,O,O,O,O,Pw⟩ (aO Pp) O O,Po,Po⟩
    ·obtain rfl:b1=false:=MH g1;obtain rfl:b2=false:=MH g2;refine Gr O ?_;iterate 5 refine A1 O ?_
     refine Rg 44 O O O (ag n underlying47 sz9 O O O hnv hyne)<|Rg 45 O O O (ai ⟨_,underlying9,O⟩ O hyi)<|Rg 46 O O O (XJ.cast (v':= .pv (.bool true)) (cF O O O) (af (fun b=>V.pv (.bool (!b))) hb2.symm)) ?_;iterate 8 refine A1 O ?_
     exact Z2 O O O<|⟨(n+1),Io ⟨O,O,O,O,O,af (fun b=>V.pv (.bool b)) (by rw [hms];simp),O,O,O,O,O,O,Pw⟩ (aO Pp) O O,Po,Po⟩
  ·have hnA:n=A.length:=Po;subst hnA;rw [vR hyv,hmy,Bool.not_not];refine Gx O<|Z1 O O ?_;refine Gc O O (fun hc55=>?_) (fun hc55=>?_)
   ·have hf:f y=true:=by simpa using hc55
    have hsn:aB ((l.take k).filter f)++[aI y.v,.int .i64 y.w]=aB ((l.take (k+1)).filter f):=by rw [hfs,qY hf];simp [aB]
    have hl3:iP f l k+1=iP f l (k+1):=by rw [hls,qY hf]
    refine Gr O ?_;iterate 5 refine A1 O ?_
    exact Z2 O O O<|⟨(k+1),Ip [0,4] ⟨O,O,O,af (fun n=>V.gsl 4 2 n) hl3,O,O,O,Pw⟩ ⟨Pp,IN (b:=some (.gro 49 (aB ((l.take k).filter f)++[aI y.v,.int .i64 y.w]))) Pp (af (fun c=>some (Ob.gro 49 c)) hsn),Pw⟩ O O Pq O,Po,Po⟩
   ·have hf:¬ f y=true:=by simpa using hc55
    exact Il<|Z2 O O O<|⟨(k+1),Io ⟨O,O,O,af (fun n=>V.gsl 1 2 n) (by rw [hls,kH hf]),O,O,O,Pw⟩ ⟨Pp,af (fun c=>some (Ob.gro 49 (aB c))) (by rw [hfs,kH hf]),Pw⟩ O O,Po,Po⟩
 ·have hke:k=l.length:=Po;subst hke;rw [uF,Mz];exact Im (Ir 1 O O)<|Gx O<|Z2 O O O<|Gt O<|⟨_,_,O,O,O⟩
end
section
section
variable {C:Ctx} {n:Nat} {σ:St} {dst:Option Tmp} {ty t:TypeId} {pos:String} {after:Array Edge} {gd:Option (Nat×Bool)} {x y:Operand}
theorem Ka {e:TypeId} {z:Value} {size bytes j id:Nat} {news:List PV} (he:ElemIs C.P t e z size bytes) (hs:σ.ev n x= .gsl id size 0)
  (hsrc:jA n σ y j news) (hl:news.length=j*size) (hlf:∀ c∈news,c.leaf=true) (hb:j<=1000000000) (hj:0<j):
  XJ C n ⟨dst,.call { callee:= .builtin .append,args:= #[x,y],argTypes:= #[t,t] },ty,pos,after,gd⟩ σ ⟨.pv (.sl none j news),[(id,none)],[]⟩:=by
 rintro a w Q ⟨m,R,hw⟩;obtain ⟨A0,c,hev,hkc,hcm,hz,hp⟩:=hw.gsl hs;obtain ⟨rfl,rfl,hmn⟩:=hz O;obtain ⟨A,c2,us,hev2,hr2,hrow⟩:=hsrc.row hw;have sub:∀ i x,upd m id none i=some x->m i=some x/\i≠id:=fun i x e=>by
  by_cases hi:i=id
  ·subst hi;rw [au] at e;cases e
  ·rw [aG _ _ hi] at e;exact ⟨e,hi⟩
 refine iG x y t O 0 e z size bytes he.u he.info he.zs he.pos he.by_ _ 0 j c2 A _ us hev hev2 (World.ownsRow_nil w 0 e size) hrow (by rw [hr2.length,hl]) (bU hr2 hlf) Po (bk _) ?_;intro A' c' w' hown' hgr hat
 simp only [Mt,MZ] at hown' hat ⊢;rcases hown'.2 with ⟨hv,h0⟩ | ⟨g,cap,cur,hv,_,hg,hkc',hcm',hcs',htk⟩
 ·omega
 ·simp only [Value.slice.injEq] at hv;obtain ⟨rfl, -,rfl⟩:=hv;have gge:w.heap.size<=g:=by
   rcases hat with h | ⟨g',h,hle⟩
   ·simp [Value.ownBlock] at h
   ·simp only [Value.ownBlock,JV] at h;subst h;exact hle
  have hul:us.length=j*size:=hown'.1;refine ⟨_,O,upd m id none,fun b=>R b\/b=g,?_⟩;rw [Iw];refine SW.put ((hw.drop id).HI hg hgr (fun q hq=>by simp [Value.ownBlock] at hq) (fun i b' N' hi e=>?_) (.inr ?_)) dst ?_
  ·have:=(hw.hr.own i b' N' (sub i _ hi).1).1;omega
  ·have:=hw.hr.frame.size;omega
  simp only [Rel,RelP];refine ⟨_,c',O,hkc',hcm',fun b h=>(by cases h),fun h=>(by cases h),fun _=>⟨g,0,us,rfl,?_,.inr rfl,fun q hq=>?_⟩⟩
  ·exact hr2.mono fun b' hb'=>⟨.inl hb',hgr.block b' (hw.hr.rsz b' hb') fun e=>by simp [Value.ownBlock] at e⟩
  ·simp only [World.cell?,hg,Mt];rw [<-htk,<-hul,Ma,qY hq,OW];rfl
end
end
section
open Mk Jn
theorem LC {α:Type} {l:List α} {k:Nat} (h:k<l.length) (f:α->Nat):((l.take (k+1)).map f).sum=((l.take k).map f).sum+f l[k]:=by
 rw [aR h,Mw,List.sum_append];simp
theorem Lt (n:Nat):Lib.itoa (n:Int)=Lib.decDigits n:=by
 unfold Lib.itoa;rw [kH Po,Mb]
theorem K8 {l:List Rw} (h:l.length<=2000):pJ l= .tup [bL l,.int .i64 0]:=by unfold pJ;rw [kH Po]
end
section
open Mk Jn
def agK (a:Int) (u:ByteArray) (q:Int×ByteArray):Bool:=a !=q.1||(u.toList==q.2.toList)
def agI (z:List (Int×ByteArray)) (p:Int×ByteArray):Bool:=z.all (agK p.1 p.2)
def agQ (A:List Int) (v:List ByteArray) (c:List Int×Rw):Bool:=(A.zip v).all (agI (c.1.zip c.2.v))
def agC (A:List Int) (v:List ByteArray) (cs:List (List Int×Rw)):Bool:=cs.all (agQ A v)
theorem all_succ {α:Type} {l:List α} {n:Nat} (h:n<l.length) (f:α->Bool):(l.take (n+1)).all f=((l.take n).all f&&f l[n]):=by
 rw [aR h,List.all_append];simp
def KZ (σ:Asg ByteArray) (cs:List (List Int×Rw)):Prop:=(∀ c∈cs,In1 σ c.1 c.2.v)/\∀ a x,σ a=some x->∃ c∈cs,(a,x)∈c.1.zip c.2.v
theorem Lp:KZ (fun _=>none) []:=⟨fun c h=>by simp at h,fun a x h=>by cases h⟩
theorem LY {σ:Asg ByteArray} {cs:List (List Int×Rw)} (h:KZ σ cs) (A:List Int) (v:List ByteArray):agC A v cs=agr A σ v:=by
 rw [Mg,Jz];have e:agC A v cs=true↔∀ c∈cs,∀ p∈A.zip v,∀ q∈c.1.zip c.2.v,p.1=q.1->p.2=q.2:=by
  unfold agC agQ agI agK;simp only [uv,MF,bne_iff_ne,Nt];refine ⟨fun h c hc p hp q hq e=>?_,fun h c hc p hp q hq=>?_⟩
  ·rcases h c hc p hp q hq with h1 | h1
   ·exact absurd e h1
   ·exact bytes_inj h1
  ·by_cases e:p.1=q.1
   ·right;rw [h c hc p hp q hq e]
   ·exact .inl e
 rw [e];constructor
 ·intro h1 a x hm y hy;obtain ⟨c,hc,hz⟩:=h.2 a y hy;exact (h1 c hc _ hm _ hz O).symm
 ·intro h1 c hc p hp q hq e;have hs:=h.1 c hc q.1 q.2 hq;exact (h1 p.1 p.2 hp q.2 (by rw [e];exact hs)).symm
theorem Lr {σ:Asg ByteArray} {cs:List (List Int×Rw)} (h:KZ σ cs) {A:List Int} (hA:A.Nodup) {y:Rw} (hl:y.v.length=A.length) (hag:agr A σ y.v=true):KZ (Lh σ A y.v) (cs++[(A,y)]):=by
 have hag:=Jz.1 hag;refine ⟨fun c hc a x hz=>?_,fun a x hx=>?_⟩
 ·rcases Mc.1 hc with hc | hc
  ·have hs:=h.1 c hc a x hz;by_cases ha:a∈A
   ·obtain ⟨x',hx'⟩:=HL hl ha;rw [Df hA hx',hag a x' hx' x hs]
   ·rw [Fz ha];exact hs
  ·obtain rfl:=o7.1 hc;exact Df hA hz
 ·by_cases ha:a∈A
  ·obtain ⟨x',hx'⟩:=HL hl ha;rw [Df hA hx'] at hx;cases hx;exact ⟨(A,y),Ps,hx'⟩
  ·rw [Fz ha] at hx;obtain ⟨c,hc,hz⟩:=h.2 a x hx;exact ⟨c,by simp [hc],hz⟩
def chG (L:List (List Int×List Rw)) (A:List Int) (σ:Asg ByteArray) (x:Rw):Nat:=if agr A σ x.v=true then (enR L (Lh σ A x.v)).length else 0
theorem K7 (L:List (List Int×List Rw)) (A:List Int) (l:List Rw) (σ:Asg ByteArray):(enR ((A,l)::L) σ).length=(l.map (chG L A σ)).sum:=by
 rw [enR,List.length_flatMap];show ((l.filter fun x=>agr A σ x.v).map fun x=>(enR L (Lh σ A x.v)).length).sum=_;induction l with
 | nil=>rfl
 | cons x l ih=>
   rw [oy,O6,<-ih,MW];unfold chG;by_cases h:agr A σ x.v=true
   ·rw [qY h,qY h,oy,O6]
   ·rw [kH h,kH h,Mt]
theorem K0:∀ (L:List (List Int×List Rw)) (σ:Asg ByteArray),(∀ p∈L,p.2.length<=12)->(enR L σ).length<=12^L.length
 | [],σ,_=>by rw [enR];simp
 | (A,l)::L,σ,h=>by
   rw [K7,AS,MS,MU];have h1:∀ (m:List Rw),(m.map (chG L A σ)).sum<=m.length*12^L.length:=fun m=>by
    induction m with
    | nil=>simp
    | cons x m ih=>
      rw [oy,O6,AS,Nat.add_mul,Nat.one_mul];have:chG L A σ x<=12^L.length:=by
       unfold chG;split
       ·exact K0 L _ fun p hp=>h p (by simp [hp])
       ·exact bk _
      omega
   exact AT (h1 l) (ML _ (h (A,l) Ps))
theorem Km {l:List Rw} (f:Rw->Nat) (k:Nat):((l.take k).map f).sum<=(l.map f).sum:=by
 conv=>rhs;rw [<-M6 k l,Mw,List.sum_append]
 omega
theorem KD {α β:Type}:∀ {l:List α} {m:List β} (h:m.length<l.length) (y:β),l.zip (m++[y])=l.zip m++[(l[m.length],y)]
 | [],m,h,_=>by simp at h
 | a::l,[],_,y=>by simp
 | a::l,b::m,h,y=>by
   have h2:m.length<l.length:=by simpa using h
   have:=KD h2 y;simp only [MX,Oz,AS,List.getElem_cons_succ,this]
theorem Lm {S:Sch} {d:List (List Rw)} (hd:d.length=S.rels.length) {r:Nat} (hr:r<S.rels.length):(iL S (bf S d)).drop r=(S.rels[r].2,gF S S.rels[r].2 (d[r]'Po))::(iL S (bf S d)).drop (r+1):=by
 have hl:=qz hd;have hlt:r<(iL S (bf S d)).length:=by unfold iL;rw [On,xT,hl];omega
 rw [Mf hlt,KF hlt hr Po,ur Po hr]
theorem LA {S:Sch} {A:List Int} {l:List Rw}:(gF S A l).length<=l.length:=Mn _ _
theorem JR (S:Sch) (d:List (List Rw)) (hB:SB S) (hS:SJn S) (hV:cI S=0) (hn:∀ r∈S.rels,r.2.Nodup) (hk:∀ a∈S.attrs,a.2=1\/a.2=2\/a.2=3) (hd:d.length=S.rels.length)
  (ch:List Rw) (hr:ch.length<S.rels.length) (hl:(d[ch.length]'Po).length<=12) (hT:Tbl6 S S.rels[ch.length].2 (d[ch.length]'Po))
  (hcv:∀ q (h:q<ch.length),(ch[q]).v.length=(S.rels[q]'Po).2.length) (f:Rw->Bool)
  (hf:∀ y,agC S.rels[ch.length].2 y.v ((S.rels.map (·.2)).zip ch)=f y) (g:Rw->Nat)
  (hrec:∀ y∈gF S S.rels[ch.length].2 (d[ch.length]'Po),f y=true->FnP prog 22 [gK S,dbP d,.int .i64 ((ch.length:Int)+1),bL (ch++[y])] (· = .int .i64 (g y:Nat)))
  (hg0:∀ y,f y=false->g y=0) (hbd:((gF S S.rels[ch.length].2 (d[ch.length]'Po)).map g).sum<=2985984):
  FnP prog 22 [gK S,dbP d,.int .i64 ch.length,bL ch] (· = .int .i64 (((gF S S.rels[ch.length].2 (d[ch.length]'Po)).map g).sum:Nat)):=by
 refine FnP.of func22 O ntmps22 Ps fun m0 w0 F R0=>?_
 have hrd:ch.length<d.length:=Po;have hlv:=Jt S hB hS hV hn hk ch.length hr d[ch.length] Po hT;have htn:Cq d≠[]:=fun e=>by have:=dH d;rw [e] at this;simp at this;omega
 have htr:(Cq d)[ch.length*1]? =some (bL d[ch.length]):=by simp [Cq,hrd]
 have hrn:=ew hr;have hra:=yR hr;have hrq:=fun q (h:q<ch.length)=>yR (l:=S.rels) (r:=q) Po
 have hAl:=hS.l _ (aJ hr);have hAq:=fun q (h:q<ch.length)=>hS.l _ (aJ (show q<S.rels.length by omega))
 have hSr:=hS.r;have hml:=LA (S:=S) (A:=S.rels[ch.length].2) (l:=d[ch.length]);have hmv:∀ y∈gF S S.rels[ch.length].2 d[ch.length],y.v.length=S.rels[ch.length].2.length:=fun y hy=>(hT.v y (L9.1 hy).1).1
 have hzl:((S.rels.map (·.2)).zip ch).length=ch.length:=by simp;omega
 have hzq:∀ q (h:q<ch.length) (h2:q<((S.rels.map (·.2)).zip ch).length),((S.rels.map (·.2)).zip ch)[q]'h2=((S.rels[q]'(Nat.lt_trans h hr)).2,ch[q]):=fun q h h2=>by simp
 generalize gF S S.rels[ch.length].2 d[ch.length]=m at*;generalize d[ch.length]=dr at*;generalize S.rels[ch.length].2=A at*;generalize (S.rels.map (·.2)).zip ch=cs at*;refine Z2 O O O<|Gr O ?_;iterate 5 refine A1 O ?_
 refine Gc O O (fun hc23=>absurd hc23 Pt) (fun hc23=>?_);refine Il<|Z1 O O<|Ge O follows [0,1,2,3,4,5,6,7,8] Pp ?_;iterate 4 refine D1 O O ?_
 refine Ds 28 [] O O O (fun τ h=>ag ch.length underlying36 qk (Ee h 0 O O) (Ee h 1 O O) O hrd htn) O Pp<|Ds 29 [] O O O (fun τ h=>ai ⟨_,underlying38,O⟩ (Ee h 0 O O) htr) O Pp<|Ds 30 [] O O O (fun τ h=>ae call21 hlv (h.bt O)) O Pp ?_;iterate 2 refine D1 O O ?_
 refine ⟨Pp,?_⟩;refine Gl O (st:=fun ac:Nat=>mkS [(1,.pv (dbP d)),(2,.pv (.int .i64 ch.length)),(3,.pv (bL ch)),(4,.ptr 0 0),(9,.pv (.int .i64 (((m.take ac).map g).sum:Nat))),(30,.pv (bL m)),(31,.pv (.int .i64 m.length)),(32,.pv (.int .i64 ac))] [(0,oZ S)] 1)
  (I:=fun ac=>ac<=m.length) (μ:=fun ac=>m.length-ac) (x0:=(0)) (Io (aS O) (aO Pp) O O) (bk _) ?_
 rintro j hj;refine Z1 O O ?_;refine Gp O O (fun hc33=>?_) (fun hc33=>?_)
 ·have hjm:j<m.length:=Po;have hyr:=aN hjm;have hyn:=aW hjm;have hyl:=hmv _ (aJ hjm);have hry:=hrec _ (aJ hjm);have hst:=LC hjm g;have hsle:=Km (l:=m) g (j+1);generalize m[j]=y at*;refine Il<|Gr O<|Rs 34 O O (ag j underlying38 lM O O O hjm hyn)<|Rs 35 O O (db ⟨_,underlying49,O⟩ lM O hyr O)<|Y2 O O<|Z1 O O<|Z3 O O O O ?_;refine Gl O (st:=fun x_1:Nat×Bool=>mkS [(1,.pv (dbP d)),(2,.pv (.int .i64 ch.length)),(3,.pv (bL ch)),(4,.ptr 0 0),(9,.pv (.int .i64 (((m.take j).map g).sum:Nat))),(11,.ptr 1 0),(12,.pv (.bool x_1.2)),(30,.pv (bL m)),(31,.pv (.int .i64 m.length)),(32,.pv (.int .i64 j)),(36,.pv (bL ch)),(37,.pv (.int .i64 ch.length)),(38,.pv (.int .i64 x_1.1))] [(0,oZ S),(1,.mix 49 [.pv (aI y.v),.pv (.int .i64 y.w)])] 2)
   (I:=fun x_1=>x_1.1<=ch.length/\x_1.2=(cs.take x_1.1).all (agQ A y.v)) (μ:=fun x_1=>ch.length-x_1.1) (x0:=(0,true)) (Io (aS O) (aO Pp) O O) (⟨bk _,O⟩) ?_
  rintro ⟨q,b⟩ ⟨hq,hb⟩;try simp only at hq hb ⊢
  refine Z1 O O ?_;refine Gp O O (fun hc39=>?_) (fun hc39=>?_)
  ·have hqc:q<ch.length:=Po;have hzr:=aN hqc;have hzn:=aW hqc;have hzv:=hcv q hqc;have hqa:=hrq q hqc;have hql:=hAq q hqc;have hqr:q<S.rels.length:=Po;have hbs:=all_succ (l:=cs) (n:=q) Po (agQ A y.v);rw [hzq q hqc Po,<-hb] at hbs;generalize ch[q]=z at*;generalize S.rels[q].2=Aq at*;have hba:agQ A y.v (Aq,z)=(A.zip y.v).all (agI (Aq.zip z.v)):=rfl;generalize agQ A y.v (Aq,z)=bq at*;refine Il<|Z1 O O<|Rs 41 O O (ag q underlying38 lM O O O hqc hzn)<|Rs 42 O O (db ⟨_,underlying49,O⟩ lM O hzr O)<|Y3 O O O<|Z3 O O O O<|Rs 46 O O (ag ch.length underlying31 Eu O O O hr hrn)<|A1 O<|Rs 48 O O (ai ⟨_,underlying22,O⟩ O hra)<|Y2 O O ?_;refine Gl O (st:=fun x_2:Nat×Bool=>mkS [(1,.pv (dbP d)),(2,.pv (.int .i64 ch.length)),(3,.pv (bL ch)),(4,.ptr 0 0),(9,.pv (.int .i64 (((m.take j).map g).sum:Nat))),(11,.ptr 1 0),(12,.pv (.bool x_2.2)),(13,.pv (.int .i64 q)),(14,.ptr 2 0),(30,.pv (bL m)),(31,.pv (.int .i64 m.length)),(32,.pv (.int .i64 j)),(36,.pv (bL ch)),(37,.pv (.int .i64 ch.length)),(38,.pv (.int .i64 q)),(48,.pv (ak A)),(49,.pv (.int .i64 A.length)),(50,.pv (.int .i64 x_2.1))] [(0,oZ S),(1,.mix 49 [.pv (aI y.v),.pv (.int .i64 y.w)]),(2,.mix 49 [.pv (aI z.v),.pv (.int .i64 z.w)])] 3)
    (I:=fun x_2=>x_2.1<=A.length/\x_2.2=(b&&((A.zip y.v).take x_2.1).all (agI (Aq.zip z.v)))) (μ:=fun x_2=>A.length-x_2.1) (x0:=(0,b)) (Io (aS O) (aO Pp) O O) (⟨bk _,Ps⟩) ?_
   rintro ⟨i,b2⟩ ⟨hi,hb2⟩;try simp only at hi hb2 ⊢
   refine Z1 O O ?_;refine Gp O O (fun hc51=>?_) (fun hc51=>?_)
   ·have hiA:i<A.length:=Po;have hiy:i<y.v.length:=Po;have han:=aH hiA;have hai:(aE A)[i*1]? =some (.int .i64 A[i]):=by simp [hiA]
    have hyi:(aA y.v)[i*1]? =some (.str y.v[i]):=by simp [hiy]
    have hyne:=bc hiy;have hb2s:=all_succ (l:=A.zip y.v) (n:=i) Pt (agI (Aq.zip z.v));rw [Oj] at hb2s;generalize A[i]=a at*;generalize y.v[i]=u at*;have hb2a:agI (Aq.zip z.v) (a,u)=(Aq.zip z.v).all (agK a u):=rfl;generalize agI (Aq.zip z.v) (a,u)=bi at*;refine Il<|Z1 O O<|Rs 53 O O (ag i underlying22 sz3 O O O hiA han)<|Rs 54 O O (ai ⟨_,underlying3,O⟩ O hai)<|Y2 O O<|Z3 O O O O<|Rs 58 O O (ag q underlying31 Eu O O O hqr hrn)<|A1 O<|Rs 60 O O (ai ⟨_,underlying22,O⟩ O hqa)<|Y2 O O ?_;refine Gl O (st:=fun x_3:Nat×Bool=>mkS [(1,.pv (dbP d)),(2,.pv (.int .i64 ch.length)),(3,.pv (bL ch)),(4,.ptr 0 0),(9,.pv (.int .i64 (((m.take j).map g).sum:Nat))),(11,.ptr 1 0),(12,.pv (.bool x_3.2)),(13,.pv (.int .i64 q)),(14,.ptr 2 0),(15,.pv (.int .i64 i)),(16,.pv (.int .i64 a)),(30,.pv (bL m)),(31,.pv (.int .i64 m.length)),(32,.pv (.int .i64 j)),(36,.pv (bL ch)),(37,.pv (.int .i64 ch.length)),(38,.pv (.int .i64 q)),(48,.pv (ak A)),(49,.pv (.int .i64 A.length)),(50,.pv (.int .i64 i)),(60,.pv (ak Aq)),(61,.pv (.int .i64 Aq.length)),(62,.pv (.int .i64 x_3.1))] [(0,oZ S),(1,.mix 49 [.pv (aI y.v),.pv (.int .i64 y.w)]),(2,.mix 49 [.pv (aI z.v),.pv (.int .i64 z.w)])] 3)
     (I:=fun x_3=>x_3.1<=Aq.length/\x_3.2=(b2&&((Aq.zip z.v).take x_3.1).all (agK a u))) (μ:=fun x_3=>Aq.length-x_3.1) (x0:=(0,b2)) (Io (aS O) (aO Pp) O O) (⟨bk _,Ps⟩) ?_
    rintro ⟨k,b3⟩ ⟨hk3,hb3⟩;try simp only at hk3 hb3 ⊢
    refine Z1 O O ?_;refine Gp O O (fun hc63=>?_) (fun hc63=>?_)
    ·have hkA:k<Aq.length:=Po;have hkz:k<z.v.length:=Po;have hqn:=aH hkA;have hqi:(aE Aq)[k*1]? =some (.int .i64 Aq[k]):=by simp [hkA]
     have hzi:(aA z.v)[k*1]? =some (.str z.v[k]):=by simp [hkz]
     have hzne:=bc hkz;have hb3s:=all_succ (l:=Aq.zip z.v) (n:=k) Pt (agK a u);rw [Oj,show agK a u (Aq[k],z.v[k])=(a !=Aq[k]||(u.toList==z.v[k].toList)) from O] at hb3s;generalize Aq[k]=c at*;generalize z.v[k]=w at*;refine Il<|Z1 O O<|Rs 65 O O (ag k underlying22 sz3 O O O hkA hqn)<|Rs 66 O O (ai ⟨_,underlying3,O⟩ O hqi)<|Y2 O O ?_;by_cases g1:b3=true
     ·by_cases g2:a=c
      ·subst g1;subst g2;refine Ge O follows [0,1,2,3,4,5,6,7,8,9,10,11,12,13,14,15,16,17,18,19] Pp ?_;iterate 4 refine D1 O O ?_
       refine Dg 71 [] O O O O (fun τ h=>XJ.cast (v':= .pv (.bool false)) (aQ (Ee h 0 O O) (Ee h 1 O O) O) (af (fun b=>V.pv (.bool b)) Ps)) O Pp ?_;iterate 4 refine D1 O O ?_
       refine Dg 76 [] O O O O (fun τ h=>ag i underlying47 sz9 (Ee h 0 O O) (Ee h 1 O O) O hiy hyne) O Pp<|Dg 77 [] O O O O (fun τ h=>ai ⟨_,underlying9,O⟩ (Ee h 0 O O) hyi) O Pp ?_;iterate 3 refine D1 O O ?_
       refine Dg 81 [] O O O O (fun τ h=>ag k underlying47 sz9 (Ee h 0 O O) (Ee h 1 O O) O hkz hzne) O Pp<|Dg 82 [] O O O O (fun τ h=>ai ⟨_,underlying9,O⟩ (Ee h 0 O O) hzi) O Pp ?_;iterate 4 refine D1 O O ?_
       refine ⟨Pp,?_⟩;exact Z2 O O O<|⟨(k+1,(u.toList==w.toList)),Io (aS O) (aO Pp) O O,⟨Po,by rw [hb3s,<-OC,<-hb3];simp⟩,Pv⟩
      ·subst g1;have hac:(a !=c)=true:=bne_iff_ne.2 g2;refine Ge O follows [0,1,2,3,4,5,6,7,8,9,10,11,12,13,14,15,16,17,18,19] Pp ?_;iterate 4 refine D1 O O ?_
       refine Dg 71 [] O O O O (fun τ h=>XJ.cast (v':= .pv (.bool true)) (aQ (Ee h 0 O O) (Ee h 1 O O) O) (af (fun b=>V.pv (.bool b)) hac)) O Pp ?_;iterate 15 refine D1 O O ?_
       refine ⟨Pp,?_⟩;exact Z2 O O O<|⟨(k+1,true),Io (aS O) (aO Pp) O O,⟨Po,by rw [hb3s,<-OC,<-hb3,hac];rfl⟩,Pv⟩
     ·obtain rfl:b3=false:=MH g1;refine Ge O follows [0,1,2,3,4,5,6,7,8,9,10,11,12,13,14,15,16,17,18,19] Pp ?_;iterate 20 refine D1 O O ?_
      refine ⟨Pp,?_⟩;exact Z2 O O O<|⟨(k+1,false),Io (aS O) (aO Pp) O O,⟨Po,by rw [hb3s,<-OC,<-hb3];rfl⟩,Pv⟩
    ·rw [a6 Pt,<-hb2a] at hb3;exact Gx O<|Z2 O O O<|⟨(i+1,b3),Io (aS O) (aO Pp) O O,⟨Po,by rw [hb2s,<-OC,<-hb2];exact hb3⟩,Pv⟩
   ·rw [a6 Pt,<-hba] at hb2;exact Gx O<|Z2 O O O<|⟨(q+1,b2),Io (aS O) (aO Pp) O O,⟨Po,by rw [hbs];exact hb2⟩,Pv⟩
  ·rw [a6 Po] at hb;have hbf:b=f y:=hb.trans (hf y);refine Gx O<|Z1 O O ?_;refine Gc O O (fun hc89=>?_) (fun hc89=>?_)
   ·have hft:f y=true:=by rw [<-hbf];simpa using hc89
    have hrc:=hry hft;have hgl:g y<=2985984:=Po;have hcl:=aK ch;have hyp:aB (ch++[y])=aB ch++[aI y.v,.int .i64 y.w]:=by simp [aB]
    have hrc2:FnP prog 22 [gK S,dbP d,.int .i64 ((ch.length:Int)+1),.sl none (ch.length+1) (aB ch++[aI y.v,.int .i64 y.w])] (· = .int .i64 (g y:Nat)):=by
     rw [<-hyp];have:ch.length+1=(ch++[y]).length:=Ps;rw [this];exact hrc
    by_cases hc0:ch.length=0
    ·have hcn:ch=[]:=OF.1 hc0;have hrc3:FnP prog 22 [gK S,dbP d,.int .i64 ((ch.length:Int)+1),.sl none 1 [aI y.v,.int .i64 y.w]] (· = .int .i64 (g y:Nat)):=by
      have:=hrc2;rw [hcn] at this ⊢;exact this
     refine Ge O follows [0,1,2,3,4,5,6,7,8,9,10,11,12] Pp ?_;iterate 6 refine D1 O O ?_
     refine Ds 96 [] O O O (fun τ h=>rM 2 JM (Ee h 0 O O) (.inl ⟨none,(Ee h 1 O O)⟩) hcl (dw ch) Po (h.n 0 _ O)) O Pp<|D1 O O<|Ds 98 [] O O O (fun τ h=>aq none Ps JM O Pq Pq (h.JU O O) O) O Pp<|Ds 99 [2] O O O (fun τ h=>Ka JM (IN (Ee h 0 O O) (show V.gsl 2 2 ch.length=V.gsl 2 2 0 by rw [hc0])) (.inl ⟨none,(Ee h 1 O O)⟩) O (dw [y]) Pq Pq) O Pp ?_;refine Ds 100 [] O O O (fun τ h=>ae call22 hrc3 (h.bt O)) O Pp<|Ds 101 [] O O O (fun τ h=>zl (Ee h 0 O O) (Ee h 1 O O) Po) O Pp<|D1 O O ?_;refine ⟨Pp,?_⟩;exact Z2 O O O<|⟨(j+1),Io ⟨O,O,O,O,af (fun n:Int=>V.pv (.int .i64 n)) (by rw [hst];omega),O,O,O,Pw⟩ (aO Pp) O O,Po,Po⟩
    ·refine Ge O follows [0,1,2,3,4,5,6,7,8,9,10,11,12] Pp ?_;iterate 6 refine D1 O O ?_
     refine Ds 96 [] O O O (fun τ h=>rM 2 JM (Ee h 0 O O) (.inl ⟨none,(Ee h 1 O O)⟩) hcl (dw ch) Po (h.n 0 _ O)) O Pp<|D1 O O<|Ds 98 [] O O O (fun τ h=>aq none Ps JM O Pq Pq (h.JU O O) O) O Pp<|Ds 99 [2] O O O (fun τ h=>sG JM (Ee h 0 O O) (Eo h 0 O O) hcl (.inl ⟨none,(Ee h 1 O O)⟩) O (dw [y]) Po Po) O Pp<|Ds 100 [] O O O (fun τ h=>ae call22 hrc2 (h.bt O)) O Pp<|Ds 101 [] O O O (fun τ h=>zl (Ee h 0 O O) (Ee h 1 O O) Po) O Pp<|D1 O O ?_;refine ⟨Pp,?_⟩;exact Z2 O O O<|⟨(j+1),Io ⟨O,O,O,O,af (fun n:Int=>V.pv (.int .i64 n)) (by rw [hst];omega),O,O,O,Pw⟩ (aO Pp) O O,Po,Po⟩
   ·have hff:f y=false:=by rw [<-hbf];simpa using hc89
    exact Il<|Z2 O O O<|⟨(j+1),Io ⟨O,O,O,O,af (fun n:Nat=>V.pv (.int .i64 (n:Int))) (by rw [hst,hg0 y hff,Ny]),O,O,O,Pw⟩ (aO Pp) O O,Po,Po⟩
 ·have hjl:j=m.length:=Po;subst hjl;rw [Mz];exact Gx O<|Z2 O O O<|Gt O<|⟨_,_,O,O,O⟩
theorem Ko (S:Sch) (d:List (List Rw)) (ch:List Rw) (hch:ch.length=S.rels.length) (hS:SJn S):FnP prog 22 [gK S,dbP d,.int .i64 ch.length,bL ch] (· = .int .i64 1):=by
 refine FnP.of func22 O ntmps22 Ps fun m0 w0 F R0=>?_
 have hSr:=hS.r;refine Z2 O O O<|Gr O ?_;iterate 5 refine A1 O ?_
 refine Gc O O (fun hc23=>?_) (fun hc23=>absurd hc23 Pt);exact Z1 O O<|Gt O<|⟨_,_,O,O,O⟩
theorem LV {S:Sch} {d:List (List Rw)} (h:DbOk S d):∀ p∈iL S (bf S d),p.2.length<=12:=fun p hp=>by
 unfold iL at hp;obtain ⟨l',hl',hs⟩:=qQ (OX hp).2;exact AT hs.length_le (h.l l' hl')
theorem IQ (S:Sch) (d:List (List Rw)) (h:DbOk S d) (hn:∀ r∈S.rels,r.2.Nodup) (hk:∀ a∈S.attrs,a.2=1\/a.2=2\/a.2=3) (hT:∀ r (h1:r<d.length) (h2:r<S.rels.length),Tbl6 S S.rels[r].2 d[r]):
  ∀ (k:Nat) (ch:List Rw) (σ:Asg ByteArray),ch.length+k=S.rels.length->(∀ q (h:q<ch.length) (h2:q<S.rels.length),(ch[q]).v.length=S.rels[q].2.length)->KZ σ ((S.rels.map (·.2)).zip ch)->
   FnP prog 22 [gK S,dbP d,.int .i64 ch.length,bL ch] (· = .int .i64 ((enR ((iL S (bf S d)).drop ch.length) σ).length:Nat))
 | 0,ch,σ,hk0,hcv,hσ=>by
   have hl:(iL S (bf S d)).length=S.rels.length:=by unfold iL;rw [On,xT,qz h.n];omega
   rw [MI Po,enR];exact Ko S d ch Po h.hS
 | k+1,ch,σ,hk0,hcv,hσ=>by
   have hr:ch.length<S.rels.length:=Po;have hrd:ch.length<d.length:=by rw [h.n];exact hr
   have hl12:=h.l _ (aJ hrd);have h12:=LV h;have hle:=K0 ((iL S (bf S d)).drop ch.length) σ fun p hp=>h12 p (OE hp)
   have hlen:((iL S (bf S d)).drop ch.length).length<=6:=by
    have:=h.val.r2;rw [Nv];unfold iL;rw [On,xT];omega
   have hle2:(enR ((iL S (bf S d)).drop ch.length) σ).length<=2985984:=AT hle (AT (MM Pq hlen) Pq);rw [Lm h.n hr,K7] at hle2 ⊢;refine JR S d h.hB h.hS h.hc hn hk h.n ch hr hl12 (hT _ hrd hr) (fun q hq=>hcv q hq Po) (fun y=>agr S.rels[ch.length].2 σ y.v) (fun y=>LY hσ _ _) _ (fun y hy hag=>?_) (fun y hag=>?_) hle2
   ·have hyl:=((hT _ hrd hr).v y (L9.1 hy).1).1;have hz:=KD (l:=S.rels.map (·.2)) (m:=ch) (by simpa using hr) y;rw [Nj] at hz;have:=IQ S d h hn hk hT k (ch++[y]) (Lh σ S.rels[ch.length].2 y.v) Pt (fun q hq h2=>?_) (by rw [hz];exact Lr hσ (hn _ (aJ hr)) hyl hag)
    ·rw [show (ch++[y]).length=ch.length+1 by simp] at this;unfold chG;rw [qY hag];exact this
    ·by_cases hq2:q<ch.length
     ·rw [Oc hq2];exact hcv q hq2 h2
     ·have:q=ch.length:=by simp at hq;omega
      subst this;rw [List.getElem_append_right (xV _)];simpa using hyl
   ·unfold chG;rw [kH (by rw [hag];decide)]
end
section
open Mk Jn
def JI (v:List ByteArray) (p:Int×ByteArray):Bool:=p.2.toList==(v.getD p.1.toNat eb).toList
def I4 (A:List Int) (v:List ByteArray) (x:Rw):Bool:=(A.zip x.v).all (JI v)
def J1 (A:List Int) (v:List ByteArray) (l:List Rw):Int:=l.foldl (fun f x=>if I4 A v x=true then x.w else f) 0
theorem J9 {A:List Int} {v:List ByteArray} {l:List Rw} {j:Nat} (h:j<l.length):J1 A v (l.take (j+1))=if I4 A v l[j]=true then l[j].w else J1 A v (l.take j):=by
 unfold J1;rw [aR h,Na];rfl
theorem Kw {A:List Int} {v:List ByteArray}:∀ {w:List ByteArray},w.length=A.length->((A.zip w).all (JI v)=true↔A.map (fun a=>v.getD a.toNat eb)=w):=by
 induction A with
 | nil=>intro w h;simp at h;subst h;simp
 | cons a A ih=>
   intro w h;match w,h with
   | z::w,h=>
     simp only [Oz,NQ,oy,Oe,cH,JI,Nt];rw [<-ih (by simpa using h)];exact and_congr ⟨fun e=>(bytes_inj e).symm,fun e=>by rw [e]⟩ Iff.rfl
theorem Kp {A:List Int} {v:List ByteArray} {c:Int}:∀ (l:List Rw) (f:Int),(∀ z∈l,I4 A v z=true->z.w=c)->(f=c\/∃ z∈l,I4 A v z=true)->l.foldl (fun f x=>if I4 A v x=true then x.w else f) f=c
 | [],f,_,h=>by simpa using h
 | z::l,f,h1,h2=>by
   rw [MG];refine Kp l _ (fun y hy=>h1 y (by simp [hy])) ?_;by_cases hz:I4 A v z=true
   ·rw [qY hz];exact .inl (h1 z Ps hz)
   ·rw [kH hz];rcases h2 with h2 | ⟨y,hy,hs⟩
    ·exact .inl h2
    ·rcases sh.1 hy with rfl | hy
     ·exact absurd hs hz
     ·exact .inr ⟨y,hy,hs⟩
def pwL (v:List ByteArray) (L:List (List Int×List Rw)):Int:=(L.map fun p=>J1 p.1 v p.2).foldl (· * ·) 1
theorem JH:∀ (l:List Int) (a:Int),l.foldl (· * ·) a=a*l.foldl (· * ·) 1
 | [],a=>by simp
 | b::l,a=>by rw [MG,MG,JH l (a*b),JH l (1*b),Int.one_mul,Int.mul_assoc]
theorem KE (v:List ByteArray) (p:List Int×List Rw) (L:List (List Int×List Rw)):pwL v (p::L)=J1 p.1 v p.2*pwL v L:=by
 unfold pwL;rw [oy,MG,JH,Int.one_mul]
theorem Kz {v:List ByteArray} {L:List (List Int×List Rw)} {r:Nat} (h:r<L.length):pwL v (L.take (r+1))=pwL v (L.take r)*J1 L[r].1 v L[r].2:=by
 unfold pwL;rw [aR h,Mw,Na];rfl
theorem L3 {A:List Int} {v:List ByteArray} {l:List Rw} (hl:∀ x∈l,x.v.length=A.length) (hd:l.Pairwise fun a b=>a.v≠b.v) {x:Rw} (hx:x∈l) (he:A.map (fun a=>v.getD a.toNat eb)=x.v):J1 A v l=x.w:=by
 refine Kp l 0 (fun z hz hs=>?_) (.inr ⟨x,hx,(Kw (hl x hx)).2 he⟩);have e:=(Kw (hl z hz)).1 hs;rw [he] at e;by_cases hzx:z=x
 ·rw [hzx]
 ·exfalso;obtain ⟨i,hi,rfl⟩:=MK hz;obtain ⟨j,hj,rfl⟩:=MK hx;rw [Nr] at hd;rcases Nat.lt_trichotomy i j with h | h | h
  ·exact hd i j hi hj h e.symm
  ·subst h;exact hzx O
  ·exact hd j i hj hi h e
theorem KT {v:List ByteArray}:∀ {L:List (List Int×List Rw)} {w:Int},I2 L->(∀ p∈L,∀ x∈p.2,1<=x.w/\x.w<=100)->Ez v L w->w=pwL v L/\∀ p∈L,1<=J1 p.1 v p.2/\J1 p.1 v p.2<=100
 | [],w,_,_,h=>⟨h,fun p hp=>by simp at hp⟩
 | p::L,w,hR,hw,h=>by
   obtain ⟨x,hx,he,w',hw',rfl⟩:=h;obtain ⟨⟨hn,hl,hd⟩,hR2⟩:=hR.cons;have hf:=L3 hl hd hx he;obtain ⟨e1,e2⟩:=KT hR2 (fun q hq=>hw q (by simp [hq])) hw';refine ⟨by rw [KE,hf,e1],fun q hq=>?_⟩;rcases sh.1 hq with rfl | hq
   ·rw [hf];exact hw q Ps x hx
   ·exact e2 q hq
theorem pw_bd {v:List ByteArray} {L:List (List Int×List Rw)} (h:∀ p∈L,1<=J1 p.1 v p.2/\J1 p.1 v p.2<=100):1<=pwL v L/\pwL v L<=100^L.length:=by
 induction L with
 | nil=>exact ⟨Int.le_refl 1,Int.le_refl 1⟩
 | cons p L ih=>
   obtain ⟨h1,h2⟩:=h p Ps;obtain ⟨h3,h4⟩:=ih fun q hq=>h q (by simp [hq])
   rw [KE,AS,Int.pow_succ,Int.mul_comm (100^L.length)];constructor
   ·have:=Int.mul_le_mul h1 h3 Pq Po;simpa using this
   ·exact Int.mul_le_mul h2 h4 Po Pq
theorem Ls {S:Sch} {d:List (List Rw)} (hd:d.length=S.rels.length) {r:Nat} (hr:r<S.rels.length) (h:r<(iL S (bf S d)).length):(iL S (bf S d))[r]=(S.rels[r].2,gF S S.rels[r].2 (d[r]'Po)):=by
 rw [KF h hr (by rw [qz hd];exact hr),ur Po hr]
theorem Lw {S:Sch} {d:List (List Rw)} (h:DbOk S d) (hn:∀ r∈S.rels,r.2.Nodup) {y:Rw} (hy:y∈joinL S d):y.v.length=S.attrs.length/\y.w=pwL y.v (iL S (bf S d))/\(∀ r,1<=pwL y.v ((iL S (bf S d)).take r)/\pwL y.v ((iL S (bf S d)).take r)<=1000000000000)/\
  ∀ p∈iL S (bf S d),1<=J1 p.1 y.v p.2/\J1 p.1 y.v p.2<=100:=by
 obtain ⟨h1,h2⟩:=((sN h).mem y).1 hy;obtain ⟨e1,e2⟩:=KT (J3 h hn) (fun p hp x hx=>h.wts _ (OX hp).2 x hx) h2;refine ⟨h1,e1,fun r=>?_,e2⟩;obtain ⟨e3,e4⟩:=pw_bd (L:=(iL S (bf S d)).take r) fun p hp=>e2 p (Nl hp)
 refine ⟨e3,Int.le_trans e4 ?_⟩;have hlen:((iL S (bf S d)).take r).length<=6:=by
  have:=h.val.r2;rw [AI];unfold iL;rw [On,xT];omega
 generalize ((iL S (bf S d)).take r).length=k at*;match k,hlen with
 | 0,_=>decide
 | 1,_=>decide
 | 2,_=>decide
 | 3,_=>decide
 | 4,_=>decide
 | 5,_=>decide
 | 6,_=>decide
theorem Ja (t:List Int):FnP prog 5 [ak t] (· = .bool true):=by
 refine FnP.of func5 O ntmps5 Ps fun m0 w0 F R0=>?_
 refine Z1 O O<|Z3 O O O O ?_;refine Gp O O (fun hc23=>?_) (fun hc23=>?_)
 ·exact Gr O<|Rs 24 O O (ae call9 pX O)<|A1 O<|Gt O<|⟨_,_,O,O,O⟩
 ·have hL:t.length<=400:=Po;refine Il<|Z1 O O ?_;refine RL.call O (fA [] 0 call10 (Cr t Po) O O O O trivial Pq O ?_);rintro _ _ ⟨rfl,rfl⟩;refine A1 O<|Z1 O O ?_;refine RL.call O (jW call16 (Jd t 0 5 Po (bk _) Po Po) O O ?_);rintro _ _ ⟨⟨S,hM,rfl⟩,k1,hk1,rfl⟩;have hS:=Jh hM;have hr1:=hM.r1;have hr2:=hM.r2;have hB:=JO hM Pq;have hc:=I0 hM Pq;refine Y2 O O<|Z2 O O O ?_;refine RL.call O (jW call11 (nB t k1 Po hk1 S 4 Pq Po (fun r hr=>⟨hS.l r hr,hS.b r hr⟩)) O O ?_);rintro _ _ ⟨⟨d,hd,rfl⟩,k2,hk2,rfl⟩;have hdb:=JK hM hd;have hdn:=hdb.n;refine A1 O ?_;have hnd:∀ r∈S.rels,r.2.Nodup:=qD hM;have hkd:=Jj hM;have hT6:∀ r (h1:r<d.length) (h2:r<S.rels.length),Tbl6 S S.rels[r].2 d[r]:=fun r h1 h2=>KX Pq (hd.2 r h1 h2)
  have hbu:=iH S d hdb;have hlv:=fun r (hr:r<S.rels.length)=>Jt S hB hS hc hnd hkd r hr (d[r]'Po) (by have:=hdb.l _ (aJ (show r<d.length by omega));omega) (hT6 r Po hr)
  have hlen:(joinL S d).length<=2000:=by
   rw [Ju hdb hnd];have h3:(iL S (bf S d)).length<=3:=by unfold iL;rw [On,xT];omega
   exact AT (K0 _ _ (LV hdb)) (AT (MM Pq h3) Pq)
  rw [K8 Po] at hbu;have hsi:=mI S d hdb Po;have hmk:=KM ((((joinL S d).length:Nat):Int)) Po Po;rw [Lt] at hmk;have hch:=IQ S d hdb hnd hkd hT6 S.rels.length [] (fun _=>none) Ps (fun q h=>by simp at h) (by simpa using Lp);rw [show (iL S (bf S d)).drop ([]:List Rw).length=iL S (bf S d) from O,<-Ju hdb hnd] at hch;have htu:=fun (y:Rw) (hy:y∈joinL S d)=>Lw hdb hnd hy
  have hasc:=tG hdb;have hRl:(iL S (bf S d)).length=S.rels.length:=by unfold iL;rw [On,xT,qz hdn];omega
  have hRg:=fun r (hr:r<S.rels.length) (h2:r<(iL S (bf S d)).length)=>Ls hdn hr h2
  have hSa:=hS.a;have hSr:=hS.r;have hSl:=hS.l;have hSb:=hS.b;have hTv:=fun r (h1:r<d.length) (h2:r<S.rels.length)=>(hT6 r h1 h2).v
  have hdl:=hdb.l;generalize iL S (bf S d)=L at*;generalize joinL S d=J at*;generalize Lib.decDigits J.length=DD at*;refine Z2 O O O<|Rs 35 O O (ae call12 hbu O) ?_;iterate 5 refine A1 O ?_
  refine Z2 O O O ?_;refine Gc O O (fun hc39=>absurd hc39 Ps) (fun hc39=>?_);refine Il<|Z3 O O O O ?_;refine Gl O (st:=fun ac:Nat=>mkS [(4,.ptr 1 0),(5,.pv (dbP d)),(6,.pv (bL J)),(45,.pv (bL J)),(46,.pv (.int .i64 J.length)),(47,.pv (.int .i64 ac))] [(1,oZ S)] 2)
   (I:=fun ac=>ac<=J.length) (μ:=fun ac=>J.length-ac) (x0:=(0)) (Io (aS O) (aO Pp) O O) (bk _) ?_
  rintro i hi;refine Z1 O O ?_;refine Gp O O (fun hc48=>?_) (fun hc48=>?_)
  ·have hiJ:i<J.length:=Po;have hyr:=aN hiJ;have hyn:=aW hiJ;obtain ⟨hyl,hyw,hpb,hfb⟩:=htu _ (aJ hiJ);have hprev:0<i->∃ hq:i-1<J.length,aZ (J[i-1]'hq).v J[i].v=true:=fun h0=>by
    obtain ⟨j,rfl⟩:∃ j,i=j+1:=⟨i-1,Po⟩;exact ⟨by simp only [Nat.add_sub_cancel];omega,by simpa using xS hasc hiJ⟩
   have hpl:∀ hq:i-1<J.length,(J[i-1]'hq).v.length=S.attrs.length:=fun hq=>(htu _ (aJ hq)).1
   have hpr:∀ hq:i-1<J.length,(aB J)[(i-1)*2]? =some (aI (J[i-1]'hq).v):=fun hq=>nr hq
   generalize J[i]=y at*;refine Il<|Z1 O O<|Rs 50 O O (ag i underlying38 lM O O O hiJ hyn)<|Rs 51 O O (db ⟨_,underlying49,O⟩ lM O hyr O)<|Y3 O O O<|Z1 O O ?_;by_cases hi0:i=0
   ·refine Ge O follows [0,1,2,3,4,5,6,7,8,9,10,11,12,13,14,15,16,17,18,19,20,21,22] Pp ?_;iterate 6 refine D1 O O ?_
    refine Ds 58 [] O O O (fun τ h=>XJ.cast (v':= .pv (.bool false)) (aQ (Ee h 0 O O) (Ee h 1 O O) O) (af (fun b=>V.pv (.bool b)) Pt)) O Pp ?_;iterate 2 refine D1 O O ?_
    refine Dg 61 [] O O O O (fun τ h=>XJ.cast (v':= .pv (.bool false)) (aQ (Ee h 0 O O) (Ee h 1 O O) O) (af (fun b=>V.pv (.bool b)) (Mu Po))) O Pp ?_;iterate 13 refine D1 O O ?_
    refine ⟨Pp,?_⟩;refine Gc O O (fun hc74=>absurd hc74 Ps) (fun hc74=>?_);refine Il<|Z4 O O O O O ?_;refine Gl O (st:=fun x_1:Nat=>mkS [(4,.ptr 1 0),(5,.pv (dbP d)),(6,.pv (bL J)),(9,.ptr 2 0),(10,.pv (.int .i64 (pwL y.v (L.take x_1)))),(45,.pv (bL J)),(46,.pv (.int .i64 J.length)),(47,.pv (.int .i64 i)),(76,.pv (.sl none S.rels.length (bj S.rels))),(77,.pv (.int .i64 S.rels.length)),(78,.pv (.int .i64 x_1))] [(1,oZ S),(2,.mix 49 [.pv (aI y.v),.pv (.int .i64 y.w)])] 3)
     (I:=fun x_1=>x_1<=S.rels.length) (μ:=fun x_1=>S.rels.length-x_1) (x0:=(0)) (Io (aS O) (aO Pp) O O) (bk _) ?_
    rintro r hr;refine Z1 O O ?_;refine Gp O O (fun hc79=>?_) (fun hc79=>?_)
    ·have hrS:r<S.rels.length:=Po;have hrd:r<d.length:=Po;have hrr:=cW hrS;have hrn:=ew hrS;have htn:Cq d≠[]:=fun e=>by have:=dH d;rw [e] at this;simp at this;omega
     have htr:(Cq d)[r*1]? =some (bL d[r]):=by simp [Cq,hrd]
     have hlvr:=hlv r hrS;have hps:=Kz (v:=y.v) (L:=L) (r:=r) Po;have hfr:=hfb _ (aJ (show r<L.length by omega));have hp1:=hpb r;have hp2:=hpb (r+1);have hxv:∀ x∈gF S S.rels[r].2 d[r],x.v.length=S.rels[r].2.length:=fun x hx=>(hTv r hrd hrS x (L9.1 hx).1).1
     have hml:(gF S S.rels[r].2 d[r]).length<=12:=AT (Mn _ _) (hdl _ (aJ hrd));rw [hRg r hrS Po] at hps hfr;rw [hps] at hp2;have hAl:=hSl _ (aJ hrS);have hAb:=hSb _ (aJ hrS);simp only at hps hfr hp2;generalize gF S S.rels[r].2 d[r]=m at*;generalize d[r]=dr at*;generalize S.rels[r]=rr at*;refine Il<|Z1 O O<|Rs 81 O O (ag r underlying31 Eu O O O hrS hrn)<|Rs 82 O O (db ⟨_,underlying30,O⟩ Eu O hrr O)<|Y3 O O O<|Z1 O O<|Ge O follows [0,1,2,3,4,5,6,7,8] Pp ?_;iterate 4 refine D1 O O ?_
     refine Ds 87 [] O O O (fun τ h=>ag r underlying36 qk (Ee h 0 O O) (Ee h 1 O O) O hrd htn) O Pp<|Ds 88 [] O O O (fun τ h=>ai ⟨_,underlying38,O⟩ (Ee h 0 O O) htr) O Pp<|Ds 89 [] O O O (fun τ h=>ae call21 hlvr (h.bt O)) O Pp ?_;iterate 2 refine D1 O O ?_
     refine ⟨Pp,?_⟩;refine Gl O (st:=fun x_2:Nat=>mkS [(4,.ptr 1 0),(5,.pv (dbP d)),(6,.pv (bL J)),(9,.ptr 2 0),(10,.pv (.int .i64 (pwL y.v (L.take r)))),(12,.ptr 3 0),(13,.pv (.int .i64 (J1 rr.2 y.v (m.take x_2)))),(45,.pv (bL J)),(46,.pv (.int .i64 J.length)),(47,.pv (.int .i64 i)),(76,.pv (.sl none S.rels.length (bj S.rels))),(77,.pv (.int .i64 S.rels.length)),(78,.pv (.int .i64 r)),(89,.pv (bL m)),(90,.pv (.int .i64 m.length)),(91,.pv (.int .i64 x_2))] [(1,oZ S),(2,.mix 49 [.pv (aI y.v),.pv (.int .i64 y.w)]),(3,.mix 30 [.pv (.str rr.1),.pv (ak rr.2)])] 4)
      (I:=fun x_2=>x_2<=m.length) (μ:=fun x_2=>m.length-x_2) (x0:=(0)) (Io (aS O) (aO Pp) O O) (bk _) ?_
     rintro j hj;refine Z1 O O ?_;refine Gp O O (fun hc92=>?_) (fun hc92=>?_)
     ·have hjm:j<m.length:=Po;have hzr:=aN hjm;have hzn:=aW hjm;have hzl:=hxv _ (aJ hjm);have hfs:=J9 (A:=rr.2) (v:=y.v) hjm;generalize m[j]=z at*;refine Il<|Gr O<|Rs 93 O O (ag j underlying38 lM O O O hjm hzn)<|Rs 94 O O (db ⟨_,underlying49,O⟩ lM O hzr O)<|Y2 O O<|Z1 O O<|Z4 O O O O O ?_;refine Gl O (st:=fun x_3:Nat×Bool=>mkS [(4,.ptr 1 0),(5,.pv (dbP d)),(6,.pv (bL J)),(9,.ptr 2 0),(10,.pv (.int .i64 (pwL y.v (L.take r)))),(12,.ptr 3 0),(13,.pv (.int .i64 (J1 rr.2 y.v (m.take j)))),(15,.ptr 4 0),(16,.pv (.bool x_3.2)),(45,.pv (bL J)),(46,.pv (.int .i64 J.length)),(47,.pv (.int .i64 i)),(76,.pv (.sl none S.rels.length (bj S.rels))),(77,.pv (.int .i64 S.rels.length)),(78,.pv (.int .i64 r)),(89,.pv (bL m)),(90,.pv (.int .i64 m.length)),(91,.pv (.int .i64 j)),(96,.pv (ak rr.2)),(97,.pv (.int .i64 rr.2.length)),(98,.pv (.int .i64 x_3.1))] [(1,oZ S),(2,.mix 49 [.pv (aI y.v),.pv (.int .i64 y.w)]),(3,.mix 30 [.pv (.str rr.1),.pv (ak rr.2)]),(4,.mix 49 [.pv (aI z.v),.pv (.int .i64 z.w)])] 5)
       (I:=fun x_3=>x_3.1<=rr.2.length/\x_3.2=((rr.2.zip z.v).take x_3.1).all (JI y.v)) (μ:=fun x_3=>rr.2.length-x_3.1) (x0:=(0,true)) (Io (aS O) (aO Pp) O O) (⟨bk _,O⟩) ?_
      rintro ⟨k,b⟩ ⟨hk,hb⟩;try simp only at hk hb ⊢
      refine Z1 O O ?_;refine Gp O O (fun hc99=>?_) (fun hc99=>?_)
      ·have hkA:k<rr.2.length:=Po;have hkz:k<z.v.length:=Po;obtain ⟨a,haa⟩:=so (hAb _ (aJ hkA)).1;have hal:a<y.v.length:=by have:=(hAb _ (aJ hkA)).2;omega
       have hqn:=aH hkA;have hqi:(aE rr.2)[k*1]? =some (.int .i64 (a:Int)):=by rw [<-haa];simp [hkA]
       have hzi:=aM hkz;have hzne:=bc hkz;have hyi:=aM hal;have hyne:=bc hal;have hbs:=all_succ (l:=rr.2.zip z.v) (n:=k) Pt (JI y.v);rw [Oj,show JI y.v (rr.2[k],z.v[k])=(z.v[k].toList==(y.v.getD rr.2[k].toNat eb).toList) from O,haa,Mb,show y.v.getD a eb=y.v[a] by simp [List.getD,hal],<-hb] at hbs;generalize z.v[k]=zk at*;generalize y.v[a]=ya at*;refine Il<|Z1 O O<|Rs 101 O O (ag k underlying22 sz3 O O O hkA hqn)<|Rs 102 O O (ai ⟨_,underlying3,O⟩ O hqi)<|Y2 O O ?_;by_cases g1:b=true
       ·subst g1;refine Ge O follows [0,1,2,3,4,5,6,7,8,9,10,11,12,13,14] Pp ?_;iterate 5 refine D1 O O ?_
        refine Dg 108 [] O O O O (fun τ h=>ag k underlying47 sz9 (Ee h 0 O O) (Ee h 1 O O) O hkz hzne) O Pp<|Dg 109 [] O O O O (fun τ h=>ai ⟨_,underlying9,O⟩ (Ee h 0 O O) hzi) O Pp ?_;iterate 3 refine D1 O O ?_
        refine Dg 113 [] O O O O (fun τ h=>ag a underlying47 sz9 (Ee h 0 O O) (Ee h 1 O O) O hal hyne) O Pp<|Dg 114 [] O O O O (fun τ h=>ai ⟨_,underlying9,O⟩ (Ee h 0 O O) hyi) O Pp ?_;iterate 3 refine D1 O O ?_
        refine ⟨Pp,?_⟩;exact Z2 O O O<|⟨(k+1,(zk.toList==ya.toList)),Io (aS O) (aO Pp) O O,⟨Po,by rw [hbs,NX]⟩,Pv⟩
       ·obtain rfl:b=false:=MH g1;refine Ge O follows [0,1,2,3,4,5,6,7,8,9,10,11,12,13,14] Pp ?_;iterate 15 refine D1 O O ?_
        refine ⟨Pp,?_⟩;exact Z2 O O O<|⟨(k+1,false),Io (aS O) (aO Pp) O O,⟨Po,by rw [hbs];rfl⟩,Pv⟩
      ·rw [a6 Pt] at hb;have hbz:b=I4 rr.2 y.v z:=hb;refine Gx O<|Z1 O O ?_;refine Gc O O (fun hc118=>?_) (fun hc118=>?_)
       ·have hbt:I4 rr.2 y.v z=true:=by rw [<-hbz];simpa using hc118
        rw [qY hbt] at hfs;exact Z3 O O O O<|Z2 O O O<|⟨(j+1),Io ⟨O,O,O,O,O,O,af (fun n:Int=>V.pv (.int .i64 n)) hfs.symm,O,O,O,O,O,O,O,O,O,Pw⟩ (aO Pp) O O,Po,Po⟩
       ·have hbt:¬ I4 rr.2 y.v z=true:=by rw [<-hbz];simpa using hc118
        rw [kH hbt] at hfs;exact Il<|Z2 O O O<|⟨(j+1),Io ⟨O,O,O,O,O,O,af (fun n:Int=>V.pv (.int .i64 n)) hfs.symm,O,O,O,O,O,O,O,O,O,Pw⟩ (aO Pp) O O,Po,Po⟩
     ·have hjl:j=m.length:=Po;subst hjl;rw [Mz];exact Gx O<|Z2 O O O<|Rs 124 O O (qa O O Po)<|A1 O<|Z2 O O O<|⟨(r+1),Io ⟨O,O,O,O,af (fun n:Int=>V.pv (.int .i64 n)) hps.symm,O,O,O,O,O,O,Pw⟩ (aO Pp) O O,Po,Po⟩
    ·have hrl:r=S.rels.length:=Po;subst hrl;have hp3:=(hpb L.length).1;rw [<-hRl,Mz,<-hyw];rw [Mz,<-hyw] at hp3;refine Gx O<|Z3 O O O O ?_;apply Ix 5 128 133 [129,130,131,132] O Py
     ·intro hb2;iterate 5 refine A1 O ?_
      exact Iq Px O O O
     ·intro hb2;iterate 5 refine A1 O ?_
      exact Iq Px O O O
     refine Gc O O (fun hc133=>absurd hc133 Pt) (fun hc133=>?_);exact Il<|Z2 O O O<|⟨(i+1),Io (aS O) (aO Pp) O O,Po,Po⟩
   ·obtain ⟨hq,hls⟩:=hprev Po;have hjl:=vV _ y.v (by rw [hpl hq];omega) Po;rw [hls] at hjl;have hpq:=hpr hq;refine Ge O follows [0,1,2,3,4,5,6,7,8,9,10,11,12,13,14,15,16,17,18,19,20,21,22] Pp ?_;iterate 6 refine D1 O O ?_
    refine Ds 58 [] O O O (fun τ h=>XJ.cast (v':= .pv (.bool false)) (aQ (Ee h 0 O O) (Ee h 1 O O) O) (af (fun b=>V.pv (.bool b)) Pt)) O Pp ?_;iterate 2 refine D1 O O ?_
    refine Dg 61 [] O O O O (fun τ h=>XJ.cast (v':= .pv (.bool true)) (aQ (Ee h 0 O O) (Ee h 1 O O) O) (af (fun b=>V.pv (.bool b)) (IS Po))) O Pp ?_;iterate 4 refine D1 O O ?_
    refine Dg 66 [] O O O O (fun τ h=>ag (i-1) underlying38 lM (Ee h 0 O O) (Ee h 1 O O) Po hq hyn) O Pp<|D1 O O<|Dg 68 [] O O O O (fun τ h=>ai ⟨_,underlying47,O⟩ (Ee h 0 O O) hpq) O Pp ?_;iterate 2 refine D1 O O ?_
    refine Dg 71 [] O O O O (fun τ h=>ae call20 hjl (h.bt O)) O Pp ?_;iterate 3 refine D1 O O ?_
    refine ⟨Pp,?_⟩;refine Gc O O (fun hc74=>absurd hc74 Ps) (fun hc74=>?_);refine Il<|Z4 O O O O O ?_;refine Gl O (st:=fun x_1:Nat=>mkS [(4,.ptr 1 0),(5,.pv (dbP d)),(6,.pv (bL J)),(9,.ptr 2 0),(10,.pv (.int .i64 (pwL y.v (L.take x_1)))),(45,.pv (bL J)),(46,.pv (.int .i64 J.length)),(47,.pv (.int .i64 i)),(76,.pv (.sl none S.rels.length (bj S.rels))),(77,.pv (.int .i64 S.rels.length)),(78,.pv (.int .i64 x_1))] [(1,oZ S),(2,.mix 49 [.pv (aI y.v),.pv (.int .i64 y.w)])] 3)
     (I:=fun x_1=>x_1<=S.rels.length) (μ:=fun x_1=>S.rels.length-x_1) (x0:=(0)) (Io (aS O) (aO Pp) O O) (bk _) ?_
    rintro r hr;refine Z1 O O ?_;refine Gp O O (fun hc79=>?_) (fun hc79=>?_)
    ·have hrS:r<S.rels.length:=Po;have hrd:r<d.length:=Po;have hrr:=cW hrS;have hrn:=ew hrS;have htn:Cq d≠[]:=fun e=>by have:=dH d;rw [e] at this;simp at this;omega
     have htr:(Cq d)[r*1]? =some (bL d[r]):=by simp [Cq,hrd]
     have hlvr:=hlv r hrS;have hps:=Kz (v:=y.v) (L:=L) (r:=r) Po;have hfr:=hfb _ (aJ (show r<L.length by omega));have hp1:=hpb r;have hp2:=hpb (r+1);have hxv:∀ x∈gF S S.rels[r].2 d[r],x.v.length=S.rels[r].2.length:=fun x hx=>(hTv r hrd hrS x (L9.1 hx).1).1
     have hml:(gF S S.rels[r].2 d[r]).length<=12:=AT (Mn _ _) (hdl _ (aJ hrd));rw [hRg r hrS Po] at hps hfr;rw [hps] at hp2;have hAl:=hSl _ (aJ hrS);have hAb:=hSb _ (aJ hrS);simp only at hps hfr hp2;generalize gF S S.rels[r].2 d[r]=m at*;generalize d[r]=dr at*;generalize S.rels[r]=rr at*;refine Il<|Z1 O O<|Rs 81 O O (ag r underlying31 Eu O O O hrS hrn)<|Rs 82 O O (db ⟨_,underlying30,O⟩ Eu O hrr O)<|Y3 O O O<|Z1 O O<|Ge O follows [0,1,2,3,4,5,6,7,8] Pp ?_;iterate 4 refine D1 O O ?_
     refine Ds 87 [] O O O (fun τ h=>ag r underlying36 qk (Ee h 0 O O) (Ee h 1 O O) O hrd htn) O Pp<|Ds 88 [] O O O (fun τ h=>ai ⟨_,underlying38,O⟩ (Ee h 0 O O) htr) O Pp<|Ds 89 [] O O O (fun τ h=>ae call21 hlvr (h.bt O)) O Pp ?_;iterate 2 refine D1 O O ?_
     refine ⟨Pp,?_⟩;refine Gl O (st:=fun x_2:Nat=>mkS [(4,.ptr 1 0),(5,.pv (dbP d)),(6,.pv (bL J)),(9,.ptr 2 0),(10,.pv (.int .i64 (pwL y.v (L.take r)))),(12,.ptr 3 0),(13,.pv (.int .i64 (J1 rr.2 y.v (m.take x_2)))),(45,.pv (bL J)),(46,.pv (.int .i64 J.length)),(47,.pv (.int .i64 i)),(76,.pv (.sl none S.rels.length (bj S.rels))),(77,.pv (.int .i64 S.rels.length)),(78,.pv (.int .i64 r)),(89,.pv (bL m)),(90,.pv (.int .i64 m.length)),(91,.pv (.int .i64 x_2))] [(1,oZ S),(2,.mix 49 [.pv (aI y.v),.pv (.int .i64 y.w)]),(3,.mix 30 [.pv (.str rr.1),.pv (ak rr.2)])] 4)
      (I:=fun x_2=>x_2<=m.length) (μ:=fun x_2=>m.length-x_2) (x0:=(0)) (Io (aS O) (aO Pp) O O) (bk _) ?_
     rintro j hj;refine Z1 O O ?_;refine Gp O O (fun hc92=>?_) (fun hc92=>?_)
     ·have hjm:j<m.length:=Po;have hzr:=aN hjm;have hzn:=aW hjm;have hzl:=hxv _ (aJ hjm);have hfs:=J9 (A:=rr.2) (v:=y.v) hjm;generalize m[j]=z at*;refine Il<|Gr O<|Rs 93 O O (ag j underlying38 lM O O O hjm hzn)<|Rs 94 O O (db ⟨_,underlying49,O⟩ lM O hzr O)<|Y2 O O<|Z1 O O<|Z4 O O O O O ?_;refine Gl O (st:=fun x_3:Nat×Bool=>mkS [(4,.ptr 1 0),(5,.pv (dbP d)),(6,.pv (bL J)),(9,.ptr 2 0),(10,.pv (.int .i64 (pwL y.v (L.take r)))),(12,.ptr 3 0),(13,.pv (.int .i64 (J1 rr.2 y.v (m.take j)))),(15,.ptr 4 0),(16,.pv (.bool x_3.2)),(45,.pv (bL J)),(46,.pv (.int .i64 J.length)),(47,.pv (.int .i64 i)),(76,.pv (.sl none S.rels.length (bj S.rels))),(77,.pv (.int .i64 S.rels.length)),(78,.pv (.int .i64 r)),(89,.pv (bL m)),(90,.pv (.int .i64 m.length)),(91,.pv (.int .i64 j)),(96,.pv (ak rr.2)),(97,.pv (.int .i64 rr.2.length)),(98,.pv (.int .i64 x_3.1))] [(1,oZ S),(2,.mix 49 [.pv (aI y.v),.pv (.int .i64 y.w)]),(3,.mix 30 [.pv (.str rr.1),.pv (ak rr.2)]),(4,.mix 49 [.pv (aI z.v),.pv (.int .i64 z.w)])] 5)
       (I:=fun x_3=>x_3.1<=rr.2.length/\x_3.2=((rr.2.zip z.v).take x_3.1).all (JI y.v)) (μ:=fun x_3=>rr.2.length-x_3.1) (x0:=(0,true)) (Io (aS O) (aO Pp) O O) (⟨bk _,O⟩) ?_
      rintro ⟨k,b⟩ ⟨hk,hb⟩;try simp only at hk hb ⊢
      refine Z1 O O ?_;refine Gp O O (fun hc99=>?_) (fun hc99=>?_)
      ·have hkA:k<rr.2.length:=Po;have hkz:k<z.v.length:=Po;obtain ⟨a,haa⟩:=so (hAb _ (aJ hkA)).1;have hal:a<y.v.length:=by have:=(hAb _ (aJ hkA)).2;omega
       have hqn:=aH hkA;have hqi:(aE rr.2)[k*1]? =some (.int .i64 (a:Int)):=by rw [<-haa];simp [hkA]
       have hzi:=aM hkz;have hzne:=bc hkz;have hyi:=aM hal;have hyne:=bc hal;have hbs:=all_succ (l:=rr.2.zip z.v) (n:=k) Pt (JI y.v);rw [Oj,show JI y.v (rr.2[k],z.v[k])=(z.v[k].toList==(y.v.getD rr.2[k].toNat eb).toList) from O,haa,Mb,show y.v.getD a eb=y.v[a] by simp [List.getD,hal],<-hb] at hbs;generalize z.v[k]=zk at*;generalize y.v[a]=ya at*;refine Il<|Z1 O O<|Rs 101 O O (ag k underlying22 sz3 O O O hkA hqn)<|Rs 102 O O (ai ⟨_,underlying3,O⟩ O hqi)<|Y2 O O ?_;by_cases g1:b=true
       ·subst g1;refine Ge O follows [0,1,2,3,4,5,6,7,8,9,10,11,12,13,14] Pp ?_;iterate 5 refine D1 O O ?_
        refine Dg 108 [] O O O O (fun τ h=>ag k underlying47 sz9 (Ee h 0 O O) (Ee h 1 O O) O hkz hzne) O Pp<|Dg 109 [] O O O O (fun τ h=>ai ⟨_,underlying9,O⟩ (Ee h 0 O O) hzi) O Pp ?_;iterate 3 refine D1 O O ?_
        refine Dg 113 [] O O O O (fun τ h=>ag a underlying47 sz9 (Ee h 0 O O) (Ee h 1 O O) O hal hyne) O Pp<|Dg 114 [] O O O O (fun τ h=>ai ⟨_,underlying9,O⟩ (Ee h 0 O O) hyi) O Pp ?_;iterate 3 refine D1 O O ?_
        refine ⟨Pp,?_⟩;exact Z2 O O O<|⟨(k+1,(zk.toList==ya.toList)),Io (aS O) (aO Pp) O O,⟨Po,by rw [hbs,NX]⟩,Pv⟩
       ·obtain rfl:b=false:=MH g1;refine Ge O follows [0,1,2,3,4,5,6,7,8,9,10,11,12,13,14] Pp ?_;iterate 15 refine D1 O O ?_
        refine ⟨Pp,?_⟩;exact Z2 O O O<|⟨(k+1,false),Io (aS O) (aO Pp) O O,⟨Po,by rw [hbs];rfl⟩,Pv⟩
      ·rw [a6 Pt] at hb;have hbz:b=I4 rr.2 y.v z:=hb;refine Gx O<|Z1 O O ?_;refine Gc O O (fun hc118=>?_) (fun hc118=>?_)
       ·have hbt:I4 rr.2 y.v z=true:=by rw [<-hbz];simpa using hc118
        rw [qY hbt] at hfs;exact Z3 O O O O<|Z2 O O O<|⟨(j+1),Io ⟨O,O,O,O,O,O,af (fun n:Int=>V.pv (.int .i64 n)) hfs.symm,O,O,O,O,O,O,O,O,O,Pw⟩ (aO Pp) O O,Po,Po⟩
       ·have hbt:¬ I4 rr.2 y.v z=true:=by rw [<-hbz];simpa using hc118
        rw [kH hbt] at hfs;exact Il<|Z2 O O O<|⟨(j+1),Io ⟨O,O,O,O,O,O,af (fun n:Int=>V.pv (.int .i64 n)) hfs.symm,O,O,O,O,O,O,O,O,O,Pw⟩ (aO Pp) O O,Po,Po⟩
     ·have hjl:j=m.length:=Po;subst hjl;rw [Mz];exact Gx O<|Z2 O O O<|Rs 124 O O (qa O O Po)<|A1 O<|Z2 O O O<|⟨(r+1),Io ⟨O,O,O,O,af (fun n:Int=>V.pv (.int .i64 n)) hps.symm,O,O,O,O,O,O,Pw⟩ (aO Pp) O O,Po,Po⟩
    ·have hrl:r=S.rels.length:=Po;subst hrl;have hp3:=(hpb L.length).1;rw [<-hRl,Mz,<-hyw];rw [Mz,<-hyw] at hp3;refine Gx O<|Z3 O O O O ?_;apply Ix 5 128 133 [129,130,131,132] O Py
     ·intro hb2;iterate 5 refine A1 O ?_
      exact Iq Px O O O
     ·intro hb2;iterate 5 refine A1 O ?_
      exact Iq Px O O O
     refine Gc O O (fun hc133=>absurd hc133 Pt) (fun hc133=>?_);exact Il<|Z2 O O O<|⟨(i+1),Io (aS O) (aO Pp) O O,Po,Po⟩
  ·refine Gx O<|Z2 O O O<|Rs 138 O O (ae call13 hsi O) ?_;iterate 5 refine A1 O ?_
   refine Gr O ?_;iterate 6 refine A1 O ?_
   refine Rg 147 O O O (ae call14 hmk O)<|Rg 148 O O O (XJ.cast (v':= .pv (.bool true)) (cF O O O) (af (fun b=>V.pv (.bool b)) Ps)) ?_;iterate 6 refine A1 O ?_
   exact Rg 155 O O O (ae call22 hch O)<|Rg 156 O O O (XJ.cast (v':= .pv (.bool true)) (aQ O O O) (af (fun b=>V.pv (.bool b)) Ps))<|Y2 O O<|Rg 159 O O O (ae call9 pX O)<|Y2 O O<|Gt O<|⟨_,_,O,O,O⟩
end
theorem gy {P:Program} {W:World} {n:String} {g:Nat} {cs:Array Value} (hg:P.globalNamed n=some g) (h:W.var? P n=some cs):∃ t fz,W.heap[g]? =some (.cells cs t fz):=by
 simp only [World.var?,hg,Option.bind_some] at h;split at h
 ·rename_i cs' t fz hb;cases h;exact ⟨t,fz,hb⟩
 ·cases h
theorem oF {W:World} {g:Nat} {o:Obj} (h:W.heap[g]? =some o):g<W.heap.size:=(NV.1 h).1
theorem gv0:prog.globalNamed "internal/strconv.uint64pow10" =some 0:=Pp
theorem gv4:prog.globalNamed "strconv.ErrSyntax" =some 4:=Pp
theorem gv5:prog.globalNamed "strconv.ErrRange" =some 5:=Pp
theorem gt0:(prog.globals[0]?).map (·.type)=some 283:=Pp
theorem gt4:(prog.globals[4]?).map (·.type)=some 167:=Pp
theorem gt5:(prog.globals[5]?).map (·.type)=some 167:=Pp
theorem An {W:World} (h:W.ShapedOpen prog):∃ (m:Int) (t:TypeId) (fz:Nat×Nat),W.heap[1]? =some (.cells #[.int .i64 m] t fz):=by
 obtain ⟨cs,hh,hs,hr⟩:=h.1 1 #[.int .i64 0] 3 (Ng Pp) Pp;obtain ⟨ts,hts,_,hall⟩:=hr Pp;rw [show prog.cellTypes prog.depth 3=some [3] by kernel_rfl] at hts;cases hts;have h1:cs.size=1:=hs;obtain ⟨u,hu',hok⟩:=hall 0 cs[0] (by simp [h1]);obtain rfl:u=3:=by simpa using hu'.symm
 have hm:∃ m,cs[0]= .int .i64 m:=by
  unfold Cell.ok at hok;rw [underlying3] at hok;cases hv:cs[0]<;>rw [hv] at hok<;>simp at hok;rename_i k m;obtain rfl:=hok.1;exact ⟨m,O⟩
 obtain ⟨m,hm⟩:=hm;have:cs= #[.int .i64 m]:=by
  apply Array.ext
  ·simp [h1]
  ·intro i h2 h3;have:i=0:=Po;subst this;simpa using hm
 rw [this] at hh;exact ⟨m,_,_,hh⟩
def HP:List (String×DataW Unit):=Rows.joinProductRow.laid
theorem Fv {W:World} (hsh:W.ShapedOpen prog) (h:laidMetH prog HP W):lA W (fun b=>b<W.heap.size):=by
 rw [MakeChecks.laidMetH_plain _ _ _ Pp] at h;obtain ⟨ps,⟨g0,t0,cs0,f0,p0,q0,hg0,ht0,hv0,hd0,⟨g1,t1,cs1,f1,p1,q1,hg1,ht1,hv1,hd1,⟨g2,t2,cs2,f2,p2,q2,hg2,ht2,hv2,hd2,⟨g4,t4,cs4,f4,p4,q4,hg4,ht4,hv4,hd4,⟨g5,t5,cs5,f5,p5,q5,hg5,ht5,hv5,hd5,_⟩,_⟩,_⟩,_⟩,_⟩,_,_⟩:=h;obtain rfl:=Nq (gv0.symm.trans hg2);obtain rfl:=Nq (gv5.symm.trans hg4);obtain rfl:=Nq (gv4.symm.trans hg5);obtain rfl:=Nq (gt0.symm.trans ht2);obtain rfl:=Nq (gt5.symm.trans ht4);obtain rfl:=Nq (gt4.symm.trans ht5);have e2:cs2.toList=Lib.pow10Tab.map fun z=>Value.int .u64 z:=Lib.cells_of_tab underlying283 underlying136 Pp Pp hd2
 obtain ⟨_,u4,v4,e4,_⟩:=iface_of_trod underlying167 hd4;obtain ⟨_,u5,v5,e5,_⟩:=iface_of_trod underlying167 hd5;obtain ⟨x2,y2,b2⟩:=gy gv0 hv2;obtain ⟨x4,y4,b4⟩:=gy gv5 hv4;obtain ⟨x5,y5,b5⟩:=gy gv4 hv5;obtain ⟨m,x1,y1,b1⟩:=An hsh;obtain ⟨l2⟩:=cs2;obtain ⟨l4⟩:=cs4;obtain ⟨l5⟩:=cs5;simp only at e2 e4 e5;subst e2 e4 e5;intro x hx;simp only [glb,sh,NC,Pf] at hx;rcases hx with rfl | rfl | rfl | rfl
 ·exact ⟨oF b2,_,b2,_,_,O⟩
 ·exact ⟨oF b1,_,b1,_,_,_,O⟩
 ·exact ⟨oF b5,_,b5,_,_,_,_,O⟩
 ·exact ⟨oF b4,_,b4,_,_,_,_,O⟩
noncomputable def witW (os:Os):World:=World.doorLaid prog 54 os
theorem wL (os:Os) (args:Array Value):((witW os).forCall (fun _ _=>0) ⟨#[],args,[]⟩).Shaped prog:=World.shaped_of_RefB Pp Pp
theorem Fq (os:Os) (args:Array Value):laidMetH prog HP ((witW os).forCall (fun _ _=>0) ⟨#[],args,[]⟩).memory:=
 laidMetH_of_parts3 (fuel:=8) (laidMet_of_run' 8 Pp Pp) Pp Pp
section
open Go.RowKit Go.ChangeShapes Go.WideShapes Go.Deep
def OpT (P:Program) (t:TypeId) {α:Type} (f:α->List PV) (I:α->Prop):Prop:=
 ∀ (H:Type) (enc:TypeId×Value->H) (w:World) (base:Nat) (spare:Nat->Bool) (held:Bool) (fuel:Nat) (cs:List Value) (x:DataW H×List MemPlace),
  DataW.trod enc P w base spare held fuel t cs=some x->∃ a,I a/\RelPL w (fun b=>b<w.heap.size) (f a) cs
section
variable {P:Program} {t:TypeId}
theorem OpT.map {α β:Type} {f:α->List PV} {I:α->Prop} {f':β->List PV} {I':β->Prop} (h:OpT P t f I) (g:α->β) (hf:∀ a,f' (g a)=f a) (hI:∀ a,I a->I' (g a)):OpT P t f' I':=
 fun H enc w base spare held fuel cs x hx=>by
  obtain ⟨a,ha,hr⟩:=h H enc w base spare held fuel cs x hx;exact ⟨g a,hI a ha,by rw [hf];exact hr⟩
theorem RelPL.one {w:World} {R:Nat->Prop} {p:PV} {u:Value} (h:RelP w R p u):RelPL w R [p] [u]:=RelPL.cons h RelPL.nil
theorem OpT.int (ht:P.underlying t=some (.int .i64)):OpT P t (fun n:Int=>[.int .i64 n]) (fun n=> -9223372036854775808<=n/\n<=9223372036854775807):=
 fun H enc w base spare held fuel cs x hx=>by
  obtain ⟨n,rfl,_,hw⟩:=DataW.trod_int ht hx;exact ⟨n,bounds_i64 hw,RelPL.one (by simp only [RelP])⟩
theorem vJ {w:World} {R:Nat->Prop} {α:Type} {f:α->List PV}:∀ {n:Nat} {A:Nat->α} {us:Nat->List Value},(∀ i,i<n->RelPL w R (f (A i)) (us i))->RelPL w R (((List.range n).map A).flatMap f) ((List.range n).flatMap us):=by
 intro n A us h;induction n with
 | zero=>simpa using RelPL.nil
 | succ n ih=>
   rw [NY,Mw,Nb,Nb];refine RelPL.append (ih fun i hi=>h i Po) ?_;simpa using h n Po
theorem oo {c:Nat} {us:Nat->List Value}:∀ {n:Nat},(∀ i,i<n->(us i).length=c)->((List.range n).flatMap us).length=n*c/\∀ i j,i<n->j<c->((List.range n).flatMap us)[i*c+j]? =(us i)[j]? :=by
 intro n h;induction n with
 | zero=>exact ⟨Ps,fun i j hi=>absurd hi Po⟩
 | succ n ih=>
   obtain ⟨h1,h2⟩:=ih fun i hi=>h i Po
   rw [NY,Nb];refine ⟨by rw [kQ,h1,List.flatMap_singleton,h n Po,Pd],fun i j hi hj=>?_⟩;by_cases e:i<n
   ·rw [List.getElem?_append_left (by rw [h1];calc i*c+j<i*c+c:=Po
     _=(i+1)*c:=by rw [Pd]
     _<=n*c:=ML c e)]
    exact h2 i j e hj
   ·obtain rfl:i=n:=Po;rw [List.getElem?_append_right (by rw [h1];omega),h1,List.flatMap_singleton,show i*c+j-i*c=j by omega]
theorem OpT.sl {e:TypeId} {α:Type} {f:α->List PV} {I:α->Prop} (c:Nat) [Inhabited α] (ht:P.underlying t=some (.slice e)) (hc:P.cellsOf e=c) (h:OpT P e f I):
  OpT P t (fun l:List α=>[.sl none l.length (l.flatMap f)]) (fun l=>l.length<=maxLen/\∀ a∈l,I a):=
 fun H enc w base spare held fuel cs x hx=>by
  rcases open_slice ht hx with ⟨rfl,rfl⟩ | ⟨a,len,cap,m,n,D,Pl,rfl,hb,hl,hm,hmm,hxe,hel⟩
  ·refine ⟨[],⟨Ps,Ps⟩,RelPL.one ?_⟩;simp only [RelP];exact ⟨none,0,O,xV _,by simp [maxLen],(fun _ e=>by cases e),(fun e=>by cases e),fun e=>absurd rfl e⟩
  ·have hlm:len<=m:=by rw [hmm];split<;>omega
   rw [hc] at hel;have hx2:∀ i,i<len->∃ p:α×List Value,I p.1/\RelPL w (fun b=>b<w.heap.size) (f p.1) p.2/\p.2.length=c/\∀ j,j<c->w.cell? (a.add (i*c+j))=p.2[j]? :=fun i hi=>by
    obtain ⟨cs',h1,h2⟩:=hel i Po;obtain ⟨y,hy,hr⟩:=h H enc w base spare held n cs' _ h2;obtain ⟨_,h3,h4⟩:=World.cells?_some h1;exact ⟨(y,cs'),hy,hr,h3,fun j hj=>by rw [<-add_add];exact h4 j hj⟩
   obtain ⟨F,hF⟩:=choose_lt hx2;have hlen:((List.range len).map fun i=>(F i).1).length=len:=Ps;refine ⟨(List.range len).map fun i=>(F i).1,⟨by rw [hlen];omega,fun y hy=>?_⟩,RelPL.one ?_⟩
   ·obtain ⟨i,hi,rfl⟩:=IT.1 hy;exact (hF i (Mx.1 hi)).1
   ·rw [hlen];simp only [RelP];refine ⟨some a,cap,O,hl,hm,(fun _ e=>by cases e),(fun e=>by cases e),fun hne=>?_⟩;have hrel:=vJ (w:=w) (R:=fun b=>b<w.heap.size) (f:=f) (A:=fun i=>(F i).1) (us:=fun i=>(F i).2) fun i hi=>(hF i hi).2.1
    obtain ⟨hL,hat⟩:=oo (us:=fun i=>(F i).2) (c:=c) (n:=len) fun i hi=>(hF i hi).2.2.1
    generalize hU:(List.range len).flatMap (fun i=>(F i).2)=U at hrel hL hat
    have hpos:0<len*c:=by
     rw [<-hL,RelPL.length hrel];exact MB.2 hne
    have hlen0:0<len:=Nat.pos_of_mul_pos_right hpos;have hc0:0<c:=Nat.pos_of_mul_pos_left hpos;have hcell:∀ k,k<len*c->w.cell? (a.add k)=U[k]? :=fun k hk=>by
     have e:k=k/c*c+k%c:=by rw [MU];exact (Nat.div_add_mod k c).symm
     have h1:k/c<len:=Nat.div_lt_of_lt_mul (by rw [MU];exact hk);have h2:k%c<c:=Ni _ hc0;rw [e,hat _ _ h1 h2];exact (hF _ h1).2.2.2 _ h2
    have h0:=hcell 0 hpos;rw [kJ Po] at h0;obtain ⟨b,off,sp⟩:=a;have hsp:sp=none:=by
     cases sp with
     | none=>rfl
     | some s=>
       exfalso;have e:(⟨b,off,some s⟩:Addr).add 0=⟨b,off,some s⟩:=rfl;rw [e] at h0;unfold World.cell? at h0;split at h0
       ·simp at h0
       ·cases h0
    subst hsp;rw [Addr.add_lit] at h0;refine ⟨b,off,U,O,hrel,World.block_lt_of_cell? w _ h0,fun j hj=>?_⟩;have:=hcell j Po;rw [Addr.add_lit] at this;exact this
end
section
variable {H:Type} {enc:TypeId×Value->H} {P:Program} {w:World} {base:Nat} {spare:Nat->Bool} {held:Bool} {t:TypeId} {v:Value} {d:DataW H} {ps:List MemPlace} {r:Go.Reach} {b0:Nat}
theorem OpT.one {α:Type} {p:α->PV} {I:α->Prop} (ho:OpT P t (fun a=>[p a]) I) (hv:v.cells= #[v]) (h:DataW.Trod enc P w base spare held t v d ps):∃ a,I a/\RelP w (fun b=>b<w.heap.size) (p a) v:=by
 obtain ⟨fuel,hf⟩:=h;obtain ⟨a,ha,hr⟩:=ho _ _ _ _ _ _ _ _ _ hf;refine ⟨a,ha,?_⟩;rw [hv] at hr;simp only [RelPL] at hr;obtain ⟨u,vs,e,h1,_⟩:=hr;simp at e;rw [e.1];exact h1
end
#print axioms OpT.sl
end
theorem Hr:OpT prog 3 (fun n:Int=>[.int .i64 n]) (fun n=> -9223372036854775808<=n/\n<=9223372036854775807):=OpT.int underlying3
theorem FC:OpT prog 22 (fun l:List Int=>[ak l]) (fun l=>l.length<=9223372036854775807):=
 (OpT.sl 1 underlying22 Pp Hr).map id (fun l=>by
  show [PV.sl none l.length (aE l)]=[PV.sl none l.length (l.flatMap fun n=>[PV.int .i64 n])]
  congr 2
  induction l with
  | nil=>rfl
  | cons x l ih=>simp [<-ih]) (fun l h=>h.1)
end Go.Proofs.YtedfonppffochaaGreatDoor
