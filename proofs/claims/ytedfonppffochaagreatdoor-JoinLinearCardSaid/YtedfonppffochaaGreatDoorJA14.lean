/- Lemmas for the statement of this claim's last text. No condition. -/
import Derived.Handed
import Derived.LaidMore
import Derived.LaidLaws
import Derived.LaidHandle
import Derived.MakeChecks
import Derived.Lib.LaidTab
import Derived.Deep.Slices
import Derived.ChangeArms
import Derived.OpenShut
import Derived.Test.YtedfonppffochaaGreatDoorJA13
set_option maxRecDepth 100000
set_option maxHeartbeats 4000000
open Go.RowKit Go.Proofs.Tryz
namespace Go.Proofs.YtedfonppffochaaGreatDoor
section
open Mk Jn
structure DelX (S:Sch) (A:List Int) (x:List Rw):Prop where
 n:x.length<=3
 v:∀ z∈x,MdV S A z.v
 w:∀ z∈x, -20<=z.w/\z.w<=20
theorem xT {S:Sch} {A:List Int} {most:Nat} {l:List Rw} (h:MdT S A most l):(∀ x∈l,MdV S A x.v)/\(∀ x∈l,1<=x.w/\x.w<=5*most)/\l.length<=most:=by
 obtain ⟨l0,rfl,hl,hx⟩:=h;have hp:∀ z∈l0,0<z.w:=fun z hz=>by have:=(hx z hz).1;omega
 have hs:=tU hp;have ht:o0 l0<=5*l0.length:=GK fun x hx'=>(hx x hx').1.2
 refine ⟨fun x hx'=>?_,fun x hx'=>?_,uv hs.len hl⟩
 ·obtain ⟨z,hz,e⟩:=hs.val x hx';rw [e];exact (hx z hz).2
 ·have h1:=zR (hs.pos hp) x hx';rw [hs.tot] at h1;have:=hs.pos hp x hx';omega
theorem NB {S:Sch} {A:List Int} {l:List Rw} (h:MdT S A 2 l):DelX S A l:=by
 obtain ⟨h1,h2,h3⟩:=xT h;exact ⟨OC,h1,fun z hz=>by have:=h2 z hz;omega⟩
theorem Ny {S:Sch} {A:List Int} {l:List Rw} (h:MdT S A 2 l) {y:Rw} {w:Int} (hv:MdV S A y.v) (hw:1<=w/\w<=20):DelX S A (l++[⟨y.v, -w⟩]):=by
 obtain ⟨h1,h2,h3⟩:=xT h;refine ⟨OH,fun z hz=>?_,fun z hz=>?_⟩
 ·rcases my.1 hz with hz | hz
  ·exact h1 z hz
  ·rw [fe.1 hz];exact hv
 ·rcases my.1 hz with hz | hz
  ·have:=h2 z hz;omega
  ·rw [fe.1 hz];simp only;omega
theorem MG {S:Sch} {A:List Int} {q:List Rw} (h:DelX S A q) (hq:0<q.length) {w:Int} (hw:1<=w/\w<=20):DelX S A (q.set 0 ⟨q[0].v, -w⟩):=by
 refine ⟨by rw [tx];exact h.n,fun z hz=>?_,fun z hz=>?_⟩
 ·rcases JS hz with hz | rfl
  ·exact h.v z hz
  ·show MdV S A q[0].v;exact h.v _ (aJ hq)
 ·rcases JS hz with hz | rfl
  ·exact h.w z hz
  ·simp only;omega
theorem MU (L:List Int) (k:Nat) (hL:L.length<=600) (hk:k<=L.length) (S:Sch) (hS:SJn S) (hr1:1<=S.rels.length) (d:List (List Rw)) (hd:d.length=S.rels.length) (hT:∀ i (h:i<d.length) (h2:i<S.rels.length),MdT S S.rels[i].2 4 d[i]):
  FnM Tryz.prog 23 85 (jB L k) [gK S,dbP d] (fun v c=>(∃ (r:Nat) (hr:r<S.rels.length) (x:List Rw),DelX S S.rels[r].2 x/\v= .agg [.int .i64 r,bL (lH x)])/\∃ k',k'<=L.length/\c=jB L k'):=by
 refine FnM.ofC (rt:=59) (k:=2) func23 O ntmps23 OG O OG ⟨_,underlying59,O⟩ sz59 fun m0 w0 F R0=>?_
 have hkk:∀ k,k<=L.length->sNk L k<=L.length:=fun k hk=>by unfold sNk;split<;>omega
 have hSr:=hS.r;have hn1:=zP L k (S.rels.length:Int) hL hk OC OC;have hb1:=uV L k (S.rels.length:Int) OC;have hk1:=hkk _ hk;obtain ⟨r,hre⟩:=rK hb1.1;rw [hre] at hn1 hb1;have hr:r<S.rels.length:=OC;have hrd:r<d.length:=OC;have hA:=hS.l _ (aJ hr);have hAb:=hS.b _ (aJ hr);obtain ⟨hdv,hdw,hdl⟩:=xT (hT r hrd hr);generalize sNk L k=k1 at*;have hro:=Nu L k1 hL hk1 S r 2 OE hr hA hAb;have htn:=dN hrd;have htr:=cD hrd;have hres:∀ x,DelX S S.rels[r].2 x->∃ (r':Nat) (hr:r'<S.rels.length) (x':List Rw),DelX S S.rels[r'].2 x'/\PV.agg [.int .i64 r,bL (lH x)]= .agg [.int .i64 r',bL (lH x')]:=fun x h=>⟨r,hr,x,h,O⟩
 have hso:=fun x (h:DelX S S.rels[r].2 x)=>wM x (by have:=h.n;omega) (fun z hz=>by have:=(h.v z hz).1;omega) (fun z hz=>by have:=h.w z hz;omega)
 generalize S.rels[r].2=A at*;generalize d[r]=dr at*;refine Z2 O O O<|Z4 O O O O O<|Rs 15 O O (iu call18 hn1 O O)<|A1 O<|Z4 O O O O O<|Z3 O O O O ?_;refine RL.call O (fA [big] 3 call15 hro O O O O ⟨O,OK⟩ OE O ?_);rintro _ _ ⟨l,hl,rfl,k2,hk2,rfl⟩;refine A1 O ?_;have hlc:=aK l;have hdx:=NB hl;have hll:=(xT hl).2.2;have hn2:=zP L k2 2 hL hk2 OC OC;have hk3:=hkk _ hk2;have hlt4:((r:Int)<(d.length:Int)):=OC;by_cases hd0:dr.length=0
 ·refine Z3 O O O O<|Rs 25 O O (XJ.cast (v':= .pv (.bool true)) (aQ O O O) (af (fun b=>V.pv (.bool b)) (x7 hlt4)))<|Y3 O O O<|Rg 29 O O O (ag r underlying36 qk O O O hrd htn)<|Rg 30 O O O (ai ⟨_,underlying38,O⟩ O htr)<|A1 O<|Rg 32 O O O (XJ.cast (v':= .pv (.bool false)) (aQ O O O) (af (fun b=>V.pv (.bool b)) (Et OC))) ?_;iterate 6 refine A1 O ?_
  refine Gc O O (fun hc38=>absurd hc38 OG) (fun hc38=>?_);have hqx:=hdx;have hqc:=hlc;have hkq:=hk2;refine Wk [(0,.ptr big 0),(6,.ptr 1 0),(7,.pv (.int .i64 r)),(8,.ptr 2 0),(9,.gsl 3 2 l.length)] [(big,HD L k2),(1,.mix 59 [.pv (.int .i64 0),.pv nS]),(2,.mix 59 [.pv (.int .i64 r),.pv nS]),(3,.gro 49 (aB l))] 4 (aS O) (aO OD) O O ?_;generalize l=q at*;generalize k2=kq at*;have hn8:=zP L kq 8 hL hkq OC OC;have hk8:=hkk _ hkq;generalize sNk L kq=k8 at*;generalize sNv L kq 8=v8 at*;refine Il ?_;by_cases g7:v8=7
  ·refine Z1 O O<|Rs 64 O O (iu call18 hn8 O O)<|Rs 65 O O (XJ.cast (v':= .pv (.bool true)) (aQ O O O) (af (fun b=>V.pv (.bool b)) (by simpa using g7))) ?_;iterate 5 refine A1 O ?_
   refine Gp O O (fun hc70=>?_) (fun hc70=>?_)
   ·have hq0:0<q.length:=OC;have hn9:=Jk L k8 1 9 hL hk8 OC OC OC;have hb9:=uV L k8 (9-1+1) OC;have hk9:=hkk _ hk8;obtain ⟨rw9,hrwe⟩:∃ rw9,rw9=1+sNv L k8 (9-1+1):=⟨_,O⟩;rw [<-hrwe] at hn9;have hds:=MG hqx hq0 (w:=rw9) OC;have hrs:=qu hq0 (-rw9);have hqne:=aW hq0;generalize sNk L k8=k9 at*;have hso2:FnP Tryz.prog 31 [.sl none q.length ((aB q).set (0*2+1) (.int .i64 (-rw9)))] (· =bL (lH (q.set 0 ⟨q[0].v, -rw9⟩))):=by
     rw [hrs];have:=hso _ hds;rwa [show bL (q.set 0 ⟨q[0].v, -rw9⟩)= .sl none q.length (aB (q.set 0 ⟨q[0].v, -rw9⟩)) by rw [bL,tx]] at this
    refine Im (St.ku 9 O O hq0 hqne)<|Z2 O O O<|Rs 73 O O (iu call60 hn9 O O)<|A1 O<|Rs 75 O O (aa 0 underlying38 lM O O O O hq0)<|A1 O<|RL.step (d:=none) O O (aF sz3 O O O O OC)<|Im (St.pn 9 O O hq0 (by intro e;have h:=af List.length e;rw [tx] at h;exact hqne (vG h))) ?_;exact Im (Ir 3 O O)<|Z1 O O<|Rs 78 O O (ae call31 hso2 O)<|Y2 O O<|Z2 O O O<|Gt O<|⟨1,_,[.int .i64 r,bL (lH (q.set 0 ⟨q[0].v, -rw9⟩))],jB L k9,O,O,O,O,O,hres _ hds,k9,hk9,O⟩
   ·have hso2:=hso q hqx;exact Im (Ir 3 O O)<|Il<|Z1 O O<|Rs 78 O O (ae call31 hso2 O)<|Y2 O O<|Z2 O O O<|Gt O<|⟨1,_,[.int .i64 r,bL (lH q)],jB L k8,O,O,O,O,O,hres _ hqx,k8,hk8,O⟩
  ·refine Z1 O O<|Rs 64 O O (iu call18 hn8 O O)<|Rs 65 O O (XJ.cast (v':= .pv (.bool false)) (aQ O O O) (af (fun b=>V.pv (.bool b)) (by simpa using g7))) ?_;iterate 5 refine A1 O ?_
   refine Gc O O (fun hc70=>absurd hc70 OG) (fun hc70=>?_);have hso2:=hso q hqx;exact Im (Ir 3 O O)<|Il<|Z1 O O<|Rs 78 O O (ae call31 hso2 O)<|Y2 O O<|Z2 O O O<|Gt O<|⟨1,_,[.int .i64 r,bL (lH q)],jB L k8,O,O,O,O,O,hres _ hqx,k8,hk8,O⟩
 ·generalize hke:sNk L k2=k3 at*;generalize sNv L k2 2=v2 at*;refine Z3 O O O O<|Rs 25 O O (XJ.cast (v':= .pv (.bool true)) (aQ O O O) (af (fun b=>V.pv (.bool b)) (x7 hlt4)))<|Y3 O O O<|Rg 29 O O O (ag r underlying36 qk O O O hrd htn)<|Rg 30 O O O (ai ⟨_,underlying38,O⟩ O htr)<|A1 O<|Rg 32 O O O (XJ.cast (v':= .pv (.bool true)) (aQ O O O) (af (fun b=>V.pv (.bool b)) (x7 OC)))<|Y3 O O O<|Rg 36 O O O (iu call18 hn2 O O)<|Y2 O O ?_;refine Gc O O (fun hc38=>?_) (fun hc38=>?_)
  ·have hn3:=zP L k3 (dr.length:Int) hL hk3 OC OC;have hb3:=uV L k3 (dr.length:Int) OC;have hk4:=hkk _ hk3;obtain ⟨i,hie⟩:=rK hb3.1;rw [hie] at hn3 hb3;have hi:i<dr.length:=OC;generalize sNk L k3=k4 at*;have hyr:=aN hi;have hyn:=aW hi;have hyv:=hdv _ (aJ hi);have hyw:=hdw _ (aJ hi);generalize dr[i]=y at*;have hn4:=Jk L k4 1 y.w hL hk4 OC OC OC;have hb4:=uV L k4 (y.w-1+1) OC;have hk5:=hkk _ hk4;obtain ⟨rv,hrve⟩:∃ rv,rv=1+sNv L k4 (y.w-1+1):=⟨_,O⟩;rw [<-hrve] at hn4;have hrv:1<=rv/\rv<=20:=OC;have hdm:=Ny hl hyv hrv;have hsn2:=dW l ⟨y.v, -rv⟩;clear hrve;generalize sNk L k4=k5 at*;refine Ge O follows [0,1,2,3,4,5,6,7,8,9,10,11,12,13,14] OD ?_;iterate 2 refine D1 O O ?_
   refine Ds 41 [] O O O (fun τ h=>ag r underlying36 qk (Ee h 0 O O) (Ee h 1 O O) O hrd htn) O OD<|Ds 42 [] O O O (fun τ h=>ai ⟨_,underlying38,O⟩ (Ee h 0 O O) htr) O OD ?_;iterate 3 refine D1 O O ?_
   refine Ds 46 [] O O O (fun τ h=>ag r underlying36 qk (Ee h 0 O O) (Ee h 1 O O) O hrd htn) O OD<|Ds 47 [] O O O (fun τ h=>ai ⟨_,underlying38,O⟩ (Ee h 0 O O) htr) O OD<|D1 O O<|Ds 49 [_] O O O (fun τ h=>iu call18 hn3 (h.args.trans O) (Eo h 0 O O)) O OD<|Ds 50 [] O O O (fun τ h=>ag i underlying38 lM (Ee h 0 O O) (Ee h 1 O O) O hi hyn) O OD<|Ds 51 [] O O O (fun τ h=>db ⟨_,underlying49,O⟩ lM (Ee h 0 O O) hyr O) O OD ?_;iterate 2 refine D1 O O ?_
   refine ⟨OD,?_⟩;refine Ge O follows [0,1,2,3,4,5,6,7,8,9,10,11] OD ?_;iterate 6 refine D1 O O ?_
   refine Ds 58 [_] O O O (fun τ h=>iu call60 hn4 (h.args.trans O) (Eo h 0 O O)) O OD ?_;iterate 5 refine D1 O O ?_
   refine ⟨OD,?_⟩;have hqx:=hdm;have hkq:=hk5;have hqc:=aK (l++[(⟨y.v, -rv⟩:Rw)]);refine Im (Ip (l:=[(0,.ptr big 0),(6,.ptr 1 0),(7,.pv (.int .i64 r)),(8,.ptr 2 0),(9,.gsl 3 2 (l++[(⟨y.v, -rv⟩:Rw)]).length)]) (os:=[(big,HD L k5),(1,.mix 59 [.pv (.int .i64 0),.pv nS]),(2,.mix 59 [.pv (.int .i64 r),.pv nS]),(3,.gro 49 (aB (l++[(⟨y.v, -rv⟩:Rw)])))]) [0,1,2,6] ⟨O,O,O,O,af (fun n=>V.gsl 6 2 n) (bW l (⟨y.v, -rv⟩:Rw)),OK⟩ ⟨OD,OD,OD,ry (b:=some (.gro 49 (aB l++[aI y.v,.int .i64 (-rv)]))) OD (af (fun c=>some (Ob.gro 49 c)) hsn2),OK⟩ O O OE O) ?_;generalize l++[(⟨y.v, -rv⟩:Rw)]=q at*;generalize k5=kq at*;have hn8:=zP L kq 8 hL hkq OC OC;have hk8:=hkk _ hkq;generalize sNk L kq=k8 at*;generalize sNv L kq 8=v8 at*;by_cases g7:v8=7
   ·refine Z1 O O<|Rs 64 O O (iu call18 hn8 O O)<|Rs 65 O O (XJ.cast (v':= .pv (.bool true)) (aQ O O O) (af (fun b=>V.pv (.bool b)) (by simpa using g7))) ?_;iterate 5 refine A1 O ?_
    refine Gp O O (fun hc70=>?_) (fun hc70=>?_)
    ·have hq0:0<q.length:=OC;have hn9:=Jk L k8 1 9 hL hk8 OC OC OC;have hb9:=uV L k8 (9-1+1) OC;have hk9:=hkk _ hk8;obtain ⟨rw9,hrwe⟩:∃ rw9,rw9=1+sNv L k8 (9-1+1):=⟨_,O⟩;rw [<-hrwe] at hn9;have hds:=MG hqx hq0 (w:=rw9) OC;have hrs:=qu hq0 (-rw9);have hqne:=aW hq0;generalize sNk L k8=k9 at*;have hso2:FnP Tryz.prog 31 [.sl none q.length ((aB q).set (0*2+1) (.int .i64 (-rw9)))] (· =bL (lH (q.set 0 ⟨q[0].v, -rw9⟩))):=by
      rw [hrs];have:=hso _ hds;rwa [show bL (q.set 0 ⟨q[0].v, -rw9⟩)= .sl none q.length (aB (q.set 0 ⟨q[0].v, -rw9⟩)) by rw [bL,tx]] at this
     refine Im (St.ku 9 O O hq0 hqne)<|Z2 O O O<|Rs 73 O O (iu call60 hn9 O O)<|A1 O<|Rs 75 O O (aa 0 underlying38 lM O O O O hq0)<|A1 O<|RL.step (d:=none) O O (aF sz3 O O O O OC)<|Im (St.pn 9 O O hq0 (by intro e;have h:=af List.length e;rw [tx] at h;exact hqne (vG h))) ?_;exact Im (Ir 3 O O)<|Z1 O O<|Rs 78 O O (ae call31 hso2 O)<|Y2 O O<|Z2 O O O<|Gt O<|⟨1,_,[.int .i64 r,bL (lH (q.set 0 ⟨q[0].v, -rw9⟩))],jB L k9,O,O,O,O,O,hres _ hds,k9,hk9,O⟩
    ·have hso2:=hso q hqx;exact Im (Ir 3 O O)<|Il<|Z1 O O<|Rs 78 O O (ae call31 hso2 O)<|Y2 O O<|Z2 O O O<|Gt O<|⟨1,_,[.int .i64 r,bL (lH q)],jB L k8,O,O,O,O,O,hres _ hqx,k8,hk8,O⟩
   ·refine Z1 O O<|Rs 64 O O (iu call18 hn8 O O)<|Rs 65 O O (XJ.cast (v':= .pv (.bool false)) (aQ O O O) (af (fun b=>V.pv (.bool b)) (by simpa using g7))) ?_;iterate 5 refine A1 O ?_
    refine Gc O O (fun hc70=>absurd hc70 OG) (fun hc70=>?_);have hso2:=hso q hqx;exact Im (Ir 3 O O)<|Il<|Z1 O O<|Rs 78 O O (ae call31 hso2 O)<|Y2 O O<|Z2 O O O<|Gt O<|⟨1,_,[.int .i64 r,bL (lH q)],jB L k8,O,O,O,O,O,hres _ hqx,k8,hk8,O⟩
  ·have hqx:=hdx;have hqc:=hlc;have hkq:=hk3;refine Wk [(0,.ptr big 0),(6,.ptr 1 0),(7,.pv (.int .i64 r)),(8,.ptr 2 0),(9,.gsl 3 2 l.length)] [(big,HD L k3),(1,.mix 59 [.pv (.int .i64 0),.pv nS]),(2,.mix 59 [.pv (.int .i64 r),.pv nS]),(3,.gro 49 (aB l))] 4 (aS O) (aO OD) O O ?_;generalize l=q at*;generalize k3=kq at*;have hn8:=zP L kq 8 hL hkq OC OC;have hk8:=hkk _ hkq;generalize sNk L kq=k8 at*;generalize sNv L kq 8=v8 at*;refine Il ?_;by_cases g7:v8=7
   ·refine Z1 O O<|Rs 64 O O (iu call18 hn8 O O)<|Rs 65 O O (XJ.cast (v':= .pv (.bool true)) (aQ O O O) (af (fun b=>V.pv (.bool b)) (by simpa using g7))) ?_;iterate 5 refine A1 O ?_
    refine Gp O O (fun hc70=>?_) (fun hc70=>?_)
    ·have hq0:0<q.length:=OC;have hn9:=Jk L k8 1 9 hL hk8 OC OC OC;have hb9:=uV L k8 (9-1+1) OC;have hk9:=hkk _ hk8;obtain ⟨rw9,hrwe⟩:∃ rw9,rw9=1+sNv L k8 (9-1+1):=⟨_,O⟩;rw [<-hrwe] at hn9;have hds:=MG hqx hq0 (w:=rw9) OC;have hrs:=qu hq0 (-rw9);have hqne:=aW hq0;generalize sNk L k8=k9 at*;have hso2:FnP Tryz.prog 31 [.sl none q.length ((aB q).set (0*2+1) (.int .i64 (-rw9)))] (· =bL (lH (q.set 0 ⟨q[0].v, -rw9⟩))):=by
      rw [hrs];have:=hso _ hds;rwa [show bL (q.set 0 ⟨q[0].v, -rw9⟩)= .sl none q.length (aB (q.set 0 ⟨q[0].v, -rw9⟩)) by rw [bL,tx]] at this
     refine Im (St.ku 9 O O hq0 hqne)<|Z2 O O O<|Rs 73 O O (iu call60 hn9 O O)<|A1 O<|Rs 75 O O (aa 0 underlying38 lM O O O O hq0)<|A1 O<|RL.step (d:=none) O O (aF sz3 O O O O OC)<|Im (St.pn 9 O O hq0 (by intro e;have h:=af List.length e;rw [tx] at h;exact hqne (vG h))) ?_;exact Im (Ir 3 O O)<|Z1 O O<|Rs 78 O O (ae call31 hso2 O)<|Y2 O O<|Z2 O O O<|Gt O<|⟨1,_,[.int .i64 r,bL (lH (q.set 0 ⟨q[0].v, -rw9⟩))],jB L k9,O,O,O,O,O,hres _ hds,k9,hk9,O⟩
    ·have hso2:=hso q hqx;exact Im (Ir 3 O O)<|Il<|Z1 O O<|Rs 78 O O (ae call31 hso2 O)<|Y2 O O<|Z2 O O O<|Gt O<|⟨1,_,[.int .i64 r,bL (lH q)],jB L k8,O,O,O,O,O,hres _ hqx,k8,hk8,O⟩
   ·refine Z1 O O<|Rs 64 O O (iu call18 hn8 O O)<|Rs 65 O O (XJ.cast (v':= .pv (.bool false)) (aQ O O O) (af (fun b=>V.pv (.bool b)) (by simpa using g7))) ?_;iterate 5 refine A1 O ?_
    refine Gc O O (fun hc70=>absurd hc70 OG) (fun hc70=>?_);have hso2:=hso q hqx;exact Im (Ir 3 O O)<|Il<|Z1 O O<|Rs 78 O O (ae call31 hso2 O)<|Y2 O O<|Z2 O O O<|Gt O<|⟨1,_,[.int .i64 r,bL (lH q)],jB L k8,O,O,O,O,O,hres _ hqx,k8,hk8,O⟩
end
section
open Mk Jn
end
section
open Mk Jn
end
section
open Mk Jn
theorem NF (d:List (List Rw)):∀ c∈Cq d,c.leaf=true:=fun c hc=>by
 simp only [Cq,uF] at hc;obtain ⟨l,_,rfl⟩:=hc;rfl
theorem Jj {S:Sch} {most:Nat} (h:Made S most):∀ a∈S.attrs,a.2=1\/a.2=2\/a.2=3:=fun a ha=>by
 obtain ⟨i,hi,rfl⟩:=IQ.1 ha;have:=h.at' i hi;omega
theorem Jh {S:Sch} (h:Made S 5):SJn S:=
 zq (jF (I0 h OE)) (by have:=h.r2;omega) fun x hx=>by
  obtain ⟨i,hi,rfl⟩:=By hx;have:=IW (h.rs i hi).2.2.1 (h.rs i hi).2.2.2;have:=h.a2;omega
theorem JK {S:Sch} {d:List (List Rw)} (hM:Made S 5) (hd:MdD S 4 S.rels.length d):DbOk S d:=
 pe (JO hM OE) (I0 hM OE) (Jh hM) (Jj hM) (most:=4) OE hd.1 hd.2
end
section
open Mk Jn
section
variable {C:Ctx} {n:Nat} {σ:St} {dst:Option Tmp} {ty:TypeId} {pos:String} {after:Array Edge} {gd:Option (Nat×Bool)} {x y z:Operand}
end
theorem qD {S:Sch} (hM:Made S 5):∀ r∈S.rels,r.2.Nodup:=fun r hr=>by
 obtain ⟨i,hi,rfl⟩:=By hr;exact (hM.rs i hi).2.2.1.imp fun h e=>by omega
end
section
end
section
open Mk
end
section
open Mk
end
section
open Mk
end
section
open Mk
end
section
open Mk
end
section
open Mk Jn
end
section
open Mk Jn
theorem K8 {l:List Rw} (h:l.length<=2000):pJ l= .tup [bL l,.int .i64 0]:=by unfold pJ;rw [ga OC]
end
section
open Mk Jn
def chG (L:List (List Int×List Rw)) (A:List Int) (σ:Asg ByteArray) (x:Rw):Nat:=if agr A σ x.v=true then (enR L (Lh σ A x.v)).length else 0
theorem K7 (L:List (List Int×List Rw)) (A:List Int) (l:List Rw) (σ:Asg ByteArray):(enR ((A,l)::L) σ).length=(l.map (chG L A σ)).sum:=by
 rw [enR,List.length_flatMap];show ((l.filter fun x=>agr A σ x.v).map fun x=>(enR L (Lh σ A x.v)).length).sum=_;induction l with
 | nil=>rfl
 | cons x l ih=>
   rw [jt,Oi,<-ih,Hf];unfold chG;by_cases h:agr A σ x.v=true
   ·rw [og h,og h,jt,Oi]
   ·rw [ga h,ga h,Dq]
end
section
open Mk Jn
def JI (v:List ByteArray) (p:Int×ByteArray):Bool:=p.2.toList==(v.getD p.1.toNat eb).toList
def I4 (A:List Int) (v:List ByteArray) (x:Rw):Bool:=(A.zip x.v).all (JI v)
def J1 (A:List Int) (v:List ByteArray) (l:List Rw):Int:=l.foldl (fun f x=>if I4 A v x=true then x.w else f) 0
theorem Kw {A:List Int} {v:List ByteArray}:∀ {w:List ByteArray},w.length=A.length->((A.zip w).all (JI v)=true↔A.map (fun a=>v.getD a.toNat eb)=w):=by
 induction A with
 | nil=>intro w h;simp at h;subst h;simp
 | cons a A ih=>
   intro w h;match w,h with
   | z::w,h=>
     simp only [LX,K9,jt,Lo,cH,JI,Li];rw [<-ih (by simpa using h)];exact and_congr ⟨fun e=>(bytes_inj e).symm,fun e=>by rw [e]⟩ Iff.rfl
theorem Kp {A:List Int} {v:List ByteArray} {c:Int}:∀ (l:List Rw) (f:Int),(∀ z∈l,I4 A v z=true->z.w=c)->(f=c\/∃ z∈l,I4 A v z=true)->l.foldl (fun f x=>if I4 A v x=true then x.w else f) f=c
 | [],f,_,h=>by simpa using h
 | z::l,f,h1,h2=>by
   rw [FE];refine Kp l _ (fun y hy=>h1 y (by simp [hy])) ?_;by_cases hz:I4 A v z=true
   ·rw [og hz];exact .inl (h1 z OG hz)
   ·rw [ga hz];rcases h2 with h2 | ⟨y,hy,hs⟩
    ·exact .inl h2
    ·rcases k6.1 hy with rfl | hy
     ·exact absurd hs hz
     ·exact .inr ⟨y,hy,hs⟩
def pwL (v:List ByteArray) (L:List (List Int×List Rw)):Int:=(L.map fun p=>J1 p.1 v p.2).foldl (· * ·) 1
theorem JH:∀ (l:List Int) (a:Int),l.foldl (· * ·) a=a*l.foldl (· * ·) 1
 | [],a=>by simp
 | b::l,a=>by rw [FE,FE,JH l (a*b),JH l (1*b),Int.one_mul,Ou]
theorem KE (v:List ByteArray) (p:List Int×List Rw) (L:List (List Int×List Rw)):pwL v (p::L)=J1 p.1 v p.2*pwL v L:=by
 unfold pwL;rw [jt,FE,JH,Int.one_mul]
theorem L3 {A:List Int} {v:List ByteArray} {l:List Rw} (hl:∀ x∈l,x.v.length=A.length) (hd:l.Pairwise fun a b=>a.v≠b.v) {x:Rw} (hx:x∈l) (he:A.map (fun a=>v.getD a.toNat eb)=x.v):J1 A v l=x.w:=by
 refine Kp l 0 (fun z hz hs=>?_) (.inr ⟨x,hx,(Kw (hl x hx)).2 he⟩);have e:=(Kw (hl z hz)).1 hs;rw [he] at e;by_cases hzx:z=x
 ·rw [hzx]
 ·exfalso;obtain ⟨i,hi,rfl⟩:=By hz;obtain ⟨j,hj,rfl⟩:=By hx;rw [Ja] at hd;rcases Nat.lt_trichotomy i j with h | h | h
  ·exact hd i j hi hj h e.symm
  ·subst h;exact hzx O
  ·exact hd j i hj hi h e
theorem KT {v:List ByteArray}:∀ {L:List (List Int×List Rw)} {w:Int},I2 L->(∀ p∈L,∀ x∈p.2,1<=x.w/\x.w<=100)->Ez v L w->w=pwL v L/\∀ p∈L,1<=J1 p.1 v p.2/\J1 p.1 v p.2<=100
 | [],w,_,_,h=>⟨h,fun p hp=>by simp at hp⟩
 | p::L,w,hR,hw,h=>by
   obtain ⟨x,hx,he,w',hw',rfl⟩:=h;obtain ⟨⟨hn,hl,hd⟩,hR2⟩:=hR.cons;have hf:=L3 hl hd hx he;obtain ⟨e1,e2⟩:=KT hR2 (fun q hq=>hw q (by simp [hq])) hw';refine ⟨by rw [KE,hf,e1],fun q hq=>?_⟩;rcases k6.1 hq with rfl | hq
   ·rw [hf];exact hw q OG x hx
   ·exact e2 q hq
theorem pw_bd {v:List ByteArray} {L:List (List Int×List Rw)} (h:∀ p∈L,1<=J1 p.1 v p.2/\J1 p.1 v p.2<=100):1<=pwL v L/\pwL v L<=100^L.length:=by
 induction L with
 | nil=>exact ⟨Int.le_refl 1,Int.le_refl 1⟩
 | cons p L ih=>
   obtain ⟨h1,h2⟩:=h p OG;obtain ⟨h3,h4⟩:=ih fun q hq=>h q (by simp [hq])
   rw [KE,qU,Int.pow_succ,Int.mul_comm (100^L.length)];constructor
   ·have:=Int.mul_le_mul h1 h3 OE OC;simpa using this
   ·exact Int.mul_le_mul h2 h4 OC OE
end
section
open Mk Jn
theorem NI {S:Sch} {d:List (List Rw)} (h:DbOk S d) {r:Nat} (hr:r<S.rels.length) {t:List Rw} (hT:TblOk S S.rels[r].2 1 t) (hl:t.length<=12) (hz:∀ x∈t,∀ y∈x.v,Zf y/\y.size<=10000):DbOk S (d.set r t) where
 hB:=h.hB
 hc:=h.hc
 hS:=h.hS
 n:=by rw [tx];exact h.n
 l:=fun l hl'=>by
  rcases JS hl' with h2 | rfl
  ·exact h.l l h2
  ·exact hl
 t:=fun i h1 h2=>by
  rw [J2];split
  ·rename_i e;subst e;exact hT
  ·exact h.t i (by simpa using h1) h2
 zf:=fun l hl'=>by
  rcases JS hl' with h2 | rfl
  ·exact h.zf l h2
  ·exact hz
theorem ya {S:Sch} {A:List Int} (hk:∀ a∈S.attrs,a.2=1\/a.2=2\/a.2=3) (hA:∀ a∈A,0<=a/\a<S.attrs.length) {x:Rw} (hv:MdV S A x.v) {low:Int} (hw:x.w≠0/\low<=x.w/\x.w<=100):RowOk S A low x:=by
 refine ⟨hv.1,fun i h1 h2 nm=>?_,hw⟩;have hv2:=hv.2 i h1 h2;have hr:=hA _ (aJ h2);refine we nm _ _ ?_ hv2;have hlt:A[i].toNat<S.attrs.length:=OC;rw [mC hlt];exact hk _ (aJ hlt)
theorem NM {S:Sch} {A:List Int} {v:List ByteArray} (h:MdV S A v):∀ y∈v,Zf y/\y.size<=10000:=fun y hy=>by
 obtain ⟨i,hi,rfl⟩:=IQ.1 hy;exact E4 (h.2 i hi (by rw [<-h.1];exact hi))
theorem N0 {u:List ByteArray} {B:Int} (hB:0<=B):∀ {l:List Rw},(∀ z∈l, -B<=z.w/\z.w<=B)-> -(B*l.length)<=wt u l/\wt u l<=B*l.length
 | [],_=>by simp [wt]
 | x::l,h=>by
   have ih:=N0 (u:=u) (l:=l) hB fun z hz=>h z (by simp [hz])
   have hx:=h x OG;have e:B*((x::l).length:Int)=B*(l.length:Int)+B:=by rw [qU,LD,Int.mul_add];simp
   rw [wt,e];split<;>omega
theorem Na {l:List Rw} {y:Rw} (hy:y∈lH l):y.w=wt y.v l:=by rw [<-DD,Me (kQ l) y hy]
theorem N9 {S:Sch} {d:List (List Rw)} (h:DbOk S d) (hk:∀ a∈S.attrs,a.2=1\/a.2=2\/a.2=3) {r:Nat} (hr:r<S.rels.length) (hrd:r<d.length) (hd:MdT S S.rels[r].2 4 d[r]) {x0:List Rw} (hx:DelX S S.rels[r].2 x0):
  (TblOk S S.rels[r].2 (-100) (lH x0)/\(lH x0).length<=3)/\(∀ z∈lH x0,DbOk S (d.set r [o7 z]))/\
  (((lH (d[r]++lH x0)).any fun x=>decide (x.w<0)||decide (x.w>100))=false->DbOk S (d.set r (lH (d[r]++lH x0)))):=by
 have hA:=h.hS.b _ (aJ hr);have hxl:=Mf x0;have hxv:∀ z∈lH x0,MdV S S.rels[r].2 z.v:=fun z hz=>by
  obtain ⟨y,hy,e⟩:=Md z hz;rw [e];exact hx.v y hy
 have hxw:∀ z∈lH x0,z.w≠0/\ -60<=z.w/\z.w<=60:=fun z hz=>by
  have h1:=Na hz;have h2:=N0 (u:=z.v) (B:=20) OE hx.w;have h3:=hx.n;exact ⟨I3 x0 z hz,OC,OC⟩
 refine ⟨⟨⟨fun z hz=>ya hk hA (hxv z hz) (by have:=hxw z hz;omega),kQ x0⟩,uv hxl hx.n⟩,fun z hz=>?_,fun hb=>?_⟩
 ·have hw:=hxw z hz;have ha:(o7 z).w≠0/\1<=(o7 z).w/\(o7 z).w<=100:=by unfold o7;simp only;split<;>omega
  refine NI h hr ⟨fun y hy=>?_,JR _ _⟩ OG fun y hy=>?_
  ·rw [fe.1 hy];exact ya (x:=o7 z) hk hA (show MdV S S.rels[r].2 (o7 z).v from hxv z hz) ha
  ·rw [fe.1 hy];exact NM (hxv z hz)
 ·obtain ⟨hdv,hdw,hdl⟩:=xT hd;have hv:∀ y∈lH (d[r]++lH x0),MdV S S.rels[r].2 y.v:=fun y hy=>by
   obtain ⟨z,hz,e⟩:=Md y hy;rw [e];rcases my.1 hz with hz | hz
   ·exact hdv z hz
   ·exact hxv z hz
  rw [List.any_eq_false] at hb;refine NI h hr ⟨fun y hy=>ya hk hA (hv y hy) ?_,kQ _⟩ ?_ fun y hy=>NM (hv y hy)
  ·have h1:=I3 _ y hy;have h2:=hb y hy;simp at h2;omega
  ·have:=Mf (d[r]++lH x0);rw [a6] at this;have:=hx.n;omega
theorem Nd {c:Nat}:∀ (L:List (List Int×List Rw)) (σ:Asg ByteArray),(∀ p∈L,p.2.length<=c)->(enR L σ).length<=c^L.length
 | [],σ,_=>by rw [enR];simp
 | (A,l)::L,σ,h=>by
   rw [K7,qU,Kz,KK];have h1:∀ (m:List Rw),(m.map (chG L A σ)).sum<=m.length*c^L.length:=fun m=>by
    induction m with
    | nil=>simp
    | cons x m ih=>
      rw [jt,Oi,qU,Oe,Ow];have:chG L A σ x<=c^L.length:=by
       unfold chG;split
       ·exact Nd L _ fun p hp=>h p (by simp [hp])
       ·exact eF _
      omega
   exact uv (h1 l) (JQ _ (h (A,l) OG))
theorem L9 {S:Sch} {d:List (List Rw)} (h:DbOk S d) (hn:∀ r∈S.rels,r.2.Nodup) (h3:S.rels.length<=3) {c:Nat} (hc1:1<=c) (hc:∀ l∈d,l.length<=c):(joinL S d).length<=c^3:=by
 rw [Ju h hn];have hl:(iL S (bf S d)).length<=3:=by unfold iL;rw [LP,rJ];omega
 refine uv (Nd (c:=c) _ _ fun p hp=>?_) (Kf hc1 hl);unfold iL at hp;obtain ⟨l',hl',hs⟩:=qQ (Oc hp).2;exact uv hs.length_le (hc l' hl')
theorem MN {S:Sch} {d:List (List Rw)} (h:DbOk S d) (hn:∀ r∈S.rels,r.2.Nodup) (h3:S.rels.length<=3) {y:Rw} (hy:y∈joinL S d):y.v.length=S.attrs.length/\1<=y.w/\y.w<=1000000:=by
 obtain ⟨h1,h2⟩:=((sN h).mem y).1 hy;obtain ⟨e1,e2⟩:=KT (J3 h hn) (fun p hp x hx=>h.wts _ (Oc hp).2 x hx) h2;obtain ⟨e3,e4⟩:=pw_bd e2;refine ⟨h1,OC,?_⟩;have hl:(iL S (bf S d)).length<=3:=by unfold iL;rw [LP,rJ];omega
 generalize (iL S (bf S d)).length=k at*;match k,hl with
 | 0,_=>omega
 | 1,_=>omega
 | 2,_=>omega
 | 3,_=>omega
theorem Nb {S:Sch} {d:List (List Rw)} {r:Nat} {x:List Rw} {i:Nat} (h:i<x.length):linL S d r (x.take (i+1))=linL S d r (x.take i)++My x[i] (joinL S (d.set r [o7 x[i]])):=by
 unfold linL;rw [aR h,Jw,IG,List.flatMap_nil,xd]
theorem MB (z:Rw) (l:List Rw):(My z l).length=l.length:=by unfold My;split<;>simp
theorem Nw (z:Rw) {l:List Rw} {j:Nat} (h:j<l.length):My z (l.take (j+1))=My z (l.take j)++[if z.w<0 then ⟨l[j].v, -l[j].w⟩ else l[j]]:=by
 unfold My;rw [aR h];by_cases hz:z.w<0
 ·rw [og hz,og hz,og hz,Ho];rfl
 ·rw [ga hz,ga hz,ga hz]
theorem NY {z:Rw} {l:List Rw} {y:Rw} (hy:y∈My z l):∃ x∈l,y.v=x.v/\(y.w=x.w\/y.w= -x.w):=by
 unfold My at hy;split at hy
 ·obtain ⟨x,hx,rfl⟩:=uF.1 hy;exact ⟨x,hx,O,.inr O⟩
 ·exact ⟨y,hy,O,.inl O⟩
theorem NW {S:Sch} {d:List (List Rw)} {r:Nat} {x:List Rw} {P:Rw->Prop} (h:∀ z∈x,∀ y∈joinL S (d.set r [o7 z]),P y):∀ y∈linL S d r x,∃ y',P y'/\y.v=y'.v/\(y.w=y'.w\/y.w= -y'.w):=fun y hy=>by
 unfold linL at hy;obtain ⟨z,hz,hyz⟩:=AT.1 hy;obtain ⟨y',hy',e⟩:=NY hyz;exact ⟨y',h z hz y' hy',e⟩
theorem MJ {S:Sch} {d:List (List Rw)} {r:Nat}:∀ {x:List Rw},(∀ z∈x,(joinL S (d.set r [o7 z])).length<=64)->(linL S d r x).length<=64*x.length
 | [],_=>by simp [linL]
 | z::x,h=>by
   have ih:=MJ (x:=x) fun y hy=>h y (by simp [hy])
   have e:linL S d r (z::x)=My z (joinL S (d.set r [o7 z]))++linL S d r x:=by unfold linL;rw [IG]
   rw [e,a6,MB,qU];have:=h z OG;omega
theorem Ns (d:List (List Rw)) (r:Nat) (t:List Rw):(Cq d).set (r*1) (bL t)=Cq (d.set r t):=by
 unfold Cq;rw [ID,Kx]
theorem L7 (t:List Int):FnP Tryz.prog 6 [ak t] (· = .bool true):=by
 refine FnP.of func6 O ntmps6 OG fun m0 w0 F R0=>?_
 refine Z1 O O<|Z3 O O O O ?_;refine Gp O O (fun hc24=>?_) (fun hc24=>?_)
 ·exact Gr O<|Rs 25 O O (ae call9 pX O)<|A1 O<|Gt O<|⟨_,_,O,O,O⟩
 ·have hL:t.length<=400:=OC;refine Il<|Z1 O O ?_;refine RL.call O (fA [] 0 call10 (Cr t OC) O O O O trivial OE O ?_);rintro _ _ ⟨rfl,rfl⟩;refine A1 O<|Z1 O O ?_;refine RL.call O (jW call16 (Jd t 0 5 OC (eF _) OC OC) O O ?_);rintro _ _ ⟨⟨S,hM,rfl⟩,k1,hk1,rfl⟩;have hS:=Jh hM;have hr1:=hM.r1;have hr2:=hM.r2;have hB:=JO hM OE;have hc:=I0 hM OE;refine Y2 O O<|Z2 O O O ?_;refine RL.call O (jW call11 (nB t k1 OC hk1 S 4 OE OC (fun r hr=>⟨hS.l r hr,hS.b r hr⟩)) O O ?_);rintro _ _ ⟨⟨d,hd,rfl⟩,k2,hk2,rfl⟩;have hdb:=JK hM hd;have hdn:=hdb.n;refine A1 O<|Z3 O O O O ?_;refine RL.call O (jW call23 (MU t k2 OC hk2 S hS hr1 d hdn hd.2) O O ?_);rintro _ _ ⟨⟨r,hr,x0,hx0,rfl⟩,k3,hk3,rfl⟩;refine Y2 O O ?_;have hrd:r<d.length:=OC;have hkd:=Jj hM;have hnd:∀ r∈S.rels,r.2.Nodup:=qD hM;obtain ⟨⟨hXT,hXl⟩,hXd,hNd⟩:=N9 hdb hkd hr hrd (hd.2 r hrd hr) hx0;obtain ⟨b,hb⟩:∃ b,((lH (d[r]++lH x0)).any fun x=>decide (x.w<0)||decide (x.w>100))=b:=⟨_,O⟩;have hap:=MF S d hdb r hrd hr (lH x0) hXT OC (hS.l _ (aJ hr)) b hb;have h4:∀ l∈d,l.length<=4:=fun l hl=>by
   obtain ⟨i,hi,rfl⟩:=IQ.1 hl;exact (xT (hd.2 i hi OC)).2.2
  have hlin:=fun (hn:DbOk S (d.set r (lH (d[r]++lH x0))))=>MD hdb hr (lH x0) hXd hn
  generalize hX:lH x0=X at*;rw [hb] at hNd;by_cases g1:b=true
  ·rw [og g1] at hap;refine Z3 O O O O<|Rs 41 O O (ae call24 hap O) ?_;iterate 5 refine A1 O ?_
   refine Z2 O O O ?_;refine Gc O O (fun hc45=>?_) (fun hc45=>absurd hc45 OG);exact Gr O<|Rs 46 O O (ae call9 pX O)<|A1 O<|Gt O<|⟨_,_,O,O,O⟩
  ·rw [ga g1] at hap;have hap2:FnP Tryz.prog 24 [gK S,dbP d,.agg [.int .i64 r,bL X]] (· = .tup [.sl none d.length (Cq (d.set r (lH (d[r]++X)))),.int .i64 0]):=by
    have h9:FnP Tryz.prog 24 [gK S,dbP d,.agg [.int .i64 r,bL X]] (· = .tup [.sl none (d.set r (lH (d[r]++X))).length (Cq (d.set r (lH (d[r]++X)))),.int .i64 0]):=hap;rw [tx] at h9;exact h9
   have hnx:=hNd (J8 g1);have hlin2:=hlin hnx;have hb1:=iH S d hdb;have hl1:=L9 hdb hnd hr2 (c:=4) OE h4;rw [K8 OC] at hb1;have hl2:(joinL S (d.set r (lH (d[r]++X)))).length<=12^3:=L9 hnx hnd hr2 OE hnx.l;have hb2:FnP Tryz.prog 12 [gK S,.sl none d.length (Cq (d.set r (lH (d[r]++X))))] (· = .tup [bL (joinL S (d.set r (lH (d[r]++X)))),.int .i64 0]):=by
    have h8:=iH S _ hnx;rw [K8 OC] at h8;have h9:FnP Tryz.prog 12 [gK S,.sl none (d.set r (lH (d[r]++X))).length (Cq (d.set r (lH (d[r]++X))))] (· = .tup [bL (joinL S (d.set r (lH (d[r]++X)))),.int .i64 0]):=h8;rw [tx] at h9;exact h9
   have hb3:∀ z∈X,FnP Tryz.prog 12 [gK S,.sl none d.length (Cq (d.set r [o7 z]))] (· = .tup [bL (joinL S (d.set r [o7 z])),.int .i64 0])/\(joinL S (d.set r [o7 z])).length<=64:=fun z hz=>by
    have h5:=hXd z hz;have h6:=L9 h5 hnd hr2 (c:=4) OE (fun l hl=>by
     rcases JS hl with h2 | rfl
     ·exact h4 l h2
     ·simp)
    have h7:=iH S _ h5;rw [K8 OC] at h7;have h8:FnP Tryz.prog 12 [gK S,.sl none (d.set r [o7 z]).length (Cq (d.set r [o7 z]))] (· = .tup [bL (joinL S (d.set r [o7 z])),.int .i64 0]):=h7;rw [tx] at h8;exact ⟨h8,h6⟩
   have hw1:∀ y∈joinL S d,y.v.length<=1000/\ -1000000<=y.w/\y.w<=1000000:=fun y hy=>by
    have:=MN hdb hnd hr2 hy;have:=hS.a;have:=hM.a2;exact ⟨OC,OC,OC⟩
   have hw2:∀ y∈linL S d r X,y.v.length<=1000/\ -1000000<=y.w/\y.w<=1000000:=fun y hy=>by
    obtain ⟨y',⟨p1,p2,p3⟩,e1,e2⟩:=NW (P:=fun y=>y.v.length<=1000/\1<=y.w/\y.w<=1000000) (fun z hz y hy=>by
     have:=MN (hXd z hz) hnd hr2 hy;have:=hM.a2;exact ⟨OC,OC,OC⟩) y hy
    rw [e1];exact ⟨p1,OC,OC⟩
   have hll:=MJ (S:=S) (d:=d) (r:=r) (x:=X) fun z hz=>(hb3 z hz).2
   have hso:=Mi (joinL S d++linL S d r X) (by rw [a6];omega) (fun y hy=>by rcases my.1 hy with h | h;exact (hw1 y h).1;exact (hw2 y h).1) (fun y hy=>by rcases my.1 hy with h | h;exact (hw1 y h).2;exact (hw2 y h).2);rw [hlin2] at hso;have hwn:∀ y∈joinL S (d.set r (lH (d[r]++X))),y.v.length<=1000000:=fun y hy=>by
    have:=MN hnx hnd hr2 hy;have:=hM.a2;omega
   have hro:=vK (joinL S (d.set r (lH (d[r]++X)))) OC hwn;have htn:=dN hrd;have htl:=dH d;have hdp:0<d.length:=OC;have hdl3:d.length<=3:=OC;have hj1:=aK (joinL S d);have hXw:∀ z∈X, -60<=z.w/\z.w<=60:=fun z hz=>by
    rw [<-hX] at hz;have h1:=Na hz;have h2:=N0 (u:=z.v) (B:=20) (l:=x0) OE hx0.w;have h3:=hx0.n;omega
   have hsn:=fun i (hi:i<X.length)=>Nb (S:=S) (d:=d) (r:=r) hi
   have hJw:∀ z∈X,∀ y∈joinL S (d.set r [o7 z]),1<=y.w/\y.w<=1000000:=fun z hz y hy=>(MN (hXd z hz) hnd hr2 hy).2
   have hlt3:=fun i=>MJ (S:=S) (d:=d) (r:=r) (x:=X.take i) fun z hz=>(hb3 z (Kk hz)).2
   clear hlin hlin2 hw1 hw2 hwn hNd hXd hnx hXT;generalize joinL S (d.set r (lH (d[r]++X)))=JN at*;generalize joinL S d=JB at*;generalize d.set r (lH (d[r]++X))=dn at*;refine Z3 O O O O<|Rs 41 O O (ae call24 hap2 O) ?_;iterate 5 refine A1 O ?_
   refine Z2 O O O ?_;refine Gc O O (fun hc45=>absurd hc45 OG) (fun hc45=>?_);refine Il<|Z2 O O O<|Rs 50 O O (ae call12 hb1 O) ?_;iterate 5 refine A1 O ?_
   refine Z2 O O O<|Rs 56 O O (ae call12 hb2 O) ?_;iterate 5 refine A1 O ?_
   refine Z3 O O O O ?_;apply Ix 3 61 64 [62,63] O ON
   ·intro hb2;exact Y3 O O O<|Iq OM O O O
   ·intro hb2;exact Y3 O O O<|Iq OM O O O
   refine Gc O O (fun hc64=>absurd hc64 OG) (fun hc64=>?_);refine Il<|Z1 O O<|Rs 67 O O (rM 3 JM O (.inl ⟨none,O⟩) hj1 (dw JB) OC O)<|A1 O<|Z4 O O O O O ?_;refine Gl O (st:=fun x_0:Nat×List Rw=>mkS [(4,.ptr 1 0),(5,.pv (dbP d)),(6,.ptr 2 0),(11,.pv (bL JN)),(13,.gsl 3 2 x_0.2.length),(69,.pv (bL X)),(70,.pv (.int .i64 X.length)),(71,.pv (.int .i64 x_0.1))] [(1,oZ S),(2,.mix 59 [.pv (.int .i64 r),.pv (bL X)]),(3,.gro 49 (aB x_0.2))] 4)
    (I:=fun x_0=>x_0.1<=X.length/\x_0.2=JB++linL S d r (X.take x_0.1)) (μ:=fun x_0=>X.length-x_0.1) (x0:=(0,JB)) (Io (aS O) (aO OD) O O) (⟨eF _,by simp [linL]⟩) ?_
   rintro ⟨i,al⟩ ⟨hi,hal⟩;try simp only at hi hal ⊢
   refine Z1 O O ?_;refine Gp O O (fun hc72=>?_) (fun hc72=>?_)
   ·have hiX:i<X.length:=OC;have hzr:=aN hiX;have hzn:=aW hiX;have hzw:=hXw _ (aJ hiX);obtain ⟨hbz,hjz⟩:=hb3 _ (aJ hiX);have hJz:=hJw _ (aJ hiX);have hsz:=hsn i hiX;have hali:al.length<=64+64*i:=by
     have:=hlt3 i;rw [hal,a6];rw [iP] at this;omega
    generalize X[i]=z at*;have hjs:=fun j (hj:j<(joinL S (d.set r [o7 z])).length)=>Nw z hj
    have htp:=Ns d r [o7 z];have hdzl:(Cq (d.set r [o7 z])).length=d.length*1:=by rw [dH,tx]
    generalize joinL S (d.set r [o7 z])=JZ at*;generalize d.set r [o7 z]=dz at*;refine Il<|Gr O<|Rs 73 O O (ag i underlying38 lM O O O hiX hzn)<|Rs 74 O O (db ⟨_,underlying49,O⟩ lM O hzr O)<|Y2 O O<|Z1 O O<|Rs 76 O O (wh 5 el36 O (.inl ⟨none,O⟩) OC (NF d) OC hdp O)<|A1 O<|Z3 O O O O<|Z3 O O O O ?_;refine Gp O O (fun hc81=>?_) (fun hc81=>?_)
    ·have hzn0:z.w<0:=OC;rw [show o7 z=⟨z.v, -z.w⟩ by unfold o7;rw [og hzn0]] at htp;refine Gr O ?_;iterate 5 refine A1 O ?_
     refine Z4 O O O O O<|Rs 90 O O (aq none OG JM O OE OE O O)<|Rs 91 O O (aa r underlying36 qk O O O O hrd)<|RL.step (d:=none) O O (aF qk O O O O OC)<|Wk [(4,.ptr 1 0),(5,.pv (dbP d)),(6,.ptr 2 0),(11,.pv (bL JN)),(13,.gsl 3 2 al.length),(16,.osl 5 1 d.length),(17,.pv (.int .i64 z.w)),(69,.pv (bL X)),(70,.pv (.int .i64 X.length)),(71,.pv (.int .i64 i))] [(1,oZ S),(2,.mix 59 [.pv (.int .i64 r),.pv (bL X)]),(3,.gro 49 (aB al)),(5,.cells 38 (Cq dz))] 6 (aS O) ⟨OD,OD,OD,ry (b:=some (.cells 38 ((Cq d).set (r*1) (.sl none 1 [aI z.v,.int .i64 (-z.w)])))) OD (af (fun c=>some (Ob.cells 38 c)) htp),OK⟩ O O<|Im (St.NN 5 [16] O ⟨O,OK⟩ OC) ?_;rw [bk (show (Cq dz).length<=d.length*1 by omega)];refine Z2 O O O<|Rs 95 O O (ae call12 hbz O) ?_;iterate 5 refine A1 O ?_
     refine Z2 O O O ?_;refine Gc O O (fun hc99=>absurd hc99 OG) (fun hc99=>?_);refine Il<|Z3 O O O O ?_;refine Gl O (st:=fun x_1:Nat×List Rw=>mkS [(4,.ptr 1 0),(5,.pv (dbP d)),(6,.ptr 2 0),(11,.pv (bL JN)),(13,.gsl 3 2 x_1.2.length),(17,.pv (.int .i64 z.w)),(69,.pv (bL X)),(70,.pv (.int .i64 X.length)),(71,.pv (.int .i64 i)),(100,.pv (bL JZ)),(101,.pv (.int .i64 JZ.length)),(102,.pv (.int .i64 x_1.1))] [(1,oZ S),(2,.mix 59 [.pv (.int .i64 r),.pv (bL X)]),(3,.gro 49 (aB x_1.2))] 6)
      (I:=fun x_1=>x_1.1<=JZ.length/\x_1.2=al++My z (JZ.take x_1.1)) (μ:=fun x_1=>JZ.length-x_1.1) (x0:=(0,al)) (Io (aS O) (aO OD) O O) (⟨eF _,by simp [My]⟩) ?_
     rintro ⟨j,a2⟩ ⟨hj,ha2⟩;try simp only at hj ha2 ⊢
     refine Z1 O O ?_;refine Gp O O (fun hc103=>?_) (fun hc103=>?_)
     ·have hjZ:j<JZ.length:=OC;have hyr:=aN hjZ;have hyn:=aW hjZ;have hyw:=hJz _ (aJ hjZ);have hsj:=hjs j hjZ;have ha2l:a2.length<=1000:=by rw [ha2,a6,MB,iP];omega
      have hac:=aK a2;generalize JZ[j]=y at*;refine Il<|Gr O<|Rs 104 O O (ag j underlying38 lM O O O hjZ hyn)<|Rs 105 O O (db ⟨_,underlying49,O⟩ lM O hyr O)<|Y2 O O<|Z2 O O O ?_;refine Gp O O (fun hc107=>?_) (fun hc107=>absurd hc107 (fun h=>h hzn0));refine Gr O ?_;iterate 5 refine A1 O ?_
      refine Gr O ?_;iterate 5 refine A1 O ?_
      exact Z2 O O O<|⟨(j+1,a2++[(⟨y.v, -y.w⟩:Rw)]),Ip [0,1,2,8,4,5] ⟨O,O,O,O,af (fun n=>V.gsl 8 2 n) (bW a2 (⟨y.v, -y.w⟩:Rw)),O,O,O,O,O,O,O,OK⟩ ⟨OD,OD,ry (b:=some (.gro 49 (aB a2++[aI y.v,.int .i64 (-y.w)]))) OD (af (fun c=>some (Ob.gro 49 c)) (dW a2 ⟨y.v, -y.w⟩)),OK⟩ O O OE O,⟨OC,by simp only;rw [hsj,og hzn0,<-xJ,<-ha2]⟩,OI⟩
     ·have hjl:j=JZ.length:=OC;rw [hjl,J4] at ha2;exact Gx O<|Z2 O O O<|⟨(i+1,a2),Io (aS O) (aO OD) O O,⟨OC,by simp only;rw [hsz,<-xJ,<-hal];exact ha2⟩,OI⟩
    ·have hzn0:¬ z.w<0:=OC;rw [show o7 z=z by unfold o7;rw [ga hzn0]] at htp;refine Il<|Z4 O O O O O<|Rs 90 O O (aq none OG JM O OE OE O O)<|Rs 91 O O (aa r underlying36 qk O O O O hrd)<|RL.step (d:=none) O O (aF qk O O O O OC)<|Wk [(4,.ptr 1 0),(5,.pv (dbP d)),(6,.ptr 2 0),(11,.pv (bL JN)),(13,.gsl 3 2 al.length),(16,.osl 5 1 d.length),(17,.pv (.int .i64 z.w)),(69,.pv (bL X)),(70,.pv (.int .i64 X.length)),(71,.pv (.int .i64 i))] [(1,oZ S),(2,.mix 59 [.pv (.int .i64 r),.pv (bL X)]),(3,.gro 49 (aB al)),(5,.cells 38 (Cq dz))] 6 (aS O) ⟨OD,OD,OD,ry (b:=some (.cells 38 ((Cq d).set (r*1) (.sl none 1 [aI z.v,.int .i64 (z.w)])))) OD (af (fun c=>some (Ob.cells 38 c)) htp),OK⟩ O O<|Im (St.NN 5 [16] O ⟨O,OK⟩ OC) ?_;rw [bk (show (Cq dz).length<=d.length*1 by omega)];refine Z2 O O O<|Rs 95 O O (ae call12 hbz O) ?_;iterate 5 refine A1 O ?_
     refine Z2 O O O ?_;refine Gc O O (fun hc99=>absurd hc99 OG) (fun hc99=>?_);refine Il<|Z3 O O O O ?_;refine Gl O (st:=fun x_1:Nat×List Rw=>mkS [(4,.ptr 1 0),(5,.pv (dbP d)),(6,.ptr 2 0),(11,.pv (bL JN)),(13,.gsl 3 2 x_1.2.length),(17,.pv (.int .i64 z.w)),(69,.pv (bL X)),(70,.pv (.int .i64 X.length)),(71,.pv (.int .i64 i)),(100,.pv (bL JZ)),(101,.pv (.int .i64 JZ.length)),(102,.pv (.int .i64 x_1.1))] [(1,oZ S),(2,.mix 59 [.pv (.int .i64 r),.pv (bL X)]),(3,.gro 49 (aB x_1.2))] 6)
      (I:=fun x_1=>x_1.1<=JZ.length/\x_1.2=al++My z (JZ.take x_1.1)) (μ:=fun x_1=>JZ.length-x_1.1) (x0:=(0,al)) (Io (aS O) (aO OD) O O) (⟨eF _,by simp [My]⟩) ?_
     rintro ⟨j,a2⟩ ⟨hj,ha2⟩;try simp only at hj ha2 ⊢
     refine Z1 O O ?_;refine Gp O O (fun hc103=>?_) (fun hc103=>?_)
     ·have hjZ:j<JZ.length:=OC;have hyr:=aN hjZ;have hyn:=aW hjZ;have hyw:=hJz _ (aJ hjZ);have hsj:=hjs j hjZ;have ha2l:a2.length<=1000:=by rw [ha2,a6,MB,iP];omega
      have hac:=aK a2;generalize JZ[j]=y at*;refine Il<|Gr O<|Rs 104 O O (ag j underlying38 lM O O O hjZ hyn)<|Rs 105 O O (db ⟨_,underlying49,O⟩ lM O hyr O)<|Y2 O O<|Z2 O O O ?_;refine Gp O O (fun hc107=>absurd hc107 (hzn0)) (fun hc107=>?_);refine Il<|Gr O ?_;iterate 5 refine A1 O ?_
      exact Z2 O O O<|⟨(j+1,a2++[y]),Ip [0,1,2,8,4,5] ⟨O,O,O,O,af (fun n=>V.gsl 8 2 n) (bW a2 y),O,O,O,O,O,O,O,OK⟩ ⟨OD,OD,ry (b:=some (.gro 49 (aB a2++[aI y.v,.int .i64 y.w]))) OD (af (fun c=>some (Ob.gro 49 c)) (dW a2 y)),OK⟩ O O OE O,⟨OC,by simp only;rw [hsj,ga hzn0,<-xJ,<-ha2]⟩,OI⟩
     ·have hjl:j=JZ.length:=OC;rw [hjl,J4] at ha2;exact Gx O<|Z2 O O O<|⟨(i+1,a2),Io (aS O) (aO OD) O O,⟨OC,by simp only;rw [hsz,<-xJ,<-hal];exact ha2⟩,OI⟩
   ·have hil:i=X.length:=OC;rw [hil,J4] at hal;rw [<-hal] at hso;exact Im (Ir 3 O O)<|Gx O<|Z1 O O<|Rs 119 O O (ae call25 hso O)<|A1 O<|Rs 121 O O (ae call19 hro O)<|A1 O<|Rg 123 O O O (ae call9 pX O)<|Y2 O O<|Gt O<|⟨_,_,O,O,O⟩
end
theorem gy {P:Program} {W:World} {n:String} {g:Nat} {cs:Array Value} (hg:P.globalNamed n=some g) (h:W.var? P n=some cs):∃ t fz,W.heap[g]? =some (.cells cs t fz):=by
 simp only [World.var?,hg,Option.bind_some] at h;split at h
 ·rename_i cs' t fz hb;cases h;exact ⟨t,fz,hb⟩
 ·cases h
theorem oF {W:World} {g:Nat} {o:Obj} (h:W.heap[g]? =some o):g<W.heap.size:=(Ld.1 h).1
theorem gv0:Tryz.prog.globalNamed "internal/strconv.uint64pow10" =some 0:=OD
theorem gv4:Tryz.prog.globalNamed "strconv.ErrSyntax" =some 4:=OD
theorem gv5:Tryz.prog.globalNamed "strconv.ErrRange" =some 5:=OD
theorem gt0:(Tryz.prog.globals[0]?).map (·.type)=some 283:=OD
theorem gt4:(Tryz.prog.globals[4]?).map (·.type)=some 167:=OD
theorem gt5:(Tryz.prog.globals[5]?).map (·.type)=some 167:=OD
theorem An {W:World} (h:W.ShapedOpen Tryz.prog):∃ (m:Int) (t:TypeId) (fz:Nat×Nat),W.heap[1]? =some (.cells #[.int .i64 m] t fz):=by
 obtain ⟨cs,hh,hs,hr⟩:=h.1 1 #[.int .i64 0] 3 (Kh OD) OD;obtain ⟨ts,hts,_,hall⟩:=hr OD;rw [show Tryz.prog.cellTypes Tryz.prog.depth 3=some [3] by kernel_rfl] at hts;cases hts;have h1:cs.size=1:=hs;obtain ⟨u,hu',hok⟩:=hall 0 cs[0] (by simp [h1]);obtain rfl:u=3:=by simpa using hu'.symm
 have hm:∃ m,cs[0]= .int .i64 m:=by
  unfold Cell.ok at hok;rw [underlying3] at hok;cases hv:cs[0]<;>rw [hv] at hok<;>simp at hok;rename_i k m;obtain rfl:=hok.1;exact ⟨m,O⟩
 obtain ⟨m,hm⟩:=hm;have:cs= #[.int .i64 m]:=by
  apply Array.ext
  ·simp [h1]
  ·intro i h2 h3;have:i=0:=OC;subst this;simpa using hm
 rw [this] at hh;exact ⟨m,_,_,hh⟩
def HP:List (String×DataW Unit):=Rows.joinProductRow.laid
theorem Fv {W:World} (hsh:W.ShapedOpen Tryz.prog) (h:laidMetH Tryz.prog HP W):lA W (fun b=>b<W.heap.size):=by
 rw [MakeChecks.laidMetH_plain _ _ _ OD] at h;obtain ⟨ps,⟨g0,t0,cs0,f0,p0,q0,hg0,ht0,hv0,hd0,⟨g1,t1,cs1,f1,p1,q1,hg1,ht1,hv1,hd1,⟨g2,t2,cs2,f2,p2,q2,hg2,ht2,hv2,hd2,⟨g4,t4,cs4,f4,p4,q4,hg4,ht4,hv4,hd4,⟨g5,t5,cs5,f5,p5,q5,hg5,ht5,hv5,hd5,_⟩,_⟩,_⟩,_⟩,_⟩,_,_⟩:=h;obtain rfl:=Ki (gv0.symm.trans hg2);obtain rfl:=Ki (gv5.symm.trans hg4);obtain rfl:=Ki (gv4.symm.trans hg5);obtain rfl:=Ki (gt0.symm.trans ht2);obtain rfl:=Ki (gt5.symm.trans ht4);obtain rfl:=Ki (gt4.symm.trans ht5);have e2:cs2.toList=Lib.pow10Tab.map fun z=>Value.int .u64 z:=Lib.cells_of_tab underlying283 underlying136 OD OD hd2
 obtain ⟨_,u4,v4,e4,_⟩:=iface_of_trod underlying167 hd4;obtain ⟨_,u5,v5,e5,_⟩:=iface_of_trod underlying167 hd5;obtain ⟨x2,y2,b2⟩:=gy gv0 hv2;obtain ⟨x4,y4,b4⟩:=gy gv5 hv4;obtain ⟨x5,y5,b5⟩:=gy gv4 hv5;obtain ⟨m,x1,y1,b1⟩:=An hsh;obtain ⟨l2⟩:=cs2;obtain ⟨l4⟩:=cs4;obtain ⟨l5⟩:=cs5;simp only at e2 e4 e5;subst e2 e4 e5;intro x hx;simp only [glb,k6,Lf,or_false] at hx;rcases hx with rfl | rfl | rfl | rfl
 ·exact ⟨oF b2,_,b2,_,_,O⟩
 ·exact ⟨oF b1,_,b1,_,_,_,O⟩
 ·exact ⟨oF b5,_,b5,_,_,_,_,O⟩
 ·exact ⟨oF b4,_,b4,_,_,_,_,O⟩
noncomputable def witW (os:Os):World:=World.doorLaid Tryz.prog 54 os
theorem wL (os:Os) (args:Array Value):((witW os).forCall (fun _ _=>0) ⟨#[],args,[]⟩).Shaped Tryz.prog:=World.shaped_of_RefB OD OD
theorem Fq (os:Os) (args:Array Value):laidMetH Tryz.prog HP ((witW os).forCall (fun _ _=>0) ⟨#[],args,[]⟩).memory:=
 laidMetH_of_parts3 (fuel:=8) (laidMet_of_run' 8 OD OD) OD OD
section
open Go.RowKit Go.ChangeShapes Go.WideShapes Go.Deep
def OpT (P:Program) (t:TypeId) {α:Type} (f:α->List PV) (I:α->Prop):Prop:=
 ∀ (H:Type) (enc:TypeId×Value->H) (w:World) (base:Nat) (spare:Nat->Bool) (held:Bool) (fuel:Nat) (cs:List Value) (x:DataW H×List MemPlace),
  DataW.trod enc P w base spare held fuel t cs=some x->∃ a,I a/\RelPL w (fun b=>b<w.heap.size) (f a) cs
section
variable {P:Program} {t:TypeId}
theorem OpT.map {α β:Type} {f:α->List PV} {I:α->Prop} {f':β->List PV} {I':β->Prop} (h:OpT P t f I) (g:α->β) (hf:∀ a,f' (g a)=f a) (hI:∀ a,I a->I' (g a)):OpT P t f' I':=
 fun H enc w base spare held fuel cs x hx=>by
  obtain ⟨a,ha,hr⟩:=h H enc w base spare held fuel cs x hx;exact ⟨g a,hI a ha,by rw [hf];exact hr⟩
theorem RelPL.one {w:World} {R:Nat->Prop} {p:PV} {u:Value} (h:RelP w R p u):RelPL w R [p] [u]:=RelPL.cons h RelPL.nil
theorem OpT.int (ht:P.underlying t=some (.int .i64)):OpT P t (fun n:Int=>[.int .i64 n]) (fun n=> -9223372036854775808<=n/\n<=9223372036854775807):=
 fun H enc w base spare held fuel cs x hx=>by
  obtain ⟨n,rfl,_,hw⟩:=DataW.trod_int ht hx;exact ⟨n,bounds_i64 hw,RelPL.one (by simp only [RelP])⟩
theorem vJ {w:World} {R:Nat->Prop} {α:Type} {f:α->List PV}:∀ {n:Nat} {A:Nat->α} {us:Nat->List Value},(∀ i,i<n->RelPL w R (f (A i)) (us i))->RelPL w R (((List.range n).map A).flatMap f) ((List.range n).flatMap us):=by
 intro n A us h;induction n with
 | zero=>simpa using RelPL.nil
 | succ n ih=>
   rw [LF,Ho,Jw,Jw];refine RelPL.append (ih fun i hi=>h i OC) ?_;simpa using h n OC
theorem oo {c:Nat} {us:Nat->List Value}:∀ {n:Nat},(∀ i,i<n->(us i).length=c)->((List.range n).flatMap us).length=n*c/\∀ i j,i<n->j<c->((List.range n).flatMap us)[i*c+j]? =(us i)[j]? :=by
 intro n h;induction n with
 | zero=>exact ⟨OG,fun i j hi=>absurd hi OC⟩
 | succ n ih=>
   obtain ⟨h1,h2⟩:=ih fun i hi=>h i OC
   rw [LF,Jw];refine ⟨by rw [a6,h1,List.flatMap_singleton,h n OC,Oq],fun i j hi hj=>?_⟩;by_cases e:i<n
   ·rw [List.getElem?_append_left (by rw [h1];calc i*c+j<i*c+c:=OC
     _=(i+1)*c:=by rw [Oq]
     _<=n*c:=JQ c e)]
    exact h2 i j e hj
   ·obtain rfl:i=n:=OC;rw [List.getElem?_append_right (by rw [h1];omega),h1,List.flatMap_singleton,show i*c+j-i*c=j by omega]
theorem OpT.sl {e:TypeId} {α:Type} {f:α->List PV} {I:α->Prop} (c:Nat) [Inhabited α] (ht:P.underlying t=some (.slice e)) (hc:P.cellsOf e=c) (h:OpT P e f I):
  OpT P t (fun l:List α=>[.sl none l.length (l.flatMap f)]) (fun l=>l.length<=maxLen/\∀ a∈l,I a):=
 fun H enc w base spare held fuel cs x hx=>by
  rcases open_slice ht hx with ⟨rfl,rfl⟩ | ⟨a,len,cap,m,n,D,Pl,rfl,hb,hl,hm,hmm,hxe,hel⟩
  ·refine ⟨[],⟨OG,OG⟩,RelPL.one ?_⟩;simp only [RelP];exact ⟨none,0,O,qT _,by simp [maxLen],(fun _ e=>by cases e),(fun e=>by cases e),fun e=>absurd rfl e⟩
  ·have hlm:len<=m:=by rw [hmm];split<;>omega
   rw [hc] at hel;have hx2:∀ i,i<len->∃ p:α×List Value,I p.1/\RelPL w (fun b=>b<w.heap.size) (f p.1) p.2/\p.2.length=c/\∀ j,j<c->w.cell? (a.add (i*c+j))=p.2[j]? :=fun i hi=>by
    obtain ⟨cs',h1,h2⟩:=hel i OC;obtain ⟨y,hy,hr⟩:=h H enc w base spare held n cs' _ h2;obtain ⟨_,h3,h4⟩:=World.cells?_some h1;exact ⟨(y,cs'),hy,hr,h3,fun j hj=>by rw [<-add_add];exact h4 j hj⟩
   obtain ⟨F,hF⟩:=choose_lt hx2;have hlen:((List.range len).map fun i=>(F i).1).length=len:=OG;refine ⟨(List.range len).map fun i=>(F i).1,⟨by rw [hlen];omega,fun y hy=>?_⟩,RelPL.one ?_⟩
   ·obtain ⟨i,hi,rfl⟩:=uF.1 hy;exact (hF i (Hq.1 hi)).1
   ·rw [hlen];simp only [RelP];refine ⟨some a,cap,O,hl,hm,(fun _ e=>by cases e),(fun e=>by cases e),fun hne=>?_⟩;have hrel:=vJ (w:=w) (R:=fun b=>b<w.heap.size) (f:=f) (A:=fun i=>(F i).1) (us:=fun i=>(F i).2) fun i hi=>(hF i hi).2.1
    obtain ⟨hL,hat⟩:=oo (us:=fun i=>(F i).2) (c:=c) (n:=len) fun i hi=>(hF i hi).2.2.1
    generalize hU:(List.range len).flatMap (fun i=>(F i).2)=U at hrel hL hat
    have hpos:0<len*c:=by
     rw [<-hL,RelPL.length hrel];exact CG.2 hne
    have hlen0:0<len:=Nat.pos_of_mul_pos_right hpos;have hc0:0<c:=Nat.pos_of_mul_pos_left hpos;have hcell:∀ k,k<len*c->w.cell? (a.add k)=U[k]? :=fun k hk=>by
     have e:k=k/c*c+k%c:=by rw [KK];exact (Nat.div_add_mod k c).symm
     have h1:k/c<len:=Nat.div_lt_of_lt_mul (by rw [KK];exact hk);have h2:k%c<c:=Lc _ hc0;rw [e,hat _ _ h1 h2];exact (hF _ h1).2.2.2 _ h2
    have h0:=hcell 0 hpos;rw [fI OC] at h0;obtain ⟨b,off,sp⟩:=a;have hsp:sp=none:=by
     cases sp with
     | none=>rfl
     | some s=>
       exfalso;have e:(⟨b,off,some s⟩:Addr).add 0=⟨b,off,some s⟩:=rfl;rw [e] at h0;unfold World.cell? at h0;split at h0
       ·simp at h0
       ·cases h0
    subst hsp;rw [Addr.add_lit] at h0;refine ⟨b,off,U,O,hrel,World.block_lt_of_cell? w _ h0,fun j hj=>?_⟩;have:=hcell j OC;rw [Addr.add_lit] at this;exact this
end
section
variable {H:Type} {enc:TypeId×Value->H} {P:Program} {w:World} {base:Nat} {spare:Nat->Bool} {held:Bool} {t:TypeId} {v:Value} {d:DataW H} {ps:List MemPlace} {r:Go.Reach} {b0:Nat}
theorem OpT.one {α:Type} {p:α->PV} {I:α->Prop} (ho:OpT P t (fun a=>[p a]) I) (hv:v.cells= #[v]) (h:DataW.Trod enc P w base spare held t v d ps):∃ a,I a/\RelP w (fun b=>b<w.heap.size) (p a) v:=by
 obtain ⟨fuel,hf⟩:=h;obtain ⟨a,ha,hr⟩:=ho _ _ _ _ _ _ _ _ _ hf;refine ⟨a,ha,?_⟩;rw [hv] at hr;simp only [RelPL] at hr;obtain ⟨u,vs,e,h1,_⟩:=hr;simp at e;rw [e.1];exact h1
end
#print axioms OpT.sl
end
theorem Hr:OpT Tryz.prog 3 (fun n:Int=>[.int .i64 n]) (fun n=> -9223372036854775808<=n/\n<=9223372036854775807):=OpT.int underlying3
theorem FC:OpT Tryz.prog 22 (fun l:List Int=>[ak l]) (fun l=>l.length<=9223372036854775807):=
 (OpT.sl 1 underlying22 OD Hr).map id (fun l=>by
  show [PV.sl none l.length (aE l)]=[PV.sl none l.length (l.flatMap fun n=>[PV.int .i64 n])]
  congr 2
  induction l with
  | nil=>rfl
  | cons x l ih=>simp [<-ih]) (fun l h=>h.1)
end Go.Proofs.YtedfonppffochaaGreatDoor
