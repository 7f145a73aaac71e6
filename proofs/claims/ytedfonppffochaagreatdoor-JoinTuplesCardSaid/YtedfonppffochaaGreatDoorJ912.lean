/- Lemmas. No condition. -/
import Derived.Lib.Walk
import Derived.Lib.ItoaMem
import Derived.WalkKit
import Derived.BigCall
import Derived.BigGuard
import Derived.Test.YtedfonppffochaaGreatDoorJ911
set_option maxRecDepth 100000
set_option maxHeartbeats 4000000
open Go.RowKit Go.Proofs.Tryz
namespace Go.Proofs.YtedfonppffochaaGreatDoor
section
open Mk Jn
section
variable {C:Ctx} {n:Nat} {σ:St} {ty:TypeId} {pos:String} {after:Array Edge} {gd:Option (Nat×Bool)} {x y:Operand}
theorem wD {T T':TypeId} {id off k:Nat} {cs vs:List PV} (hk:dx C.P T k) (hx:σ.ev n x= .ptr id off) (ho:σ.ob id=some (.cells T' cs)) (hv:σ.ev n y= .pv (.agg vs)) (hlen:vs.length=k) (hlf:∀ c∈vs,c.leaf=true) (hle:off+k<=cs.length):
  XJ C n ⟨none,.store T x y,ty,pos,after,gd⟩ σ ⟨.pv .any,[(id,some (.cells T' (eY cs off vs)))],[]⟩:=by
 rintro a w Q ⟨m,R,hw⟩;obtain ⟨b,N,he,hm,arr,hb,hN,hle',hr⟩:=hw.ptr hx ho;have hrel:=hw.pv hv;simp only [RelP] at hrel;obtain ⟨us,hev,hus⟩:=hrel;have hcl:(a.eval y).cells=us.toArray:=by rw [hev];rfl
 have hul:us.length=k:=by rw [hus.length,hlen]
 have hrun:=gv (P:=C.P) (T:=T) (u:=a.eval y) (off:=off) hb (by rw [hcl,Nh,hul];exact hk) (by rw [hcl,Nh];omega) (by rw [hcl];simpa using bU hus hlf);unfold Oper.wp;have hrun':(execOp a.eval ⟨none,.store T x y,ty,pos,after,gd⟩).run C.P w= .ok .skip (w.setRow b (eY arr.toList off us).toArray):=by
  simp only [execOp,he,Sem.run_bind,hrun,Result.andThen_ok,Sem.run_pure,hcl]
 rw [hrun'];refine ⟨_,O,m,R,?_⟩;refine hw.store hm arr _ T' hb (by simp only [Nh];rw [bd _ _ _ Pt];simpa using hN) _ ?_;intro w' hR hb';refine ⟨_,hb',by simp only [Nh];rw [bd _ _ _ Pt];simpa using hN,by rw [bd _ _ _ Po];exact hle',?_⟩;rw [bd cs off vs Po];have e:(eY arr.toList off us).toArray.toList.take cs.length=eY (arr.toList.take cs.length) off us:=by
  simp only [eY];exact gn _ _ _ _ (by first | omega | (simp;omega)) (by first | omega | (simp;omega))
 rw [e];have:RelPL w R (eY cs off vs) (eY (arr.toList.take cs.length) off us):=by
  show RelPL w R (cs.take off++vs++cs.drop (off+vs.length)) (_++us++_);rw [<-hus.length];exact ((hr.take off).append hus).append (hr.drop _)
 exact this.mono hR
end
theorem Kd (a b:List ByteArray) (ha:a.length<=1000000) (hb:b.length<=1000000):FnP prog 69 [aI a,aI b] (· = .bool (decide (a=b))):=by
 refine FnP.of func69 O ntmps69 Ps fun m0 w0 F R0=>?_
 refine Z1 O O<|Gr O ?_;iterate 5 refine A1 O ?_
 refine Gc O O (fun hc10=>?_) (fun hc10=>?_)
 ·exact Z1 O O<|Gt O<|⟨_,_,O,O,af PV.bool (Mu (fun e=>by rw [e] at hc10;simp at hc10)).symm⟩
 ·have hl:a.length=b.length:=by simp at hc10;omega
  refine Il<|Z3 O O O O ?_;refine Gl O (st:=fun ac:Nat=>mkS [(0,.pv (aI a)),(1,.pv (aI b)),(12,.pv (.int .i64 a.length)),(13,.pv (.int .i64 ac))] [] 0)
   (I:=fun ac=>ac<=a.length/\a.take ac=b.take ac) (μ:=fun ac=>a.length-ac) (x0:=(0)) (Io (aS O) trivial O O) (⟨bk _,O⟩) ?_
  rintro i ⟨hi,ht⟩;refine Z1 O O ?_;refine Gp O O (fun hc14=>?_) (fun hc14=>?_)
  ·have ha1:i<a.length:=Po;have hb1:i<b.length:=Po;have va:=aM ha1;have na:=bc ha1;have vb:=aM hb1;have nb:=bc hb1;refine Il<|Z2 O O O<|Ge O follows [0,1,2,3,4,5,6,7,8] Pp ?_;iterate 3 refine D1 O O ?_
   first | refine D2 O O Pr ?_ | refine D1 O O ?_
   iterate 3 refine D1 O O ?_
   first | refine D2 O O Pr ?_ | refine D1 O O ?_
   refine D1 O O ?_;refine ⟨Pp,?_⟩;refine Gc O O (fun hc24=>?_) (fun hc24=>?_)
   ·exact Z1 O O<|Gt O<|⟨_,_,O,O,af PV.bool (Mu (fun e=>by subst e;simp at hc24)).symm⟩
   ·exact Il<|Z2 O O O<|⟨(i+1),Io (aS O) trivial O O,⟨Po,by rw [aR ha1,aR hb1,ht,show a[i]=b[i] from baT (by simpa using hc24)]⟩,Po⟩
  ·exact Gx O<|Z1 O O<|Gt O<|⟨_,_,O,O,af PV.bool (IS (by rwa [a6 Po,a6 Po] at ht)).symm⟩
theorem lS (x:Rw):FnP prog 71 [sJ x] (· = .bool (x.w==0)):=by
 refine FnP.of func71 O ntmps71 Ps fun m0 w0 F R0=>?_
 exact Z2 O O O<|Z4 O O O O O<|Gt O<|⟨_,_,O,O,O⟩
theorem su (x:Rw):FnP prog 67 [sJ x] (· = .bool (decide (x.w<0)||decide (x.w>100))):=by
 refine FnP.of func67 O ntmps67 Ps fun m0 w0 F R0=>?_
 refine Z2 O O O<|Z4 O O O O O ?_;apply Ix 4 6 10 [7,8,9] O Py
 ·intro hb3;iterate 4 refine A1 O ?_
  exact Iq Px O O O
 ·intro hb3;iterate 4 refine A1 O ?_
  exact Iq Px O O O
 exact A1 O<|Gt O<|⟨_,_,O,O,O⟩
theorem vx (l:List Rw) (hl:l.length<=1000) (g:FuncId) (p:Rw->Bool) (hc:bN prog g) (hg:∀ x∈l,FnP prog g ([]++[sJ x]++[]) (· = .bool (p x))):∃ i:Int,decide (i>=0)=l.any p/\FnP prog 109 [bL l,.fn (.func g) [] []] (· = .int .i64 i):=by
 obtain ⟨i,hi,hi1,hi2⟩:=jg l p;refine ⟨i,hi,?_⟩;refine FnP.of func109 O ntmps109 Ps fun m0 w0 F R0=>?_
 refine Z1 O O<|Z3 O O O O ?_;refine Gl O (st:=fun ac:Nat=>mkS [(0,.pv (bL l)),(1,.pv (.fn (.func g) [] [])),(7,.pv (.int .i64 l.length)),(8,.pv (.int .i64 ac))] [] 0)
  (I:=fun ac=>ac<=l.length/\∀ j (h:j<l.length),j<ac->p l[j]=false) (μ:=fun ac=>l.length-ac) (x0:=(0)) (Io (aS O) trivial O O) (⟨bk _,fun _ _ h=>absurd h Po⟩) ?_
 rintro k ⟨hk,hno⟩;refine Z1 O O ?_;refine Gp O O (fun hc9=>?_) (fun hc9=>?_)
 ·have hlt:k<l.length:=Po;have hrw:=aN hlt;have hrn:=aW hlt;have hgk:=hg _ (aJ hlt);have hik:=hi1 k hlt;generalize hbk:p l[k]=b at*;refine Il<|Z2 O O O<|Z4 O O O O O ?_;first | refine A3 O Pr ?_ | refine A1 O ?_
  refine Rs 16 O O (bb hc O hgk O) ?_;refine Gc O O (fun hc16=>?_) (fun hc16=>?_)
  ·exact Z2 O O O<|Gt O<|⟨_,_,O,O,by rw [hik hc16 hno];rfl⟩
  ·exact Il<|Z2 O O O<|⟨(k+1),Io (aS O) trivial O O,⟨Po,fun j h hj=>by rcases Me.1 hj with h1 | h1;exact hno j h h1;subst h1;exact hbk.trans hc16⟩,Po⟩
 ·have hm:=hi2 fun j h=>hno j h Po
  exact Gx O<|Z1 O O<|Gt O<|⟨_,_,O,O,by rw [hm];rfl⟩
theorem v8 (l:List Rw) (hl:l.length<=1000) (g:FuncId) (p:Rw->Bool) (hc:bN prog g) (hg:∀ x∈l,FnP prog g ([]++[sJ x]++[]) (· = .bool (p x))):FnP prog 66 [bL l,.fn (.func g) [] []] (· = .bool (l.any p)):=by
 obtain ⟨i,hi,hx⟩:=vx l hl g p hc hg;refine FnP.of func66 O ntmps66 Ps fun m0 w0 F R0=>?_
 exact Z1 O O<|Z2 O O O<|Rs 7 O O (ae call109 hx O)<|Y2 O O<|Gt O<|⟨_,_,O,O,af PV.bool hi⟩
def isZ (x:Rw):Bool:=x.w==0
abbrev zF:PV:= .fn (.func 71) [] []
theorem xa (l:List Rw) (n:Nat) (hln:l.length=n) (hn:n<=1000) (i:Int)
  (hi1:∀ k (h:k<l.length),isZ l[k]=true->(∀ j (h:j<l.length),j<k->isZ l[j]=false)->i=k) (hi2:(∀ j (h:j<l.length),isZ l[j]=false)->i= -1):FnO prog 109 1 0 [.osl big 2 n,.pv zF] [(big,di l)] (fun v ob'=>v= .pv (.int .i64 i)/\ob'=ar [(big,di l)]):=by
 refine FnO.of func109 O ntmps109 Ps fun m0 w0 F R0=>?_
 refine Z1 O O<|Z3 O O O O ?_;refine Gl O (st:=fun ac:Nat=>mkS [(0,.osl big 2 n),(1,.pv zF),(7,.pv (.int .i64 n)),(8,.pv (.int .i64 ac))] [(big,di l)] 0)
  (I:=fun ac=>ac<=n/\∀ j (h:j<l.length),j<ac->isZ l[j]=false) (μ:=fun ac=>n-ac) (x0:=(0)) (Io (aS O) (aO Pp) O O) (⟨bk _,fun _ _ h=>absurd h Po⟩) ?_
 rintro k ⟨hk,hno⟩;refine Z1 O O ?_;refine Gp O O (fun hc9=>?_) (fun hc9=>?_)
 ·have hlt:k<l.length:=Po;have hrw:=aN hlt;have hgk:=lS l[k];rw [show (l[k].w==0)=isZ l[k] from O] at hgk;have hik:=hi1 k hlt;generalize hbk:isZ l[k]=b at*;refine Il<|Z2 O O O<|Z3 O O O O<|Rs 14 O O (aa k underlying38 lM O O O O Po) ?_;first | refine A3 O Pr ?_ | refine A1 O ?_
  refine Rs 16 O O (bb call71 O hgk O) ?_;refine Gc O O (fun hc16=>?_) (fun hc16=>?_)
  ·exact Z2 O O O<|Gt O<|⟨[(4,.pv (.int .i64 k))],[(big,di l)],[.pv (.int .i64 k)],Io (aS O) (aO Pp) O O,O,O,O,by rw [hik hc16 hno];rfl,O⟩
  ·exact Il<|Z2 O O O<|⟨(k+1),Io (aS O) (aO Pp) O O,⟨Po,fun j h hj=>by rcases Me.1 hj with h1 | h1;exact hno j h h1;subst h1;exact hbk.trans hc16⟩,Po⟩
 ·have hm:=hi2 fun j h=>hno j h Po
  exact Gx O<|Z1 O O<|Gt O<|⟨[(4,.pv (.int .i64 (-1)))],[(big,di l)],[.pv (.int .i64 (-1))],Io (aS O) (aO Pp) O O,O,O,O,by rw [hm];rfl,O⟩
theorem AQ {l:List Rw} {k:Nat} (h:k<l.length) (x:Rw):(((aB l).take (k*2))++eV x++(aB l).drop (k*2+2))=aB (l.set k x):=by
 rw [Ol,qY h,fj,(fu l k).1,show k*2+2=(k+1)*2 by omega,(fu l (k+1)).2,NG];rfl
theorem rF (l:List Rw) (n:Nat) (hln:l.length=n) (hn1:n<=1000):FnO prog 70 1 0 [.osl big 2 n,.pv zF] [(big,di l)] (fun v ob'=>v= .osl big 2 (l.filter fun x=> !isZ x).length/\ob'=ar [(big,di (l.filter fun x=> !isZ x))]):=by
 obtain ⟨i,hi,hi1,hi2⟩:=jg l isZ;obtain ⟨hia,hib⟩:=sH hi hi1 hi2;have hidx:=xa l n hln hn1 i hi1 hi2;refine FnO.of func70 O ntmps70 Ps fun m0 w0 F R0=>?_
 clear hi hi1 hi2;refine Z1 O O<|Z2 O O O<|Rs 10 O O (ah [big] 0 call109 hidx O O O O ⟨O,Pw⟩ Pq O)<|A1 O<|Z2 O O O ?_;refine Gc O O (fun hc12=>?_) (fun hc12=>?_)
 ·have hie:i= -1:=by simpa using hc12
  have hf:(l.filter fun x=> !isZ x)=l:=O8.2 fun x hx=>by rw [hia hie x hx];rfl
  exact Z2 O O O<|Gt O<|⟨[(4,.osl big 2 n)],[(big,di l)],[.osl big 2 n],Io (aS O) (aO Pp) O O,O,O,O,by rw [hf,hln];rfl,by rw [hf]⟩
 ·have hne:¬ i= -1:=by intro e;rw [e] at hc12;simp at hc12
  obtain ⟨i0,rfl,hi0,hft⟩:=hib hne;refine Il<|Z3 O O O O ?_;refine Gl O (st:=fun ac:Nat×Nat×List Rw=>mkS [(0,.osl big 2 n),(1,.pv zF),(5,.pv (.int .i64 ac.2.1)),(6,.pv (.int .i64 ac.1))] [(big,di ac.2.2)] 0)
   (I:=fun ac=>((ac.1<=n/\ac.2.1<ac.1)/\ac.2.2.length=n)/\(ac.2.2.drop ac.1=l.drop ac.1/\ac.2.2.take ac.2.1=(l.take ac.1).filter fun x=> !isZ x)/\ac.2.1=((l.take ac.1).filter fun x=> !isZ x).length) (μ:=fun ac=>n-ac.1) (x0:=(i0+1,i0,l)) (Io (aS O) (aO Pp) O O) (⟨⟨⟨Pv,Pv⟩,hln⟩,⟨O,by simp only;rw [hft]⟩,by simp only;rw [hft,AI];omega⟩) ?_
  rintro ⟨k,m,q⟩ ⟨⟨⟨hk,hmk⟩,hql⟩,⟨hqd,hqt⟩,hme⟩;try simp only at hk hmk hql hqd hqt hme ⊢
  have hqln:(aB q).length=n*2:=by rw [aK,hql]
  refine Z4 O O O O O ?_;refine Gp O O (fun hc19=>?_) (fun hc19=>?_)
  ·have hlt:k<l.length:=Po;have hq0:q[k]'Po=l[k]:=by have:=af (fun z=>z[0]?) hqd;simp only [MA,Ny] at this;rw [kJ Po,kJ hlt] at this;exact Nq this
   have hv:((aB q).drop (k*2)).take 2=eV l[k]:=by rw [aN (show k<q.length by omega),hq0]
   have hgk:=lS l[k];rw [show (l[k].w==0)=isZ l[k] from O] at hgk;have hdrop:q.drop (k+1)=l.drop (k+1):=by have:=af (fun z=>z.drop 1) hqd;simpa only [List.drop_drop] using this
   have hfs:(l.take (k+1)).filter (fun x=> !isZ x)=(l.take k).filter (fun x=> !isZ x)++if isZ l[k]=true then [] else [l[k]]:=by rw [aR hlt];exact kR _ _ _
   generalize hbk:isZ l[k]=b at*;have hput:=AQ (show m<q.length by omega) l[k];generalize l[k]=x at*;refine Il<|Z2 O O O<|Rs 24 O O (aa k underlying38 lM O O O O Po) ?_;first | refine A3 O Pr ?_ | refine A1 O ?_
   refine Y2 O O<|Z2 O O O<|Rs 28 O O (bb call71 O hgk O)<|A1 O ?_;refine Gc O O (fun hc29=>?_) (fun hc29=>?_)
   ·refine Z3 O O O O<|Rs 33 O O (aa m underlying38 lM O O O O Po)<|RL.step (d:=none) O O (wD lM O O O O (by simp;exact ⟨O,O⟩) Po) ?_;exact Z3 O O O O<|Z3 O O O O<|⟨(k+1,m+1,q.set m x),Io (aS O) ⟨IN (b:=some (Ob.cells 49 ((aB q).take (m*2)++eV x++(aB q).drop (m*2+2)))) Pp (af (fun c=>some (Ob.cells 49 c)) hput),Pw⟩ O O,⟨⟨⟨Pv,Pv⟩,by simp only [Md];exact hql⟩,⟨by simp only;rw [List.drop_set_of_lt Po];exact hdrop,by simp only;rw [hfs,kH (by intro e;rw [e] at hc29;simp at hc29),<-hqt];exact du Po⟩,by simp only;rw [hfs,kH (by intro e;rw [e] at hc29;simp at hc29),kQ,<-hme];rfl⟩,Pv⟩
   ·exact Il<|Z3 O O O O<|⟨(k+1,m,q),Io (aS O) (aO Pp) O O,⟨⟨⟨Pv,Pv⟩,hql⟩,⟨hdrop,by simp only;rw [hfs,qY (by simpa using hc29),MN];exact hqt⟩,by simp only;rw [hfs,qY (by simpa using hc29),MN];exact hme⟩,Pv⟩
  ·have hkn:l.take k=l:=a6 Po;rw [hkn] at hqt hme;have hfin:(aB q).take (m*2)=aB (l.filter fun x=> !isZ x):=by rw [(fu q m).1,hqt]
   exact Gx O<|Z2 O O O<|Rs 38 O O (dK m underlying38 lM O O O O Po)<|RL.step (d:=none) O O (vv JM Pq O O Po)<|Z2 O O O<|Rs 41 O O (dC m underlying38 lM O O O O Po)<|A1 O<|Gt O<|⟨[(4,.osl big 2 m)],[(big,di (l.filter fun x=> !isZ x))],[.osl big 2 m],Io (aS O) ⟨IN (b:=some (Ob.cells 49 ((aB q).take (m*2)))) Pp (af (fun c=>some (Ob.cells 49 c)) hfin),Pw⟩ O O,O,O,O,by rw [hme];rfl,O⟩
end
section
open Mk Jn
def mgR (out:List Rw) (x:Rw):List Rw:=if h:0<out.length then (if out[out.length-1].v=x.v then out.set (out.length-1) ⟨out[out.length-1].v,out[out.length-1].w+x.w⟩ else out++[x]) else out++[x]
structure MgI (out:List Rw) (k:Nat):Prop where
 n:out.length<=k
 v:∀ y∈out,y.v.length<=1000
 w:∀ y∈out, -(1000000*(k:Int))<=y.w/\y.w<=1000000*(k:Int)
 z:0<k->0<out.length
theorem MgI.put {out:List Rw} {k:Nat} (h:MgI out k) {x:Rw} (hv:x.v.length<=1000) (hw: -1000000<=x.w/\x.w<=1000000):MgI (out++[x]) (k+1):=by
 refine ⟨by simp only [kQ,L8];have:=h.n;omega,fun y hy=>?_,fun y hy=>?_,fun _=>by simp⟩
 ·rw [Mc,o7] at hy;rcases hy with hy | rfl
  ·exact h.v y hy
  ·exact hv
 ·rw [Mc,o7] at hy;rcases hy with hy | rfl
  ·have:=h.w y hy;omega
  ·omega
theorem MgI.set {out:List Rw} {k:Nat} (h:MgI out k) {i:Nat} (hi:i<out.length) {w:Int} (hw: -1000000<=w/\w<=1000000):MgI (out.set i ⟨out[i].v,out[i].w+w⟩) (k+1):=by
 refine ⟨by simp only [Md];have:=h.n;omega,fun y hy=>?_,fun y hy=>?_,fun _=>by simp only [Md];omega⟩
 ·rcases Ot hy with hy | rfl
  ·exact h.v y hy
  ·show out[i].v.length<=1000;exact h.v _ (aJ hi)
 ·rcases Ot hy with hy | rfl
  ·have:=h.w y hy;omega
  ·have:=h.w _ (aJ hi);simp only;omega
theorem wK (l:List Rw) (h0:l≠[]) (hn:l.length<20) (hs:CU l) (hv:∀ x∈l,x.v.length<=1000) (hw:∀ x∈l, -1000000<=x.w/\x.w<=1000000):FnP prog 25 [bL l] (· =bL ((l.foldl mgR []).filter fun x=> !isZ x)):=by
 refine FnP.fg2 (FnP.of func25 O ntmps25 Ps fun m0 w0 F R0=>?_);have hcp:=mw l 1 Po hv (fun x hx=>by have:=hw x hx;omega);rw [iT] at hcp;have hst:=rX l l.length O hn hs hv;have hlp:0<l.length:=MB.2 h0;have hlc:aB l≠[]:=aW hlp;have hll:=aK l;refine Z1 O O<|Z1 O O<|Rs 9 O O (ah [] 0 call65 hcp O O O O trivial Pq O)<|A1 O<|Im (St.ku 3 O O hlp hlc)<|Wk [(3,.osl 0 2 l.length)] [(0,di l)] 1 (aS Pp) (aO Pp) O O<|Z1 O O<|Rs 11 O O (ah [0] 1 call68 hst O O O O ⟨O,Pw⟩ Pq O)<|Z1 O O<|Im (Iu 4 1 2 49 O O)<|Z3 O O O O ?_;refine Gl O (st:=fun ac:Nat×List Rw=>mkS [(4,.gsl 1 2 ac.2.length),(12,.osl 0 2 l.length),(13,.pv (.int .i64 l.length)),(14,.pv (.int .i64 ac.1))] [(0,di l),(1,.gro 49 (aB ac.2))] 2)
  (I:=fun ac=>(ac.1<=l.length/\MgI ac.2 ac.1)/\ac.2=(l.take ac.1).foldl mgR []) (μ:=fun ac=>l.length-ac.1) (x0:=(0,[])) (Io (aS O) (aO Pp) O O) (⟨⟨bk _,⟨xV _,fun _ h=>by simp at h,fun _ h=>by simp at h,fun h=>absurd h Ps⟩⟩,O⟩) ?_
 rintro ⟨k,out⟩ ⟨⟨hk,hI⟩,ho⟩;try simp only at hk hI ho ⊢
 have hol:=aK out;refine Z1 O O ?_;refine Gp O O (fun hc15=>?_) (fun hc15=>?_)
 ·have hlt:k<l.length:=Po;have hrow:=aN hlt;have hxv:=hv _ (aJ hlt);have hxw:=hw _ (aJ hlt);have hfo:(l.take (k+1)).foldl mgR []=mgR out l[k]:=by rw [aR hlt,Na,<-ho];rfl
  have hpu:=hI.put hxv hxw;have hse:=fun i (hi:i<out.length)=>hI.set hi hxw
  have hkn:=hI.n;have hkw:=hI.w;have hkv:=hI.v;generalize l[k]=x at*;refine Il<|Gr O<|Rs 16 O O (aa k underlying38 lM O O O O Po) ?_;first | refine A3 O Pr ?_ | refine A1 O ?_
  refine Y2 O O<|Z3 O O O O ?_;by_cases he:out=[]
  ·refine Ge O follows [0,1,2,3,4,5,6,7,8,9,10,11,12] Pp<|D1 O O<|Ds 21 [] O O O (fun τ h=>XJ.cast (v':= .pv (.bool false)) (aQ (Ee h 0 O O) (Ee h 1 O O) O) (af (fun b=>V.pv (.bool b)) (Mu (by rw [he];decide)))) O Pp ?_;iterate 11 refine D1 O O ?_
   refine ⟨Pp,?_⟩;refine Gc O O (fun hc32=>absurd hc32 Ps) (fun hc32=>?_);have hmg:mgR out x=out++[x]:=by unfold mgR;rw [dif_neg (by rw [he];decide)]
   have hsn2:=dW out x;refine Il<|Gr O ?_;iterate 5 refine A1 O ?_
   exact Z2 O O O<|⟨(k+1,out++[x]),Ip [0,4] ⟨IN (b:=V.gsl 4 2 (out.length+1)) Pp (af (fun n=>V.gsl 4 2 n) (bW out x)),O,O,O,Pw⟩ ⟨Pp,IN (b:=some (Ob.gro 49 (aB out++eV x))) Pp (af (fun c=>some (Ob.gro 49 c)) hsn2),Pw⟩ O O Pq O,⟨⟨Pv,hpu⟩,by simp only;rw [hfo,hmg]⟩,Pv⟩
  ·have hpos:0<out.length:=MB.2 he;have hcne:aB out≠[]:=aW hpos;have hq:out.length-1<out.length:=Po;have hov:(aB out)[(out.length-1)*2+0]? =some (aI out[out.length-1].v):=nr hq;have how:=s5 hq;have hom:=aJ hq;have hob:=hkw _ hom;have heq:=Kd out[out.length-1].v x.v (by have:=hkv _ hom;omega) Po;refine Im (St.ku 4 O O hpos hcne)<|Ge O follows [0,1,2,3,4,5,6,7,8,9,10,11,12] Pp<|D1 O O<|Ds 21 [] O O O (fun τ h=>XJ.cast (v':= .pv (.bool true)) (aQ (Ee h 0 O O) (Ee h 1 O O) O) (af (fun b=>V.pv (.bool b)) (IS Po))) O Pp ?_;iterate 4 refine D1 O O ?_
   refine Dg 26 [_] O O O O (fun τ h=>aa (out.length-1) underlying38 lM (Ee h 0 O O) (Eo h 0 O O) (Ee h 1 O O) Po hq) O Pp<|D1 O O<|Dg 28 [_] O O O O (fun τ h=>aC ⟨_,underlying47,O⟩ (Ee h 0 O O) (Eo h 0 O O) hov) O Pp ?_;iterate 2 refine D1 O O ?_
   refine Dg 31 [] O O O O (fun τ h=>ae call69 heq (h.bt O)) O Pp<|D1 O O ?_;refine ⟨Pp,?_⟩;refine Gc O O (fun hc32=>?_) (fun hc32=>?_)
   ·have hee:out[out.length-1].v=x.v:=Ng hc32;have hmg:mgR out x=out.set (out.length-1) ⟨out[out.length-1].v,out[out.length-1].w+x.w⟩:=by unfold mgR;rw [Pn hpos,qY hee]
    have hst9:=qu hq (out[out.length-1].w+x.w);have hse9:=hse _ hq;refine Ge O follows [0,1,2,3,4,5,6,7,8,9,10,11] Pp ?_;iterate 3 refine D1 O O ?_
    refine Ds 36 [_] O O O (fun τ h=>aa (out.length-1) underlying38 lM (Ee h 0 O O) (Eo h 0 O O) (Ee h 1 O O) Po hq) O Pp<|D1 O O<|Ds 38 [_] O O O (fun τ h=>aC ⟨_,underlying3,O⟩ (Ee h 0 O O) (Eo h 0 O O) how) O Pp ?_;iterate 2 refine D1 O O ?_
    refine Ds 41 [] O O O (fun τ h=>zl (Ee h 0 O O) (Ee h 1 O O) Po) O Pp<|Ds 42 [_] O O O (fun τ h=>aa (out.length-1) underlying38 lM (Ee h 0 O O) (Eo h 0 O O) (Ee h 1 O O) Po hq) O Pp<|D1 O O<|DL.step (d:=none) [_] O O O (fun τ h=>aF sz3 (Ee h 0 O O) (Eo h 0 O O) (Ee h 1 O O) O (by first | omega | (simp;omega))) O Pp ?_;refine ⟨Pp,?_⟩;refine Im (St.pn 4 O O hpos (by intro e;have h:=af List.length e;rw [Md] at h;exact hcne (Mj h))) ?_;exact Gx O<|Z2 O O O<|⟨(k+1,out.set (out.length-1) ⟨out[out.length-1].v,out[out.length-1].w+x.w⟩),Io ⟨IN (b:=V.gsl 1 2 out.length) Pp (af (fun n=>V.gsl 1 2 n) (Md).symm),O,O,O,Pw⟩ ⟨Pp,IN (b:=some (Ob.gro 49 ((aB out).set ((out.length-1)*2+1) (.int .i64 (out[out.length-1].w+x.w))))) Pp (af (fun c=>some (Ob.gro 49 c)) hst9),Pw⟩ O O,⟨⟨Pv,hse9⟩,by simp only;rw [hfo,hmg]⟩,Pv⟩
   ·have hmg:mgR out x=out++[x]:=by unfold mgR;rw [Pn hpos,kH (NM hc32)]
    have hsn2:=dW out x;refine Il<|Im (St.pn 4 O O hpos hcne)<|Gr O ?_;iterate 5 refine A1 O ?_
    exact Z2 O O O<|⟨(k+1,out++[x]),Ip [0,4] ⟨IN (b:=V.gsl 4 2 (out.length+1)) Pp (af (fun n=>V.gsl 4 2 n) (bW out x)),O,O,O,Pw⟩ ⟨Pp,IN (b:=some (Ob.gro 49 (aB out++eV x))) Pp (af (fun c=>some (Ob.gro 49 c)) hsn2),Pw⟩ O O Pq O,⟨⟨Pv,hpu⟩,by simp only;rw [hfo,hmg]⟩,Pv⟩
 ·have hof:out=l.foldl mgR []:=by rw [ho,show l.take k=l from a6 Po]
  have hpos:0<out.length:=hI.z Po;have hcne:aB out≠[]:=aW hpos;have hde:=rF out out.length O (by have:=hI.n;omega);exact Im (St.ku 4 O O hpos hcne)<|Gx O<|Z1 O O<|Rs 50 O O (ah [1] 2 call70 hde O O O O ⟨O,Pw⟩ Pq O)<|A1 O<|Im (Ir 1 O O)<|Gt O<|⟨_,_,O,O,by rw [hof];rfl⟩
end
section
open Go.RowKit Go.Sort Go.Lib
theorem H8 (w:World) (T:TypeId) (nd:Nat) (hs:nd<=24):Holds (fun (b:UInt8)=>Value.int .u8 (b.toNat:Int)) (w.alloc (.cells zeros24 T)) w.heap.size 0 (Array.replicate nd (0:UInt8)):=fun j hj=>by
 have hj':j<nd:=by simpa using hj
 refine ⟨?_,World.frozen?_alloc_new _ _ _ _⟩;rw [World.cell?_alloc_new,zeros24_at _ Po,getElem!_pos _ j hj];simp
theorem fin0 (w:World) (o:Obj) (dk:Array UInt8) (k:Nat):∃ os,(putRow (fun (b:UInt8)=>Value.int .u8 (b.toNat:Int)) (w.alloc o) w.heap.size 0 dk).drewN k=grow (w.drewN k) os:=by
 rw [alloc_eq_grow];obtain ⟨os',_,e⟩:=putRow_grow_new (fun (b:UInt8)=>Value.int .u8 (b.toNat:Int)) w #[o] w.heap.size 0 dk (xV _);exact ⟨os',by rw [e];rfl⟩
set_option maxHeartbeats 6400000
theorem pB (u:Nat) (hu64:u<18446744073709551616) (w:World) (htab:Lib.TabIs prog w "internal/strconv.uint64pow10" .u64 Lib.pow10Tab):
  Calls prog 166 #[.int .u64 u,.int .i64 10] w fun e w'=>e= .returned (.string ⟨(Lib.decDigits u).toArray⟩)/\∃ k os,w'=grow (w.drewN k) os:=by
 by_cases hs:u<100
 ·have hwr:IntKind.i64.wrap (u:Int)=(u:Int):=eT Po;have hlt:((u:Int)<100):=Po
  go_enter func166,ntmps166
  go_wp2_with (fail)
  refine (Tryz.internal_strconv_small u hs _).mono ?_;rintro e w' ⟨rfl,rfl⟩
  go_wp2
  go_ret
  exact ⟨O,0, #[],by simp [World.drewN_zero]⟩
 ·have hu1:1<=u:=Po;have hge:¬ ((u:Int)<100):=Po;have hnd20:Lib.nDigits u<=20:=by have:=Lib.numDigits_eq u hu1 hu64;split at this<;>omega
  have hb3:Lib.nDigits u<=23:=Po;have hal:prog.arrayLen 255=24:=by simp [Program.arrayLen,underlying255]
  have hsl1:∀ W,(Instr.sliceAt 255 (.pointer (some ⟨w.heap.size,0,none⟩)) none (some (.int .i64 (Lib.nDigits u:Int))) none).run prog W= .ok (.slice (some ⟨w.heap.size,0,none⟩) (Lib.nDigits u) 24) W:=fun W=>by
   rw [run_sliceAt_array_h W 255 ⟨w.heap.size,0,none⟩ (by simp [Program.arrayLen,Program.elem,underlying255]) .i64 (Lib.nDigits u:Int) Po (by rw [hal];omega)]
   go_simp
  have hH0:=H8 w 255 (Lib.nDigits u) Po;have hfmt:=Tryz.internal_strconv_formatBase10 w.heap.size 0 24 u (Array.replicate (Lib.nDigits u) 0) (w.alloc (.cells Lib.zeros24 255)) hH0 (by rw [Array.size_replicate];exact Lib.lt_pow_nDigits u) hu64 (by rw [Array.size_replicate];omega);rw [Array.size_replicate] at hfmt;have HH0:=Lib.hid hH0;clear hH0 hal
  go_enter func166,ntmps166
  go_wp2_with (fail)
  refine (Tryz.internal_strconv_numDigits u hu1 hu64 _ (Lib.tabIs_alloc htab _)).mono ?_;rintro e w' ⟨rfl,rfl⟩
  go_wp2_with (fail)
  refine hfmt.mono ?_;rintro e w' ⟨rfl,k,v',dk,rfl,hF⟩;have hcv:(convert 163 9 (.slice (some ⟨w.heap.size,0,none⟩) (Lib.nDigits u) 24)).run prog ((putRow (fun (b:UInt8)=>Value.int .u8 (b.toNat:Int)) (w.alloc (.cells Lib.zeros24 255)) w.heap.size 0 dk).drewN k)= .ok (.string ⟨(Lib.decDigits u).toArray⟩) ((putRow (fun (b:UInt8)=>Value.int .u8 (b.toNat:Int)) (w.alloc (.cells Lib.zeros24 255)) w.heap.size 0 dk).drewN k):=by
   have h:=run_convert_bytes_back (P:=prog) ((putRow (fun (b:UInt8)=>Value.int .u8 (b.toNat:Int)) (w.alloc (.cells Lib.zeros24 255)) w.heap.size 0 dk).drewN k) 163 9 5 ⟨w.heap.size,0,none⟩ 24 (Lib.decDigits u) underlying163 underlying5 underlying9 (fun j hj=>by
    rw [Lib.row_is_numeral hF j hj,Lib.add_plain,World.cell?_drewN];exact cell?_putRow (fun (b:UInt8)=>Value.int .u8 (b.toNat:Int)) _ w.heap.size 0 _ dk HH0.out (by rw [hF.size,Array.size_replicate]) j (by rw [hF.size];rw [Lib.decDigits_length] at hj;exact hj))
   rw [Lib.decDigits_length] at h;exact h
  go_wp2
  go_ret
  obtain ⟨os,eo⟩:=fin0 w (.cells Lib.zeros24 255) dk k;exact ⟨O,k,os,eo⟩
theorem nE (u:Nat) (hu64:u<18446744073709551616):FnP prog 106 [.int .u64 u,.int .i64 10] (· = .str ⟨(Lib.decDigits u).toArray⟩):=by
 have hin:FnP prog 166 [.int .u64 u,.int .i64 10] (· = .str ⟨(Lib.decDigits u).toArray⟩):=by
  intro w R us hG hR hrel;obtain ⟨v11,rfl,h11⟩:=nJ hrel;obtain ⟨v12,rfl,h12⟩:=nJ h11;obtain rfl:=kj h12;exact (pB u hu64 w (GQ hG)).mono fun e w' ⟨he,k,os,hw⟩=>⟨_,_,he,O,by rw [hw];exact tn w k os,by simp only [RelP]⟩
 refine FnP.of func106 O ntmps106 Ps fun m0 w0 F R0=>?_
 exact Z1 O O<|Z2 O O O<|Rs 7 O O (ae call166 hin O)<|A1 O<|Gt O<|⟨_,_,O,O,O⟩
end
section
open Mk Jn
section
variable {C:Ctx} {n:Nat} {σ:St} {dst:Option Tmp} {ty t t':TypeId} {pos:String} {after:Array Edge} {gd:Option (Nat×Bool)} {x y:Operand}
theorem pI {e:TypeId} {id:Nat} {s:ByteArray} (id':Nat) (he:ElemIs C.P t e (.int .u8 0) 1 1) (hu:C.P.underlying t'=some .string) (hs:σ.ev n x= .gsl id 1 0) (ho:σ.ob id=some (.gro e []))
  (hy:σ.ev n y= .pv (.str s)) (hb:s.size<=1000000000) (h0:0<s.size) (hid:σ.av id'=true):
  XJ C n ⟨dst,.call { callee:= .builtin .append,args:= #[x,y],argTypes:= #[t,t'] },ty,pos,after,gd⟩ σ ⟨.gsl id' 1 s.size,[(id',some (.gro e (az s.data.toList))),(id,none)],[id']⟩:=by
 rintro a w Q ⟨m,R,hw⟩;obtain ⟨A0,c,hev,hkc,hcm,hz,hp⟩:=hw.gsl hs;obtain ⟨rfl,rfl,hmn⟩:=hz O;obtain ⟨i,hi,hzz,hsize,hbytes⟩:=info_parts he.info;have hsv:a.eval y= .string s:=hw.str hy;have h63:s.size<=maxLen:=by simp only [maxLen];omega
 have hsl:s.data.toList.length=s.size:=by rw [Mh];rfl
 have hne:az s.data.toList≠[]:=fun e=>by
  have:=af List.length e;simp only [az,xT,hsl,List.length_nil] at this;omega
 have hrun:=Go.run_append_nil_string (P:=C.P) w t t' ty e i (.int .u8 0) he.u hu hi hzz s Po Po (by rw [hbytes];omega);have hgr:w.grownBy (w.drew.alloc (.cells (s.data.map (fun b=>Value.int .u8 b.toNat)++Builtin.zeroCells (Value.int .u8 0).cells (grownCap w s.size 0 e-s.size)) e)) none:=⟨O,O,O,Ps,fun q hq _=>heap_alloc_old w.drew _ hq⟩;have hge:=grownCap_ge w s.size 0 e;have hlm:=grownCap_le_maxLen w s.size 0 e h63;have hz1:(Value.int IntKind.u8 0).cells.size=1:=rfl;have hg:=heap_alloc_new w.drew (.cells (s.data.map (fun b=>Value.int .u8 b.toNat)++Builtin.zeroCells (Value.int .u8 0).cells (grownCap w s.size 0 e-s.size)) e);have hcs':(s.data.map (fun b=>Value.int .u8 b.toNat)++Builtin.zeroCells (Value.int .u8 0).cells (grownCap w s.size 0 e-s.size)).size=grownCap w s.size 0 e:=by
  have:s.data.size=s.size:=rfl;simp only [Array.size_append,Array.size_map,size_zeroCells,hz1];omega
 have htk:(s.data.map (fun b=>Value.int .u8 b.toNat)++Builtin.zeroCells (Value.int .u8 0).cells (grownCap w s.size 0 e-s.size)).toList.take s.size=Lib.strCells s:=by
  rw [Array.toList_append,List.take_left' (by rw [Mh,Array.size_map];rfl),O9];rfl
 generalize (s.data.map (fun b=>Value.int .u8 b.toNat)++Builtin.zeroCells (Value.int .u8 0).cells (grownCap w s.size 0 e-s.size))=cur' at*;generalize grownCap w s.size 0 e=c' at*;generalize hw':w.drew.alloc (.cells cur' e)=w' at*;have hg2:w'.heap[w.heap.size]? =some (.cells cur' e (0,0)):=hg;unfold Oper.wp;have hexec:(execOp a.eval ⟨dst,.call { callee:= .builtin .append,args:= #[x,y],argTypes:= #[t,t'] },ty,pos,after,gd⟩).run C.P w= .ok (.value (.slice (some ⟨w.heap.size,0,none⟩) s.size c')) w':=by
  unfold execOp;simp only [resolve,invoke,builtin,Sem.run_bind,Sem.run_pure,Result.andThen_ok,OA,oy,M9,hev,hsv,hrun]
 rw [hexec];have hcl:(az s.data.toList).length=s.size:=by simp only [az,xT,hsl]
 refine ⟨_,O,upd (upd m id none) id' (some (w.heap.size,cur'.size)),R,?_⟩;rw [Iw];have sub:∀ i x,upd m id none i=some x->m i=some x/\i≠id:=fun i x e=>by
  by_cases hi:i=id
  ·subst hi;rw [au] at e;cases e
  ·rw [aG _ _ hi] at e;exact ⟨e,hi⟩
 refine SW.put ((hw.drop id).fresh hid hg2 hgr (fun q hq=>by cases hq) (fun hh=>?_) (fun i b' N' hi e=>?_) (.inr ?_) (.gro e (az s.data.toList)) ?_ (bQ hne)) dst ?_
 ·have:=hw.hr.rsz _ hh;omega
 ·have:=(hw.hr.own i b' N' (sub i _ hi).1).1;omega
 ·have:=hw.hr.frame.size;omega
 ·intro m' av' hR _ _;refine ⟨cur',hg2,O,by rw [hcl,hcs'];exact hge,?_⟩;rw [hcl,htk];exact (jj s).mono hR
 ·simp only [Rel];refine ⟨by simp [avL],_,c',O,hge,hlm,fun h=>by omega,fun _ b' N' e'=>?_⟩;rw [au] at e';cases e';exact ⟨O,by rw [hcs',Mi]⟩
end
theorem w4 (s:ByteArray) (h0:0<s.size) (hb:s.size<=1000000000):FnO prog 105 2 1 [.ptr big 0,.pv (.str s)] [(big,.mix 165 [.pv .nilptr,.gsl 9001 1 0]),(9001,.gro 5 [])] (fun v ob'=>v= .tup [.pv (.int .i64 s.size),.pv .niliface]/\ob'=ar [(big,.mix 165 [.ptr big 0,.gsl 0 1 s.size]),(0,.gro 5 (az s.data.toList))]):=by
 refine FnO.of func105 O ntmps105 Ps fun m0 w0 F R0=>?_
 have hcc:=u7 0 [];refine Z2 O O O<|Z1 O O<|Rs 7 O O (ah [big,9001] 0 call165 hcc O O O O ⟨O,O,Pw⟩ Pq O)<|Gr O ?_;iterate 6 refine A1 O ?_
 exact Rs 14 O O (pI 0 F4 underlying9 O O O hb h0 O)<|Y3 O O O<|Z4 O O O O O<|Gt O<|⟨[(4,.pv (.int .i64 s.size)),(5,.pv .niliface)],[(big,.mix 165 [.ptr big 0,.gsl 0 1 s.size]),(0,.gro 5 (az s.data.toList))],[.pv (.int .i64 s.size),.pv .niliface],Io (aS O) (aO Pp) O O,O,O,O,O,O⟩
theorem FH (n:Nat):0<(Lib.decDigits n).length:=by
 cases h:Lib.decDigits n with
 | nil=>
   exfalso;rw [Lib.decDigits] at h;split at h<;>simp at h
 | cons a l=>simp
theorem lF (n:Nat) (hn:n<1000000000) (hl:(Lib.decDigits n).length<=1000):FnP prog 55 [ec (n:Int)] (· = .str ⟨(Lib.decDigits n).toArray⟩):=by
 refine FnP.of func55 O ntmps55 Ps fun m0 w0 F R0=>?_
 have hz:decide ((n:Int)<0)=false:=Mu Po;have hfu:=nE n Po;have hdp:=FH n;rw [show ec (n:Int)= .agg [.bool false,.sl none (aj n).length (bX (aj n))] by show PV.agg [.bool (decide ((n:Int)<0)),z1 ((n:Int).natAbs)]=_;rw [hz];rfl];by_cases h0:n=0
 ·subst h0;rw [aV];refine Z2 O O O<|Z4 O O O O O ?_;refine Gc O O (fun hc9=>?_) (fun hc9=>absurd hc9 Ps);exact Z1 O O<|Gt O<|⟨_,_,O,O,by show PV.str ⟨#[48]⟩=_;rw [Lib.decDigits,Pn Pq];rfl⟩
 ·have hlm:aj n=[n]:=by
   rw [aj,kH h0,show n/1000000000=0 by omega,aV,OT hn]
  rw [hlm];have hg0:(bX [n])[0]? =some (.int .u64 (n:Int)):=rfl;generalize hD:Lib.decDigits n=D at*;have hDn:D≠[]:=fun e=>by rw [e] at hdp;simp at hdp
  have hws:=w4 ⟨D.toArray⟩ (show 0<D.length from hdp) (show D.length<=1000000000 by omega);have hbs:=j8 D hDn Po;refine Z2 O O O<|Z4 O O O O O ?_;refine Gc O O (fun hc=>absurd hc Ps) (fun hc=>?_);refine Il<|Z1 O O<|Im (St.er 1 1 2 1 5 O O O)<|Z2 O O O ?_;refine Gc O O (fun hc=>absurd hc Ps) (fun hc=>?_);refine Il<|Gr O ?_;iterate 5 refine A1 O ?_
  refine Gl O (st:=fun b:Bool=>bif b then mkS [(1,.ptr 0 0),(3,.ptr 1 0),(4,.pv (.int .i64 0))] [(0,.mix 91 [.pv (.bool false),.pv (.sl none 1 (bX [n]))]),(1,.mix 165 [.pv .nilptr,.gsl 2 1 0]),(2,.gro 5 [])] 3 else mkS [(1,.ptr 0 0),(3,.ptr 1 0),(4,.pv (.int .i64 (-1)))] [(0,.mix 91 [.pv (.bool false),.pv (.sl none 1 (bX [n]))]),(1,.mix 165 [.ptr 1 0,.gsl 2 1 D.length]),(2,.gro 5 (az D))] 3)
   (I:=fun _=>True) (μ:=fun b=>bif b then 1 else 0) (x0:=true) (Io (aS O) (aO O) O O) trivial ?_
  rintro (_ | _) _
  ·simp only [MD];refine Z2 O O O ?_;refine Gp O O (fun hc=>absurd hc Pq) (fun hc=>?_);exact Gx O<|Gr O<|Rs 40 O O (ah [1,2] 3 call108 hbs O O O O ⟨O,O,Pw⟩ Pq O)<|A1 O<|Gt O<|⟨_,_,O,O,O⟩
  ·simp only [Np];refine Z2 O O O ?_;refine Gp O O (fun hc=>?_) (fun hc=>absurd hc Pq);refine Il<|Z3 O O O O<|Rs 24 O O (ag 0 underlying89 gk O O O Pq (by simp [bX]))<|Rs 25 O O (ai ⟨_,underlying136,O⟩ O hg0)<|Rs 26 O O (ae call106 hfu O)<|A1 O<|Gr O ?_;iterate 6 refine A1 O ?_
   refine Gp O O (fun hc=>absurd hc Ps) (fun hc=>?_);exact Il<|Z1 O O<|Rs 39 O O (ah [1,2] 3 call105 hws O O O O ⟨O,O,Pw⟩ Pq O)<|Z3 O O O O<|⟨false,Ip [0,1,3] (aT O) (aP Pp) O O Pq O,Pw,Pq⟩
end
section
open Mk Jn
def qp (S:Sch) (d:List (List Rw)) (k:Nat):List (List Rw):=(List.zipWith (fun r l=>gF S r.2 l) S.rels d).take k
def bf (S:Sch) (d:List (List Rw)):List (List Rw):=List.zipWith (fun r l=>gF S r.2 l) S.rels d
theorem wo {S:Sch} {d:List (List Rw)} (hd:d.length=S.rels.length) {k:Nat} (hk:k<S.rels.length):qp S d (k+1)=qp S d k++[gF S S.rels[k].2 (d[k]'Po)]:=by
 unfold qp;rw [aR Pt,List.getElem_zipWith]
theorem zJ {S:Sch} {d:List (List Rw)} (hd:d.length=S.rels.length):qp S d S.rels.length=bf S d:=a6 Pt
theorem K4 {S:Sch} {d:List (List Rw)} (hd:d.length=S.rels.length) {k:Nat} (hk:k<=S.rels.length):(qp S d k).length=k:=by
 unfold qp;simp;omega
theorem wG (S:Sch) (hS:SB S) (hV:Valid S) (hJ:SJn S) (d:List (List Rw)) (hd:d.length=S.rels.length) (hl:∀ l∈d,l.length<=1000) (hv:∀ r (h:r<d.length) (h2:r<S.rels.length),∀ x∈d[r],x.v.length=S.rels[r].2.length):
  FnO prog 48 0 2 [.pv (gK S),.pv (dbP d)] [] (fun v ob'=>v= .ptr 0 0/\ob'=ar [(0,oX S (.pv (dbP (bf S d))) (.pv (ak (lstL S))) 1),(1,.mp [] [])]):=by
 refine FnO.of func48 O ntmps48 Ps fun m0 w0 F R0=>?_
 have hle:=(iN S hS hV).2;have hr:=hJ.r;have hall:=zJ hd;generalize lstL S=lp at*;have hdl:=dH d;refine Z2 O O O<|Ge O follows [0,1,2,3,4,5,6] Pp ?_;iterate 2 refine D1 O O ?_
 refine Ds 9 [] O O O (fun τ h=>ae call85 hle (h.bt O)) O Pp<|Ds 10 [] O O O (fun τ h=>fF 1 (h.n 0 _ O)) O Pp ?_;iterate 3 refine D1 O O ?_
 refine ⟨Pp,?_⟩;refine Im (St.er 2 4 3 1 38 O O O)<|Z4 O O O O O ?_;refine Gl O (st:=fun ac:Nat×List (List Rw)=>mkS [(1,.pv (dbP d)),(2,.ptr 0 0),(5,.ptr 2 0),(15,.pv (.int .i64 S.rels.length)),(16,.pv (.int .i64 ac.1))] [(0,oZ S),(1,.mp [] []),(2,oX S (.gsl 3 1 ac.2.length) (.pv (ak lp)) 1),(3,.gro 38 (Cq ac.2))] 4)
  (I:=fun ac=>ac.1<=S.rels.length/\ac.2=qp S d ac.1) (μ:=fun ac=>S.rels.length-ac.1) (x0:=(0,[])) (Io (aS O) (aO Pp) O O) (⟨bk _,by simp [qp]⟩) ?_
 rintro ⟨k,q⟩ ⟨hk,hq⟩;try simp only at hk hq ⊢
 refine Z1 O O ?_;refine Gp O O (fun hc17=>?_) (fun hc17=>?_)
 ·have hlt:k<S.rels.length:=Po;have hkd:k<d.length:=Po;have htr:=cD hkd;have htn:=dN hkd;have hlv:=zS S hJ k hlt d[k] (hl _ (aJ hkd)) (hv k hkd hlt);have hsu:=wo hd hlt;have hqk:=K4 hd hk;rw [<-hq] at hqk hsu;have hql:(Cq q).length=q.length*1:=dH q;have hsn:=jE q (gF S S.rels[k].2 d[k]);generalize gF S S.rels[k].2 d[k]=lv at*;generalize d[k]=tk at*;refine Il<|Z2 O O O<|Ge O follows [0,1,2,3,4,5,6,7,8,9,10,11,12,13,14,15,16] Pp ?_;iterate 9 refine D1 O O ?_
  refine Ds 28 [] O O O (fun τ h=>ag k underlying36 qk (Ee h 0 O O) (Ee h 1 O O) O hkd htn) O Pp<|Ds 29 [] O O O (fun τ h=>ai ⟨_,underlying38,O⟩ (Ee h 0 O O) htr) O Pp<|Ds 30 [] O O O (fun τ h=>ae call73 hlv (h.bt O)) O Pp ?_;iterate 5 refine D1 O O ?_
  refine ⟨Pp,?_⟩;exact Z2 O O O<|⟨(k+1,q++[lv]),Ip [0,1,2,5] (aT O) ⟨Pp,Pp,IN (b:=some (oX S (.gsl 5 1 (q.length+1)) (.pv (ak lp)) 1)) Pp (af (fun n=>some (oX S (.gsl 5 1 n) (.pv (ak lp)) 1)) (bW q lv)),IN (b:=some (.gro 38 (Cq q++[bL lv]))) Pp (af (fun c=>some (Ob.gro 38 c)) hsn),Pw⟩ O O Pq O,⟨Pv,by simp only;rw [hsu]⟩,Pv⟩
 ·have hqf:q=bf S d:=by rw [hq,show k=S.rels.length by omega,hall]
  rw [hqf];exact Gx O<|Im (Ir 3 O O)<|Z2 O O O<|Gt O<|⟨[(4,.ptr 0 0)],[(0,oX S (.pv (dbP (bf S d))) (.pv (ak lp)) 1),(1,.mp [] [])],[.ptr 0 0],Ip [2,1] (aT O) (aP Pp) O O Pq O,O,O,O,O,O⟩
end
section
open Mk Jn
abbrev jrO (S:Sch) (T:List (List Rw)) (lp:List Int) (D:VD) (l:List Rw):List (Nat×Ob):=[(big,oX S (.pv (dbP T)) (.pv (ak lp)) 9001),(9001,.mp [.int .i64 (-1)] [ca D]),(0,.gro 49 (aB l))]
theorem DA (P:List Int):Pre P 0 s0B:=fun a=>by simp
theorem now0B (n:Nat):NowOk n s0B (List.replicate n eb):=⟨Ps,fun a h x e=>(by cases e),fun a _=>rfl⟩
theorem sy (S:Sch) (T:List (List Rw)) (lp:List Int) (pk pv:List PV) (D:VD) (hpl:pr S T lp pk pv D) (P:List Int) (hc:CtxV (jdB S T lp D) P D) (hd:∀ l∈T,l.Pairwise fun a b=>a.v≠b.v) (hw100:∀ l∈T,∀ x∈l,1<=x.w/\x.w<=100) (hr6:S.rels.length<=6) (hwa:D.wa=aD P) (hho:∀ v (hv:v<D.hos.length),D.hos[v]=hoL S P v)
  (l:List Rw) (hl:o9 (jdB S T lp D) P=l) (hll:l.length<=1000000):
  FnO prog 52 2 1 [.ptr big 0] (jnO S T lp pk pv) (fun v ob'=>v= .gsl 0 2 l.length/\ob'=ar (jrO S T lp D l)):=by
 refine FnO.of func52 O ntmps52 Ps fun m0 w0 F R0=>?_
 have hask:=vP S T lp pk pv D hc.ok.s.a hpl;have htt:=sB (jdB S T lp D) P D hc s0B (fun _=>rfl) (List.replicate S.attrs.length eb) [] (now0B _) (fun p hp=>by cases hp);have hol:=y3 hc;rw [hl] at hol;have hhas:=HO hc s0B;have hof:=iR hc;rw [zt] at hl;have hll2:([]:List Rw).length+(enC (jdB S T lp D) P (hoL (jdB S T lp D).S P) ((aD P).drop 0) s0B 1).length<=1000000:=by
  rw [List.drop_zero,List.length_nil,Mt,<-k8 S.attrs.length];exact hl▸hll
 have hgo:=fun now2 M2 h1 h2=>Ey (jdB S T lp D) P D hc hd hw100 hr6 hwa hho (aD P).length 0 Po s0B now2 M2 1 [] (DA P) (fun a x e=>(by cases e)) (fun a x e=>(by cases e)) h1 h2 Pq (by unfold GY;simp) hll2
 rw [List.drop_zero,MZ,show (fun _=>none:Asg ByteArray)=s0B from O] at*;rw [show iX (jdB S T lp D).S.attrs.length (enC (jdB S T lp D) P (hoL (jdB S T lp D).S P) (aD P) s0B 1)=l from hl] at hgo;have hemp:fl aU (jdB S T lp D) P (al P (-1)) s0B=false->l=[]:=fun e=>by
  rw [e] at hhas;have h1:(enW (bC (RJ (jdB S T lp D)) sdS) (aD P) s0B).isEmpty=true:=by simpa using hhas.symm
  rw [<-hl,<-OF,k8,<-xT (f:=(·.1)),hof];exact OF.2 (List.isEmpty_iff.1 h1)
 clear hol hhas hof hl;generalize fl aU (jdB S T lp D) P (al P (-1)) s0B=fb at*;refine Z1 O O<|Z1 O O<|Rs 7 O O (ah [big,9001] 0 call96 hask O O O O ⟨O,O,Pw⟩ Pq O)<|Y2 O O<|Im (Io (l:=[(3,.ptr 5 0)]) (os:=(5,.mix 139 [.ptr 4 0])::HG S T lp D) (k:=6) (aS Pp) (aO Pp) O O)<|Z1 O O ?_;refine RL.call O (dU (os:=o6B (jdB S T lp D) (wdB D) s0B (List.replicate S.attrs.length eb) [] []) [4,1,2,3,big,9001] 0 call97 (args:=[.ptr big 0]) (k':=0) Pp Pp Pp Pp ⟨Pp,Pp,Pp,Pp,Pp,Pp,Pw⟩ Pq Pp htt fun v ob' hv=>?_);obtain ⟨now2,M2,hn2,hM2,rfl,rfl⟩:=hv;refine A1 O ?_;have hgo2:=hgo now2 M2 hn2 hM2;refine Wk [(3,.ptr 5 0),(10,.pv (.bool (!fb)))] [(4,(oB (wdB D) big 1 S.attrs.length 2 3)),(1,.cells 9 (aA now2)),(2,.cells 4 (ay (stL s0B S.attrs.length))),(3,.mp (ba M2) (bB M2)),(5,.mix 139 [.ptr 4 0]),(big,oX S (.pv (dbP T)) (.pv (ak lp)) 9001),(9001,.mp [.int .i64 (-1)] [ca D])] 6 (aS Pp) (aO Pp) O O ?_;refine Gc O O (fun hc10=>?_) (fun hc10=>?_)
 ·have hle:=hemp (by simpa using hc10);subst hle;exact Z1 O O<|Im (Iu 2 6 2 49 O O)<|Gt O<|⟨[(2,.gsl 0 2 0)],jrO S T lp D [],[.gsl 0 2 0],Is [6] (aT Pp) (aP Pp) O O Pq O,O,O,O,O,O⟩
 ·refine Il<|Z1 O O<|Im (St.er 6 0 7 2 49 O O O)<|Z1 O O<|Z2 O O O<|Z1 O O ?_;refine RL.call O (qx [4,1,2,3,big,9001,5,6,8,7] 9 call98 hgo2 O O O O O ⟨Pp,Pp,Pp,Pp,Pp,Pp,Pp,Pp,Pp,Pp,Pw⟩ Pq O ?_);rintro _ _ ⟨now4,M4,hn4,hM4,rfl,rfl⟩;exact Z2 O O O<|Gt O<|⟨[(2,.gsl 0 2 l.length)],jrO S T lp D l,[.gsl 0 2 l.length],Is [9] (aT Pp) (aP Pp) O O Pq O,O,O,O,O,O⟩
end
section
open Mk Jn
theorem mH {w:World} {R:Nat->Prop}:∀ {l:List ByteArray} {us:List Value},RelPL w R (aA l) us->us=l.map Value.string
 | [],us,h=>by simpa [RelPL] using h
 | x::l,us,h=>by
   simp only [oy,RelPL,RelP] at h;obtain ⟨u,vs,rfl,rfl,h2⟩:=h;rw [mH h2];rfl
structure RowV (w:World) (R:Nat->Prop) where
 x:Rw
 us:List Value
 rel:RelPL w R (eV x) us
 len:x.v.length<=1000000
theorem E5 (w:World) (R:Nat->Prop):RelPL w R (eV ⟨[],0⟩) [.slice none 0 0,.int .i64 0]:=by
 refine RelPL.cons ?_ (RelPL.cons (by simp only [RelP]) RelPL.nil);simp only [RelP];refine ⟨none,0,O,xV _,by simp [maxLen],?_,?_,?_⟩
 ·intro b h;cases h
 ·intro h;cases h
 ·intro h;exact absurd O h
instance (w:World) (R:Nat->Prop):Inhabited (RowV w R):=⟨⟨⟨[],0⟩,_,E5 w R,Ps⟩⟩
theorem RowV.cells {w:World} {R:Nat->Prop} (hR:∀ b,R b->b<w.heap.size) (y:RowV w R):∃ A c,y.us=[.slice A y.x.v.length c,.int .i64 y.x.w]/\Row w R A (GF y.x.v):=by
 have h:=y.rel;simp only [RelPL,RelP] at h;obtain ⟨u,vs,e,⟨A,c,rfl,_,_,_,_,h5⟩,u2,vs2,rfl,rfl,rfl⟩:=h;refine ⟨A,c,e,fun hne=>?_⟩;obtain ⟨b,off,us,rfl,h6,h7,h8⟩:=h5 (fun e=>hne (by rw [List.map_eq_nil_iff] at e ⊢; exact e));have e7:=mH h6;subst e7;exact ⟨b,off,O,h7,hR b h7,h8⟩
theorem RowV.G0 {w:World} {R:Nat->Prop} (y:RowV w R):y.us.length=2:=y.rel.length
theorem RowV.one {w:World} {R:Nat->Prop} (y:RowV w R):∀ v∈y.us,v.oneCell'=true:=by
 have h:=y.rel;simp only [RelPL,RelP] at h;obtain ⟨u,vs,e,⟨A,c,rfl,_⟩,u2,vs2,rfl,rfl,rfl⟩:=h;rw [e];intro v hv;simp only [sh,NC,Pf] at hv;rcases hv with rfl | rfl<;>rfl
theorem tQ {w:World} {R:Nat->Prop}:∀ {l:List Rw} {us:List Value},(∀ x∈l,x.v.length<=1000000)->RelPL w R (aB l) us->∃ ds:List (RowV w R),ds.map (·.x)=l/\ds.flatMap (·.us)=us
 | [],us,_,h=>⟨[],O,by simp [aB,RelPL] at h;simp [h]⟩
 | x::l,us,hl,h=>by
   have h0:RelPL w R (eV x++aB l) us:=h;have h1:=h0.take 2;have h2:=h0.drop 2;rw [show (eV x++aB l).take 2=eV x from List.take_left' O] at h1;rw [show (eV x++aB l).drop 2=aB l from List.drop_left' O] at h2;obtain ⟨ds,e1,e2⟩:=tQ (fun y hy=>hl y (by simp [hy])) h2;exact ⟨⟨x,us.take 2,h1,hl x Ps⟩::ds,by simp [e1],by simp [e2]⟩
theorem pQ {w w':World} {R:Nat->Prop} (hk:∀ b,R b->w'.heap[b]? =w.heap[b]?):∀ (ds:List (RowV w R)),RelPL w' R (aB (ds.map (·.x))) (ds.flatMap (·.us))
 | []=>by simp [aB,RelPL]
 | y::ds=>by
   have h1:RelPL w' R (eV y.x) y.us:=RelPL.mono (fun b hb=>⟨hb,hk b hb⟩) _ _ y.rel;have:=h1.append (pQ hk ds);simpa [aB] using this
theorem EB (a b:List ByteArray):decide (lN a b<0)=aZ a b:=by
 unfold lN;cases h:aZ a b with
 | true=>rw [qY O];rfl
 | false=>rw [kH Pq];by_cases h2:a=b<;>simp [h2]
theorem H0 {i k:Nat} (h:¬ i=k):Nat.beq i k=false:=by
 cases hb:Nat.beq i k with
 | false=>rfl
 | true=>exact absurd (eG hb) h
theorem yP {α:Type} (f:α->List ByteArray):Go.Sort.SWO (Go.Proofs.ltOf fun x y:α=>lN (f x) (f y)):=by
 have e:∀ x y:α,Go.Proofs.ltOf (fun x y:α=>lN (f x) (f y)) x y=aZ (f x) (f y):=fun x y=>by
  exact EB (f x) (f y)
 refine ⟨fun x=>by rw [e];exact cz _,fun x y z h1 h2=>?_,fun x y z h1 h2=>?_⟩
 ·rw [e] at *; exact cT h1 h2
 ·rw [e] at*;cases h3:aZ (f x) (f z) with
  | false=>rfl
  | true=>
    cases h4:aZ (f z) (f y) with
    | true=>rw [cT h3 h4] at h1;cases h1
    | false=>rw [gO h2 h4,h3] at h1;cases h1
theorem Bh {α:Type} (f:α->List ByteArray) (x y:α):Go.Proofs.ltOf (fun x y:α=>lN (f x) (f y)) x y=aZ (f x) (f y):=by
 exact EB (f x) (f y)
theorem l3 {α:Type} [Inhabited α] (enc:α->List Value) (hk:∀ x,(enc x).length=2) (d:Array α):(Go.Sort.flatK enc 2 d).toList=d.toList.flatMap enc:=by
 have hfl:(d.toList.flatMap enc).length=d.toList.length*2:=fK enc 2 hk d.toList;apply MJ
 ·rw [Mh,Go.Sort.size_flatK,hfl,Mh]
 ·intro i h1 h2;rw [Mh,Go.Sort.size_flatK] at h1;have hq:i/2<d.size:=Po;have hg:=Go.Sort.get_flatK enc 2 d i h1;rw [getElem!_pos _ i (by rw [Go.Sort.size_flatK];exact h1)] at hg;have hf:=oC enc 2 hk d.toList (i/2) (i%2) (by rw [Mh];exact hq) Po;rw [show i/2*2+i%2=i by omega,kJ h2] at hf;rw [Array.getElem_toList,hg,getElem!_pos d (i/2) hq];have hl:i%2<(enc d[i/2]).length:=by rw [hk];omega
  change _=(enc d[i/2])[i%2]? at hf
  rw [kJ hl] at hf;rw [getElem!_pos (enc d[i/2]) (i%2) hl];exact (Nq hf).symm
theorem nT (F arr:Array Value) (h:F.size<=arr.size):((Go.Sort.putCells id 0 F arr).toList.take F.size)=F.toList:=by
 apply MJ
 ·simp [Go.Sort.putCells];omega
 ·intro i h1 h2;rw [Mh] at h2;simp only [List.getElem_take,Array.getElem_toList,Go.Sort.putCells,Array.getElem_mapIdx];rw [qY ⟨bk _,Po⟩,Pg,getElem!_pos F i h2];rfl
theorem ie {α:Type} [Inhabited α] (enc:α->List Value) (w:World) (b n:Nat) (d:Array α) (os:Array Obj) (hb:b<w.heap.size):
  (sortWorldK enc 2 w b 0 n d os).os=w.os/\(sortWorldK enc 2 w b 0 n d os).tape=w.tape/\(sortWorldK enc 2 w b 0 n d os).output=w.output/\w.heap.size<=(sortWorldK enc 2 w b 0 n d os).heap.size/\
  (∀ k,k<w.heap.size->k≠b->(sortWorldK enc 2 w b 0 n d os).heap[k]? =w.heap[k]?)/\∀ arr ty fz,w.heap[b]? =some (.cells arr ty fz)->(sortWorldK enc 2 w b 0 n d os).heap[b]? =some (.cells (Go.Sort.putCells id 0 (Go.Sort.flatK enc 2 d) arr) ty fz):=by
 have hh:(sortWorldK enc 2 w b 0 n d os).heap=(w.heap.modify b (Go.Sort.onCells (Go.Sort.putCells id 0 (Go.Sort.flatK enc 2 d))))++os:=rfl;refine ⟨O,O,O,?_,fun k hk hne=>?_,fun arr ty fz h=>?_⟩
 ·rw [hh];simp
 ·rw [hh,Array.getElem?_append_left (by simpa using hk),Ou,kH (Ne.symm hne)]
 ·rw [hh,Array.getElem?_append_left (by simpa using hb),Ou,qY O,h];rfl
abbrev jz (l:List Rw):Ob:= .gro 49 (aB l)
theorem w7 (l:List Rw) (hl:l.length<=1000000) (hv:∀ x∈l,x.v.length<=1000000):
  FnO prog 53 1 0 [.gsl big 2 l.length,.pv (.fn (.func 54) [] [])] [(big,jz l)] (fun v ob'=>∃ l',l'.Perm l/\(l'.Pairwise fun a b=>aZ b.v a.v=false)/\v= .tup []/\ob'=ar [(big,jz l')]):=by
 intro w m R us hR hrel;simp only [RelL,Rel,RelP] at hrel;obtain ⟨u1,us1,rfl,⟨_,A,c,rfl,hnc,hcm,h0,h1⟩,u2,us2,rfl,⟨fs,cs,rfl,hfs,hcs⟩,rfl⟩:=hrel;obtain rfl:=(by simpa [RelPL] using hfs:fs=[]);obtain rfl:=(by simpa [RelPL] using hcs:cs=[]);have hob:ar [(big,jz l)] big=some (jz l):=rfl;by_cases hn:l=[]
 ·subst hn;refine (AnyF.slices_SortFunc_none Tryz.sortRow A c _ w).mono ?_;rintro e w' ⟨rfl,rfl⟩;refine ⟨.tuple #[],.tup [],_,m,R.p,O,⟨[],List.Perm.refl _,List.Pairwise.nil,O,O⟩,O,?_,hR,?_⟩
  ·intro i o h;by_cases hi:i=big
   ·subst hi;rw [hob] at h;cases h;exact ⟨O,O⟩
   ·exfalso;simp only [ar] at h;rw [H0 hi] at h;cases h
  ·simp only [Rel];exact ⟨[],O,by simp only [RelL]⟩
 ·have hpos:0<l.length:=MB.2 hn;have hcl:=aK l;have hreal:(jz l).real=true:=bQ (by intro e;rw [e] at hcl;simp at hcl;omega);have hdom:=hR.dom big;rw [hob] at hdom;obtain ⟨⟨b,N⟩,hm⟩:∃ x,m big=some x:=BY.1 (hdom.trans hreal);obtain ⟨rfl,hN⟩:=h1 hpos b N hm;obtain ⟨arr,hb,harr,hle,hrl⟩:=hR.obj big _ b N hob hm;obtain ⟨hbs,hbR,_⟩:=hR.own big b N hm;obtain ⟨ds,hds,hdu⟩:=tQ hv hrl;have hdl:ds.length=l.length:=by rw [<-hds,xT]
  have hsz:ds.toArray.size=l.length:=by rw [Nh,hdl]
  have hF:=l3 (fun y:RowV w R.p=>y.us) (fun y=>y.G0) ds.toArray;have hFs:=Go.Sort.size_flatK (fun y:RowV w R.p=>y.us) 2 ds.toArray;rw [hsz] at hFs;have hH:Go.Sort.HoldsK (fun y:RowV w R.p=>y.us) 2 w b 0 ds.toArray:=by
   intro j hj;rw [hFs] at hj;have hjl:j<(aB l).length:=Po;have e1:(arr.toList.take (aB l).length)[j]? =(Go.Sort.flatK (fun y:RowV w R.p=>y.us) 2 ds.toArray).toList[j]? :=by rw [hF,<-hdu]
   rw [Ma,qY hjl,OW,OW] at e1;constructor
   ·simp only [World.cell?,hb,Mt];rw [e1,getElem!_pos _ j (by rw [hFs];exact hj)];exact Array.getElem?_eq_getElem _
   ·simp [World.frozen?,hb]
  have hcmp:CmpLays prog 54 #[] (fun y:RowV w R.p=>y.us) 2 (fun x y=>lN x.x.v y.x.v) b 0 ds.toArray.size w:=by
   intro mm os dk _ x y;obtain ⟨A1,c1,e1,r1⟩:=x.cells hR.rsz;obtain ⟨A2,c2,e2,r2⟩:=y.cells hR.rsz;obtain ⟨_,_,_,k1,k2,_⟩:=ie (fun y:RowV w R.p=>y.us) w b mm dk os hbs;have hk:∀ b',R.p b'->b'<w.heap.size->(sortWorldK (fun y:RowV w R.p=>y.us) 2 w b 0 mm dk os).heap[b']? =w.heap[b']? :=fun b' h1 h2=>k2 b' h2 fun e=>hbR (e▸h1)
   have:=sj A1 A2 c1 c2 x.x.v y.x.v x.x.w y.x.w (sortWorldK (fun y:RowV w R.p=>y.us) 2 w b 0 mm dk os) (r1.keep k1 fun b' _ _ h1 h2=>hk b' h1 h2) (r2.keep k1 fun b' _ _ h1 h2=>hk b' h1 h2) x.len y.len;show Calls _ _ (#[.agg x.us.toArray,.agg y.us.toArray]++ #[]) _ _;rw [e1,e2,Array.append_empty];exact this
  have hgo:=AnyQ.slices_SortFunc Tryz.sortRow 2 isAgg49 sizeOf49 (fun y:RowV w R.p=>y.us) (fun y=>y.G0) (fun y=>y.one) (fun x y=>lN x.x.v y.x.v) (yP fun y:RowV w R.p=>y.x.v) 54 #[] b 0 c ds.toArray w call54 hcmp hH hbs (by rw [hsz];omega);rw [hsz] at hgo;refine Calls.mono hgo ?_;rintro e w' ⟨rfl,d',n,os,⟨hp1,_,hp2⟩,hs,rfl⟩;obtain ⟨q1,q2,q3,q4,q5,q6⟩:=ie (fun y:RowV w R.p=>y.us) w b n d' os hbs;have hd':d'.size=l.length:=hp1.trans hsz;have hperm:d'.toList.Perm ds:=by
   have e1:d'.extract 0 l.length=d':=by rw [<-hd'];simp
   have e2:ds.toArray.extract 0 l.length=ds.toArray:=by rw [<-hsz];simp
   rw [e1,e2] at hp2;simpa using hp2
  have hpl:(d'.toList.map (·.x)).Perm l:=hds▸hperm.map (·.x);have hl':(d'.toList.map (·.x)).length=l.length:=hpl.length_eq;have hcl':=aK (d'.toList.map (·.x));have hF':=l3 (fun y:RowV w R.p=>y.us) (fun y=>y.G0) d';have hFs':=Go.Sort.size_flatK (fun y:RowV w R.p=>y.us) 2 d';have hob':ar [(big,jz (d'.toList.map (·.x)))] big=some (jz (d'.toList.map (·.x))):=rfl;have hreal':(jz (d'.toList.map (·.x))).real=true:=bQ (by intro e;rw [e] at hcl';simp only [List.length_nil] at hcl';omega);have hno:∀ {l:List Rw} {i:Nat},i≠big->ar [(big,jz l)] i=none:=fun {l i} hi=>by simp only [ar];rw [H0 hi];rfl
  refine ⟨.tuple #[],.tup [],_,m,R.p,O,⟨d'.toList.map (·.x),hpl,?_,O,O⟩,O,?_,?_,?_⟩
  ·rw [List.pairwise_map,Nr];intro i j h1 h2 hij;have:=hs i j (bk _) hij (by rw [Mh] at h2;omega);rw [Bh fun y:RowV w R.p=>y.x.v,getElem!_pos d' j (by simpa using h2),getElem!_pos d' i (by simpa using h1)] at this;simpa using this
  ·intro i o h;by_cases hi:i=big
   ·subst hi;rw [hob'] at h;cases h;exact ⟨O,O⟩
   ·rw [hno hi] at h;cases h
  ·refine ⟨fun i=>?_,fun i h=>?_,fun i o b' N' h h'=>?_,hR.inj,fun i b' N' h=>?_,fun b' h=>ME (hR.rsz b' h) q4,fun b' h=>hR.rfr b' h,hR.r0,⟨q1,q2,q3,q4,fun k hk hF=>q5 k hk fun e=>hF (e▸⟨big,N,hm⟩)⟩,hR.keep,hR.res⟩
   ·by_cases hi:i=big
    ·subst hi;rw [hob',hm];exact hreal'.symm
    ·rw [hno hi];have:=hR.dom i;rw [hno hi] at this;exact this
   ·by_cases hi:i=big
    ·subst hi;have:=hR.free _ h;rw [hob] at this;cases this
    ·exact hno hi
   ·by_cases hi:i=big
    ·subst hi;rw [hob'] at h;cases h;rw [hm] at h';cases h';refine ⟨_,q6 arr _ _ hb,?_,?_,?_⟩
     ·simp [Go.Sort.putCells,harr]
     ·rw [hcl',hl',<-hcl];exact hle
     ·rw [show (aB (d'.toList.map (·.x))).length=(Go.Sort.flatK (fun y:RowV w R.p=>y.us) 2 d').size by rw [hFs',hcl',xT,Mh],nT _ _ (by rw [hFs',hd',harr];omega),hF'];exact pQ (fun b' h=>q5 b' (hR.rsz b' h) fun e=>hbR (e▸h)) d'.toList
    ·rw [hno hi] at h;cases h
   ·have:=hR.own i b' N' h;exact ⟨ME this.1 q4,this.2⟩
  ·simp only [Rel];exact ⟨[],O,by simp only [RelL]⟩
end
section
open Mk Jn
structure RowOk (S:Sch) (A:List Int) (low:Int) (x:Rw):Prop where
 l:x.v.length=A.length
 v:∀ i (h:i<x.v.length) (h2:i<A.length),∀ nm,FnP prog 179 [.agg [.str nm,.int .i64 (S.attrs.getD A[i].toNat default).2],.str x.v[i]] (· = .bool true)
 w:x.w≠0/\low<=x.w/\x.w<=100
theorem mC {S:Sch} {a:Nat} (h:a<S.attrs.length):S.attrs.getD a default=S.attrs[a]:=by simp [List.getD,h]
theorem sX (S:Sch) (hS:SJn S) (nm:ByteArray) (A:List Int) (hA:A.length<=1000) (hb:∀ a∈A,0<=a/\a<S.attrs.length) (low:Int) (x:Rw) (hx:RowOk S A low x):FnP prog 125 [gK S,.agg [.str nm,ak A],sJ x] (· = .bool true):=by
 refine FnP.of func125 O ntmps125 Ps fun m0 w0 F R0=>?_
 have hxl:=hx.l;have hSa:=hS.a;refine Z4 O O O O O<|Z4 O O O O O ?_;refine Gl O (st:=fun ac:Nat=>mkS [(3,.ptr 0 0),(5,.ptr 2 0),(10,.pv (ak A)),(11,.pv (.int .i64 A.length)),(12,.pv (.int .i64 ac))] [(0,oZ S),(2,.mix 49 [.pv (aI x.v),.pv (.int .i64 x.w)])] 3)
  (I:=fun ac=>ac<=A.length) (μ:=fun ac=>A.length-ac) (x0:=(0)) (Io (aS O) (aO O) O O) (bk _) ?_
 rintro j hj;refine Z1 O O ?_;refine Gp O O (fun hc13=>?_) (fun hc13=>?_)
 ·have hlj:j<A.length:=Po;obtain ⟨a,haa⟩:=so (hb _ (aJ hlj)).1;have hal:a<S.attrs.length:=by have:=(hb _ (aJ hlj)).2;omega
  have hpv:(aE A)[j*1]? =some (.int .i64 (a:Int)):=by rw [<-haa];simp [hlj]
  have hpn:=aH hlj;have hjv:j<x.v.length:=Po;have hsv:=aM hjv;have hsn:=bc hjv;have har:=od hal;have han:=lq hal;have hvl:=hx.v j hjv hlj S.attrs[a].1;rw [haa,Mb,mC hal] at hvl;refine Il<|Z2 O O O<|Rs 16 O O (ai ⟨_,underlying3,O⟩ O hpv)<|Y2 O O<|Ge O follows [0,1,2,3,4,5,6,7,8,9,10,11] Pp ?_;iterate 3 refine D1 O O ?_
  refine Ds 20 [] O O O (fun τ h=>ag a underlying28 G1 (Ee h 0 O O) (Ee h 1 O O) O hal han) O Pp ?_;first | refine D3 O O Pr ?_ | refine D1 O O ?_
  iterate 3 refine D1 O O ?_
  refine Ds 25 [] O O O (fun τ h=>ag j underlying47 sz9 (Ee h 0 O O) (Ee h 1 O O) O hjv hsn) O Pp<|Ds 26 [] O O O (fun τ h=>ai ⟨_,underlying9,O⟩ (Ee h 0 O O) hsv) O Pp<|Ds 27 [] O O O (fun τ h=>ae call179 hvl (h.bt O)) O Pp<|D1 O O ?_;refine ⟨Pp,?_⟩;refine Gc O O (fun hc28=>absurd hc28 Ps) (fun hc28=>?_);exact Il<|Z2 O O O<|⟨(j+1),Io (aS O) (aO O) O O,Po,Po⟩
 ·exact Gx O<|Z1 O O<|Gt O<|⟨_,_,O,O,O⟩
structure TblOk (S:Sch) (A:List Int) (low:Int) (l:List Rw):Prop where
 row:∀ x∈l,RowOk S A low x
 asc:Aj l
theorem xS {l:List Rw} (h:Aj l) {k:Nat} (hk:k+1<l.length):aZ l[k].v l[k+1].v=true:=by
 unfold Aj at h;rw [Nr] at h;exact h k (k+1) Po hk Po
theorem jd (S:Sch) (hB:SB S) (hS:SJn S) (hV:cI S=0) (r:Nat) (hr:r<S.rels.length) (l:List Rw) (most low:Int) (hm:(l.length:Int)<=most) (hl:l.length<=1000) (hT:TblOk S S.rels[r].2 low l):FnP prog 83 [gK S,.int .i64 r,bL l,.int .i64 most,.int .i64 low] (· = .int .i64 0):=by
 refine FnP.of func83 O ntmps83 Ps fun m0 w0 F R0=>?_
 have hchk:=tN S hB;rw [hV] at hchk;have hrow:=cW hr;have hrne:=ew hr;have hrl:=hS.l _ (aJ hr);have hrb:=hS.b _ (aJ hr);have hSr:=hS.r;have hval:=fun (x:Rw) (hx:RowOk S S.rels[r].2 low x)=>sX S hS S.rels[r].1 S.rels[r].2 hrl hrb low x hx
 have hTr:=hT.row;have hTa:=hT.asc;clear hT;generalize S.rels[r]=rr at*;refine Z2 O O O<|Z1 O O<|Rs 16 O O (ae call81 hchk O)<|Y2 O O ?_;refine Gc O O (fun hc14=>absurd hc14 Ps) (fun hc14=>?_);refine Z3 O O O O ?_;apply Ix 6 23 29 [24,25,26,27,28] O Py
 ·intro hb2;iterate 6 refine A1 O ?_
  exact Iq Px O O O
 ·intro hb2;iterate 6 refine A1 O ?_
  exact Iq Px O O O
 refine A1 O ?_;refine Gc O O (fun hc20=>absurd hc20 (fun h=>by simp at h;omega)) (fun hc20=>?_);refine Gr O ?_;iterate 5 refine A1 O ?_
 refine Gp O O (fun hc30=>absurd hc30 Po) (fun hc30=>?_);refine Il<|Z4 O O O O O ?_;first | refine A3 O Pr ?_ | refine A1 O ?_
 refine Y2 O O<|Z3 O O O O ?_;refine Gl O (st:=fun ac:Nat=>mkS [(2,.pv (bL l)),(4,.pv (.int .i64 low)),(5,.ptr 0 0),(11,.ptr 1 0),(40,.pv (bL l)),(41,.pv (.int .i64 l.length)),(42,.pv (.int .i64 ac))] [(0,oZ S),(1,.mix 30 [.pv (.str rr.1),.pv (ak rr.2)])] 2)
  (I:=fun ac=>ac<=l.length) (μ:=fun ac=>l.length-ac) (x0:=(0)) (Io (aS O) (aO O) O O) (bk _) ?_
 rintro k hk;refine Z1 O O ?_;refine Gp O O (fun hc43=>?_) (fun hc43=>?_)
 ·have hlt:k<l.length:=Po;have hrw:=aN hlt;have hrn:=aW hlt;have hxo:=hTr _ (aJ hlt);have hvk:=hval _ hxo;have hxl:=hxo.l;obtain ⟨hw1,hw2,hw3⟩:=hxo.w;have hprev:0<k->∃ hq:k-1<l.length,aZ (l[k-1]'hq).v l[k].v=true:=fun h0=>by
   obtain ⟨j,rfl⟩:∃ j,k=j+1:=⟨k-1,Po⟩;exact ⟨by simp only [Nat.add_sub_cancel];omega,by simpa using xS hTa hlt⟩
  have hpl:∀ hq:k-1<l.length,(l[k-1]'hq).v.length=rr.2.length:=fun hq=>(hTr _ (aJ hq)).l
  have hpr:∀ hq:k-1<l.length,(aB l)[(k-1)*2]? =some (aI (l[k-1]'hq).v):=fun hq=>nr hq
  clear hxo;generalize l[k]=x at*;refine Il<|Z2 O O O ?_;first | refine A3 O Pr ?_ | refine A1 O ?_
  refine Y3 O O O<|Gr O ?_;iterate 8 refine A1 O ?_
  refine Gc O O (fun hc47=>absurd hc47 Pt) (fun hc47=>?_);refine Z3 O O O O<|Rs 59 O O (ae call125 hvk O)<|Y2 O O ?_;refine Gc O O (fun hc55=>absurd hc55 Ps) (fun hc55=>?_);refine Z4 O O O O O ?_;apply Ix 5 65 70 [66,67,68,69] O Py
  ·intro hb3;iterate 5 refine A1 O ?_
   exact Iq Px O O O
  ·intro hb3;iterate 5 refine A1 O ?_
   exact Iq Px O O O
  refine A1 O ?_;apply Ix 4 71 75 [72,73,74] O Py
  ·intro hb9;iterate 4 refine A1 O ?_
   exact Iq Px O O O
  ·intro hb9;iterate 4 refine A1 O ?_
   exact Iq Px O O O
  refine A1 O ?_;refine Gc O O (fun hc61=>absurd hc61 (fun h=>by simp at h;omega)) (fun hc61=>?_);by_cases hk0:k=0
  ·refine Ge O follows [0,1,2,3,4,5,6,7,8,9,10,11,12,13,14] Pp<|D1 O O<|Ds 78 [] O O O (fun τ h=>XJ.cast (v':= .pv (.bool false)) (aQ (Ee h 0 O O) (Ee h 1 O O) O) (af (fun b=>V.pv (.bool b)) (Mu Po))) O Pp ?_;iterate 13 refine D1 O O ?_
   refine ⟨Pp,?_⟩;refine Gc O O (fun hc76=>absurd hc76 Ps) (fun hc76=>?_);exact Il<|Z2 O O O<|⟨(k+1),Io (aS O) (aO O) O O,Po,Po⟩
  ·obtain ⟨hq,hls⟩:=hprev Po;have hjl:=xb _ x.v (by rw [hpl hq];omega) Po;rw [hls] at hjl;have hpq:=hpr hq;refine Ge O follows [0,1,2,3,4,5,6,7,8,9,10,11,12,13,14] Pp<|D1 O O<|Ds 78 [] O O O (fun τ h=>XJ.cast (v':= .pv (.bool true)) (aQ (Ee h 0 O O) (Ee h 1 O O) O) (af (fun b=>V.pv (.bool b)) (IS Po))) O Pp ?_;iterate 4 refine D1 O O ?_
   refine Dg 83 [] O O O O (fun τ h=>ag (k-1) underlying38 lM (Ee h 0 O O) (Ee h 1 O O) Po hq hrn) O Pp<|D1 O O<|Dg 85 [] O O O O (fun τ h=>ai ⟨_,underlying47,O⟩ (Ee h 0 O O) hpq) O Pp ?_;iterate 2 refine D1 O O ?_
   refine Dg 88 [] O O O O (fun τ h=>ae call32 hjl (h.bt O)) O Pp ?_;iterate 3 refine D1 O O ?_
   refine ⟨Pp,?_⟩;refine Gc O O (fun hc76=>absurd hc76 Ps) (fun hc76=>?_);exact Il<|Z2 O O O<|⟨(k+1),Io (aS O) (aO O) O O,Po,Po⟩
 ·exact Gx O<|Z1 O O<|Gt O<|⟨_,_,O,O,O⟩
theorem CQ (S:Sch) (hB:SB S) (hS:SJn S) (hV:cI S=0) (r:Nat) (hr:r<S.rels.length) (l:List Rw) (hl:l.length<=60) (hT:TblOk S S.rels[r].2 1 l):FnP prog 45 [gK S,.int .i64 r,bL l] (· = .int .i64 0):=by
 refine FnP.of func45 O ntmps45 Ps fun m0 w0 F R0=>?_
 have hr:=jd S hB hS hV r hr l 60 1 Po Po hT;exact Z2 O O O<|Z3 O O O O<|Rs 10 O O (ae call83 hr O)<|A1 O<|Gt O<|⟨_,_,O,O,O⟩
theorem Cl (S:Sch) (hB:SB S) (hS:SJn S) (hV:cI S=0) (d:List (List Rw)) (hd:d.length=S.rels.length) (hl:∀ l∈d,l.length<=60) (hT:∀ r (h:r<d.length) (h2:r<S.rels.length),TblOk S S.rels[r].2 1 d[r]):FnP prog 36 [gK S,dbP d] (· = .int .i64 0):=by
 refine FnP.of func36 O ntmps36 Ps fun m0 w0 F R0=>?_
 have hchk:=tN S hB;rw [hV] at hchk;have hSr:=hS.r;have hdl:=dH d;refine Z2 O O O<|Z1 O O<|Rs 10 O O (ae call81 hchk O)<|A1 O<|Z2 O O O ?_;refine Gc O O (fun hc12=>?_) (fun hc12=>?_)
 ·exact Z2 O O O<|Gt O<|⟨_,_,O,O,O⟩
 ·refine Il<|Gr O ?_;iterate 6 refine A1 O ?_
  refine Gc O O (fun hc19=>absurd hc19 Pt) (fun hc19=>?_);refine Il<|Z3 O O O O ?_;refine Gl O (st:=fun ac:Nat=>mkS [(2,.ptr 0 0),(20,.pv (dbP d)),(21,.pv (.int .i64 d.length)),(22,.pv (.int .i64 ac))] [(0,oZ S)] 1)
   (I:=fun ac=>ac<=d.length) (μ:=fun ac=>d.length-ac) (x0:=(0)) (Io (aS O) (aO O) O O) (bk _) ?_
  rintro k hk;refine Z1 O O ?_;refine Gp O O (fun hc23=>?_) (fun hc23=>?_)
  ·have hlt:k<d.length:=Po;have htr:=cD hlt;have htn:=dN hlt;have hto:=CQ S hB hS hV k Po d[k] (hl _ (aJ hlt)) (hT k hlt Po);generalize d[k]=tk at*;refine Il<|Z1 O O<|Rs 25 O O (ag k underlying36 qk O O O hlt htn)<|Rs 26 O O (ai ⟨_,underlying38,O⟩ O htr)<|Y2 O O<|Z3 O O O O<|Rs 30 O O (ae call45 hto O)<|A1 O<|Z2 O O O ?_;refine Gc O O (fun hc32=>absurd hc32 Ps) (fun hc32=>?_);exact Il<|Z2 O O O<|⟨(k+1),Io (aS O) (aO O) O O,Po,Po⟩
  ·exact Gx O<|Z1 O O<|Gt O<|⟨_,_,O,O,O⟩
end
section
open Mk Jn
def Lh (σ:Asg ByteArray):List Int->List ByteArray->Asg ByteArray
 | a::A,x::v=>Lh (put σ a x) A v
 | _,_=>σ
theorem Fz:∀ {A:List Int} {v:List ByteArray} {σ:Asg ByteArray} {b:Int},b∉A->Lh σ A v b=σ b
 | [],_,_,_,_=>rfl
 | _::_,[],_,_,_=>rfl
 | a::A,x::v,σ,b,h=>by
   rw [Lh,Fz fun e=>h (L7 _ e),dZ _ _ fun e=>h (by rw [e];exact Nw)]
theorem Df:∀ {A:List Int} {v:List ByteArray} {σ:Asg ByteArray} {a:Int} {x:ByteArray},A.Nodup->(a,x)∈A.zip v->Lh σ A v a=some x
 | [],_,_,_,_,_,h=>by simp at h
 | _::_,[],_,_,_,_,h=>by simp at h
 | b::A,y::v,σ,a,x,hn,h=>by
   rw [Lh];rw [Oz,sh] at h;rw [NO] at hn;rcases h with h | h
   ·injection h with h1 h2
    subst h1 h2;rw [Fz hn.1,cG]
   ·exact Df hn.2 h
theorem HL:∀ {A:List Int} {v:List ByteArray} {a:Int},v.length=A.length->a∈A->∃ x,(a,x)∈A.zip v
 | [],_,_,_,h=>by simp at h
 | _::_,[],_,h,_=>by simp at h
 | b::A,y::v,a,hl,h=>by
   rw [sh] at h;rcases h with rfl | h
   ·exact ⟨y,Ps⟩
   ·obtain ⟨x,hx⟩:=HL (by simpa using hl) h;exact ⟨x,by rw [Oz];exact L7 _ hx⟩
theorem zip_fst {A:List Int} {v:List ByteArray} {a:Int} {x:ByteArray} (h:(a,x)∈A.zip v):a∈A:=(OX h).1
theorem Jz {A:List Int} {σ:Asg ByteArray} {v:List ByteArray}:agr A σ v=true↔∀ a x,(a,x)∈A.zip v->∀ y,σ a=some y->y=x:=by
 rw [pq,uv];constructor
 ·intro h a x hm y hy;have:=h _ hm;rw [gW hy] at this;exact Ng this
 ·rintro h ⟨a,x⟩ hm;cases hs:σ a with
  | none=>exact oM hs
  | some y=>rw [gW hs];exact IS (h a x hm y hs)
def enR:List (List Int×List Rw)->Asg ByteArray->List (Asg ByteArray)
 | [],σ=>[σ]
 | p::L,σ=>(p.2.filter fun x=>agr p.1 σ x.v).flatMap fun x=>enR L (Lh σ p.1 x.v)
def I2 (L:List (List Int×List Rw)):Prop:=∀ p∈L,p.1.Nodup/\(∀ x∈p.2,x.v.length=p.1.length)/\p.2.Pairwise fun a b=>a.v≠b.v
theorem I2.cons {p:List Int×List Rw} {L:List (List Int×List Rw)} (h:I2 (p::L)):(p.1.Nodup/\(∀ x∈p.2,x.v.length=p.1.length)/\p.2.Pairwise fun a b=>a.v≠b.v)/\I2 L:=⟨h p Ps,fun q hq=>h q (by simp [hq])⟩
def In1 (τ:Asg ByteArray) (A:List Int) (v:List ByteArray):Prop:=∀ a x,(a,x)∈A.zip v->τ a=some x
theorem JE:∀ {A:List Int} {v w:List ByteArray} {τ:Asg ByteArray},v.length=A.length->w.length=A.length->In1 τ A v->In1 τ A w->v=w
 | [],[],[],_,_,_,_,_=>rfl
 | [],_::_,_,_,h,_,_,_=>by simp at h
 | [],[],_::_,_,_,h,_,_=>by simp at h
 | _::_,[],_,_,h,_,_,_=>by simp at h
 | _::_,_::_,[],_,_,h,_,_=>by simp at h
 | a::A,x::v,y::w,τ,h1,h2,k1,k2=>by
   have e1:=k1 a x Ps;have e2:=k2 a y Ps;rw [e1] at e2;injection e2 with e2
   rw [e2,JE (A:=A) (v:=v) (w:=w) (τ:=τ) (by simpa using h1) (by simpa using h2) (fun b z hz=>k1 b z (by rw [Oz];exact L7 _ hz)) (fun b z hz=>k2 b z (by rw [Oz];exact L7 _ hz))]
theorem Ji:∀ {L:List (List Int×List Rw)} {σ τ:Asg ByteArray},I2 L->(τ∈enR L σ↔(∀ a,(∀ p∈L,a∉p.1)->τ a=σ a)/\(∀ a x,σ a=some x->τ a=some x)/\∀ p∈L,∃ x∈p.2,In1 τ p.1 x.v)
 | [],σ,τ,_=>by
   rw [enR,o7];constructor
   ·rintro rfl;exact ⟨fun _ _=>rfl,fun _ _ e=>e,fun _ h=>by simp at h⟩
   ·rintro ⟨h,_,_⟩;funext a;exact h a fun _ hp=>by simp at hp
 | p::L,σ,τ,hR=>by
   obtain ⟨⟨hn,hl,hd⟩,hR2⟩:=hR.cons;rw [enR,Mq];constructor
   ·rintro ⟨x,hx,ht⟩;obtain ⟨hx,hag⟩:=L9.1 hx;obtain ⟨h1,h2,h3⟩:=(Ji hR2).1 ht;have hag:=Jz.1 hag;refine ⟨fun a ha=>?_,fun a y hy=>?_,fun q hq=>?_⟩
    ·rw [h1 a fun q hq=>ha q (by simp [hq]),Fz (ha p Ps)]
    ·by_cases hm:a∈p.1
     ·obtain ⟨z,hz⟩:=HL (hl x hx) hm;rw [hag a z hz y hy];exact h2 a z (Df hn hz)
     ·exact h2 a y (by rw [Fz hm];exact hy)
    ·rw [sh] at hq;rcases hq with rfl | hq
     ·exact ⟨x,hx,fun a z hz=>h2 a z (Df hn hz)⟩
     ·exact h3 q hq
   ·rintro ⟨h1,h2,h3⟩;obtain ⟨x,hx,hin⟩:=h3 p Ps;refine ⟨x,L9.2 ⟨hx,Jz.2 fun a z hz y hy=>?_⟩,(Ji hR2).2 ⟨fun a ha=>?_,fun a y hy=>?_,fun q hq=>h3 q (by simp [hq])⟩⟩
    ·have e1:=h2 a y hy;rw [hin a z hz] at e1;exact (Nq e1).symm
    ·by_cases hm:a∈p.1
     ·obtain ⟨z,hz⟩:=HL (hl x hx) hm;rw [hin a z hz,Df hn hz]
     ·rw [Fz hm];refine h1 a fun q hq=>?_
      rw [sh] at hq;rcases hq with rfl | hq
      ·exact hm
      ·exact ha q hq
    ·by_cases hm:a∈p.1
     ·obtain ⟨z,hz⟩:=HL (hl x hx) hm;rw [Df hn hz] at hy;cases hy;exact hin a _ hz
     ·rw [Fz hm] at hy;exact h2 a y hy
theorem J7:∀ {L:List (List Int×List Rw)} {σ:Asg ByteArray},I2 L->(enR L σ).Nodup
 | [],σ,_=>by rw [enR];exact NK _ σ
 | p::L,σ,hR=>by
   obtain ⟨⟨hn,hl,hd⟩,hR2⟩:=hR.cons;rw [enR];unfold List.Nodup;rw [List.pairwise_flatMap];refine ⟨fun x _=>J7 hR2,?_⟩;have hd2:=List.Pairwise.and_mem.1 (Nd (Ns (p:=fun x=>agr p.1 σ x.v)) hd);refine hd2.imp ?_;rintro x y ⟨hx,hy,hne⟩ τ hτ τ' hτ' rfl;have hx:=(L9.1 hx).1;have hy:=(L9.1 hy).1;exact hne (JE (hl x hx) (hl y hy) (fun a z hz=>((Ji hR2).1 hτ).2.1 a z (Df hn hz)) (fun a z hz=>((Ji hR2).1 hτ').2.1 a z (Df hn hz)))
theorem Lk {S:Sch} {T:List (List Rw)} {l:List Rw} (hj:IsJoin S T l) (hR:I2 (iL S T)) (hrng:∀ p∈iL S T,∀ a∈p.1,0<=a/\a<S.attrs.length) (hcov:∀ a:Nat,a<S.attrs.length->∃ p∈iL S T,(a:Int)∈p.1):l.length=(enR (iL S T) fun _=>none).length:=by
 have hmem:=fun τ=>Ji (σ:=fun _=>none) (τ:=τ) hR
 have hdom:∀ τ∈enR (iL S T) (fun _=>none),∀ a:Nat,a<S.attrs.length->(τ (a:Int)).isSome=true:=fun τ hτ a ha=>by
  obtain ⟨p,hp,hap⟩:=hcov a ha;obtain ⟨x,hx,hin⟩:=((hmem τ).1 hτ).2.2 p hp;obtain ⟨z,hz⟩:=HL ((hR p hp).2.1 x hx) hap;rw [hin _ z hz];rfl
 have hout:∀ τ∈enR (iL S T) (fun _=>none),∀ a:Int,¬ (0<=a/\a<S.attrs.length)->τ a=none:=fun τ hτ a ha=>by
  rw [((hmem τ).1 hτ).1 a fun p hp hm=>ha (hrng p hp a hm)]
 have hinj:∀ τ∈enR (iL S T) (fun _=>none),∀ τ'∈enR (iL S T) (fun _=>none),bH S.attrs.length τ=bH S.attrs.length τ'->τ=τ':=fun τ h1 τ' h2 e=>by
  funext a;by_cases ha:0<=a/\a<S.attrs.length
  ·obtain ⟨b,rfl⟩:=so ha.1;have hb:b<S.attrs.length:=Po;obtain ⟨x,hx⟩:=BY.1 (hdom τ h1 b hb);obtain ⟨y,hy⟩:=BY.1 (hdom τ' h2 b hb);have e2:=af (fun z=>z.getD b eb) e;simp only [bH,By,Nf,List.getElem?_range hb,OK,NJ,hx,hy] at e2;rw [hx,hy,e2]
  ·rw [hout τ h1 a ha,hout τ' h2 a ha]
 have hrow:∀ {τ:Asg ByteArray} {y:List ByteArray},(∀ a:Nat,a<S.attrs.length->τ (a:Int)=some (y.getD a eb))->∀ p∈iL S T,∀ x∈p.2,(In1 τ p.1 x.v↔p.1.map (fun a=>y.getD a.toNat eb)=x.v):=fun {τ y} hy p hp x hx=>by
  have hl:=(hR p hp).2.1 x hx;have hat:∀ a∈p.1,τ a=some (y.getD a.toNat eb):=fun a ha=>by
   have:=hrng p hp a ha;obtain ⟨b,rfl⟩:=so this.1;rw [hy b Po,Mb]
  have hA:In1 τ p.1 (p.1.map fun a=>y.getD a.toNat eb):=fun a z hz=>by
   have h1:=hat a (zip_fst hz);rw [List.zip_map_right] at hz;obtain ⟨⟨b,c⟩,hbc,e⟩:=IT.1 hz;simp only [Prod.map,id] at e;injection e with e1 e2
   have:b=c:=by
    have:=Nc.1 hbc;obtain ⟨i,hi,e3⟩:=this;rw [Oj] at e3;injection e3 with e4 e5
    exact e4.symm.trans e5
   subst this e1;rw [h1,e2]
  constructor
  ·intro h;exact JE Ps hl hA h
  ·intro h;rw [<-h];exact hA
 have hperm:(l.map (·.v)).Perm ((enR (iL S T) fun _=>none).map (bH S.attrs.length)):=by
  refine cu ?_ ?_ fun y=>?_
  ·exact List.Pairwise.map _ (fun _ _ h=>h) hj.nd
  ·unfold List.Nodup;rw [List.pairwise_map];have:=List.Pairwise.and_mem.1 (J7 (σ:=fun _=>none) hR);exact this.imp fun ⟨h1,h2,hne⟩ e=>hne (hinj _ h1 _ h2 e)
  ·constructor
   ·intro hy;obtain ⟨r,hr,rfl⟩:=IT.1 hy;obtain ⟨hl,ht⟩:=(hj.mem r).1 hr
    let τ:Asg ByteArray:=fun a=>if 0<=a/\a<S.attrs.length then some (r.v.getD a.toNat eb) else none
    have hτ:∀ a:Nat,a<S.attrs.length->τ (a:Int)=some (r.v.getD a eb):=fun a ha=>by
     show (if _ then _ else _)=_;rw [qY Po,Mb]
    refine IT.2 ⟨τ,(hmem τ).2 ⟨fun a ha=>kH fun hb=>?_,⟨fun a x (e:none=some x)=>(by cases e),fun p hp=>?_⟩⟩,?_⟩
    ·obtain ⟨b,rfl⟩:=so hb.1;obtain ⟨p,hp,hm⟩:=hcov b Po;exact ha p hp hm
    ·obtain ⟨x,hx,e⟩:=j4 ht p hp;exact ⟨x,hx,(hrow hτ p hp x hx).2 e⟩
    ·apply MJ
     ·rw [ef,hl]
     ·intro i h1 h2;have hi:i<S.attrs.length:=by rw [ef] at h1;exact h1
      simp only [bH,Nj,OV,hτ i hi,NJ];rw [By,kJ h2];rfl
   ·intro hy;obtain ⟨τ,hτ,rfl⟩:=IT.1 hy;have hτ2:∀ a:Nat,a<S.attrs.length->τ (a:Int)=some ((bH S.attrs.length τ).getD a eb):=fun a ha=>by
     obtain ⟨x,hx⟩:=BY.1 (hdom τ hτ a ha);simp [bH,List.getD,ha,hx]
    have hw:∃ w,Ez (bH S.attrs.length τ) (iL S T) w:=by
     have hall:∀ p∈iL S T,∃ x∈p.2,p.1.map (fun a=>(bH S.attrs.length τ).getD a.toNat eb)=x.v:=fun p hp=>by
      obtain ⟨x,hx,hin⟩:=((hmem τ).1 hτ).2.2 p hp;exact ⟨x,hx,(hrow hτ2 p hp x hx).1 hin⟩
     have:=sK (y:=bH S.attrs.length τ) (L:=iL S T) (g:=fun p=>((p.2.find? fun x=>decide (p.1.map (fun a=>(bH S.attrs.length τ).getD a.toNat eb)=x.v)).map (·.w)).getD 0) fun p hp=>by
      obtain ⟨x,hx,e⟩:=hall p hp;cases hf:p.2.find? fun x=>decide (p.1.map (fun a=>(bH S.attrs.length τ).getD a.toNat eb)=x.v) with
      | none=>exact absurd (IS e) (by simpa using List.find?_eq_none.1 hf x hx)
      | some z=>exact ⟨z,List.mem_of_find?_eq_some hf,by simpa using List.find?_some hf,O⟩
     exact ⟨_,this⟩
    obtain ⟨w,hw⟩:=hw;exact IT.2 ⟨⟨bH S.attrs.length τ,w⟩,(hj.mem _).2 ⟨ef _ _,hw⟩,O⟩
 have:=hperm.length_eq;rwa [xT,xT] at this
end
section
open Mk Jn
structure DbOk (S:Sch) (d:List (List Rw)):Prop where
 hB:SB S
 hc:cI S=0
 hS:SJn S
 n:d.length=S.rels.length
 l:∀ l∈d,l.length<=12
 t:∀ r (h:r<d.length) (h2:r<S.rels.length),TblOk S S.rels[r].2 1 d[r]
 zf:∀ l∈d,∀ x∈l,∀ y∈x.v,Zf y/\y.size<=10000
noncomputable abbrev jdX (S:Sch) (T:List (List Rw)):JD:=⟨S,T,ak (lstL S),[.int .i64 (-1)],[ca (planS S)]⟩
noncomputable def joinL (S:Sch) (d:List (List Rw)):List Rw:=(o9 (jdX S (bf S d)) (ordL S (lstL S))).mergeSort fun a b=> !aZ b.v a.v
theorem qz {S:Sch} {d:List (List Rw)} (h:d.length=S.rels.length):(bf S d).length=S.rels.length:=by simp [bf,h]
theorem ur {S:Sch} {d:List (List Rw)} {r:Nat} (hd:r<d.length) (hr:r<S.rels.length) (h:r<(bf S d).length):(bf S d)[r]=gF S S.rels[r].2 d[r]:=by simp [bf]
theorem qQ {S:Sch} {d:List (List Rw)} {l:List Rw} (h:l∈bf S d):∃ l'∈d,List.Sublist l l':=by
 unfold bf at h;obtain ⟨i,hi,e⟩:=Nc.1 h;rw [List.length_zipWith] at hi;refine ⟨d[i]'Po,aJ _,?_⟩;rw [<-e,List.getElem_zipWith];exact Ns
section
variable {S:Sch} {d:List (List Rw)} (h:DbOk S d)
include h
theorem DbOk.val:Valid S:=jF h.hc
theorem DbOk.tab:TabOk S (bf S d) where
 n:=qz h.n
 l:=fun l hl=>by
  obtain ⟨l',h1,h2⟩:=qQ hl;exact AT h2.length_le (h.l l' h1)
 v:=fun r hr h2 x hx=>by
  have hd:r<d.length:=by rw [h.n];exact h2
  rw [ur hd h2] at hx;exact ((h.t r hd h2).row x (L9.1 hx).1).l
 zf:=fun l hl x hx=>by
  obtain ⟨l',h1,h2⟩:=qQ hl;exact h.zf l' h1 x (h2.subset hx)
omit h in
theorem EF {l:List Rw} (hl:l∈bf S d):∃ (r:Nat) (hd:r<d.length) (hr:r<S.rels.length),List.Sublist l d[r]:=by
 unfold bf at hl;obtain ⟨i,hi,e⟩:=Nc.1 hl;rw [List.length_zipWith] at hi;refine ⟨i,Po,Po,?_⟩;rw [<-e,List.getElem_zipWith];exact Ns
theorem DbOk.dist:∀ l∈bf S d,l.Pairwise fun a b=>a.v≠b.v:=fun l hl=>by
 obtain ⟨r,hd,hr,hs⟩:=EF hl;exact Nd hs ((h.t r hd hr).asc.imp fun {a b} hab e=>by rw [e,cz] at hab;cases hab)
theorem DbOk.wts:∀ l∈bf S d,∀ x∈l,1<=x.w/\x.w<=100:=fun l hl x hx=>by
 obtain ⟨r,hd,hr,hs⟩:=EF hl;exact ((h.t r hd hr).row x (hs.subset hx)).w.2
theorem DbOk.ord:OrdOk S (ordL S (lstL S)):=G9 h.hB h.val
theorem DbOk.ctx:CtxV (jdX S (bf S d)) (ordL S (lstL S)) (planS S):=by
 have:=HF h.ord h.hS h.tab (fun a ha=>h.val.use a ha) (ak (lstL S)) [.int .i64 (-1)] [ca (planS S)];rw [<-show planS S=gT S (ordL S (lstL S)) from oj h.ord] at this;exact this
theorem DbOk.out:IsJoin S (bf S d) (o9 (jdX S (bf S d)) (ordL S (lstL S))):=Hx h.ctx h.dist
theorem DbOk.hwa:(planS S).wa=aD (ordL S (lstL S)):=by rw [show planS S=gT S (ordL S (lstL S)) from oj h.ord];rfl
theorem DbOk.hho:∀ v (hv:v<(planS S).hos.length),(planS S).hos[v]=hoL S (ordL S (lstL S)) v:=by
 rw [show planS S=gT S (ordL S (lstL S)) from oj h.ord];intro v hv;simp [gT,hoL,upZ]
omit h in
theorem fh:(joinL S d).Perm (o9 (jdX S (bf S d)) (ordL S (lstL S))):=List.mergeSort_perm _ _
theorem sN:IsJoin S (bf S d) (joinL S d) where
 mem:=fun y=>by rw [(fh (S:=S) (d:=d)).mem_iff];exact h.out.mem y
 nd:=by
  have:=h.out.nd;exact (fh.pairwise_iff fun {a b} hab=>Ne.symm hab).2 this
omit h in
theorem Ek {l:List Rw} (hs:l.Pairwise fun a b=>aZ b.v a.v=false) (hn:l.Pairwise fun a b=>a.v≠b.v):Aj l:=
 (hs.and hn).imp fun {a b} ⟨h1,h2⟩=>by
  cases h3:aZ a.v b.v with
  | true=>rfl
  | false=>exact absurd (gO h3 h1) h2
theorem tG:Aj (joinL S d):=by
 refine Ek ?_ (sN h).nd;have:=List.pairwise_mergeSort (le:=fun a b:Rw=> !aZ b.v a.v) (fun a b c h1 h2=>by
  have h1':aZ b.v a.v=false:=by simpa using h1
  have h2':aZ c.v b.v=false:=by simpa using h2
  cases h3:aZ c.v a.v with
  | false=>rfl
  | true=>
    cases h4:aZ a.v b.v with
    | true=>rw [cT h3 h4] at h2';cases h2'
    | false=>rw [gO h4 h1',h2'] at h3;cases h3) (fun a b=>by
  cases h3:aZ b.v a.v with
  | false=>rfl
  | true=>
    cases h4:aZ a.v b.v with
    | false=>rfl
    | true=>have:=cT h3 h4;rw [cz] at this;cases this) (o9 (jdX S (bf S d)) (ordL S (lstL S)))
 exact this.imp fun {a b} hab=>by simpa using hab
theorem ER {l':List Rw} (hp:l'.Perm (o9 (jdX S (bf S d)) (ordL S (lstL S)))) (hs:l'.Pairwise fun a b=>aZ b.v a.v=false):l'=joinL S d:=by
 have hn:l'.Pairwise fun a b=>a.v≠b.v:=(hp.pairwise_iff fun {a b} hab=>Ne.symm hab).2 h.out.nd
 exact vd (Ek hs hn) (tG h) fun y=>by rw [hp.mem_iff,fh.mem_iff]
theorem pL:(joinL S d).length=fl bG (jdX S (bf S d)) (ordL S (lstL S)) (al (ordL S (lstL S)) (-1)) fun _=>none:=by
 rw [(fh (S:=S) (d:=d)).length_eq];exact y3 h.ctx
theorem DbOk.check:FnP prog 36 [gK S,dbP d] (· = .int .i64 0):=Cl S h.hB h.hS h.hc d h.n (fun l hl=>by have:=h.l l hl;omega) h.t
theorem DbOk.new:FnO prog 48 0 2 [.pv (gK S),.pv (dbP d)] [] (fun v ob'=>v= .ptr 0 0/\ob'=ar [(0,oX S (.pv (dbP (bf S d))) (.pv (ak (lstL S))) 1),(1,.mp [] [])]):=
 wG S h.hB h.val h.hS d h.n (fun l hl=>by have:=h.l l hl;omega) fun r hr h2 x hx=>((h.t r hr h2).row x hx).l
theorem DbOk.plan0:pr S (bf S d) (lstL S) [] [] (planS S):=Ax S h.hB h.val (bf S d) (lstL S) (iN S h.hB h.val).1 (planS S) (He S h.hB h.ord)
theorem DbOk.Dw:FnO prog 49 2 0 [.ptr big 0] (jnO S (bf S d) (lstL S) [] []) (fun v ob'=>v=xg (joinL S d).length/\ob'=ar (jnO S (bf S d) (lstL S) [.int .i64 (-1)] [ca (planS S)])):=by
 have:=vD S (bf S d) (lstL S) [] [] (planS S) h.plan0 (ordL S (lstL S)) h.ctx;rw [pL h];exact this
end
def pJ (l:List Rw):PV:=if 2000<l.length then .tup [bL [],.int .i64 3] else .tup [bL l,.int .i64 0]
theorem fl_12 {S:Sch} {d:List (List Rw)} (h:DbOk S d):(joinL S d).length<=12^12:=by
 rw [pL h];have h1:=valL_le (gm (J:=jdX S (bf S d)) h.ctx.t12) ((al (ordL S (lstL S)) (-1)).map (a7 (ordL S (lstL S)) (ordL S (lstL S)).length)) (fun _=>none);have h2:=qN h.ord.dP;have h3:(ordL S (lstL S)).length<=12:=n12 h.ord;exact AT h1 (MM Pq Po)
theorem iH (S:Sch) (d:List (List Rw)) (h:DbOk S d):FnP prog 12 [gK S,dbP d] (· =pJ (joinL S d)):=by
 refine FnP.fg2 (FnP.of func12 O ntmps12 Ps fun m0 w0 F R0=>?_);have hchk:=h.check;have hnew:=h.new;have hsz:=h.Dw;have h12:=fl_12 h;have hll:(aj ((((joinL S d).length:Nat):Int)).natAbs).length<=1000000:=mV (ig h12 Pq);have hof:=fO 2000 Pq Pq;have hl2:(aj ((2000:Int)).natAbs).length<=1000000:=by rw [show (2000:Int).natAbs=2000 from O];exact mV (a:=2000) (ig (k:=4) Pq Pq)
 have hcmp:=gl (((joinL S d).length:Nat):Int) 2000 hll hl2;have hpl:=Cm S (bf S d) (lstL S) (planS S);have hol:(o9 (jdX S (bf S d)) (ordL S (lstL S))).length=(joinL S d).length:=fh.length_eq.symm;have htup:=fun hll=>sy S (bf S d) (lstL S) [.int .i64 (-1)] [ca (planS S)] (planS S) hpl (ordL S (lstL S)) h.ctx h.dist h.wts h.val.r2 h.hwa h.hho (o9 (jdX S (bf S d)) (ordL S (lstL S))) O hll
 have hvl:∀ x∈o9 (jdX S (bf S d)) (ordL S (lstL S)),x.v.length<=1000000:=fun x hx=>by
  have:=((h.out.mem x).1 hx).1;have:=h.hB.a;omega
 have hsrt:=fun hll=>w7 (o9 (jdX S (bf S d)) (ordL S (lstL S))) hll hvl
 have hjo:=fun l'=>ER (l':=l') h
 have hbp:∀ l,pJ l=if 2000<l.length then .tup [bL [],.int .i64 3] else .tup [bL l,.int .i64 0]:=fun l=>rfl
 clear h12 hll hl2 hvl hpl;generalize joinL S d=JL at*;generalize o9 (jdX S (bf S d)) (ordL S (lstL S))=OL at*;refine Z3 O O O O<|Z2 O O O<|Rs 11 O O (ae call36 hchk O)<|A1 O<|Z2 O O O ?_;refine Gc O O (fun hc13=>absurd hc13 Ps) (fun hc13=>?_);refine Il<|Z2 O O O<|Rs 17 O O (ah [] 1 call48 hnew O O O O trivial Pq O)<|A1 O<|Wk [(7,.ptr 1 0)] [(1,oX S (.pv (dbP (bf S d))) (.pv (ak (lstL S))) 2),(2,.mp [] [])] 3 (aS Pp) (aO Pp) O O<|Z1 O O<|Rs 19 O O (ah [1,2] 3 call49 hsz O O O O ⟨Pp,Pp,Pw⟩ Pq O)<|Rs 20 O O (ae call51 hof O)<|Rs 21 O O (ae call50 hcmp O)<|A1 O<|Wk [(7,.ptr 1 0),(22,.pv (.bool (decide (((((JL.length:Nat):Int))-2000).sign>0))))] [(1,oX S (.pv (dbP (bf S d))) (.pv (ak (lstL S))) 2),(2,.mp [.int .i64 (-1)] [ca (planS S)])] 3 (aS Pp) (aO Pp) O O ?_;refine Gp O O (fun hc22=>?_) (fun hc22=>?_)
 ·have hbig:2000<JL.length:=by
   have:0<(((JL.length:Nat):Int)-2000).sign:=hc22;have:=Int.sign_pos_iff.1 this;omega
  exact Z2 O O O<|Gt O<|⟨_,_,O,O,by rw [hbp,qY hbig];rfl⟩
 ·have hsm:¬ 2000<JL.length:=fun hb=>hc22 (by
   have:0<(((JL.length:Nat):Int)-2000).sign:=Int.sign_pos_iff.2 Po;exact this)
  have htu:=htup Po;have hso:=hsrt Po;refine Il<|Z1 O O<|Rs 24 O O (ah [1,2] 3 call52 htu O O O O ⟨Pp,Pp,Pw⟩ Pq O)<|A1 O<|Wk [(8,.gsl 3 2 OL.length)] [(3,jz OL)] 4 (aS Pp) (aO Pp) O O<|Z1 O O ?_;refine RL.call O (dU (os:=[(big,jz OL)]) [3] 4 call53 (args:=[.gsl big 2 OL.length,.pv (.fn (.func 54) [] [])]) (k':=0) Pp Pp Pp Pp ⟨Pp,Pw⟩ Pq Pp hso fun v ob' hv=>?_);obtain ⟨l',hp',hs',rfl,rfl⟩:=hv;have hle:=hp'.length_eq;have hje:=hjo l' hp' hs';refine Wk [(8,.gsl 3 2 OL.length)] [(3,jz l')] 4 (aS Pp) (aO Pp) O O ?_;subst hje;exact Im (Ir 3 O O)<|Z3 O O O O<|Gt O<|⟨_,_,O,O,by rw [hbp,kH hsm,<-hle];rfl⟩
theorem En:∀ k n,n<10^(k+1)->(Lib.decDigits n).length<=k+1
 | 0,n,h=>by rw [Lib.decDigits,Pn Po];simp
 | k+1,n,h=>by
   rw [Lib.decDigits];split
   ·simp
   ·have:=En k (n/10) (by rw [MS] at h;omega);simp only [kQ,L8];omega
theorem Ff {n:Nat} (h:n<1000000000):(Lib.decDigits n).length<=1000:=by
 have:=En 8 n (by simpa using h);omega
theorem mI (S:Sch) (d:List (List Rw)) (h:DbOk S d) (hn:(joinL S d).length<1000000000):FnP prog 13 [gK S,dbP d] (· = .tup [.str ⟨(Lib.decDigits (joinL S d).length).toArray⟩,.int .i64 0]):=by
 refine FnP.of func13 O ntmps13 Ps fun m0 w0 F R0=>?_
 have hchk:=h.check;have hnew:=h.new;have hsz:=h.Dw;have hst:=lF (joinL S d).length hn (Ff hn);generalize joinL S d=JL at*;refine Z3 O O O O<|Z2 O O O<|Rs 9 O O (ae call36 hchk O)<|A1 O<|Z2 O O O ?_;refine Gc O O (fun hc11=>absurd hc11 Ps) (fun hc11=>?_);exact Il<|Z2 O O O<|Rs 15 O O (ah [] 1 call48 hnew O O O O trivial Pq O)<|Rs 16 O O (ah [1,2] 3 call49 hsz O O O O ⟨Pp,Pp,Pw⟩ Pq O)<|Rs 17 O O (ae call55 hst O)<|Y2 O O<|Gt O<|⟨_,_,O,O,O⟩
end
section
open Mk Jn
theorem Bv (S:Sch) (hB:SB S) (hS:SJn S) (hV:cI S=0) (r:Nat) (hr:r<S.rels.length) (l:List Rw) (hl:l.length<=120) (hT:TblOk S S.rels[r].2 (-100) l):FnP prog 40 [gK S,.agg [.int .i64 r,bL l]] (· = .int .i64 0):=by
 refine FnP.of func40 O ntmps40 Ps fun m0 w0 F R0=>?_
 have hro:=jd S hB hS hV r hr l 120 (-100) Po Po hT;refine Z3 O O O O<|Gr O ?_;iterate 5 refine A1 O ?_
 exact Rs 10 O O (ae call83 hro O)<|A1 O<|Gt O<|⟨_,_,O,O,O⟩
theorem wB (S:Sch) (d:List (List Rw)) (h:DbOk S d) (r:Nat) (hrd:r<d.length) (hr:r<S.rels.length) (x:List Rw) (hx:TblOk S S.rels[r].2 (-100) x) (hxl:x.length<8) (hne:d[r]≠[]) (hs:CU (d[r]++x)) (hA:S.rels[r].2.length<=1000)
  (nx:List Rw) (hnx:(((d[r]++x).foldl mgR []).filter fun x=> !isZ x)=nx) (hok:(nx.any fun x=>decide (x.w<0)||decide (x.w>100))=false) (hnl:nx.length<=60) (hnv:∀ y∈nx,y.v.length<=1000/\ -1000000<=y.w/\y.w<=1000000):
  FnP prog 24 [gK S,dbP d,.agg [.int .i64 r,bL x]] (· = .tup [dbP (d.set r nx),.int .i64 0]):=by
 refine FnP.fg2 (FnP.of func24 O ntmps24 Ps fun m0 w0 F R0=>?_);have hchk:=h.check;have hdel:=Bv S h.hB h.hS h.hc r hr x Po hx;have htr:=cD hrd;have htn:=dN hrd;have hrow:∀ k (hk:k<d.length),d[k].length<=12/\∀ y∈d[k],y.v.length<=1000/\ -1000000<=y.w/\y.w<=1000000:=fun k hk=>by
  have hk2:k<S.rels.length:=by have:=h.n;omega
  refine ⟨h.l _ (aJ hk),fun y hy=>?_⟩;have:=(h.t k hk hk2).row y hy;have hsl:=h.hS.l _ (aJ hk2);have hwl:=this.l;have hww:=this.w;exact ⟨Po,Po,Po⟩
 have hxr:∀ y∈x,y.v.length<=1000/\ -1000000<=y.w/\y.w<=1000000:=fun y hy=>by
  have:=hx.row y hy;have hwl:=this.l;have hww:=this.w;exact ⟨Po,Po,Po⟩
 have hdr:=hrow r hrd;have hcp:=mw d[r] 1 Po (fun y hy=>(hdr.2 y hy).1) (fun y hy=>by have:=hdr.2 y hy;omega);rw [iT] at hcp;have hall:∀ y∈d[r]++x,y.v.length<=1000/\ -1000000<=y.w/\y.w<=1000000:=fun y hy=>by
  rcases Mc.1 hy with hy | hy
  ·exact hdr.2 y hy
  ·exact hxr y hy
 have hso:=wK (d[r]++x) (by simp [hne]) (by rw [kQ];omega) hs (fun y hy=>(hall y hy).1) (fun y hy=>(hall y hy).2);rw [hnx] at hso;have hco:=v8 nx Po 67 _ call67 (fun y _=>su y);rw [hok] at hco;have hsn:(d.set r nx).length=d.length:=Md;have hcps:∀ k (hk:k<d.length),FnP prog 65 [bL ((d.set r nx)[k]'Po),.int .i64 1] (· =bL ((d.set r nx)[k]'Po)):=fun k hk=>by
  have:=zT ((d.set r nx)[k]'Po) 1;rw [iT] at this;rw [Oi] at this ⊢;by_cases e:r=k
  ·rw [qY e] at this ⊢;exact this Po (fun y hy=>(hnv y hy).1) (fun y hy=>by have:=hnv y hy;omega)
  ·rw [kH e] at this ⊢;have hk2:=hrow k hk;exact this Po (fun y hy=>(hk2.2 y hy).1) (fun y hy=>by have:=hk2.2 y hy;omega)
 have hdl:=dH d;have hdn:d.length<=1000:=by have:=h.n;have:=h.hS.r;omega
 have hrp:0<d[r].length:=MB.2 hne;have hrc:=aK d[r];have hxc:=aK x;have hxlf:=dw x;have hxa:=fj d[r] x;have hge:∀ k (hk:k<d.length),((d.set r nx)[k]'Po)=if r=k then nx else d[k]:=fun k hk=>Oi ..
 have hel:r<d.length:=hrd;have hdr12:=hdr.1;have hso2:FnP prog 25 [.sl none (d[r].length+x.length) (aB d[r]++aB x)] (· =bL nx):=by rw [<-hxa,<-kQ];exact hso
 clear hrow hdr hall hnx hs hok hxr;refine Z4 O O O O O<|Z2 O O O<|Rs 16 O O (ae call36 hchk O)<|A1 O<|Z2 O O O ?_;refine Gc O O (fun hc18=>absurd hc18 Ps) (fun hc18=>?_);refine Il<|Z2 O O O<|Rs 22 O O (ae call40 hdel O)<|A1 O<|Z2 O O O ?_;refine Gc O O (fun hc24=>absurd hc24 Ps) (fun hc24=>?_);refine Il<|Ge O follows [0,1,2,3,4,5,6,7,8,9,10] Pp ?_;iterate 3 refine D1 O O ?_
 refine Ds 29 [] O O O (fun τ h=>ag r underlying36 qk (Ee h 0 O O) (Ee h 1 O O) O hrd htn) O Pp<|Ds 30 [] O O O (fun τ h=>ai ⟨_,underlying38,O⟩ (Ee h 0 O O) htr) O Pp<|Ds 31 [] O O O (fun τ h=>ah [] 2 call65 hcp (h.args.trans O) O O O trivial Pq ((OB _).trans (h.n 0 _ O))) O Pp ?_;iterate 2 refine D1 O O ?_
 refine Ds 34 [2] O O O (fun τ h=>sG JM (Ee h 0 O O) (Eo h 0 O O) hrc (.inl ⟨none,(Ee h 1 O O)⟩) hxc hxlf Po hrp) O Pp<|Ds 35 [] O O O (fun τ h=>ae call25 hso2 (h.bt O)) O Pp<|D1 O O ?_;refine ⟨Pp,?_⟩;refine Wk [(1,.pv (dbP d)),(5,.ptr 1 0),(10,.pv (bL nx))] [(1,.mix 59 [.pv (.int .i64 r),.pv (bL x)])] 2 (aS Pp) (aO Pp) O O<|Z1 O O<|Rs 37 O O (ae call66 hco O) ?_;refine Gc O O (fun hc37=>absurd hc37 Ps) (fun hc37=>?_);refine Il<|Z3 O O O O ?_;refine Gp O O (fun hc40=>absurd hc40 Po) (fun hc40=>?_);refine Il<|Z1 O O<|Im (Iu 11 2 1 38 O O)<|Z3 O O O O ?_;refine Gl O (st:=fun ac:Nat×List (List Rw)=>mkS [(5,.ptr 1 0),(10,.pv (bL nx)),(11,.gsl 2 1 ac.2.length),(41,.pv (dbP d)),(42,.pv (.int .i64 d.length)),(43,.pv (.int .i64 ac.1))] [(1,.mix 59 [.pv (.int .i64 r),.pv (bL x)]),(2,.gro 38 (Cq ac.2))] 3)
  (I:=fun ac=>ac.1<=d.length/\ac.2=(d.set r nx).take ac.1) (μ:=fun ac=>d.length-ac.1) (x0:=(0,[])) (Io (aS O) (aO Pp) O O) (⟨bk _,O⟩) ?_
 rintro ⟨k,q⟩ ⟨hk,hq⟩;try simp only at hk hq ⊢
 refine Z1 O O ?_;refine Gp O O (fun hc44=>?_) (fun hc44=>?_)
 ·have hlt:k<d.length:=Po;have htk:=cD hlt;have htkn:=dN hlt;have hck:=hcps k hlt;have hqs:(d.set r nx).take (k+1)=q++[(d.set r nx)[k]'Po]:=by rw [aR Po,hq]
  have hgk:=hge k hlt;have hql:(Cq q).length=q.length*1:=dH q;have hqn:q.length=k:=by rw [hq,AI];omega
  refine Il<|Z1 O O<|Rs 46 O O (ag k underlying36 qk O O O hlt htkn)<|Rs 47 O O (ai ⟨_,underlying38,O⟩ O htk)<|Y2 O O<|Z4 O O O O O ?_;refine Gc O O (fun hc51=>?_) (fun hc51=>?_)
  ·have hkr0:(k:Int)=r:=by simpa using hc51
   have hkr:r=k:=Po;rw [qY hkr] at hgk;rw [hgk] at hck hqs;have hsn2:=jE q nx;exact Z2 O O O<|Z2 O O O<|Rs 55 O O (ae call65 hck O)<|Y3 O O O<|Z2 O O O<|⟨(k+1,q++[nx]),Ip [0,1,4] ⟨O,O,IN (b:=V.gsl 4 1 (q.length+1)) Pp (af (fun n=>V.gsl 4 1 n) (bW q nx)),O,O,O,Pw⟩ ⟨Pp,IN (b:=some (Ob.gro 38 (Cq q++[bL nx]))) Pp (af (fun c=>some (Ob.gro 38 c)) hsn2),Pw⟩ O O Pq O,⟨Pv,by simp only;rw [hqs]⟩,Pv⟩
  ·have hkr:¬ r=k:=fun e=>by subst e;simp at hc51
   rw [kH hkr] at hgk;rw [hgk] at hck hqs;have hsn2:=jE q d[k];exact Il<|Z2 O O O<|Rs 55 O O (ae call65 hck O)<|Y3 O O O<|Z2 O O O<|⟨(k+1,q++[d[k]]),Ip [0,1,4] ⟨O,O,IN (b:=V.gsl 4 1 (q.length+1)) Pp (af (fun n=>V.gsl 4 1 n) (bW q d[k])),O,O,O,Pw⟩ ⟨Pp,IN (b:=some (Ob.gro 38 (Cq q++[bL d[k]]))) Pp (af (fun c=>some (Ob.gro 38 c)) hsn2),Pw⟩ O O Pq O,⟨Pv,by simp only;rw [hqs]⟩,Pv⟩
 ·have hqf:q=d.set r nx:=by rw [hq,a6 Po]
  exact Gx O<|Im (Ir 2 O O)<|Z3 O O O O<|Gt O<|⟨_,_,O,O,by rw [hqf];rfl⟩
theorem vK (a:List Rw) (ha:a.length<=1000000) (hv:∀ x∈a,x.v.length<=1000000):FnP prog 19 [bL a,bL a] (· = .bool true):=by
 refine FnP.of func19 O ntmps19 Ps fun m0 w0 F R0=>?_
 refine Z1 O O<|Gr O ?_;iterate 5 refine A1 O ?_
 refine Gc O O (fun hc10=>absurd hc10 Ps) (fun hc10=>?_);refine Il<|Z3 O O O O ?_;refine Gl O (st:=fun ac:Nat=>mkS [(0,.pv (bL a)),(1,.pv (bL a)),(12,.pv (.int .i64 a.length)),(13,.pv (.int .i64 ac))] [] 0)
  (I:=fun ac=>ac<=a.length) (μ:=fun ac=>a.length-ac) (x0:=(0)) (Io (aS O) trivial O O) (bk _) ?_
 rintro k hk;refine Z1 O O ?_;refine Gp O O (fun hc14=>?_) (fun hc14=>?_)
 ·have hlt:k<a.length:=Po;have hov:(aB a)[k*2+0]? =some (aI a[k].v):=nr hlt;have how:=s5 hlt;have hne:=aW hlt;have htx:=mO a[k].v a[k].v (hv _ (aJ hlt)) (hv _ (aJ hlt));rw [show decide (a[k].v=a[k].v)=true from IS O] at htx;generalize a[k]=x at*;refine Il<|Z2 O O O<|Ge O follows [0,1,2,3,4,5,6,7,8,9,10,11,12,13,14,15,16,17,18,19,20,21,22,23,24] Pp ?_;iterate 2 refine D1 O O ?_
  refine Ds 18 [] O O O (fun τ h=>ag k underlying38 lM (Ee h 0 O O) (Ee h 1 O O) O hlt hne) O Pp<|D1 O O<|Ds 20 [] O O O (fun τ h=>ai ⟨_,underlying3,O⟩ (Ee h 0 O O) how) O Pp ?_;iterate 2 refine D1 O O ?_
  refine Ds 23 [] O O O (fun τ h=>ag k underlying38 lM (Ee h 0 O O) (Ee h 1 O O) O hlt hne) O Pp<|D1 O O<|Ds 25 [] O O O (fun τ h=>ai ⟨_,underlying3,O⟩ (Ee h 0 O O) how) O Pp<|Ds 26 [] O O O (fun τ h=>XJ.cast (v':= .pv (.bool false)) (aQ (Ee h 0 O O) (Ee h 1 O O) O) (af (fun b=>V.pv (.bool b)) Ps)) O Pp ?_;iterate 3 refine D1 O O ?_
  refine Dg 30 [] O O O O (fun τ h=>ag k underlying38 lM (Ee h 0 O O) (Ee h 1 O O) O hlt hne) O Pp<|D1 O O<|Dg 32 [] O O O O (fun τ h=>ai ⟨_,underlying47,O⟩ (Ee h 0 O O) hov) O Pp ?_;iterate 2 refine D1 O O ?_
  refine Dg 35 [] O O O O (fun τ h=>ag k underlying38 lM (Ee h 0 O O) (Ee h 1 O O) O hlt hne) O Pp<|D1 O O<|Dg 37 [] O O O O (fun τ h=>ai ⟨_,underlying47,O⟩ (Ee h 0 O O) hov) O Pp<|Dg 38 [] O O O O (fun τ h=>ae call63 htx (h.bt O)) O Pp ?_;iterate 2 refine D1 O O ?_
  refine ⟨Pp,?_⟩;refine Gc O O (fun hc40=>absurd hc40 Ps) (fun hc40=>?_);exact Il<|Z2 O O O<|⟨(k+1),Io (aS O) trivial O O,Po,Po⟩
 ·exact Gx O<|Z1 O O<|Gt O<|⟨_,_,O,O,O⟩
end
section
open Mk Jn
abbrev tA:ByteArray:=⟨#[97]⟩
abbrev tB:ByteArray:=⟨#[98]⟩
abbrev tC:ByteArray:=⟨#[99]⟩
abbrev tX:ByteArray:=⟨#[120]⟩
abbrev t1:ByteArray:=⟨#[49]⟩
abbrev t2:ByteArray:=⟨#[50]⟩
def prS:Sch:=⟨[(tA,1),(tB,3),(tC,1)],[(⟨#[114]⟩,[0,1]),(⟨#[113]⟩,[1,2])],[], -1⟩
def prD:List (List Rw):=[[⟨[t1,tX],2⟩],[⟨[tX,t2],3⟩]]
def prJ:List Rw:=[⟨[t1,tX,t2],6⟩]
theorem DX (nm:ByteArray):FnP prog 179 [.agg [.str nm,.int .i64 1],.str t1] (· = .bool true):=kG nm t1 (.inr ⟨Pp,by decide+kernel⟩)
theorem Hm (nm:ByteArray):FnP prog 179 [.agg [.str nm,.int .i64 1],.str t2] (· = .bool true):=kG nm t2 (.inr ⟨Pp,by decide+kernel⟩)
theorem Gn (nm:ByteArray):FnP prog 179 [.agg [.str nm,.int .i64 3],.str tX] (· = .bool true):=qW nm tX (.inr ⟨Pp,Pq⟩)
theorem E1 (low:Int) (hl:low<= -2) (w:Int) (hw:w≠0/\ -2<=w/\w<=100):RowOk prS [0,1] low ⟨[t1,tX],w⟩:=by
 refine ⟨O,fun i h h2 nm=>?_,Pv⟩;match i,h with
 | 0,_=>exact DX nm
 | 1,_=>exact Gn nm
theorem Da:RowOk prS [0,1] 1 ⟨[t1,tX],2⟩:=by
 refine ⟨O,fun i h h2 nm=>?_,Pq⟩;match i,h with
 | 0,_=>exact DX nm
 | 1,_=>exact Gn nm
theorem Fo:RowOk prS [1,2] 1 ⟨[tX,t2],3⟩:=by
 refine ⟨O,fun i h h2 nm=>?_,Pq⟩;match i,h with
 | 0,_=>exact Gn nm
 | 1,_=>exact Hm nm
theorem pr_sb:SB prS:=⟨Pq,Pq,Pq,Pq,Pq,Pq⟩
theorem El:cI prS=0:=Pp
theorem pr_sj:SJn prS:=zq (jF El) Pq Pq
theorem EN {y:ByteArray} (h:y.data.toList.all (· !=0)=true):Zf y:=fun hm=>by
 have:=uv.1 h _ hm;simp at this
theorem w6:DbOk prS prD where
 hB:=pr_sb
 hc:=El
 hS:=pr_sj
 n:=rfl
 l:=Pq
 t:=fun r h h2=>by
  match r,h with
  | 0,_=>
    refine ⟨fun x hx=>?_,NK _ _⟩;obtain rfl:=o7.1 hx;exact Da
  | 1,_=>
    refine ⟨fun x hx=>?_,NK _ _⟩;obtain rfl:=o7.1 hx;exact Fo
 zf:=fun l hl x hx y hy=>by
  simp only [prD,sh,NC,Pf] at hl;rcases hl with rfl | rfl
  ·obtain rfl:=o7.1 hx;simp only [sh,NC,Pf] at hy;rcases hy with rfl | rfl<;>exact ⟨EN Pq,Pq⟩
  ·obtain rfl:=o7.1 hx;simp only [sh,NC,Pf] at hy;rcases hy with rfl | rfl<;>exact ⟨EN Pq,Pq⟩
theorem FB:bf prS prD=prD:=Pp
theorem pr_is:IsJoin prS prD prJ where
 mem:=fun y=>by
  rw [show iL prS prD=[([0,1],[⟨[t1,tX],2⟩]),([1,2],[⟨[tX,t2],3⟩])] from O];simp only [Ez,o7,prJ];constructor
  ·rintro rfl;exact ⟨O,_,O,O,_,⟨_,O,O,1,O,O⟩,O⟩
  ·rintro ⟨hl,x,rfl,e1,w',⟨z,rfl,e2,w2,rfl,rfl⟩,e3⟩;obtain ⟨v,w⟩:=y;match v,hl with
   | [a,b,c],_=>
     simp only [oy,M9] at e1 e2;injection e1 with h1 e1
     injection e1 with h2 e1
     injection e2 with h3 e2
     injection e2 with h4 e2
     have k1:a=t1:=h1;have k2:b=tX:=h2;have k4:c=t2:=h4;have k5:w=6:=e3;rw [k1,k2,k4,k5]
 nd:=NK _ _
theorem xB:joinL prS prD=prJ:=by
 have h:=sN w6;rw [FB] at h;exact vd (tG w6) (NK _ _) fun y=>by rw [h.mem,pr_is.mem]
theorem AU:FnP prog 47 [] (· = .tup [gK prS,dbP prD]):=by
 refine FnP.fg2 (FnP.ofC func47 O ntmps47 Ps fun m0 w0 F R0=>?_);exact Z2 O O O<|Z3 O O O O<|Rs 6 O O (aq none Ps el28 O Pq Pq O O)<|Rs 7 O O (aq none Ps xj O Pq Pq O O)<|A1 O<|Rs 9 O O (aq none Ps xj O Pq Pq O O)<|A1 O<|Rs 11 O O (aq none Ps el31 O Pq Pq O O)<|Y3 O O O<|Z1 O O<|Rs 14 O O (aq none Ps uq O Pq Pq O O)<|A1 O<|Rs 16 O O (aq none Ps JM O Pq Pq O O)<|Rs 17 O O (aq none Ps uq O Pq Pq O O)<|A1 O<|Rs 19 O O (aq none Ps JM O Pq Pq O O)<|Rs 20 O O (aq none Ps el36 O Pq Pq O O)<|Y2 O O<|Gt O<|⟨_,_,O,O,⟨aY ⟨_,underlying34,O⟩ sz34 O O O,Pw⟩,O⟩
theorem HH:TblOk prS [0,1] (-100) [⟨[t1,tX], -2⟩]:=by
 refine ⟨fun x hx=>?_,NK _ _⟩;obtain rfl:=o7.1 hx;exact E1 (-100) Pq (-2) Pq
theorem CD:FnP prog 24 [gK prS,dbP prD,.agg [.int .i64 0,bL [⟨[t1,tX], -2⟩]]] (· = .tup [dbP (prD.set 0 []),.int .i64 0]):=
 wB prS prD w6 0 Pq Pq [⟨[t1,tX], -2⟩] HH Pq (by simp [prD]) (by
  show CU [⟨[t1,tX],2⟩,⟨[t1,tX], -2⟩];refine List.pairwise_pair.2 ?_;exact cz _) Pq [] Pp O Pq (fun y hy=>by simp at hy)
theorem pX:FnP prog 9 [] (· = .bool true):=by
 refine FnP.of func9 O ntmps9 Ps fun m0 w0 F R0=>?_
 have hbu:=iH prS prD w6;have hsi:=mI prS prD w6 (by rw [xB];decide);rw [xB] at hbu hsi;rw [show pJ prJ= .tup [bL prJ,.int .i64 0] from O] at hbu;rw [show (⟨(Lib.decDigits prJ.length).toArray⟩:ByteArray)=⟨#[49]⟩ by rw [Lib.decDigits,Pn Pq];rfl] at hsi;have hro:=vK prJ Pq Pq;have hch:=w6.check;refine Z1 O O<|Gr O<|Rs 10 O O (ae call47 AU O) ?_;iterate 6 refine A1 O ?_
 refine Z2 O O O<|Rs 16 O O (ae call12 hbu O) ?_;iterate 5 refine A1 O ?_
 refine Z2 O O O<|Rs 22 O O (ae call13 hsi O) ?_;iterate 5 refine A1 O ?_
 refine Z2 O O O<|Rs 28 O O (aq none Ps uq O Pq Pq O O)<|A1 O<|Rs 30 O O (aq none Ps JM O Pq Pq O O)<|A1 O<|Rs 32 O O (ae call24 CD O) ?_;iterate 5 refine A1 O ?_
 refine Z4 O O O O O<|Rg 39 O O O (aq none Ps uq O Pq Pq O O)<|A1 O<|Rg 41 O O O (aq none Ps JM O Pq Pq O O)<|Rg 42 O O O (ae call19 hro O) ?_;iterate 7 refine A1 O ?_
 refine Rg 50 O O O (XJ.cast (v':= .pv (.bool true)) (cF O O O) (af (fun b=>V.pv (.bool b)) (NZ _))) ?_;iterate 12 refine A1 O ?_
 refine Rg 63 O O O (ag 0 underlying36 qk O O O Pq (by simp [Cq,prD]))<|Rg 64 O O O (ai (v:=bL []) ⟨_,underlying38,O⟩ O O) ?_;iterate 6 refine A1 O ?_
 exact Rg 71 O O O (ae call36 hch O)<|Y3 O O O<|Gt O<|⟨_,_,O,O,O⟩
end
section
open Mk Jn
theorem E4 {v:ByteArray} {kd:Int} (h:v∈gX kd):Zf v/\v.size<=10000:=by
 have hz:∀ l:List ByteArray,(∀ y∈l,y.data.toList.all (· !=0)=true/\y.size<=10000)->v∈l->Zf v/\v.size<=10000:=fun l hl hm=>⟨EN (hl v hm).1,(hl v hm).2⟩
 unfold gX at h;split at h
 ·exact hz _ Pq h
 ·split at h
  ·exact hz _ Pq h
  ·exact hz _ Pq h
theorem GK {l:List Rw} {B:Int} (h:∀ x∈l,x.w<=B):o0 l<=B*l.length:=by
 unfold o0;induction l with
 | nil=>simp
 | cons x l ih=>
   have h1:=h x Ps;have h2:=ih fun y hy=>h y (by simp [hy])
   simp only [oy,O6,AS];rw [Int.natCast_add,Int.mul_add];have:B*((1:Nat):Int)=B:=Ps;omega
theorem nY {S:Sch} {A:List Int} (hk:∀ a∈S.attrs,a.2=1\/a.2=2\/a.2=3) (hA:∀ a∈A,0<=a/\a<S.attrs.length) {most:Nat} (hm:most<=20) {l:List Rw} (h:MdT S A most l):TblOk S A 1 l/\l.length<=most/\(∀ x∈l,∀ y∈x.v,Zf y/\y.size<=10000)/\∀ x∈l,x.w<=5*most:=by
 obtain ⟨l0,rfl,hl,hx⟩:=h;have hp:∀ z∈l0,0<z.w:=fun z hz=>by have:=(hx z hz).1;omega
 have hs:=tU hp;have ht:o0 l0<=5*l0.length:=GK fun x hx'=>(hx x hx').1.2
 have hmd:∀ x∈lH l0,MdV S A x.v:=fun x hx'=>by
  obtain ⟨z,hz,e⟩:=hs.val x hx';rw [e];exact (hx z hz).2
 have hw5:∀ x∈lH l0,x.w<=5*most:=fun x hx'=>by
  have h1:=zR (hs.pos hp) x hx';rw [hs.tot] at h1;omega
 refine ⟨⟨fun x hx'=>⟨(hmd x hx').1,fun i h1 h2 nm=>?_,?_⟩,hs.asc⟩,AT hs.len hl,fun x hx' y hy=>?_,hw5⟩
 ·have hv:=(hmd x hx').2 i h1 h2;have hr:=hA _ (aJ h2);refine we nm _ _ ?_ hv;have hlt:A[i].toNat<S.attrs.length:=Po;rw [mC hlt];exact hk _ (aJ hlt)
 ·have h1:=hs.pos hp x hx';have h2:=hw5 x hx';omega
 ·obtain ⟨i,hi,rfl⟩:=Nc.1 hy;have hm2:=hmd x hx';exact E4 (hm2.2 i hi (by rw [<-hm2.1];exact hi))
theorem pe {S:Sch} (hB:SB S) (hc:cI S=0) (hS:SJn S) (hk:∀ a∈S.attrs,a.2=1\/a.2=2\/a.2=3) {most:Nat} (hm:most<=12) {d:List (List Rw)} (hd:d.length=S.rels.length) (ht:∀ i (h:i<d.length) (h2:i<S.rels.length),MdT S S.rels[i].2 most d[i]):DbOk S d where
 hB:=hB
 hc:=hc
 hS:=hS
 n:=hd
 l:=fun l hl=>by
  obtain ⟨i,hi,rfl⟩:=Nc.1 hl;have:=(nY hk (hS.b _ (aJ (show i<S.rels.length by omega))) Po (ht i hi Po)).2.1;omega
 t:=fun r h h2=>(nY hk (hS.b _ (aJ h2)) Po (ht r h h2)).1
 zf:=fun l hl=>by
  obtain ⟨i,hi,rfl⟩:=Nc.1 hl;exact (nY hk (hS.b _ (aJ (show i<S.rels.length by omega))) Po (ht i hi Po)).2.2.1
theorem J3 {S:Sch} {d:List (List Rw)} (h:DbOk S d) (hn:∀ r∈S.rels,r.2.Nodup):I2 (iL S (bf S d)):=fun p hp=>by
 unfold iL at hp;obtain ⟨i,hi,rfl⟩:=Nc.1 hp;rw [On,xT] at hi;have h1:i<S.rels.length:=Po;have h2:i<(bf S d).length:=Po;have h3:i<d.length:=by rw [h.n];exact h1
 rw [Oj,Nj];refine ⟨hn _ (aJ h1),fun x hx=>?_,h.dist _ (aJ h2)⟩;rw [ur h3 h1 h2] at hx;exact ((h.t i h3 h1).row x (L9.1 hx).1).l
theorem Ju {S:Sch} {d:List (List Rw)} (h:DbOk S d) (hn:∀ r∈S.rels,r.2.Nodup):(joinL S d).length=(enR (iL S (bf S d)) fun _=>none).length:=by
 have hl:=qz h.n;refine Lk (sN h) (J3 h hn) (fun p hp=>?_) fun a ha=>?_
 ·unfold iL at hp;have:=(OX hp).1;obtain ⟨r,hr,e⟩:=IT.1 this;rw [<-e];exact h.hS.b r hr
 ·obtain ⟨r,hr,ha2⟩:=h.val.use a ha;obtain ⟨i,hi,rfl⟩:=Nc.1 hr;refine ⟨(S.rels[i].2,(bf S d)[i]'Po),?_,ha2⟩;unfold iL;rw [Nc];exact ⟨i,by rw [On,xT];omega,by rw [Oj,Nj]⟩
end
section
open Mk Jn
theorem KF {S:Sch} {T:List (List Rw)} {i:Nat} (h:i<(iL S T).length) (h1:i<S.rels.length) (h2:i<T.length):(iL S T)[i]=(S.rels[i].2,T[i]):=by simp [iL]
section
variable {S:Sch} {P:List Nat} {d:List (List Rw)} (hP:P.Perm (List.range S.rels.length))
include hP
end
end
section
open Mk Jn
def usK (S:Sch) (a:Int) (k:Nat):List Nat:=(List.range k).filter fun i=>decide (a∈(S.rels.getD i default).2)
theorem nP {S:Sch} {a:Int} {k:Nat} (h:k<S.rels.length):usK S a (k+1)=if a∈S.rels[k].2 then usK S a k++[k] else usK S a k:=by
 unfold usK;rw [NY,MR];have e:S.rels.getD k default=S.rels[k]:=by simp [List.getD,h]
 by_cases hm:a∈S.rels[k].2
 ·rw [qY hm];simp [h,hm]
 ·rw [kH hm];simp [h,hm]
theorem rJ (S:Sch) (a:Int) (k:Nat):(usK S a k).length<=k:=by
 unfold usK;exact AT (Mn _ _) Ps
theorem og (S:Sch) (hB:SB S) (hS:SJn S) (hc:cI S=0) (a:Int):FnP prog 72 [gK S,.int .i64 a] (· =ak ((usK S a S.rels.length).map Int.ofNat)):=by
 refine FnP.of func72 O ntmps72 Ps fun m0 w0 F R0=>?_
 have hck:=qT S hB;rw [hc] at hck;have hrl:=hS.r;have hrc:=yQ S.rels;refine Z2 O O O<|Z1 O O<|Rs 9 O O (ae call82 hck O)<|A1 O ?_;refine Gc O O (fun hc10=>absurd hc10 Ps) (fun hc10=>?_);refine Il<|Z1 O O<|Im (Iu 5 1 1 3 O O)<|Z4 O O O O O ?_;refine Gl O (st:=fun ac:Nat×List Nat=>mkS [(1,.pv (.int .i64 a)),(5,.gsl 1 1 ac.2.length),(12,.pv (.sl none S.rels.length (bj S.rels))),(13,.pv (.int .i64 S.rels.length)),(14,.pv (.int .i64 ac.1))] [(1,.gro 3 (aE (ac.2.map Int.ofNat)))] 2)
  (I:=fun ac=>ac.1<=S.rels.length/\ac.2=usK S a ac.1) (μ:=fun ac=>S.rels.length-ac.1) (x0:=(0,[])) (Io (aS O) (aO Pp) O O) (⟨bk _,O⟩) ?_
 rintro ⟨k,q⟩ ⟨hk,hq⟩;try simp only at hk hq ⊢
 refine Z1 O O ?_;refine Gp O O (fun hc15=>?_) (fun hc15=>?_)
 ·have hlt:k<S.rels.length:=Po;have hrr:=cW hlt;have hrn:=ew hlt;have hql:q.length<=k:=by rw [hq];exact rJ S a k
  have hus:=nP (a:=a) hlt;have hA:=hS.l _ (aJ hlt);have hin:=rK S.rels[k].2 a Po;generalize S.rels[k]=rk at*;refine Il<|Z1 O O<|Rs 17 O O (ag k underlying31 Eu O O O hlt hrn)<|Rs 18 O O (db ⟨_,underlying30,O⟩ Eu O hrr O)<|Y3 O O O<|Z3 O O O O<|Rs 22 O O (ae call64 hin O) ?_;refine Gc O O (fun hc22=>?_) (fun hc22=>?_)
  ·have hsn:aE (q.map Int.ofNat)++[.int .i64 (k:Int)]=aE ((q++[k]).map Int.ofNat):=Ps;refine Gr O ?_;iterate 5 refine A1 O ?_
   exact Z2 O O O<|⟨(k+1,q++[k]),Ip [0,4] ⟨O,af (fun n=>V.gsl 4 1 n) (bW q k),O,O,O,Pw⟩ ⟨IN (b:=some (.gro 3 (aE (q.map Int.ofNat)++[.int .i64 (k:Int)]))) Pp (af (fun c=>some (Ob.gro 3 c)) hsn),Pw⟩ O O Pq O,⟨Po,by simp only;rw [hus,qY (Ng hc22),hq]⟩,Pv⟩
  ·exact Il<|Z2 O O O<|⟨(k+1,q),Io (aS O) (aO Pp) O O,⟨Po,by simp only;rw [hus,kH (NM hc22),hq]⟩,Pv⟩
 ·refine Im (Ir 1 O O) ?_;have hke:k=S.rels.length:=Po;subst hke;exact Gx O<|Z2 O O O<|Gt O<|⟨_,_,O,O,by rw [hq];simp [ak];rfl⟩
def joK (S:Sch) (k:Nat):List Nat:=(List.range k).filter fun a=>decide (1<(usK S (a:Int) S.rels.length).length)
theorem wU (S:Sch) (k:Nat):joK S (k+1)=if 1<(usK S (k:Int) S.rels.length).length then joK S k++[k] else joK S k:=by
 unfold joK;rw [NY,MR];by_cases hm:1<(usK S (k:Int) S.rels.length).length
 ·rw [qY hm];simp [hm]
 ·rw [kH hm];simp [hm]
theorem tH (S:Sch) (k:Nat):(joK S k).length<=k:=by
 unfold joK;exact AT (Mn _ _) Ps
theorem ga (S:Sch) (hB:SB S) (hS:SJn S) (hc:cI S=0):FnP prog 26 [gK S] (· =ak ((joK S S.attrs.length).map Int.ofNat)):=by
 refine FnP.of func26 O ntmps26 Ps fun m0 w0 F R0=>?_
 have hal:=hS.a;have hac:=mi S.attrs;refine Z2 O O O<|Z1 O O<|Im (Iu 3 1 1 3 O O)<|Z4 O O O O O ?_;refine Gl O (st:=fun ac:Nat×List Nat=>mkS [(1,.ptr 0 0),(3,.gsl 1 1 ac.2.length),(7,.pv (.int .i64 S.attrs.length)),(8,.pv (.int .i64 ac.1))] [(0,oZ S),(1,.gro 3 (aE (ac.2.map Int.ofNat)))] 2)
  (I:=fun ac=>ac.1<=S.attrs.length/\ac.2=joK S ac.1) (μ:=fun ac=>S.attrs.length-ac.1) (x0:=(0,[])) (Io (aS O) (aO Pp) O O) (⟨bk _,O⟩) ?_
 rintro ⟨k,q⟩ ⟨hk,hq⟩;try simp only at hk hq ⊢
 refine Z1 O O ?_;refine Gp O O (fun hc9=>?_) (fun hc9=>?_)
 ·have hlt:k<S.attrs.length:=Po;have hql:q.length<=k:=by rw [hq];exact tH S k
  have hus:=wU S k;have huk:=og S hB hS hc (k:Int);have hul:=rJ S (k:Int) S.rels.length;generalize usK S (k:Int) S.rels.length=u at*;refine Il<|Z2 O O O<|Z2 O O O<|Rs 13 O O (ae call72 huk O)<|Y2 O O ?_;refine Gp O O (fun hc15=>?_) (fun hc15=>?_)
  ·have hm:1<u.length:=by simp at hc15;omega
   have hsn:aE (q.map Int.ofNat)++[.int .i64 (k:Int)]=aE ((q++[k]).map Int.ofNat):=Ps;refine Gr O ?_;iterate 5 refine A1 O ?_
   exact Z2 O O O<|⟨(k+1,q++[k]),Ip [0,3] ⟨O,af (fun n=>V.gsl 3 1 n) (bW q k),O,O,Pw⟩ ⟨Pp,IN (b:=some (.gro 3 (aE (q.map Int.ofNat)++[.int .i64 (k:Int)]))) Pp (af (fun c=>some (Ob.gro 3 c)) hsn),Pw⟩ O O Pq O,⟨Po,by simp only;rw [hus,qY hm,hq]⟩,Pv⟩
  ·exact Il<|Z2 O O O<|⟨(k+1,q),Io (aS O) (aO Pp) O O,⟨Po,by simp only;rw [hus,kH (by simp at hc15;omega),hq]⟩,Pv⟩
 ·refine Im (Ir 1 O O) ?_;have hke:k=S.attrs.length:=Po;subst hke;exact Gx O<|Z2 O O O<|Gt O<|⟨_,_,O,O,by rw [hq];simp [ak];rfl⟩
end
section
open Mk Jn
theorem k6 {S:Sch} (hn:∀ r∈S.rels,r.2.Nodup) (a:Int):∀ k,k<=S.rels.length->((S.rels.take k).flatMap (·.2)).count a=(usK S a k).length
 | 0,_=>by simp [usK]
 | k+1,h=>by
   have hlt:k<S.rels.length:=Po;rw [aR hlt,Nb,List.count_append,k6 hn a k Po,nP hlt];have hnd:=hn _ (aJ hlt);by_cases hm:a∈S.rels[k].2
   ·rw [qY hm,kQ];have:S.rels[k].2.count a=1:=by rw [List.Nodup.count hnd,qY hm]
    simp [this]
   ·rw [kH hm];have:S.rels[k].2.count a=0:=List.count_eq_zero.2 hm;simp [this]
def vt (J:List Int) (A:List Int) (v:List ByteArray):Bool:=(A.zip v).any fun p=>(p.2.toList==(⟨#[]⟩:ByteArray).toList)&&decide (p.1∈J)
theorem tx {S:Sch} (hV:Valid S) (hn:∀ r∈S.rels,r.2.Nodup) {r:ByteArray×List Int} (hr:r∈S.rels) (x:Rw):
  vt ((joK S S.attrs.length).map Int.ofNat) r.2 x.v= !bE (S.rels.flatMap (·.2)) r.2 x:=by
 unfold vt bE;rw [List.not_all_eq_any_not];have key:∀ p∈r.2.zip x.v,((p.2.toList==(⟨#[]⟩:ByteArray).toList)&&decide (p.1∈(joK S S.attrs.length).map Int.ofNat))= !(!(p.2.toList==(⟨#[]⟩:ByteArray).toList)||(((S.rels.flatMap (·.2)).count p.1:Nat):Int)==1):=fun p hp=>by
  have ha:p.1∈r.2:=(OX hp).1;have hb:=hV.rng r hr p.1 ha;obtain ⟨a,hpa⟩:=so hb.1;have hal:a<S.attrs.length:=Po;have hc:=k6 hn p.1 S.rels.length (xV _);rw [Mz] at hc;have hpos:0<(S.rels.flatMap (·.2)).count p.1:=List.count_pos_iff.2 (Mq.2 ⟨r,hr,ha⟩);have hj:p.1∈(joK S S.attrs.length).map Int.ofNat↔1<(usK S p.1 S.rels.length).length:=by
   rw [hpa];unfold joK;simp only [IT,L9,Mx,L6];constructor
   ·rintro ⟨b,⟨_,h⟩,e⟩;obtain rfl:b=a:=Int.ofNat.inj e;exact h
   ·exact fun h=>⟨a,⟨hal,h⟩,O⟩
  rw [<-hc] at hj;generalize (S.rels.flatMap (·.2)).count p.1=c at*;have hd:decide (p.1∈(joK S S.attrs.length).map Int.ofNat)= !(((c:Nat):Int)==1):=by
   have h0:decide (p.1∈(joK S S.attrs.length).map Int.ofNat)=decide (1<c):=decide_eq_decide.2 hj;rw [h0];by_cases h1:1<c
   ·have:((c:Int)==1)=false:=by simp;omega
    rw [this];simp [h1]
   ·have:((c:Int)==1)=true:=by simp;omega
    rw [this];simp [h1]
  rw [hd];cases (p.2.toList==(⟨#[]⟩:ByteArray).toList)<;>simp
 rw [Mg,My,My];exact ⟨fun ⟨p,hp,h⟩=>⟨p,hp,by rw [<-key p hp];exact h⟩,fun ⟨p,hp,h⟩=>⟨p,hp,by rw [key p hp];exact h⟩⟩
end
section
open Mk Jn
theorem Jj {S:Sch} {most:Nat} (h:Made S most):∀ a∈S.attrs,a.2=1\/a.2=2\/a.2=3:=fun a ha=>by
 obtain ⟨i,hi,rfl⟩:=Nc.1 ha;have:=h.at' i hi;omega
theorem Jh {S:Sch} (h:Made S 5):SJn S:=
 zq (jF (I0 h Pq)) (by have:=h.r2;omega) fun x hx=>by
  obtain ⟨i,hi,rfl⟩:=MK hx;have:=IW (h.rs i hi).2.2.1 (h.rs i hi).2.2.2;have:=h.a2;omega
theorem JK {S:Sch} {d:List (List Rw)} (hM:Made S 5) (hd:MdD S 4 S.rels.length d):DbOk S d:=
 pe (JO hM Pq) (I0 hM Pq) (Jh hM) (Jj hM) (most:=4) Pq hd.1 hd.2
end
section
open Mk Jn
def zj (J A:List Int) (v:List ByteArray) (n:Nat):Bool:=((A.zip v).take n).any fun p=>(p.2.toList==(⟨#[]⟩:ByteArray).toList)&&decide (p.1∈J)
theorem qU {J A:List Int} {v:List ByteArray} {n:Nat} (hn:n<A.length) (hv:n<v.length):zj J A v (n+1)=(zj J A v n||((v[n].toList==(⟨#[]⟩:ByteArray).toList)&&decide (A[n]∈J))):=by
 have h:n<(A.zip v).length:=by simp;omega
 unfold zj;rw [aR h,List.any_append];simp
theorem vR {J A:List Int} {v:List ByteArray} (h:v.length=A.length):zj J A v A.length=vt J A v:=by
 unfold zj vt;rw [a6 Pt]
def iP (f:Rw->Bool) (l:List Rw) (j:Nat):Nat:=((l.take j).filter f).length
theorem ry {f:Rw->Bool} {l:List Rw} {j:Nat} (h:j<l.length):iP f l (j+1)=if f l[j]=true then iP f l j+1 else iP f l j:=by
 unfold iP;rw [aR h,MR,kQ];by_cases hf:f l[j]=true<;>simp [hf]
theorem uF {f:Rw->Bool} {l:List Rw}:iP f l l.length=(l.filter f).length:=by unfold iP;rw [Mz]
section
variable {C:Ctx} {n:Nat} {σ:St} {dst:Option Tmp} {ty:TypeId} {pos:String} {after:Array Edge} {gd:Option (Nat×Bool)} {x y z:Operand}
end
theorem qD {S:Sch} (hM:Made S 5):∀ r∈S.rels,r.2.Nodup:=fun r hr=>by
 obtain ⟨i,hi,rfl⟩:=MK hr;exact (hM.rs i hi).2.2.1.imp fun h e=>by omega
theorem Ak {S:Sch} {n:Nat}:((joK S n).map Int.ofNat).length<=n:=by rw [xT];exact tH S n
theorem yR {l:List (ByteArray×List Int)} {r:Nat} (hr:r<l.length):(bj l)[r*2+1]? =some (ak l[r].2):=by
 have h2:(((bj l).drop (r*2)).take 2)[1]? =[PV.str l[r].1,ak l[r].2][1]? :=by rw [cW hr]
 simpa [Ma,MA] using h2
end
end Go.Proofs.YtedfonppffochaaGreatDoor
