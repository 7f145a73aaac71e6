/-
  Texts of ours, joined and shortened by merge2.py: UC, UD, Fu, KA, KG, KH, KJ, KO, KC, KB, UE, UF, UG, VA, VC, VD, VB, VE. No statement of the program is proved here.
-/
import Derived.Lib.Walk
import Derived.Lib.ItoaMem
import Derived.WalkKit
import Derived.BigCall
import Derived.BigGuard
import Derived.Test.YtedfonppffochaaGreatDoorJ811
set_option maxRecDepth 100000
set_option maxHeartbeats 4000000
open Go.RowKit Go.Proofs.Tryz
namespace Go.Proofs.YtedfonppffochaaGreatDoor
section
open Go.RowKit Mk Jn
set_option maxHeartbeats 4000000
section
variable {C:Ctx} {n:Nat} {σ:St} {ty:TypeId} {pos:String} {after:Array Edge} {gd:Option (Nat×Bool)} {x y:Operand}
theorem wD {T T':TypeId} {id off k:Nat} {cs vs:List PV} (hk:dx C.P T k) (hx:σ.ev n x= .ptr id off) (ho:σ.ob id=some (.cells T' cs)) (hv:σ.ev n y= .pv (.agg vs)) (hlen:vs.length=k) (hlf:∀ c∈vs,c.leaf=true) (hle:off+k≤cs.length):
  XJ C n ⟨none,.store T x y,ty,pos,after,gd⟩ σ ⟨.pv .any,[(id,some (.cells T' (eY cs off vs)))],[]⟩:=by
 rintro a w Q ⟨m,R,hw⟩;obtain ⟨b,N,he,hm,arr,hb,hN,hle',hr⟩:=hw.ptr hx ho;have hrel:=hw.pv hv;simp only [RelP] at hrel;obtain ⟨us,hev,hus⟩:=hrel;have hcl:(a.eval y).cells=us.toArray:=by rw [hev];rfl
 have hul:us.length=k:=by rw [hus.length,hlen]
 have hrun:=gv (P:=C.P) (T:=T) (u:=a.eval y) (off:=off) hb (by rw [hcl,J1,hul];exact hk) (by rw [hcl,J1];omega) (by rw [hcl];simpa using bU hus hlf);unfold Oper.wp;have hrun':(execOp a.eval ⟨none,.store T x y,ty,pos,after,gd⟩).run C.P w= .ok .skip (w.setRow b (eY arr.toList off us).toArray):=by
  simp only [execOp,he,Sem.run_bind,hrun,Result.andThen_ok,Sem.run_pure,hcl]
 rw [hrun'];refine ⟨_,rfl,m,R,?_⟩;refine hw.store hm arr _ T' hb (by simp only [J1];rw [bd _ _ _ Md];simpa using hN) _ ?_;intro w' hR hb';refine ⟨_,hb',by simp only [J1];rw [bd _ _ _ Md];simpa using hN,by rw [bd _ _ _ L8];exact hle',?_⟩;rw [bd cs off vs L8];have e:(eY arr.toList off us).toArray.toList.take cs.length=eY (arr.toList.take cs.length) off us:=by
  simp only [eY];exact gn _ _ _ _ (by first | omega | (simp;omega)) (by first | omega | (simp;omega))
 rw [e];have:RelPL w R (eY cs off vs) (eY (arr.toList.take cs.length) off us):=by
  show RelPL w R (cs.take off++vs++cs.drop (off+vs.length)) (_++us++_);rw [← hus.length];exact ((hr.take off).append hus).append (hr.drop _)
 exact this.mono hR
end
theorem sb (a b:List ByteArray) (ha:a.length≤1000000) (hb:b.length≤1000000):FnP Tryz.prog 69 [aI a,aI b] (· = .bool (decide (a=b))):=by
 refine FnP.of func69 rfl ntmps69 Mc fun m0 w0 F R0=>?_
 refine Z1 rfl rfl<|Gr rfl ?_;iterate 5 refine A1 rfl ?_
 refine Gc rfl rfl (fun hc10=>?_) (fun hc10=>?_)
 ·exact Z1 rfl rfl<|Gt rfl<|⟨_,_,rfl,rfl,congrArg PV.bool (I6 (fun e=>by rw [e] at hc10;simp at hc10)).symm⟩
 ·have hl:a.length=b.length:=by simp at hc10;omega
  refine Il<|Z3 rfl rfl rfl rfl ?_;refine Gl rfl (st:=fun x_0:Nat=>mkS [(0,.pv (aI a)),(1,.pv (aI b)),(12,.pv (.int .i64 a.length)),(13,.pv (.int .i64 x_0))] [] 0)
   (I:=fun x_0=>x_0≤a.length∧a.take x_0=b.take x_0) (μ:=fun x_0=>a.length-x_0) (x0:=(0)) (Io (aS rfl) trivial rfl rfl) (⟨cH _,rfl⟩) ?_
  rintro i ⟨hi,ht⟩;refine Z1 rfl rfl ?_;refine Gp rfl rfl (fun hc14=>?_) (fun hc14=>?_)
  ·have ha1:i<a.length:=L8;have hb1:i<b.length:=L8;have va:=aM ha1;have na:=bc ha1;have vb:=aM hb1;have nb:=bc hb1;refine Il<|Z2 rfl rfl rfl<|Ge rfl follows [0,1,2,3,4,5,6,7,8] L9<|D1 rfl rfl<|D1 rfl rfl<|D1 rfl rfl ?_;first | refine D2 rfl rfl Mb ?_ | refine D1 rfl rfl ?_
   iterate 3 refine D1 rfl rfl ?_
   first | refine D2 rfl rfl Mb ?_ | refine D1 rfl rfl ?_
   refine D1 rfl rfl ?_;refine ⟨L9,?_⟩;refine Gc rfl rfl (fun hc24=>?_) (fun hc24=>?_)
   ·exact Z1 rfl rfl<|Gt rfl<|⟨_,_,rfl,rfl,congrArg PV.bool (I6 (fun e=>by subst e;simp at hc24)).symm⟩
   ·exact Il<|Z2 rfl rfl rfl<|⟨(i+1),Io (aS rfl) trivial rfl rfl,⟨L8,by rw [aJ ha1,aJ hb1,ht,show a[i]=b[i] from baT (by simpa using hc24)]⟩,L8⟩
  ·exact Gx rfl<|Z1 rfl rfl<|Gt rfl<|⟨_,_,rfl,rfl,congrArg PV.bool (Fz (by rwa [aR L8,aR L8] at ht)).symm⟩
theorem lS (x:Rw):FnP Tryz.prog 71 [sJ x] (· = .bool (x.w==0)):=by
 refine FnP.of func71 rfl ntmps71 Mc fun m0 w0 F R0=>?_
 exact Z2 rfl rfl rfl<|Z4 rfl rfl rfl rfl rfl<|Gt rfl<|⟨_,_,rfl,rfl,rfl⟩
theorem su (x:Rw):FnP Tryz.prog 67 [sJ x] (· = .bool (decide (x.w<0)||decide (x.w>100))):=by
 refine FnP.of func67 rfl ntmps67 Mc fun m0 w0 F R0=>?_
 refine Z2 rfl rfl rfl<|Z4 rfl rfl rfl rfl rfl ?_;apply Ix 4 6 10 [7,8,9] rfl (by first | exact ax.le | exact ax.aw | exact Iv)
 ·intro hb3;iterate 4 refine A1 rfl ?_
  exact Iq (Ik (Ik (Ik (Ik (Ik (fEq.refl) rfl) rfl) rfl) rfl) rfl) rfl rfl rfl
 ·intro hb3;iterate 4 refine A1 rfl ?_
  exact Iq (Ik (Ik (Ik (Ik (Ik (fEq.refl) rfl) rfl) rfl) rfl) rfl) rfl rfl rfl
 exact A1 rfl<|Gt rfl<|⟨_,_,rfl,rfl,rfl⟩
theorem vx (l:List Rw) (hl:l.length≤1000) (g:FuncId) (p:Rw→Bool) (hc:bN Tryz.prog g) (hg:∀ x∈l,FnP Tryz.prog g ([]++[sJ x]++[]) (· = .bool (p x))):∃ i:Int,decide (i≥0)=l.any p∧FnP Tryz.prog 109 [bL l,.fn (.func g) [] []] (· = .int .i64 i):=by
 obtain ⟨i,hi,hi1,hi2⟩:=jg l p;refine ⟨i,hi,?_⟩;refine FnP.of func109 rfl ntmps109 Mc fun m0 w0 F R0=>?_
 refine Z1 rfl rfl<|Z3 rfl rfl rfl rfl ?_;refine Gl rfl (st:=fun x_0:Nat=>mkS [(0,.pv (bL l)),(1,.pv (.fn (.func g) [] [])),(7,.pv (.int .i64 l.length)),(8,.pv (.int .i64 x_0))] [] 0)
  (I:=fun x_0=>x_0≤l.length∧∀ j (h:j<l.length),j<x_0→p l[j]=false) (μ:=fun x_0=>l.length-x_0) (x0:=(0)) (Io (aS rfl) trivial rfl rfl) (⟨cH _,fun _ _ h=>absurd h L8⟩) ?_
 rintro k ⟨hk,hno⟩;refine Z1 rfl rfl ?_;refine Gp rfl rfl (fun hc9=>?_) (fun hc9=>?_)
 ·have hlt:k<l.length:=L8;have hrw:=aN hlt;have hrn:=aW hlt;have hgk:=hg _ (af hlt);have hik:=hi1 k hlt;generalize hbk:p l[k]=b at*;refine Il<|Z2 rfl rfl rfl<|Z4 rfl rfl rfl rfl rfl ?_;first | refine A3 rfl Mb ?_ | refine A1 rfl ?_
  refine Rs 16 rfl rfl (bb hc rfl hgk rfl) ?_;refine Gc rfl rfl (fun hc16=>?_) (fun hc16=>?_)
  ·exact Z2 rfl rfl rfl<|Gt rfl<|⟨_,_,rfl,rfl,by rw [hik hc16 hno];rfl⟩
  ·exact Il<|Z2 rfl rfl rfl<|⟨(k+1),Io (aS rfl) trivial rfl rfl,⟨L8,fun j h hj=>by rcases Hq.1 hj with h1 | h1;exact hno j h h1;subst h1;exact hbk.trans hc16⟩,L8⟩
 ·have hm:=hi2 fun j h=>hno j h L8
  exact Gx rfl<|Z1 rfl rfl<|Gt rfl<|⟨_,_,rfl,rfl,by rw [hm];rfl⟩
theorem v8 (l:List Rw) (hl:l.length≤1000) (g:FuncId) (p:Rw→Bool) (hc:bN Tryz.prog g) (hg:∀ x∈l,FnP Tryz.prog g ([]++[sJ x]++[]) (· = .bool (p x))):FnP Tryz.prog 66 [bL l,.fn (.func g) [] []] (· = .bool (l.any p)):=by
 obtain ⟨i,hi,hx⟩:=vx l hl g p hc hg;refine FnP.of func66 rfl ntmps66 Mc fun m0 w0 F R0=>?_
 exact Z1 rfl rfl<|Z2 rfl rfl rfl<|Rs 7 rfl rfl (ae call109 hx rfl)<|Y2 rfl rfl<|Gt rfl<|⟨_,_,rfl,rfl,congrArg PV.bool hi⟩
def isZ (x:Rw):Bool:=x.w==0
abbrev zF:PV:= .fn (.func 71) [] []
theorem xa (l:List Rw) (n:Nat) (hln:l.length=n) (hn:n≤1000) (i:Int)
  (hi1:∀ k (h:k<l.length),isZ l[k]=true→(∀ j (h:j<l.length),j<k→isZ l[j]=false)→i=k) (hi2:(∀ j (h:j<l.length),isZ l[j]=false)→i= -1):FnO Tryz.prog 109 1 0 [.osl big 2 n,.pv zF] [(big,di l)] (fun v ob'=>v= .pv (.int .i64 i)∧ob'=ar [(big,di l)]):=by
 refine FnO.of func109 rfl ntmps109 Mc fun m0 w0 F R0=>?_
 refine Z1 rfl rfl<|Z3 rfl rfl rfl rfl ?_;refine Gl rfl (st:=fun x_0:Nat=>mkS [(0,.osl big 2 n),(1,.pv zF),(7,.pv (.int .i64 n)),(8,.pv (.int .i64 x_0))] [(big,di l)] 0)
  (I:=fun x_0=>x_0≤n∧∀ j (h:j<l.length),j<x_0→isZ l[j]=false) (μ:=fun x_0=>n-x_0) (x0:=(0)) (Io (aS rfl) (aO L9) rfl rfl) (⟨cH _,fun _ _ h=>absurd h L8⟩) ?_
 rintro k ⟨hk,hno⟩;refine Z1 rfl rfl ?_;refine Gp rfl rfl (fun hc9=>?_) (fun hc9=>?_)
 ·have hlt:k<l.length:=L8;have hrw:=aN hlt;have hgk:=lS l[k];rw [show (l[k].w==0)=isZ l[k] from rfl] at hgk;have hik:=hi1 k hlt;generalize hbk:isZ l[k]=b at*;refine Il<|Z2 rfl rfl rfl<|Z3 rfl rfl rfl rfl<|Rs 14 rfl rfl (aa k underlying38 lM rfl rfl rfl rfl L8) ?_;first | refine A3 rfl Mb ?_ | refine A1 rfl ?_
  refine Rs 16 rfl rfl (bb call71 rfl hgk rfl) ?_;refine Gc rfl rfl (fun hc16=>?_) (fun hc16=>?_)
  ·exact Z2 rfl rfl rfl<|Gt rfl<|⟨[(4,.pv (.int .i64 k))],[(big,di l)],[.pv (.int .i64 k)],Io (aS rfl) (aO L9) rfl rfl,rfl,rfl,rfl,by rw [hik hc16 hno];rfl,rfl⟩
  ·exact Il<|Z2 rfl rfl rfl<|⟨(k+1),Io (aS rfl) (aO L9) rfl rfl,⟨L8,fun j h hj=>by rcases Hq.1 hj with h1 | h1;exact hno j h h1;subst h1;exact hbk.trans hc16⟩,L8⟩
 ·have hm:=hi2 fun j h=>hno j h L8
  exact Gx rfl<|Z1 rfl rfl<|Gt rfl<|⟨[(4,.pv (.int .i64 (-1)))],[(big,di l)],[.pv (.int .i64 (-1))],Io (aS rfl) (aO L9) rfl rfl,rfl,rfl,rfl,by rw [hm];rfl,rfl⟩
theorem AQ {l:List Rw} {k:Nat} (h:k<l.length) (x:Rw):(((aB l).take (k*2))++eV x++(aB l).drop (k*2+2))=aB (l.set k x):=by
 rw [Ln,By h,fj,(fu l k).1,show k*2+2=(k+1)*2 by omega,(fu l (k+1)).2,Kr];rfl
theorem rF (l:List Rw) (n:Nat) (hln:l.length=n) (hn1:n≤1000):FnO Tryz.prog 70 1 0 [.osl big 2 n,.pv zF] [(big,di l)] (fun v ob'=>v= .osl big 2 (l.filter fun x=> !isZ x).length∧ob'=ar [(big,di (l.filter fun x=> !isZ x))]):=by
 obtain ⟨i,hi,hi1,hi2⟩:=jg l isZ;obtain ⟨hia,hib⟩:=sH hi hi1 hi2;have hidx:=xa l n hln hn1 i hi1 hi2;refine FnO.of func70 rfl ntmps70 Mc fun m0 w0 F R0=>?_
 clear hi hi1 hi2;refine Z1 rfl rfl<|Z2 rfl rfl rfl<|Rs 10 rfl rfl (ah [big] 0 call109 hidx rfl rfl rfl rfl ⟨rfl,trivial⟩ Ma rfl)<|A1 rfl<|Z2 rfl rfl rfl ?_;refine Gc rfl rfl (fun hc12=>?_) (fun hc12=>?_)
 ·have hie:i= -1:=by simpa using hc12
  have hf:(l.filter fun x=> !isZ x)=l:=LX.2 fun x hx=>by rw [hia hie x hx];rfl
  exact Z2 rfl rfl rfl<|Gt rfl<|⟨[(4,.osl big 2 n)],[(big,di l)],[.osl big 2 n],Io (aS rfl) (aO L9) rfl rfl,rfl,rfl,rfl,by rw [hf,hln];rfl,by rw [hf]⟩
 ·have hne:¬ i= -1:=by intro e;rw [e] at hc12;simp at hc12
  obtain ⟨i0,rfl,hi0,hft⟩:=hib hne;refine Il<|Z3 rfl rfl rfl rfl ?_;refine Gl rfl (st:=fun x_0:Nat×Nat×List Rw=>mkS [(0,.osl big 2 n),(1,.pv zF),(5,.pv (.int .i64 x_0.2.1)),(6,.pv (.int .i64 x_0.1))] [(big,di x_0.2.2)] 0)
   (I:=fun x_0=>((x_0.1≤n∧x_0.2.1<x_0.1)∧x_0.2.2.length=n)∧(x_0.2.2.drop x_0.1=l.drop x_0.1∧x_0.2.2.take x_0.2.1=(l.take x_0.1).filter fun x=> !isZ x)∧x_0.2.1=((l.take x_0.1).filter fun x=> !isZ x).length) (μ:=fun x_0=>n-x_0.1) (x0:=(i0+1,i0,l)) (Io (aS rfl) (aO L9) rfl rfl) (⟨⟨⟨Me,Me⟩,hln⟩,⟨rfl,by simp only;rw [hft]⟩,by simp only;rw [hft,BX];omega⟩) ?_
  rintro ⟨k,m,q⟩ ⟨⟨⟨hk,hmk⟩,hql⟩,⟨hqd,hqt⟩,hme⟩;try simp only at hk hmk hql hqd hqt hme ⊢
  have hqln:(aB q).length=n*2:=by rw [aK,hql]
  refine Z4 rfl rfl rfl rfl rfl ?_;refine Gp rfl rfl (fun hc19=>?_) (fun hc19=>?_)
  ·have hlt:k<l.length:=L8;have hq0:q[k]'L8=l[k]:=by have:=congrArg (fun z=>z[0]?) hqd;simp only [IP,Kv] at this;rw [sh L8,sh hlt] at this;exact Ke this
   have hv:((aB q).drop (k*2)).take 2=eV l[k]:=by rw [aN (show k<q.length by omega),hq0]
   have hgk:=lS l[k];rw [show (l[k].w==0)=isZ l[k] from rfl] at hgk;have hdrop:q.drop (k+1)=l.drop (k+1):=by have:=congrArg (fun z=>z.drop 1) hqd;simpa only [List.drop_drop] using this
   have hfs:(l.take (k+1)).filter (fun x=> !isZ x)=(l.take k).filter (fun x=> !isZ x)++if isZ l[k]=true then [] else [l[k]]:=by rw [aJ hlt];exact kR _ _ _
   generalize hbk:isZ l[k]=b at*;have hput:=AQ (show m<q.length by omega) l[k];generalize l[k]=x at*;refine Il<|Z2 rfl rfl rfl<|Rs 24 rfl rfl (aa k underlying38 lM rfl rfl rfl rfl L8) ?_;first | refine A3 rfl Mb ?_ | refine A1 rfl ?_
   refine Y2 rfl rfl<|Z2 rfl rfl rfl<|Rs 28 rfl rfl (bb call71 rfl hgk rfl)<|A1 rfl ?_;refine Gc rfl rfl (fun hc29=>?_) (fun hc29=>?_)
   ·refine Z3 rfl rfl rfl rfl<|Rs 33 rfl rfl (aa m underlying38 lM rfl rfl rfl rfl L8)<|RL.step (d:=none) rfl rfl (wD lM rfl rfl rfl rfl (by simp;exact ⟨rfl,rfl⟩) L8) ?_;exact Z3 rfl rfl rfl rfl<|Z3 rfl rfl rfl rfl<|⟨(k+1,m+1,q.set m x),Io (aS rfl) ⟨C4 (b:=some (Ob.cells 49 ((aB q).take (m*2)++eV x++(aB q).drop (m*2+2)))) L9 (congrArg (fun c=>some (Ob.cells 49 c)) hput),trivial⟩ rfl rfl,⟨⟨⟨Me,Me⟩,by simp only [IF];exact hql⟩,⟨by simp only;rw [List.drop_set_of_lt L8];exact hdrop,by simp only;rw [hfs,uv (by intro e;rw [e] at hc29;simp at hc29), ← hqt];exact du L8⟩,by simp only;rw [hfs,uv (by intro e;rw [e] at hc29;simp at hc29),AI, ← hme];rfl⟩,Me⟩
   ·exact Il<|Z3 rfl rfl rfl rfl<|⟨(k+1,m,q),Io (aS rfl) (aO L9) rfl rfl,⟨⟨⟨Me,Me⟩,hql⟩,⟨hdrop,by simp only;rw [hfs,By (by simpa using hc29),Jv];exact hqt⟩,by simp only;rw [hfs,By (by simpa using hc29),Jv];exact hme⟩,Me⟩
  ·have hkn:l.take k=l:=aR L8;rw [hkn] at hqt hme;have hfin:(aB q).take (m*2)=aB (l.filter fun x=> !isZ x):=by rw [(fu q m).1,hqt]
   exact Gx rfl<|Z2 rfl rfl rfl<|Rs 38 rfl rfl (dK m underlying38 lM rfl rfl rfl rfl L8)<|RL.step (d:=none) rfl rfl (vv xi Ma rfl rfl L8)<|Z2 rfl rfl rfl<|Rs 41 rfl rfl (dC m underlying38 lM rfl rfl rfl rfl L8)<|A1 rfl<|Gt rfl<|⟨[(4,.osl big 2 m)],[(big,di (l.filter fun x=> !isZ x))],[.osl big 2 m],Io (aS rfl) ⟨C4 (b:=some (Ob.cells 49 ((aB q).take (m*2)))) L9 (congrArg (fun c=>some (Ob.cells 49 c)) hfin),trivial⟩ rfl rfl,rfl,rfl,rfl,by rw [hme];rfl,rfl⟩
end
section
open Go.RowKit Mk Jn
set_option maxHeartbeats 4000000
def mgR (out:List Rw) (x:Rw):List Rw:=if h:0<out.length then (if out[out.length-1].v=x.v then out.set (out.length-1) ⟨out[out.length-1].v,out[out.length-1].w+x.w⟩ else out++[x]) else out++[x]
structure MgI (out:List Rw) (k:Nat):Prop where
 n:out.length≤k
 v:∀ y∈out,y.v.length≤1000
 w:∀ y∈out, -(1000000*(k:Int))≤y.w∧y.w≤1000000*(k:Int)
 z:0<k→0<out.length
theorem MgI.put {out:List Rw} {k:Nat} (h:MgI out k) {x:Rw} (hv:x.v.length≤1000) (hw: -1000000≤x.w∧x.w≤1000000):MgI (out++[x]) (k+1):=by
 refine ⟨by simp only [AI,FE];have:=h.n;omega,fun y hy=>?_,fun y hy=>?_,fun _=>by simp⟩
 ·rw [Dq,AK] at hy;rcases hy with hy | rfl
  ·exact h.v y hy
  ·exact hv
 ·rw [Dq,AK] at hy;rcases hy with hy | rfl
  ·have:=h.w y hy;omega
  ·omega
theorem MgI.set {out:List Rw} {k:Nat} (h:MgI out k) {i:Nat} (hi:i<out.length) {w:Int} (hw: -1000000≤w∧w≤1000000):MgI (out.set i ⟨out[i].v,out[i].w+w⟩) (k+1):=by
 refine ⟨by simp only [IF];have:=h.n;omega,fun y hy=>?_,fun y hy=>?_,fun _=>by simp only [IF];omega⟩
 ·rcases Ls hy with hy | rfl
  ·exact h.v y hy
  ·show out[i].v.length≤1000;exact h.v _ (af hi)
 ·rcases Ls hy with hy | rfl
  ·have:=h.w y hy;omega
  ·have:=h.w _ (af hi);simp only;omega
theorem wK (l:List Rw) (h0:l≠[]) (hn:l.length<20) (hs:CU l) (hv:∀ x∈l,x.v.length≤1000) (hw:∀ x∈l, -1000000≤x.w∧x.w≤1000000):FnP Tryz.prog 25 [bL l] (· =bL ((l.foldl mgR []).filter fun x=> !isZ x)):=by
 refine FnP.fg2 (FnP.of func25 rfl ntmps25 Mc fun m0 w0 F R0=>?_);have hcp:=mw l 1 L8 hv (fun x hx=>by have:=hw x hx;omega);rw [iT] at hcp;have hst:=rX l l.length rfl hn hs hv;have hlp:0<l.length:=IT.2 h0;have hlc:aB l≠[]:=aW hlp;have hll:=aK l;refine Z1 rfl rfl<|Z1 rfl rfl<|Rs 9 rfl rfl (ah [] 0 call65 hcp rfl rfl rfl rfl trivial Ma rfl)<|A1 rfl<|Im (St.ku 3 rfl rfl hlp hlc)<|Wk [(3,.osl 0 2 l.length)] [(0,di l)] 1 (aS L9) (aO L9) rfl rfl<|Z1 rfl rfl<|Rs 11 rfl rfl (ah [0] 1 call68 hst rfl rfl rfl rfl ⟨rfl,trivial⟩ Ma rfl)<|Z1 rfl rfl<|Im (Iu 4 1 2 49 rfl rfl)<|Z3 rfl rfl rfl rfl ?_;refine Gl rfl (st:=fun x_0:Nat×List Rw=>mkS [(4,.gsl 1 2 x_0.2.length),(12,.osl 0 2 l.length),(13,.pv (.int .i64 l.length)),(14,.pv (.int .i64 x_0.1))] [(0,di l),(1,.gro 49 (aB x_0.2))] 2)
  (I:=fun x_0=>(x_0.1≤l.length∧MgI x_0.2 x_0.1)∧x_0.2=(l.take x_0.1).foldl mgR []) (μ:=fun x_0=>l.length-x_0.1) (x0:=(0,[])) (Io (aS rfl) (aO L9) rfl rfl) (⟨⟨cH _,⟨Cz _,fun _ h=>by simp at h,fun _ h=>by simp at h,fun h=>absurd h Mc⟩⟩,rfl⟩) ?_
 rintro ⟨k,out⟩ ⟨⟨hk,hI⟩,ho⟩;try simp only at hk hI ho ⊢
 have hol:=aK out;refine Z1 rfl rfl ?_;refine Gp rfl rfl (fun hc15=>?_) (fun hc15=>?_)
 ·have hlt:k<l.length:=L8;have hrow:=aN hlt;have hxv:=hv _ (af hlt);have hxw:=hw _ (af hlt);have hfo:(l.take (k+1)).foldl mgR []=mgR out l[k]:=by rw [aJ hlt,Ka, ← ho];rfl
  have hpu:=hI.put hxv hxw;have hse:=fun i (hi:i<out.length)=>hI.set hi hxw
  have hkn:=hI.n;have hkw:=hI.w;have hkv:=hI.v;generalize l[k]=x at*;refine Il<|Gr rfl<|Rs 16 rfl rfl (aa k underlying38 lM rfl rfl rfl rfl L8) ?_;first | refine A3 rfl Mb ?_ | refine A1 rfl ?_
  refine Y2 rfl rfl<|Z3 rfl rfl rfl rfl ?_;by_cases he:out=[]
  ·refine Ge rfl follows [0,1,2,3,4,5,6,7,8,9,10,11,12] L9<|D1 rfl rfl<|Ds 21 [] rfl rfl rfl (fun τ h=>XJ.cast (v':= .pv (.bool false)) (aQ (Ee h 0 rfl rfl) (Ee h 1 rfl rfl) rfl) (congrArg (fun b=>V.pv (.bool b)) (I6 (by rw [he];decide)))) rfl L9 ?_;iterate 11 refine D1 rfl rfl ?_
   refine ⟨L9,?_⟩;refine Gc rfl rfl (fun hc32=>absurd hc32 Mc) (fun hc32=>?_);have hmg:mgR out x=out++[x]:=by unfold mgR;rw [dif_neg (by rw [he];decide)]
   have hsn2:=dW out x;refine Il<|Gr rfl ?_;iterate 5 refine A1 rfl ?_
   exact Z2 rfl rfl rfl<|⟨(k+1,out++[x]),Ip [0,4] ⟨C4 (b:=V.gsl 4 2 (out.length+1)) L9 (congrArg (fun n=>V.gsl 4 2 n) (bW out x)),rfl,rfl,rfl,trivial⟩ ⟨L9,C4 (b:=some (Ob.gro 49 (aB out++eV x))) L9 (congrArg (fun c=>some (Ob.gro 49 c)) hsn2),trivial⟩ rfl rfl Ma rfl,⟨⟨Me,hpu⟩,by simp only;rw [hfo,hmg]⟩,Me⟩
  ·have hpos:0<out.length:=IT.2 he;have hcne:aB out≠[]:=aW hpos;have hq:out.length-1<out.length:=L8;have hov:(aB out)[(out.length-1)*2+0]? =some (aI out[out.length-1].v):=nr hq;have how:=s5 hq;have hom:=af hq;have hob:=hkw _ hom;have heq:=sb out[out.length-1].v x.v (by have:=hkv _ hom;omega) L8;refine Im (St.ku 4 rfl rfl hpos hcne)<|Ge rfl follows [0,1,2,3,4,5,6,7,8,9,10,11,12] L9<|D1 rfl rfl<|Ds 21 [] rfl rfl rfl (fun τ h=>XJ.cast (v':= .pv (.bool true)) (aQ (Ee h 0 rfl rfl) (Ee h 1 rfl rfl) rfl) (congrArg (fun b=>V.pv (.bool b)) (Fz L8))) rfl L9 ?_;iterate 4 refine D1 rfl rfl ?_
   refine Dg 26 [_] rfl rfl rfl rfl (fun τ h=>aa (out.length-1) underlying38 lM (Ee h 0 rfl rfl) (Eo h 0 rfl rfl) (Ee h 1 rfl rfl) L8 hq) rfl L9<|D1 rfl rfl<|Dg 28 [_] rfl rfl rfl rfl (fun τ h=>aC ⟨_,underlying47,rfl⟩ (Ee h 0 rfl rfl) (Eo h 0 rfl rfl) hov) rfl L9<|D1 rfl rfl<|D1 rfl rfl<|Dg 31 [] rfl rfl rfl rfl (fun τ h=>ae call69 heq (h.bt rfl)) rfl L9<|D1 rfl rfl ?_;refine ⟨L9,?_⟩;refine Gc rfl rfl (fun hc32=>?_) (fun hc32=>?_)
   ·have hee:out[out.length-1].v=x.v:=Kb hc32;have hmg:mgR out x=out.set (out.length-1) ⟨out[out.length-1].v,out[out.length-1].w+x.w⟩:=by unfold mgR;rw [dif_pos hpos,By hee]
    have hst9:=qu hq (out[out.length-1].w+x.w);have hse9:=hse _ hq;refine Ge rfl follows [0,1,2,3,4,5,6,7,8,9,10,11] L9<|D1 rfl rfl<|D1 rfl rfl<|D1 rfl rfl<|Ds 36 [_] rfl rfl rfl (fun τ h=>aa (out.length-1) underlying38 lM (Ee h 0 rfl rfl) (Eo h 0 rfl rfl) (Ee h 1 rfl rfl) L8 hq) rfl L9<|D1 rfl rfl<|Ds 38 [_] rfl rfl rfl (fun τ h=>aC ⟨_,underlying3,rfl⟩ (Ee h 0 rfl rfl) (Eo h 0 rfl rfl) how) rfl L9<|D1 rfl rfl<|D1 rfl rfl<|Ds 41 [] rfl rfl rfl (fun τ h=>zl (Ee h 0 rfl rfl) (Ee h 1 rfl rfl) L8) rfl L9<|Ds 42 [_] rfl rfl rfl (fun τ h=>aa (out.length-1) underlying38 lM (Ee h 0 rfl rfl) (Eo h 0 rfl rfl) (Ee h 1 rfl rfl) L8 hq) rfl L9<|D1 rfl rfl<|DL.step (d:=none) [_] rfl rfl rfl (fun τ h=>aF sz3 (Ee h 0 rfl rfl) (Eo h 0 rfl rfl) (Ee h 1 rfl rfl) rfl (by first | omega | (simp;omega))) rfl L9 ?_;refine ⟨L9,?_⟩;refine Im (St.pn 4 rfl rfl hpos (by intro e;have h:=congrArg List.length e;rw [IF] at h;exact hcne (IA h))) ?_;exact Gx rfl<|Z2 rfl rfl rfl<|⟨(k+1,out.set (out.length-1) ⟨out[out.length-1].v,out[out.length-1].w+x.w⟩),Io ⟨C4 (b:=V.gsl 1 2 out.length) L9 (congrArg (fun n=>V.gsl 1 2 n) (IF).symm),rfl,rfl,rfl,trivial⟩ ⟨L9,C4 (b:=some (Ob.gro 49 ((aB out).set ((out.length-1)*2+1) (.int .i64 (out[out.length-1].w+x.w))))) L9 (congrArg (fun c=>some (Ob.gro 49 c)) hst9),trivial⟩ rfl rfl,⟨⟨Me,hse9⟩,by simp only;rw [hfo,hmg]⟩,Me⟩
   ·have hmg:mgR out x=out++[x]:=by unfold mgR;rw [dif_pos hpos,uv (Kt hc32)]
    have hsn2:=dW out x;refine Il<|Im (St.pn 4 rfl rfl hpos hcne)<|Gr rfl ?_;iterate 5 refine A1 rfl ?_
    exact Z2 rfl rfl rfl<|⟨(k+1,out++[x]),Ip [0,4] ⟨C4 (b:=V.gsl 4 2 (out.length+1)) L9 (congrArg (fun n=>V.gsl 4 2 n) (bW out x)),rfl,rfl,rfl,trivial⟩ ⟨L9,C4 (b:=some (Ob.gro 49 (aB out++eV x))) L9 (congrArg (fun c=>some (Ob.gro 49 c)) hsn2),trivial⟩ rfl rfl Ma rfl,⟨⟨Me,hpu⟩,by simp only;rw [hfo,hmg]⟩,Me⟩
 ·have hof:out=l.foldl mgR []:=by rw [ho,show l.take k=l from aR L8]
  have hpos:0<out.length:=hI.z L8;have hcne:aB out≠[]:=aW hpos;have hde:=rF out out.length rfl (by have:=hI.n;omega);exact Im (St.ku 4 rfl rfl hpos hcne)<|Gx rfl<|Z1 rfl rfl<|Rs 50 rfl rfl (ah [1] 2 call70 hde rfl rfl rfl rfl ⟨rfl,trivial⟩ Ma rfl)<|A1 rfl<|Im (Ir 1 rfl rfl)<|Gt rfl<|⟨_,_,rfl,rfl,by rw [hof];rfl⟩
end
section
open Go.RowKit Go.Sort Go.Lib
theorem H8 (w:World) (T:TypeId) (nd:Nat) (hs:nd≤24):Holds (fun (b:UInt8)=>Value.int .u8 (b.toNat:Int)) (w.alloc (.cells zeros24 T)) w.heap.size 0 (Array.replicate nd (0:UInt8)):=fun j hj=>by
 have hj':j<nd:=by simpa using hj
 refine ⟨?_,World.frozen?_alloc_new _ _ _ _⟩;rw [World.cell?_alloc_new,zeros24_at _ L8,getElem!_pos _ j hj];simp
theorem fin0 (w:World) (o:Obj) (dk:Array UInt8) (k:Nat):∃ os,(putRow (fun (b:UInt8)=>Value.int .u8 (b.toNat:Int)) (w.alloc o) w.heap.size 0 dk).drewN k=grow (w.drewN k) os:=by
 rw [alloc_eq_grow];obtain ⟨os',_,e⟩:=putRow_grow_new (fun (b:UInt8)=>Value.int .u8 (b.toNat:Int)) w #[o] w.heap.size 0 dk (Cz _);exact ⟨os',by rw [e];rfl⟩
set_option maxHeartbeats 6400000
theorem pB (u:Nat) (hu64:u<18446744073709551616) (w:World) (htab:Lib.TabIs Tryz.prog w "internal/strconv.uint64pow10" .u64 Lib.pow10Tab):
  Calls Tryz.prog 166 #[.int .u64 u,.int .i64 10] w fun e w'=>e= .returned (.string ⟨(Lib.decDigits u).toArray⟩)∧∃ k os,w'=grow (w.drewN k) os:=by
 by_cases hs:u<100
 ·have hwr:IntKind.i64.wrap (u:Int)=(u:Int):=eT L8;have hlt:((u:Int)<100):=L8
  go_enter func166,ntmps166
  go_wp2_with (fail)
  refine (Tryz.internal_strconv_small u hs _).mono ?_;rintro e w' ⟨rfl,rfl⟩
  go_wp2
  go_ret
  exact ⟨rfl,0, #[],by simp [World.drewN_zero]⟩
 ·have hu1:1≤u:=L8;have hge:¬ ((u:Int)<100):=L8;have hnd20:Lib.nDigits u≤20:=by have:=Lib.numDigits_eq u hu1 hu64;split at this<;>omega
  have hb3:Lib.nDigits u≤23:=L8;have hal:Tryz.prog.arrayLen 255=24:=by simp [Program.arrayLen,underlying255]
  have hsl1:∀ W,(Instr.sliceAt 255 (.pointer (some ⟨w.heap.size,0,none⟩)) none (some (.int .i64 (Lib.nDigits u:Int))) none).run Tryz.prog W= .ok (.slice (some ⟨w.heap.size,0,none⟩) (Lib.nDigits u) 24) W:=fun W=>by
   rw [run_sliceAt_array_h W 255 ⟨w.heap.size,0,none⟩ (by simp [Program.arrayLen,Program.elem,underlying255]) .i64 (Lib.nDigits u:Int) L8 (by rw [hal];omega)]
   go_simp
  have hH0:=H8 w 255 (Lib.nDigits u) L8;have hfmt:=Tryz.internal_strconv_formatBase10 w.heap.size 0 24 u (Array.replicate (Lib.nDigits u) 0) (w.alloc (.cells Lib.zeros24 255)) hH0 (by rw [Array.size_replicate];exact Lib.lt_pow_nDigits u) hu64 (by rw [Array.size_replicate];omega);rw [Array.size_replicate] at hfmt;have HH0:=Lib.hid hH0;clear hH0 hal
  go_enter func166,ntmps166
  go_wp2_with (fail)
  refine (Tryz.internal_strconv_numDigits u hu1 hu64 _ (Lib.tabIs_alloc htab _)).mono ?_;rintro e w' ⟨rfl,rfl⟩
  go_wp2_with (fail)
  refine hfmt.mono ?_;rintro e w' ⟨rfl,k,v',dk,rfl,hF⟩;have hcv:(convert 163 9 (.slice (some ⟨w.heap.size,0,none⟩) (Lib.nDigits u) 24)).run Tryz.prog ((putRow (fun (b:UInt8)=>Value.int .u8 (b.toNat:Int)) (w.alloc (.cells Lib.zeros24 255)) w.heap.size 0 dk).drewN k)= .ok (.string ⟨(Lib.decDigits u).toArray⟩) ((putRow (fun (b:UInt8)=>Value.int .u8 (b.toNat:Int)) (w.alloc (.cells Lib.zeros24 255)) w.heap.size 0 dk).drewN k):=by
   have h:=run_convert_bytes_back (P:=Tryz.prog) ((putRow (fun (b:UInt8)=>Value.int .u8 (b.toNat:Int)) (w.alloc (.cells Lib.zeros24 255)) w.heap.size 0 dk).drewN k) 163 9 5 ⟨w.heap.size,0,none⟩ 24 (Lib.decDigits u) underlying163 underlying5 underlying9 (fun j hj=>by
    rw [Lib.row_is_numeral hF j hj,Lib.add_plain,World.cell?_drewN];exact cell?_putRow (fun (b:UInt8)=>Value.int .u8 (b.toNat:Int)) _ w.heap.size 0 _ dk HH0.out (by rw [hF.size,Array.size_replicate]) j (by rw [hF.size];rw [Lib.decDigits_length] at hj;exact hj))
   rw [Lib.decDigits_length] at h;exact h
  go_wp2
  go_ret
  obtain ⟨os,eo⟩:=fin0 w (.cells Lib.zeros24 255) dk k;exact ⟨rfl,k,os,eo⟩
theorem nE (u:Nat) (hu64:u<18446744073709551616):FnP Tryz.prog 106 [.int .u64 u,.int .i64 10] (· = .str ⟨(Lib.decDigits u).toArray⟩):=by
 have hin:FnP Tryz.prog 166 [.int .u64 u,.int .i64 10] (· = .str ⟨(Lib.decDigits u).toArray⟩):=by
  intro w R us hG hR hrel;obtain ⟨v11,rfl,h11⟩:=nJ hrel;obtain ⟨v12,rfl,h12⟩:=nJ h11;obtain rfl:=kj h12;exact (pB u hu64 w (GQ hG)).mono fun e w' ⟨he,k,os,hw⟩=>⟨_,_,he,rfl,by rw [hw];exact tn w k os,by simp only [RelP]⟩
 refine FnP.of func106 rfl ntmps106 Mc fun m0 w0 F R0=>?_
 exact Z1 rfl rfl<|Z2 rfl rfl rfl<|Rs 7 rfl rfl (ae call166 hin rfl)<|A1 rfl<|Gt rfl<|⟨_,_,rfl,rfl,rfl⟩
end
section
open Go.RowKit Mk Jn
set_option maxHeartbeats 4000000
section
variable {C:Ctx} {n:Nat} {σ:St} {dst:Option Tmp} {ty t t':TypeId} {pos:String} {after:Array Edge} {gd:Option (Nat×Bool)} {x y:Operand}
theorem pI {e:TypeId} {id:Nat} {s:ByteArray} (id':Nat) (he:ElemIs C.P t e (.int .u8 0) 1 1) (hu:C.P.underlying t'=some .string) (hs:σ.ev n x= .gsl id 1 0) (ho:σ.ob id=some (.gro e []))
  (hy:σ.ev n y= .pv (.str s)) (hb:s.size≤1000000000) (h0:0<s.size) (hid:σ.av id'=true):
  XJ C n ⟨dst,.call { callee:= .builtin .append,args:= #[x,y],argTypes:= #[t,t'] },ty,pos,after,gd⟩ σ ⟨.gsl id' 1 s.size,[(id',some (.gro e (az s.data.toList))),(id,none)],[id']⟩:=by
 rintro a w Q ⟨m,R,hw⟩;obtain ⟨A0,c,hev,hkc,hcm,hz,hp⟩:=hw.gsl hs;obtain ⟨rfl,rfl,hmn⟩:=hz rfl;obtain ⟨i,hi,hzz,hsize,hbytes⟩:=info_parts he.info;have hsv:a.eval y= .string s:=hw.str hy;have h63:s.size≤maxLen:=by simp only [maxLen];omega
 have hsl:s.data.toList.length=s.size:=by rw [Ew];rfl
 have hne:az s.data.toList≠[]:=fun e=>by
  have:=congrArg List.length e;simp only [az,Cq,hsl,List.length_nil] at this;omega
 have hrun:=Go.run_append_nil_string (P:=C.P) w t t' ty e i (.int .u8 0) he.u hu hi hzz s L8 L8 (by rw [hbytes];omega);have hgr:w.grownBy (w.drew.alloc (.cells (s.data.map (fun b=>Value.int .u8 b.toNat)++Builtin.zeroCells (Value.int .u8 0).cells (grownCap w s.size 0 e-s.size)) e)) none:=⟨rfl,rfl,rfl,Mc,fun q hq _=>heap_alloc_old w.drew _ hq⟩;have hge:=grownCap_ge w s.size 0 e;have hlm:=grownCap_le_maxLen w s.size 0 e h63;have hz1:(Value.int IntKind.u8 0).cells.size=1:=rfl;have hg:=heap_alloc_new w.drew (.cells (s.data.map (fun b=>Value.int .u8 b.toNat)++Builtin.zeroCells (Value.int .u8 0).cells (grownCap w s.size 0 e-s.size)) e);have hcs':(s.data.map (fun b=>Value.int .u8 b.toNat)++Builtin.zeroCells (Value.int .u8 0).cells (grownCap w s.size 0 e-s.size)).size=grownCap w s.size 0 e:=by
  have:s.data.size=s.size:=rfl;simp only [Array.size_append,Array.size_map,size_zeroCells,hz1];omega
 have htk:(s.data.map (fun b=>Value.int .u8 b.toNat)++Builtin.zeroCells (Value.int .u8 0).cells (grownCap w s.size 0 e-s.size)).toList.take s.size=Lib.strCells s:=by
  rw [Array.toList_append,List.take_left' (by rw [Ew,Array.size_map];rfl),LZ];rfl
 generalize (s.data.map (fun b=>Value.int .u8 b.toNat)++Builtin.zeroCells (Value.int .u8 0).cells (grownCap w s.size 0 e-s.size))=cur' at*;generalize grownCap w s.size 0 e=c' at*;generalize hw':w.drew.alloc (.cells cur' e)=w' at*;have hg2:w'.heap[w.heap.size]? =some (.cells cur' e (0,0)):=hg;unfold Oper.wp;have hexec:(execOp a.eval ⟨dst,.call { callee:= .builtin .append,args:= #[x,y],argTypes:= #[t,t'] },ty,pos,after,gd⟩).run C.P w= .ok (.value (.slice (some ⟨w.heap.size,0,none⟩) s.size c')) w':=by
  unfold execOp;simp only [resolve,invoke,builtin,Sem.run_bind,Sem.run_pure,Result.andThen_ok,Ly,AS,JZ,hev,hsv,hrun]
 rw [hexec];have hcl:(az s.data.toList).length=s.size:=by simp only [az,Cq,hsl]
 refine ⟨_,rfl,upd (upd m id none) id' (some (w.heap.size,cur'.size)),R,?_⟩;rw [Iw];have sub:∀ i x,upd m id none i=some x→m i=some x∧i≠id:=fun i x e=>by
  by_cases hi:i=id
  ·subst hi;rw [au] at e;cases e
  ·rw [aG _ _ hi] at e;exact ⟨e,hi⟩
 refine SW.put ((hw.drop id).fresh hid hg2 hgr (fun q hq=>by cases hq) (fun hh=>?_) (fun i b' N' hi e=>?_) (.inr ?_) (.gro e (az s.data.toList)) ?_ (bQ hne)) dst ?_
 ·have:=hw.hr.rsz _ hh;omega
 ·have:=(hw.hr.own i b' N' (sub i _ hi).1).1;omega
 ·have:=hw.hr.frame.size;omega
 ·intro m' av' hR _ _;refine ⟨cur',hg2,rfl,by rw [hcl,hcs'];exact hge,?_⟩;rw [hcl,htk];exact (jj s).mono hR
 ·simp only [Rel];refine ⟨by simp [avL],_,c',rfl,hge,hlm,fun h=>by omega,fun _ b' N' e'=>?_⟩;rw [au] at e';cases e';exact ⟨rfl,by rw [hcs',Ja]⟩
end
theorem w4 (s:ByteArray) (h0:0<s.size) (hb:s.size≤1000000000):FnO Tryz.prog 105 2 1 [.ptr big 0,.pv (.str s)] [(big,.mix 165 [.pv .nilptr,.gsl 1000001 1 0]),(1000001,.gro 5 [])] (fun v ob'=>v= .tup [.pv (.int .i64 s.size),.pv .niliface]∧ob'=ar [(big,.mix 165 [.ptr big 0,.gsl 0 1 s.size]),(0,.gro 5 (az s.data.toList))]):=by
 refine FnO.of func105 rfl ntmps105 Mc fun m0 w0 F R0=>?_
 have hcc:=u7 0 [];refine Z2 rfl rfl rfl<|Z1 rfl rfl<|Rs 7 rfl rfl (ah [big,1000001] 0 call165 hcc rfl rfl rfl rfl ⟨rfl,rfl,trivial⟩ Ma rfl)<|Gr rfl ?_;iterate 6 refine A1 rfl ?_
 exact Rs 14 rfl rfl (pI 0 F4 underlying9 rfl rfl rfl hb h0 rfl)<|Y3 rfl rfl rfl<|Z4 rfl rfl rfl rfl rfl<|Gt rfl<|⟨[(4,.pv (.int .i64 s.size)),(5,.pv .niliface)],[(big,.mix 165 [.ptr big 0,.gsl 0 1 s.size]),(0,.gro 5 (az s.data.toList))],[.pv (.int .i64 s.size),.pv .niliface],Io (aS rfl) (aO L9) rfl rfl,rfl,rfl,rfl,rfl,rfl⟩
theorem FH (n:Nat):0<(Lib.decDigits n).length:=by
 cases h:Lib.decDigits n with
 | nil=>
   exfalso;rw [Lib.decDigits] at h;split at h<;>simp at h
 | cons a l=>simp
theorem lF (n:Nat) (hn:n<1000000000) (hl:(Lib.decDigits n).length≤1000):FnP Tryz.prog 55 [ec (n:Int)] (· = .str ⟨(Lib.decDigits n).toArray⟩):=by
 refine FnP.of func55 rfl ntmps55 Mc fun m0 w0 F R0=>?_
 have hz:decide ((n:Int)<0)=false:=I6 L8;have hfu:=nE n L8;have hdp:=FH n;rw [show ec (n:Int)= .agg [.bool false,.sl none (aj n).length (bX (aj n))] by show PV.agg [.bool (decide ((n:Int)<0)),z1 ((n:Int).natAbs)]=_;rw [hz];rfl];by_cases h0:n=0
 ·subst h0;rw [aV];refine Z2 rfl rfl rfl<|Z4 rfl rfl rfl rfl rfl ?_;refine Gc rfl rfl (fun hc9=>?_) (fun hc9=>absurd hc9 Mc);exact Z1 rfl rfl<|Gt rfl<|⟨_,_,rfl,rfl,by show PV.str ⟨#[48]⟩=_;rw [Lib.decDigits,dif_pos Ma];rfl⟩
 ·have hlm:aj n=[n]:=by
   rw [aj,uv h0,show n/1000000000=0 by omega,aV,Nat.mod_eq_of_lt hn]
  rw [hlm];have hg0:(bX [n])[0]? =some (.int .u64 (n:Int)):=rfl;generalize hD:Lib.decDigits n=D at*;have hDn:D≠[]:=fun e=>by rw [e] at hdp;simp at hdp
  have hws:=w4 ⟨D.toArray⟩ (show 0<D.length from hdp) (show D.length≤1000000000 by omega);have hbs:=j8 D hDn L8;refine Z2 rfl rfl rfl<|Z4 rfl rfl rfl rfl rfl ?_;refine Gc rfl rfl (fun hc=>absurd hc Mc) (fun hc=>?_);refine Il<|Z1 rfl rfl<|Im (St.er 1 1 2 1 5 rfl rfl rfl)<|Z2 rfl rfl rfl ?_;refine Gc rfl rfl (fun hc=>absurd hc Mc) (fun hc=>?_);refine Il<|Gr rfl ?_;iterate 5 refine A1 rfl ?_
  refine Gl rfl (st:=fun b:Bool=>bif b then mkS [(1,.ptr 0 0),(3,.ptr 1 0),(4,.pv (.int .i64 0))] [(0,.mix 91 [.pv (.bool false),.pv (.sl none 1 (bX [n]))]),(1,.mix 165 [.pv .nilptr,.gsl 2 1 0]),(2,.gro 5 [])] 3 else mkS [(1,.ptr 0 0),(3,.ptr 1 0),(4,.pv (.int .i64 (-1)))] [(0,.mix 91 [.pv (.bool false),.pv (.sl none 1 (bX [n]))]),(1,.mix 165 [.ptr 1 0,.gsl 2 1 D.length]),(2,.gro 5 (az D))] 3)
   (I:=fun _=>True) (μ:=fun b=>bif b then 1 else 0) (x0:=true) (Io (aS rfl) (aO rfl) rfl rfl) trivial ?_
  rintro (_ | _) _
  ·simp only [I4];refine Z2 rfl rfl rfl ?_;refine Gp rfl rfl (fun hc=>absurd hc Ma) (fun hc=>?_);exact Gx rfl<|Gr rfl<|Rs 40 rfl rfl (ah [1,2] 3 call108 hbs rfl rfl rfl rfl ⟨rfl,rfl,trivial⟩ Ma rfl)<|A1 rfl<|Gt rfl<|⟨_,_,rfl,rfl,rfl⟩
  ·simp only [J9];refine Z2 rfl rfl rfl ?_;refine Gp rfl rfl (fun hc=>?_) (fun hc=>absurd hc Ma);refine Il<|Z3 rfl rfl rfl rfl<|Rs 24 rfl rfl (ag 0 underlying89 gk rfl rfl rfl Ma (by simp [bX]))<|Rs 25 rfl rfl (ai ⟨_,underlying136,rfl⟩ rfl hg0)<|Rs 26 rfl rfl (ae call106 hfu rfl)<|A1 rfl<|Gr rfl ?_;iterate 6 refine A1 rfl ?_
   refine Gp rfl rfl (fun hc=>absurd hc Mc) (fun hc=>?_);exact Il<|Z1 rfl rfl<|Rs 39 rfl rfl (ah [1,2] 3 call105 hws rfl rfl rfl rfl ⟨rfl,rfl,trivial⟩ Ma rfl)<|Z3 rfl rfl rfl rfl<|⟨false,Ip [0,1,3] (aT rfl) (aP L9) rfl rfl Ma rfl,trivial,Ma⟩
end
section
open Go.RowKit Mk Jn
set_option maxHeartbeats 4000000
def qp (S:Sch) (d:List (List Rw)) (k:Nat):List (List Rw):=(List.zipWith (fun r l=>gF S r.2 l) S.rels d).take k
def bf (S:Sch) (d:List (List Rw)):List (List Rw):=List.zipWith (fun r l=>gF S r.2 l) S.rels d
theorem wo {S:Sch} {d:List (List Rw)} (hd:d.length=S.rels.length) {k:Nat} (hk:k<S.rels.length):qp S d (k+1)=qp S d k++[gF S S.rels[k].2 (d[k]'L8)]:=by
 unfold qp;rw [aJ Md,List.getElem_zipWith]
theorem zJ {S:Sch} {d:List (List Rw)} (hd:d.length=S.rels.length):qp S d S.rels.length=bf S d:=aR Md
theorem ya {S:Sch} {d:List (List Rw)} (hd:d.length=S.rels.length) {k:Nat} (hk:k≤S.rels.length):(qp S d k).length=k:=by
 unfold qp;simp;omega
theorem wG (S:Sch) (hS:SB S) (hV:Valid S) (hJ:SJn S) (d:List (List Rw)) (hd:d.length=S.rels.length) (hl:∀ l∈d,l.length≤1000) (hv:∀ r (h:r<d.length) (h2:r<S.rels.length),∀ x∈d[r],x.v.length=S.rels[r].2.length):
  FnO Tryz.prog 48 0 2 [.pv (gK S),.pv (dbP d)] [] (fun v ob'=>v= .ptr 0 0∧ob'=ar [(0,oX S (.pv (dbP (bf S d))) (.pv (ak (lstL S))) 1),(1,.mp [] [])]):=by
 refine FnO.of func48 rfl ntmps48 Mc fun m0 w0 F R0=>?_
 have hle:=(iN S hS hV).2;have hr:=hJ.r;have hall:=zJ hd;generalize lstL S=lp at*;have hdl:=dH d;refine Z2 rfl rfl rfl<|Ge rfl follows [0,1,2,3,4,5,6] L9<|D1 rfl rfl<|D1 rfl rfl<|Ds 9 [] rfl rfl rfl (fun τ h=>ae call85 hle (h.bt rfl)) rfl L9<|Ds 10 [] rfl rfl rfl (fun τ h=>fF 1 (h.n 0 _ rfl)) rfl L9<|D1 rfl rfl<|D1 rfl rfl<|D1 rfl rfl ?_;refine ⟨L9,?_⟩;refine Im (St.er 2 4 3 1 38 rfl rfl rfl)<|Z4 rfl rfl rfl rfl rfl ?_;refine Gl rfl (st:=fun x_0:Nat×List (List Rw)=>mkS [(1,.pv (dbP d)),(2,.ptr 0 0),(5,.ptr 2 0),(15,.pv (.int .i64 S.rels.length)),(16,.pv (.int .i64 x_0.1))] [(0,oZ S),(1,.mp [] []),(2,oX S (.gsl 3 1 x_0.2.length) (.pv (ak lp)) 1),(3,.gro 38 (dv x_0.2))] 4)
  (I:=fun x_0=>x_0.1≤S.rels.length∧x_0.2=qp S d x_0.1) (μ:=fun x_0=>S.rels.length-x_0.1) (x0:=(0,[])) (Io (aS rfl) (aO L9) rfl rfl) (⟨cH _,by simp [qp]⟩) ?_
 rintro ⟨k,q⟩ ⟨hk,hq⟩;try simp only at hk hq ⊢
 refine Z1 rfl rfl ?_;refine Gp rfl rfl (fun hc17=>?_) (fun hc17=>?_)
 ·have hlt:k<S.rels.length:=L8;have hkd:k<d.length:=L8;have htr:=cD hkd;have htn:=dN hkd;have hlv:=zS S hJ k hlt d[k] (hl _ (af hkd)) (hv k hkd hlt);have hsu:=wo hd hlt;have hqk:=ya hd hk;rw [← hq] at hqk hsu;have hql:(dv q).length=q.length*1:=dH q;have hsn:=jE q (gF S S.rels[k].2 d[k]);generalize gF S S.rels[k].2 d[k]=lv at*;generalize d[k]=tk at*;refine Il<|Z2 rfl rfl rfl<|Ge rfl follows [0,1,2,3,4,5,6,7,8,9,10,11,12,13,14,15,16] L9 ?_;iterate 9 refine D1 rfl rfl ?_
  refine Ds 28 [] rfl rfl rfl (fun τ h=>ag k underlying36 qk (Ee h 0 rfl rfl) (Ee h 1 rfl rfl) rfl hkd htn) rfl L9<|Ds 29 [] rfl rfl rfl (fun τ h=>ai ⟨_,underlying38,rfl⟩ (Ee h 0 rfl rfl) htr) rfl L9<|Ds 30 [] rfl rfl rfl (fun τ h=>ae call73 hlv (h.bt rfl)) rfl L9 ?_;iterate 5 refine D1 rfl rfl ?_
  refine ⟨L9,?_⟩;exact Z2 rfl rfl rfl<|⟨(k+1,q++[lv]),Ip [0,1,2,5] (aT rfl) ⟨L9,L9,C4 (b:=some (oX S (.gsl 5 1 (q.length+1)) (.pv (ak lp)) 1)) L9 (congrArg (fun n=>some (oX S (.gsl 5 1 n) (.pv (ak lp)) 1)) (bW q lv)),C4 (b:=some (.gro 38 (dv q++[bL lv]))) L9 (congrArg (fun c=>some (Ob.gro 38 c)) hsn),trivial⟩ rfl rfl Ma rfl,⟨Me,by simp only;rw [hsu]⟩,Me⟩
 ·have hqf:q=bf S d:=by rw [hq,show k=S.rels.length by omega,hall]
  rw [hqf];exact Gx rfl<|Im (Ir 3 rfl rfl)<|Z2 rfl rfl rfl<|Gt rfl<|⟨[(4,.ptr 0 0)],[(0,oX S (.pv (dbP (bf S d))) (.pv (ak lp)) 1),(1,.mp [] [])],[.ptr 0 0],Ip [2,1] (aT rfl) (aP L9) rfl rfl Ma rfl,rfl,rfl,rfl,rfl,rfl⟩
end
section
open Go.RowKit Mk Jn
set_option maxHeartbeats 4000000
abbrev jrO (S:Sch) (T:List (List Rw)) (lp:List Int) (D:VD) (l:List Rw):List (Nat×Ob):=[(big,oX S (.pv (dbP T)) (.pv (ak lp)) 1000001),(1000001,.mp [.int .i64 (-1)] [ca D]),(0,.gro 49 (aB l))]
theorem DA (P:List Int):Pre P 0 s0B:=fun a=>by simp
theorem now0B (n:Nat):NowOk n s0B (List.replicate n eb):=⟨Mc,fun a h x e=>(by cases e),fun a _=>rfl⟩
theorem sy (S:Sch) (T:List (List Rw)) (lp:List Int) (pk pv:List PV) (D:VD) (hpl:pr S T lp pk pv D) (P:List Int) (hc:CtxV (jdB S T lp D) P D) (hd:∀ l∈T,l.Pairwise fun a b=>a.v≠b.v) (hw100:∀ l∈T,∀ x∈l,1≤x.w∧x.w≤100) (hr6:S.rels.length≤6) (hwa:D.wa=aD P) (hho:∀ v (hv:v<D.hos.length),D.hos[v]=hoL S P v)
  (l:List Rw) (hl:o9 (jdB S T lp D) P=l) (hll:l.length≤1000000):
  FnO Tryz.prog 52 2 1 [.ptr big 0] (jnO S T lp pk pv) (fun v ob'=>v= .gsl 0 2 l.length∧ob'=ar (jrO S T lp D l)):=by
 refine FnO.of func52 rfl ntmps52 Mc fun m0 w0 F R0=>?_
 have hask:=vP S T lp pk pv D hc.ok.s.a hpl;have htt:=sB (jdB S T lp D) P D hc s0B (fun _=>rfl) (List.replicate S.attrs.length eb) [] (now0B _) (fun p hp=>by cases hp);have hol:=y3 hc;rw [hl] at hol;have hhas:=HO hc s0B;have hof:=iR hc;rw [zt] at hl;have hll2:([]:List Rw).length+(enC (jdB S T lp D) P (hoL (jdB S T lp D).S P) ((aD P).drop 0) s0B 1).length≤1000000:=by
  rw [List.drop_zero,List.length_nil,I9, ← k8 S.attrs.length];exact hl▸hll
 have hgo:=fun now2 M2 h1 h2=>Ey (jdB S T lp D) P D hc hd hw100 hr6 hwa hho (aD P).length 0 L8 s0B now2 M2 1 [] (DA P) (fun a x e=>(by cases e)) (fun a x e=>(by cases e)) h1 h2 Ma (by unfold GY;simp) hll2
 rw [List.drop_zero,JX,show (fun _=>none:Asg ByteArray)=s0B from rfl] at*;rw [show iX (jdB S T lp D).S.attrs.length (enC (jdB S T lp D) P (hoL (jdB S T lp D).S P) (aD P) s0B 1)=l from hl] at hgo;have hemp:fl aU (jdB S T lp D) P (al P (-1)) s0B=false→l=[]:=fun e=>by
  rw [e] at hhas;have h1:(enW (bC (RJ (jdB S T lp D)) sdS) (aD P) s0B).isEmpty=true:=by simpa using hhas.symm
  rw [← hl, ← List.length_eq_zero_iff,k8, ← Cq (f:=(·.1)),hof];exact List.length_eq_zero_iff.2 (List.isEmpty_iff.1 h1)
 clear hol hhas hof hl;generalize fl aU (jdB S T lp D) P (al P (-1)) s0B=fb at*;refine Z1 rfl rfl<|Z1 rfl rfl<|Rs 7 rfl rfl (ah [big,1000001] 0 call96 hask rfl rfl rfl rfl ⟨rfl,rfl,trivial⟩ Ma rfl)<|Y2 rfl rfl<|Im (Io (l:=[(3,.ptr 5 0)]) (os:=(5,.mix 139 [.ptr 4 0])::HG S T lp D) (k:=6) (aS L9) (aO L9) rfl rfl)<|Z1 rfl rfl ?_;refine RL.call rfl (dU (os:=o6B (jdB S T lp D) (wdB D) s0B (List.replicate S.attrs.length eb) [] []) [4,1,2,3,big,1000001] 0 call97 (args:=[.ptr big 0]) (k':=0) L9 L9 L9 L9 ⟨L9,L9,L9,L9,L9,L9,trivial⟩ Ma L9 htt fun v ob' hv=>?_);obtain ⟨now2,M2,hn2,hM2,rfl,rfl⟩:=hv;refine A1 rfl ?_;have hgo2:=hgo now2 M2 hn2 hM2;refine Wk [(3,.ptr 5 0),(10,.pv (.bool (!fb)))] [(4,(oB (wdB D) big 1 S.attrs.length 2 3)),(1,.cells 9 (aA now2)),(2,.cells 4 (ay (stL s0B S.attrs.length))),(3,.mp (ba M2) (bB M2)),(5,.mix 139 [.ptr 4 0]),(big,oX S (.pv (dbP T)) (.pv (ak lp)) 1000001),(1000001,.mp [.int .i64 (-1)] [ca D])] 6 (aS L9) (aO L9) rfl rfl ?_;refine Gc rfl rfl (fun hc10=>?_) (fun hc10=>?_)
 ·have hle:=hemp (by simpa using hc10);subst hle;exact Z1 rfl rfl<|Im (Iu 2 6 2 49 rfl rfl)<|Gt rfl<|⟨[(2,.gsl 0 2 0)],jrO S T lp D [],[.gsl 0 2 0],Is [6] (aT L9) (aP L9) rfl rfl Ma rfl,rfl,rfl,rfl,rfl,rfl⟩
 ·refine Il<|Z1 rfl rfl<|Im (St.er 6 0 7 2 49 rfl rfl rfl)<|Z1 rfl rfl<|Z2 rfl rfl rfl<|Z1 rfl rfl ?_;refine RL.call rfl (qx [4,1,2,3,big,1000001,5,6,8,7] 9 call98 hgo2 rfl rfl rfl rfl rfl ⟨L9,L9,L9,L9,L9,L9,L9,L9,L9,L9,trivial⟩ Ma rfl ?_);rintro _ _ ⟨now4,M4,hn4,hM4,rfl,rfl⟩;exact Z2 rfl rfl rfl<|Gt rfl<|⟨[(2,.gsl 0 2 l.length)],jrO S T lp D l,[.gsl 0 2 l.length],Is [9] (aT L9) (aP L9) rfl rfl Ma rfl,rfl,rfl,rfl,rfl,rfl⟩
end
section
open Go.RowKit Mk Jn
set_option maxHeartbeats 4000000
theorem mH {w:World} {R:Nat→Prop}:∀ {l:List ByteArray} {us:List Value},RelPL w R (aA l) us→us=l.map Value.string
 | [],us,h=>by simpa [RelPL] using h
 | x::l,us,h=>by
   simp only [AS,RelPL,RelP] at h;obtain ⟨u,vs,rfl,rfl,h2⟩:=h;rw [mH h2];rfl
structure RowV (w:World) (R:Nat→Prop) where
 x:Rw
 us:List Value
 rel:RelPL w R (eV x) us
 len:x.v.length≤1000000
theorem E5 (w:World) (R:Nat→Prop):RelPL w R (eV ⟨[],0⟩) [.slice none 0 0,.int .i64 0]:=by
 refine RelPL.cons ?_ (RelPL.cons (by simp only [RelP]) RelPL.nil);simp only [RelP];refine ⟨none,0,rfl,Cz _,by simp [maxLen],?_,?_,?_⟩
 ·intro b h;cases h
 ·intro h;cases h
 ·intro h;exact absurd rfl h
instance (w:World) (R:Nat→Prop):Inhabited (RowV w R):=⟨⟨⟨[],0⟩,_,E5 w R,Mc⟩⟩
theorem RowV.cells {w:World} {R:Nat→Prop} (hR:∀ b,R b→b<w.heap.size) (y:RowV w R):∃ A c,y.us=[.slice A y.x.v.length c,.int .i64 y.x.w]∧Row w R A (GF y.x.v):=by
 have h:=y.rel;simp only [RelPL,RelP] at h;obtain ⟨u,vs,e,⟨A,c,rfl,_,_,_,_,h5⟩,u2,vs2,rfl,rfl,rfl⟩:=h;refine ⟨A,c,e,fun hne=>?_⟩;obtain ⟨b,off,us,rfl,h6,h7,h8⟩:=h5 (fun e=>hne (by rw [List.map_eq_nil_iff] at e ⊢; exact e));have e7:=mH h6;subst e7;exact ⟨b,off,rfl,h7,hR b h7,h8⟩
theorem RowV.G0 {w:World} {R:Nat→Prop} (y:RowV w R):y.us.length=2:=y.rel.length
theorem RowV.one {w:World} {R:Nat→Prop} (y:RowV w R):∀ v∈y.us,v.oneCell'=true:=by
 have h:=y.rel;simp only [RelPL,RelP] at h;obtain ⟨u,vs,e,⟨A,c,rfl,_⟩,u2,vs2,rfl,rfl,rfl⟩:=h;rw [e];intro v hv;simp only [Bd,K9,or_false] at hv;rcases hv with rfl | rfl<;>rfl
theorem tQ {w:World} {R:Nat→Prop}:∀ {l:List Rw} {us:List Value},(∀ x∈l,x.v.length≤1000000)→RelPL w R (aB l) us→∃ ds:List (RowV w R),ds.map (·.x)=l∧ds.flatMap (·.us)=us
 | [],us,_,h=>⟨[],rfl,by simp [aB,RelPL] at h;simp [h]⟩
 | x::l,us,hl,h=>by
   have h0:RelPL w R (eV x++aB l) us:=h;have h1:=h0.take 2;have h2:=h0.drop 2;rw [show (eV x++aB l).take 2=eV x from List.take_left' rfl] at h1;rw [show (eV x++aB l).drop 2=aB l from List.drop_left' rfl] at h2;obtain ⟨ds,e1,e2⟩:=tQ (fun y hy=>hl y (by simp [hy])) h2;exact ⟨⟨x,us.take 2,h1,hl x Mc⟩::ds,by simp [e1],by simp [e2]⟩
theorem pQ {w w':World} {R:Nat→Prop} (hk:∀ b,R b→w'.heap[b]? =w.heap[b]?):∀ (ds:List (RowV w R)),RelPL w' R (aB (ds.map (·.x))) (ds.flatMap (·.us))
 | []=>by simp [aB,RelPL]
 | y::ds=>by
   have h1:RelPL w' R (eV y.x) y.us:=RelPL.mono (fun b hb=>⟨hb,hk b hb⟩) _ _ y.rel;have:=h1.append (pQ hk ds);simpa [aB] using this
theorem EB (a b:List ByteArray):decide (lN a b<0)=aZ a b:=by
 unfold lN;cases h:aZ a b with
 | true=>rw [By rfl];rfl
 | false=>rw [uv Ma];by_cases h2:a=b<;>simp [h2]
theorem H0 {i k:Nat} (h:¬ i=k):Nat.beq i k=false:=by
 cases hb:Nat.beq i k with
 | false=>rfl
 | true=>exact absurd (a6 hb) h
theorem yP {α:Type} (f:α→List ByteArray):Go.Sort.SWO (Go.Proofs.ltOf fun x y:α=>lN (f x) (f y)):=by
 have e:∀ x y:α,Go.Proofs.ltOf (fun x y:α=>lN (f x) (f y)) x y=aZ (f x) (f y):=fun x y=>by
  exact EB (f x) (f y)
 refine ⟨fun x=>by rw [e];exact cz _,fun x y z h1 h2=>?_,fun x y z h1 h2=>?_⟩
 ·rw [e] at *; exact cT h1 h2
 ·rw [e] at*;cases h3:aZ (f x) (f z) with
  | false=>rfl
  | true=>
    cases h4:aZ (f z) (f y) with
    | true=>rw [cT h3 h4] at h1;cases h1
    | false=>rw [gO h2 h4,h3] at h1;cases h1
theorem Bh {α:Type} (f:α→List ByteArray) (x y:α):Go.Proofs.ltOf (fun x y:α=>lN (f x) (f y)) x y=aZ (f x) (f y):=by
 exact EB (f x) (f y)
theorem l3 {α:Type} [Inhabited α] (enc:α→List Value) (hk:∀ x,(enc x).length=2) (d:Array α):(Go.Sort.flatK enc 2 d).toList=d.toList.flatMap enc:=by
 have hfl:(d.toList.flatMap enc).length=d.toList.length*2:=fK enc 2 hk d.toList;apply Jl
 ·rw [Ew,Go.Sort.size_flatK,hfl,Ew]
 ·intro i h1 h2;rw [Ew,Go.Sort.size_flatK] at h1;have hq:i/2<d.size:=L8;have hg:=Go.Sort.get_flatK enc 2 d i h1;rw [getElem!_pos _ i (by rw [Go.Sort.size_flatK];exact h1)] at hg;have hf:=oC enc 2 hk d.toList (i/2) (i%2) (by rw [Ew];exact hq) L8;rw [show i/2*2+i%2=i by omega,sh h2] at hf;rw [Array.getElem_toList,hg,getElem!_pos d (i/2) hq];have hl:i%2<(enc d[i/2]).length:=by rw [hk];omega
  change _=(enc d[i/2])[i%2]? at hf
  rw [sh hl] at hf;rw [getElem!_pos (enc d[i/2]) (i%2) hl];exact (Ke hf).symm
theorem nT (F arr:Array Value) (h:F.size≤arr.size):((Go.Sort.putCells id 0 F arr).toList.take F.size)=F.toList:=by
 apply Jl
 ·simp [Go.Sort.putCells];omega
 ·intro i h1 h2;rw [Ew] at h2;simp only [List.getElem_take,Array.getElem_toList,Go.Sort.putCells,Array.getElem_mapIdx];rw [By ⟨cH _,L8⟩,L5,getElem!_pos F i h2];rfl
theorem ie {α:Type} [Inhabited α] (enc:α→List Value) (w:World) (b n:Nat) (d:Array α) (os:Array Obj) (hb:b<w.heap.size):
  (sortWorldK enc 2 w b 0 n d os).os=w.os∧(sortWorldK enc 2 w b 0 n d os).tape=w.tape∧(sortWorldK enc 2 w b 0 n d os).output=w.output∧w.heap.size≤(sortWorldK enc 2 w b 0 n d os).heap.size∧
  (∀ k,k<w.heap.size→k≠b→(sortWorldK enc 2 w b 0 n d os).heap[k]? =w.heap[k]?)∧∀ arr ty fz,w.heap[b]? =some (.cells arr ty fz)→(sortWorldK enc 2 w b 0 n d os).heap[b]? =some (.cells (Go.Sort.putCells id 0 (Go.Sort.flatK enc 2 d) arr) ty fz):=by
 have hh:(sortWorldK enc 2 w b 0 n d os).heap=(w.heap.modify b (Go.Sort.onCells (Go.Sort.putCells id 0 (Go.Sort.flatK enc 2 d))))++os:=rfl;refine ⟨rfl,rfl,rfl,?_,fun k hk hne=>?_,fun arr ty fz h=>?_⟩
 ·rw [hh];simp
 ·rw [hh,Array.getElem?_append_left (by simpa using hk),Lt,uv (Ne.symm hne)]
 ·rw [hh,Array.getElem?_append_left (by simpa using hb),Lt,By rfl,h];rfl
abbrev jz (l:List Rw):Ob:= .gro 49 (aB l)
theorem w7 (l:List Rw) (hl:l.length≤1000000) (hv:∀ x∈l,x.v.length≤1000000):
  FnO Tryz.prog 53 1 0 [.gsl big 2 l.length,.pv (.fn (.func 54) [] [])] [(big,jz l)] (fun v ob'=>∃ l',l'.Perm l∧(l'.Pairwise fun a b=>aZ b.v a.v=false)∧v= .tup []∧ob'=ar [(big,jz l')]):=by
 intro w m R us hR hrel;simp only [RelL,Rel,RelP] at hrel;obtain ⟨u1,us1,rfl,⟨_,A,c,rfl,hnc,hcm,h0,h1⟩,u2,us2,rfl,⟨fs,cs,rfl,hfs,hcs⟩,rfl⟩:=hrel;obtain rfl:=(by simpa [RelPL] using hfs:fs=[]);obtain rfl:=(by simpa [RelPL] using hcs:cs=[]);have hob:ar [(big,jz l)] big=some (jz l):=rfl;by_cases hn:l=[]
 ·subst hn;refine (AnyF.slices_SortFunc_none Tryz.sortRow A c _ w).mono ?_;rintro e w' ⟨rfl,rfl⟩;refine ⟨.tuple #[],.tup [],_,m,R.p,rfl,⟨[],List.Perm.refl _,List.Pairwise.nil,rfl,rfl⟩,rfl,?_,hR,?_⟩
  ·intro i o h;by_cases hi:i=big
   ·subst hi;rw [hob] at h;cases h;exact ⟨rfl,rfl⟩
   ·exfalso;simp only [ar] at h;rw [H0 hi] at h;cases h
  ·simp only [Rel];exact ⟨[],rfl,by simp only [RelL]⟩
 ·have hpos:0<l.length:=IT.2 hn;have hcl:=aK l;have hreal:(jz l).real=true:=bQ (by intro e;rw [e] at hcl;simp at hcl;omega);have hdom:=hR.dom big;rw [hob] at hdom;obtain ⟨⟨b,N⟩,hm⟩:∃ x,m big=some x:=C1.1 (hdom.trans hreal);obtain ⟨rfl,hN⟩:=h1 hpos b N hm;obtain ⟨arr,hb,harr,hle,hrl⟩:=hR.obj big _ b N hob hm;obtain ⟨hbs,hbR,_⟩:=hR.own big b N hm;obtain ⟨ds,hds,hdu⟩:=tQ hv hrl;have hdl:ds.length=l.length:=by rw [← hds,Cq]
  have hsz:ds.toArray.size=l.length:=by rw [J1,hdl]
  have hF:=l3 (fun y:RowV w R.p=>y.us) (fun y=>y.G0) ds.toArray;have hFs:=Go.Sort.size_flatK (fun y:RowV w R.p=>y.us) 2 ds.toArray;rw [hsz] at hFs;have hH:Go.Sort.HoldsK (fun y:RowV w R.p=>y.us) 2 w b 0 ds.toArray:=by
   intro j hj;rw [hFs] at hj;have hjl:j<(aB l).length:=L8;have e1:(arr.toList.take (aB l).length)[j]? =(Go.Sort.flatK (fun y:RowV w R.p=>y.us) 2 ds.toArray).toList[j]? :=by rw [hF, ← hdu]
   rw [Et,By hjl,Array.getElem?_toList,Array.getElem?_toList] at e1;constructor
   ·simp only [World.cell?,hb,I9];rw [e1,getElem!_pos _ j (by rw [hFs];exact hj)];exact Array.getElem?_eq_getElem _
   ·simp [World.frozen?,hb]
  have hcmp:CmpLays Tryz.prog 54 #[] (fun y:RowV w R.p=>y.us) 2 (fun x y=>lN x.x.v y.x.v) b 0 ds.toArray.size w:=by
   intro mm os dk _ x y;obtain ⟨A1,c1,e1,r1⟩:=x.cells hR.rsz;obtain ⟨A2,c2,e2,r2⟩:=y.cells hR.rsz;obtain ⟨_,_,_,k1,k2,_⟩:=ie (fun y:RowV w R.p=>y.us) w b mm dk os hbs;have hk:∀ b',R.p b'→b'<w.heap.size→(sortWorldK (fun y:RowV w R.p=>y.us) 2 w b 0 mm dk os).heap[b']? =w.heap[b']? :=fun b' h1 h2=>k2 b' h2 fun e=>hbR (e▸h1)
   have:=sj A1 A2 c1 c2 x.x.v y.x.v x.x.w y.x.w (sortWorldK (fun y:RowV w R.p=>y.us) 2 w b 0 mm dk os) (r1.keep k1 fun b' _ _ h1 h2=>hk b' h1 h2) (r2.keep k1 fun b' _ _ h1 h2=>hk b' h1 h2) x.len y.len;show Calls _ _ (#[.agg x.us.toArray,.agg y.us.toArray]++ #[]) _ _;rw [e1,e2,Array.append_empty];exact this
  have hgo:=AnyQ.slices_SortFunc Tryz.sortRow 2 isAgg49 sizeOf49 (fun y:RowV w R.p=>y.us) (fun y=>y.G0) (fun y=>y.one) (fun x y=>lN x.x.v y.x.v) (yP fun y:RowV w R.p=>y.x.v) 54 #[] b 0 c ds.toArray w call54 hcmp hH hbs (by rw [hsz];omega);rw [hsz] at hgo;refine Calls.mono hgo ?_;rintro e w' ⟨rfl,d',n,os,⟨hp1,_,hp2⟩,hs,rfl⟩;obtain ⟨q1,q2,q3,q4,q5,q6⟩:=ie (fun y:RowV w R.p=>y.us) w b n d' os hbs;have hd':d'.size=l.length:=hp1.trans hsz;have hperm:d'.toList.Perm ds:=by
   have e1:d'.extract 0 l.length=d':=by rw [← hd'];simp
   have e2:ds.toArray.extract 0 l.length=ds.toArray:=by rw [← hsz];simp
   rw [e1,e2] at hp2;simpa using hp2
  have hpl:(d'.toList.map (·.x)).Perm l:=hds▸hperm.map (·.x);have hl':(d'.toList.map (·.x)).length=l.length:=hpl.length_eq;have hcl':=aK (d'.toList.map (·.x));have hF':=l3 (fun y:RowV w R.p=>y.us) (fun y=>y.G0) d';have hFs':=Go.Sort.size_flatK (fun y:RowV w R.p=>y.us) 2 d';have hob':ar [(big,jz (d'.toList.map (·.x)))] big=some (jz (d'.toList.map (·.x))):=rfl;have hreal':(jz (d'.toList.map (·.x))).real=true:=bQ (by intro e;rw [e] at hcl';simp only [List.length_nil] at hcl';omega);have hno:∀ {l:List Rw} {i:Nat},i≠big→ar [(big,jz l)] i=none:=fun {l i} hi=>by simp only [ar];rw [H0 hi];rfl
  refine ⟨.tuple #[],.tup [],_,m,R.p,rfl,⟨d'.toList.map (·.x),hpl,?_,rfl,rfl⟩,rfl,?_,?_,?_⟩
  ·rw [List.pairwise_map,Kg];intro i j h1 h2 hij;have:=hs i j (cH _) hij (by rw [Ew] at h2;omega);rw [Bh fun y:RowV w R.p=>y.x.v,getElem!_pos d' j (by simpa using h2),getElem!_pos d' i (by simpa using h1)] at this;simpa using this
  ·intro i o h;by_cases hi:i=big
   ·subst hi;rw [hob'] at h;cases h;exact ⟨rfl,rfl⟩
   ·rw [hno hi] at h;cases h
  ·refine ⟨fun i=>?_,fun i h=>?_,fun i o b' N' h h'=>?_,hR.inj,fun i b' N' h=>?_,fun b' h=>Jo (hR.rsz b' h) q4,fun b' h=>hR.rfr b' h,hR.r0,⟨q1,q2,q3,q4,fun k hk hF=>q5 k hk fun e=>hF (e▸⟨big,N,hm⟩)⟩,hR.keep,hR.res⟩
   ·by_cases hi:i=big
    ·subst hi;rw [hob',hm];exact hreal'.symm
    ·rw [hno hi];have:=hR.dom i;rw [hno hi] at this;exact this
   ·by_cases hi:i=big
    ·subst hi;have:=hR.free _ h;rw [hob] at this;cases this
    ·exact hno hi
   ·by_cases hi:i=big
    ·subst hi;rw [hob'] at h;cases h;rw [hm] at h';cases h';refine ⟨_,q6 arr _ _ hb,?_,?_,?_⟩
     ·simp [Go.Sort.putCells,harr]
     ·rw [hcl',hl', ← hcl];exact hle
     ·rw [show (aB (d'.toList.map (·.x))).length=(Go.Sort.flatK (fun y:RowV w R.p=>y.us) 2 d').size by rw [hFs',hcl',Cq,Ew],nT _ _ (by rw [hFs',hd',harr];omega),hF'];exact pQ (fun b' h=>q5 b' (hR.rsz b' h) fun e=>hbR (e▸h)) d'.toList
    ·rw [hno hi] at h;cases h
   ·have:=hR.own i b' N' h;exact ⟨Jo this.1 q4,this.2⟩
  ·simp only [Rel];exact ⟨[],rfl,by simp only [RelL]⟩
end
section
open Go.RowKit Mk Jn
set_option maxHeartbeats 4000000
structure RowOk (S:Sch) (A:List Int) (low:Int) (x:Rw):Prop where
 l:x.v.length=A.length
 v:∀ i (h:i<x.v.length) (h2:i<A.length),∀ nm,FnP Tryz.prog 179 [.agg [.str nm,.int .i64 (S.attrs.getD A[i].toNat default).2],.str x.v[i]] (· = .bool true)
 w:x.w≠0∧low≤x.w∧x.w≤100
theorem mC {S:Sch} {a:Nat} (h:a<S.attrs.length):S.attrs.getD a default=S.attrs[a]:=by simp [List.getD,h]
theorem sX (S:Sch) (hS:SJn S) (nm:ByteArray) (A:List Int) (hA:A.length≤1000) (hb:∀ a∈A,0≤a∧a<S.attrs.length) (low:Int) (x:Rw) (hx:RowOk S A low x):FnP Tryz.prog 125 [gK S,.agg [.str nm,ak A],sJ x] (· = .bool true):=by
 refine FnP.of func125 rfl ntmps125 Mc fun m0 w0 F R0=>?_
 have hxl:=hx.l;have hSa:=hS.a;refine Z4 rfl rfl rfl rfl rfl<|Z4 rfl rfl rfl rfl rfl ?_;refine Gl rfl (st:=fun x_0:Nat=>mkS [(3,.ptr 0 0),(5,.ptr 2 0),(10,.pv (ak A)),(11,.pv (.int .i64 A.length)),(12,.pv (.int .i64 x_0))] [(0,oZ S),(2,.mix 49 [.pv (aI x.v),.pv (.int .i64 x.w)])] 3)
  (I:=fun x_0=>x_0≤A.length) (μ:=fun x_0=>A.length-x_0) (x0:=(0)) (Io (aS rfl) (aO rfl) rfl rfl) (cH _) ?_
 rintro j hj;refine Z1 rfl rfl ?_;refine Gp rfl rfl (fun hc13=>?_) (fun hc13=>?_)
 ·have hlj:j<A.length:=L8;obtain ⟨a,haa⟩:=BY (hb _ (af hlj)).1;have hal:a<S.attrs.length:=by have:=(hb _ (af hlj)).2;omega
  have hpv:(aE A)[j*1]? =some (.int .i64 (a:Int)):=by rw [← haa];simp [hlj]
  have hpn:=aH hlj;have hjv:j<x.v.length:=L8;have hsv:=aM hjv;have hsn:=bc hjv;have har:=od hal;have han:=lq hal;have hvl:=hx.v j hjv hlj S.attrs[a].1;rw [haa,FJ,mC hal] at hvl;refine Il<|Z2 rfl rfl rfl<|Rs 16 rfl rfl (ai ⟨_,underlying3,rfl⟩ rfl hpv)<|Y2 rfl rfl<|Ge rfl follows [0,1,2,3,4,5,6,7,8,9,10,11] L9<|D1 rfl rfl<|D1 rfl rfl<|D1 rfl rfl<|Ds 20 [] rfl rfl rfl (fun τ h=>ag a underlying28 G1 (Ee h 0 rfl rfl) (Ee h 1 rfl rfl) rfl hal han) rfl L9 ?_;first | refine D3 rfl rfl Mb ?_ | refine D1 rfl rfl ?_
  refine D1 rfl rfl<|D1 rfl rfl<|D1 rfl rfl<|Ds 25 [] rfl rfl rfl (fun τ h=>ag j underlying47 sz9 (Ee h 0 rfl rfl) (Ee h 1 rfl rfl) rfl hjv hsn) rfl L9<|Ds 26 [] rfl rfl rfl (fun τ h=>ai ⟨_,underlying9,rfl⟩ (Ee h 0 rfl rfl) hsv) rfl L9<|Ds 27 [] rfl rfl rfl (fun τ h=>ae call179 hvl (h.bt rfl)) rfl L9<|D1 rfl rfl ?_;refine ⟨L9,?_⟩;refine Gc rfl rfl (fun hc28=>absurd hc28 Mc) (fun hc28=>?_);exact Il<|Z2 rfl rfl rfl<|⟨(j+1),Io (aS rfl) (aO rfl) rfl rfl,L8,L8⟩
 ·exact Gx rfl<|Z1 rfl rfl<|Gt rfl<|⟨_,_,rfl,rfl,rfl⟩
structure TblOk (S:Sch) (A:List Int) (low:Int) (l:List Rw):Prop where
 row:∀ x∈l,RowOk S A low x
 asc:Aj l
theorem xS {l:List Rw} (h:Aj l) {k:Nat} (hk:k+1<l.length):aZ l[k].v l[k+1].v=true:=by
 unfold Aj at h;rw [Kg] at h;exact h k (k+1) L8 hk L8
theorem jd (S:Sch) (hB:SB S) (hS:SJn S) (hV:cI S=0) (r:Nat) (hr:r<S.rels.length) (l:List Rw) (most low:Int) (hm:(l.length:Int)≤most) (hl:l.length≤1000) (hT:TblOk S S.rels[r].2 low l):FnP Tryz.prog 83 [gK S,.int .i64 r,bL l,.int .i64 most,.int .i64 low] (· = .int .i64 0):=by
 refine FnP.of func83 rfl ntmps83 Mc fun m0 w0 F R0=>?_
 have hchk:=tN S hB;rw [hV] at hchk;have hrow:=cW hr;have hrne:=ew hr;have hrl:=hS.l _ (af hr);have hrb:=hS.b _ (af hr);have hSr:=hS.r;have hval:=fun (x:Rw) (hx:RowOk S S.rels[r].2 low x)=>sX S hS S.rels[r].1 S.rels[r].2 hrl hrb low x hx
 have hTr:=hT.row;have hTa:=hT.asc;clear hT;generalize S.rels[r]=rr at*;refine Z2 rfl rfl rfl<|Z1 rfl rfl<|Rs 16 rfl rfl (ae call81 hchk rfl)<|Y2 rfl rfl ?_;refine Gc rfl rfl (fun hc14=>absurd hc14 Mc) (fun hc14=>?_);refine Z3 rfl rfl rfl rfl ?_;apply Ix 6 23 29 [24,25,26,27,28] rfl (by first | exact ax.le | exact ax.aw | exact Iv)
 ·intro hb2;iterate 6 refine A1 rfl ?_
  exact Iq (Ik (Ik (Ik (Ik (Ik (Ik (Ik (fEq.refl) rfl) rfl) rfl) rfl) rfl) rfl) rfl) rfl rfl rfl
 ·intro hb2;iterate 6 refine A1 rfl ?_
  exact Iq (Ik (Ik (Ik (Ik (Ik (Ik (Ik (fEq.refl) rfl) rfl) rfl) rfl) rfl) rfl) rfl) rfl rfl rfl
 refine A1 rfl ?_;refine Gc rfl rfl (fun hc20=>absurd hc20 (fun h=>by simp at h;omega)) (fun hc20=>?_);refine Gr rfl ?_;iterate 5 refine A1 rfl ?_
 refine Gp rfl rfl (fun hc30=>absurd hc30 L8) (fun hc30=>?_);refine Il<|Z4 rfl rfl rfl rfl rfl ?_;first | refine A3 rfl Mb ?_ | refine A1 rfl ?_
 refine Y2 rfl rfl<|Z3 rfl rfl rfl rfl ?_;refine Gl rfl (st:=fun x_0:Nat=>mkS [(2,.pv (bL l)),(4,.pv (.int .i64 low)),(5,.ptr 0 0),(11,.ptr 1 0),(40,.pv (bL l)),(41,.pv (.int .i64 l.length)),(42,.pv (.int .i64 x_0))] [(0,oZ S),(1,.mix 30 [.pv (.str rr.1),.pv (ak rr.2)])] 2)
  (I:=fun x_0=>x_0≤l.length) (μ:=fun x_0=>l.length-x_0) (x0:=(0)) (Io (aS rfl) (aO rfl) rfl rfl) (cH _) ?_
 rintro k hk;refine Z1 rfl rfl ?_;refine Gp rfl rfl (fun hc43=>?_) (fun hc43=>?_)
 ·have hlt:k<l.length:=L8;have hrw:=aN hlt;have hrn:=aW hlt;have hxo:=hTr _ (af hlt);have hvk:=hval _ hxo;have hxl:=hxo.l;obtain ⟨hw1,hw2,hw3⟩:=hxo.w;have hprev:0<k→∃ hq:k-1<l.length,aZ (l[k-1]'hq).v l[k].v=true:=fun h0=>by
   obtain ⟨j,rfl⟩:∃ j,k=j+1:=⟨k-1,L8⟩;exact ⟨by simp only [Nat.add_sub_cancel];omega,by simpa using xS hTa hlt⟩
  have hpl:∀ hq:k-1<l.length,(l[k-1]'hq).v.length=rr.2.length:=fun hq=>(hTr _ (af hq)).l
  have hpr:∀ hq:k-1<l.length,(aB l)[(k-1)*2]? =some (aI (l[k-1]'hq).v):=fun hq=>nr hq
  clear hxo;generalize l[k]=x at*;refine Il<|Z2 rfl rfl rfl ?_;first | refine A3 rfl Mb ?_ | refine A1 rfl ?_
  refine Y3 rfl rfl rfl<|Gr rfl ?_;iterate 8 refine A1 rfl ?_
  refine Gc rfl rfl (fun hc47=>absurd hc47 Md) (fun hc47=>?_);refine Z3 rfl rfl rfl rfl<|Rs 59 rfl rfl (ae call125 hvk rfl)<|Y2 rfl rfl ?_;refine Gc rfl rfl (fun hc55=>absurd hc55 Mc) (fun hc55=>?_);refine Z4 rfl rfl rfl rfl rfl ?_;apply Ix 5 65 70 [66,67,68,69] rfl (by first | exact ax.le | exact ax.aw | exact Iv)
  ·intro hb3;iterate 5 refine A1 rfl ?_
   exact Iq (Ik (Ik (Ik (Ik (Ik (Ik (fEq.refl) rfl) rfl) rfl) rfl) rfl) rfl) rfl rfl rfl
  ·intro hb3;iterate 5 refine A1 rfl ?_
   exact Iq (Ik (Ik (Ik (Ik (Ik (Ik (fEq.refl) rfl) rfl) rfl) rfl) rfl) rfl) rfl rfl rfl
  refine A1 rfl ?_;apply Ix 4 71 75 [72,73,74] rfl (by first | exact ax.le | exact ax.aw | exact Iv)
  ·intro hb9;iterate 4 refine A1 rfl ?_
   exact Iq (Ik (Ik (Ik (Ik (Ik (fEq.refl) rfl) rfl) rfl) rfl) rfl) rfl rfl rfl
  ·intro hb9;iterate 4 refine A1 rfl ?_
   exact Iq (Ik (Ik (Ik (Ik (Ik (fEq.refl) rfl) rfl) rfl) rfl) rfl) rfl rfl rfl
  refine A1 rfl ?_;refine Gc rfl rfl (fun hc61=>absurd hc61 (fun h=>by simp at h;omega)) (fun hc61=>?_);by_cases hk0:k=0
  ·refine Ge rfl follows [0,1,2,3,4,5,6,7,8,9,10,11,12,13,14] L9<|D1 rfl rfl<|Ds 78 [] rfl rfl rfl (fun τ h=>XJ.cast (v':= .pv (.bool false)) (aQ (Ee h 0 rfl rfl) (Ee h 1 rfl rfl) rfl) (congrArg (fun b=>V.pv (.bool b)) (I6 L8))) rfl L9 ?_;iterate 13 refine D1 rfl rfl ?_
   refine ⟨L9,?_⟩;refine Gc rfl rfl (fun hc76=>absurd hc76 Mc) (fun hc76=>?_);exact Il<|Z2 rfl rfl rfl<|⟨(k+1),Io (aS rfl) (aO rfl) rfl rfl,L8,L8⟩
  ·obtain ⟨hq,hls⟩:=hprev L8;have hjl:=xb _ x.v (by rw [hpl hq];omega) L8;rw [hls] at hjl;have hpq:=hpr hq;refine Ge rfl follows [0,1,2,3,4,5,6,7,8,9,10,11,12,13,14] L9<|D1 rfl rfl<|Ds 78 [] rfl rfl rfl (fun τ h=>XJ.cast (v':= .pv (.bool true)) (aQ (Ee h 0 rfl rfl) (Ee h 1 rfl rfl) rfl) (congrArg (fun b=>V.pv (.bool b)) (Fz L8))) rfl L9 ?_;iterate 4 refine D1 rfl rfl ?_
   refine Dg 83 [] rfl rfl rfl rfl (fun τ h=>ag (k-1) underlying38 lM (Ee h 0 rfl rfl) (Ee h 1 rfl rfl) L8 hq hrn) rfl L9<|D1 rfl rfl<|Dg 85 [] rfl rfl rfl rfl (fun τ h=>ai ⟨_,underlying47,rfl⟩ (Ee h 0 rfl rfl) hpq) rfl L9<|D1 rfl rfl<|D1 rfl rfl<|Dg 88 [] rfl rfl rfl rfl (fun τ h=>ae call32 hjl (h.bt rfl)) rfl L9<|D1 rfl rfl<|D1 rfl rfl<|D1 rfl rfl ?_;refine ⟨L9,?_⟩;refine Gc rfl rfl (fun hc76=>absurd hc76 Mc) (fun hc76=>?_);exact Il<|Z2 rfl rfl rfl<|⟨(k+1),Io (aS rfl) (aO rfl) rfl rfl,L8,L8⟩
 ·exact Gx rfl<|Z1 rfl rfl<|Gt rfl<|⟨_,_,rfl,rfl,rfl⟩
theorem CQ (S:Sch) (hB:SB S) (hS:SJn S) (hV:cI S=0) (r:Nat) (hr:r<S.rels.length) (l:List Rw) (hl:l.length≤60) (hT:TblOk S S.rels[r].2 1 l):FnP Tryz.prog 45 [gK S,.int .i64 r,bL l] (· = .int .i64 0):=by
 refine FnP.of func45 rfl ntmps45 Mc fun m0 w0 F R0=>?_
 have hr:=jd S hB hS hV r hr l 60 1 L8 L8 hT;exact Z2 rfl rfl rfl<|Z3 rfl rfl rfl rfl<|Rs 10 rfl rfl (ae call83 hr rfl)<|A1 rfl<|Gt rfl<|⟨_,_,rfl,rfl,rfl⟩
theorem Cl (S:Sch) (hB:SB S) (hS:SJn S) (hV:cI S=0) (d:List (List Rw)) (hd:d.length=S.rels.length) (hl:∀ l∈d,l.length≤60) (hT:∀ r (h:r<d.length) (h2:r<S.rels.length),TblOk S S.rels[r].2 1 d[r]):FnP Tryz.prog 36 [gK S,dbP d] (· = .int .i64 0):=by
 refine FnP.of func36 rfl ntmps36 Mc fun m0 w0 F R0=>?_
 have hchk:=tN S hB;rw [hV] at hchk;have hSr:=hS.r;have hdl:=dH d;refine Z2 rfl rfl rfl<|Z1 rfl rfl<|Rs 10 rfl rfl (ae call81 hchk rfl)<|A1 rfl<|Z2 rfl rfl rfl ?_;refine Gc rfl rfl (fun hc12=>?_) (fun hc12=>?_)
 ·exact Z2 rfl rfl rfl<|Gt rfl<|⟨_,_,rfl,rfl,rfl⟩
 ·refine Il<|Gr rfl ?_;iterate 6 refine A1 rfl ?_
  refine Gc rfl rfl (fun hc19=>absurd hc19 Md) (fun hc19=>?_);refine Il<|Z3 rfl rfl rfl rfl ?_;refine Gl rfl (st:=fun x_0:Nat=>mkS [(2,.ptr 0 0),(20,.pv (dbP d)),(21,.pv (.int .i64 d.length)),(22,.pv (.int .i64 x_0))] [(0,oZ S)] 1)
   (I:=fun x_0=>x_0≤d.length) (μ:=fun x_0=>d.length-x_0) (x0:=(0)) (Io (aS rfl) (aO rfl) rfl rfl) (cH _) ?_
  rintro k hk;refine Z1 rfl rfl ?_;refine Gp rfl rfl (fun hc23=>?_) (fun hc23=>?_)
  ·have hlt:k<d.length:=L8;have htr:=cD hlt;have htn:=dN hlt;have hto:=CQ S hB hS hV k L8 d[k] (hl _ (af hlt)) (hT k hlt L8);generalize d[k]=tk at*;refine Il<|Z1 rfl rfl<|Rs 25 rfl rfl (ag k underlying36 qk rfl rfl rfl hlt htn)<|Rs 26 rfl rfl (ai ⟨_,underlying38,rfl⟩ rfl htr)<|Y2 rfl rfl<|Z3 rfl rfl rfl rfl<|Rs 30 rfl rfl (ae call45 hto rfl)<|A1 rfl<|Z2 rfl rfl rfl ?_;refine Gc rfl rfl (fun hc32=>absurd hc32 Mc) (fun hc32=>?_);exact Il<|Z2 rfl rfl rfl<|⟨(k+1),Io (aS rfl) (aO rfl) rfl rfl,L8,L8⟩
  ·exact Gx rfl<|Z1 rfl rfl<|Gt rfl<|⟨_,_,rfl,rfl,rfl⟩
end
section
open Go.RowKit Mk Jn
end
section
open Go.RowKit Mk Jn
set_option maxHeartbeats 4000000
structure DbOk (S:Sch) (d:List (List Rw)):Prop where
 hB:SB S
 hc:cI S=0
 hS:SJn S
 n:d.length=S.rels.length
 l:∀ l∈d,l.length≤12
 t:∀ r (h:r<d.length) (h2:r<S.rels.length),TblOk S S.rels[r].2 1 d[r]
 zf:∀ l∈d,∀ x∈l,∀ y∈x.v,Zf y∧y.size≤10000
noncomputable abbrev jdX (S:Sch) (T:List (List Rw)):JD:=⟨S,T,ak (lstL S),[.int .i64 (-1)],[ca (planS S)]⟩
noncomputable def joinL (S:Sch) (d:List (List Rw)):List Rw:=(o9 (jdX S (bf S d)) (ordL S (lstL S))).mergeSort fun a b=> !aZ b.v a.v
theorem qz {S:Sch} {d:List (List Rw)} (h:d.length=S.rels.length):(bf S d).length=S.rels.length:=by simp [bf,h]
theorem ur {S:Sch} {d:List (List Rw)} {r:Nat} (hd:r<d.length) (hr:r<S.rels.length) (h:r<(bf S d).length):(bf S d)[r]=gF S S.rels[r].2 d[r]:=by simp [bf]
theorem qQ {S:Sch} {d:List (List Rw)} {l:List Rw} (h:l∈bf S d):∃ l'∈d,List.Sublist l l':=by
 unfold bf at h;obtain ⟨i,hi,e⟩:=Ks.1 h;rw [List.length_zipWith] at hi;refine ⟨d[i]'L8,af _,?_⟩;rw [← e,List.getElem_zipWith];exact Kc
section
variable {S:Sch} {d:List (List Rw)} (h:DbOk S d)
include h
theorem DbOk.val:Valid S:=jF h.hc
theorem DbOk.tab:TabOk S (bf S d) where
 n:=qz h.n
 l:=fun l hl=>by
  obtain ⟨l',h1,h2⟩:=qQ hl;exact C0 h2.length_le (h.l l' h1)
 v:=fun r hr h2 x hx=>by
  have hd:r<d.length:=by rw [h.n];exact h2
  rw [ur hd h2] at hx;exact ((h.t r hd h2).row x (Hf.1 hx).1).l
 zf:=fun l hl x hx=>by
  obtain ⟨l',h1,h2⟩:=qQ hl;exact h.zf l' h1 x (h2.subset hx)
omit h in
theorem EF {l:List Rw} (hl:l∈bf S d):∃ (r:Nat) (hd:r<d.length) (hr:r<S.rels.length),List.Sublist l d[r]:=by
 unfold bf at hl;obtain ⟨i,hi,e⟩:=Ks.1 hl;rw [List.length_zipWith] at hi;refine ⟨i,L8,L8,?_⟩;rw [← e,List.getElem_zipWith];exact Kc
theorem DbOk.dist:∀ l∈bf S d,l.Pairwise fun a b=>a.v≠b.v:=fun l hl=>by
 obtain ⟨r,hd,hr,hs⟩:=EF hl;exact J0 hs ((h.t r hd hr).asc.imp fun {a b} hab e=>by rw [e,cz] at hab;cases hab)
theorem DbOk.wts:∀ l∈bf S d,∀ x∈l,1≤x.w∧x.w≤100:=fun l hl x hx=>by
 obtain ⟨r,hd,hr,hs⟩:=EF hl;exact ((h.t r hd hr).row x (hs.subset hx)).w.2
theorem DbOk.ord:OrdOk S (ordL S (lstL S)):=G9 h.hB h.val
theorem DbOk.ctx:CtxV (jdX S (bf S d)) (ordL S (lstL S)) (planS S):=by
 have:=HF h.ord h.hS h.tab (fun a ha=>h.val.use a ha) (ak (lstL S)) [.int .i64 (-1)] [ca (planS S)];rw [← show planS S=gT S (ordL S (lstL S)) from oj h.ord] at this;exact this
theorem DbOk.out:IsJoin S (bf S d) (o9 (jdX S (bf S d)) (ordL S (lstL S))):=Hx h.ctx h.dist
theorem DbOk.hwa:(planS S).wa=aD (ordL S (lstL S)):=by rw [show planS S=gT S (ordL S (lstL S)) from oj h.ord];rfl
theorem DbOk.hho:∀ v (hv:v<(planS S).hos.length),(planS S).hos[v]=hoL S (ordL S (lstL S)) v:=by
 rw [show planS S=gT S (ordL S (lstL S)) from oj h.ord];intro v hv;simp [gT,hoL,upZ]
omit h in
theorem fh:(joinL S d).Perm (o9 (jdX S (bf S d)) (ordL S (lstL S))):=List.mergeSort_perm _ _
theorem sN:IsJoin S (bf S d) (joinL S d) where
 mem:=fun y=>by rw [(fh (S:=S) (d:=d)).mem_iff];exact h.out.mem y
 nd:=by
  have:=h.out.nd;exact (fh.pairwise_iff fun {a b} hab=>Ne.symm hab).2 this
omit h in
theorem Ek {l:List Rw} (hs:l.Pairwise fun a b=>aZ b.v a.v=false) (hn:l.Pairwise fun a b=>a.v≠b.v):Aj l:=
 (hs.and hn).imp fun {a b} ⟨h1,h2⟩=>by
  cases h3:aZ a.v b.v with
  | true=>rfl
  | false=>exact absurd (gO h3 h1) h2
theorem tG:Aj (joinL S d):=by
 refine Ek ?_ (sN h).nd;have:=List.pairwise_mergeSort (le:=fun a b:Rw=> !aZ b.v a.v) (fun a b c h1 h2=>by
  have h1':aZ b.v a.v=false:=by simpa using h1
  have h2':aZ c.v b.v=false:=by simpa using h2
  cases h3:aZ c.v a.v with
  | false=>rfl
  | true=>
    cases h4:aZ a.v b.v with
    | true=>rw [cT h3 h4] at h2';cases h2'
    | false=>rw [gO h4 h1',h2'] at h3;cases h3) (fun a b=>by
  cases h3:aZ b.v a.v with
  | false=>rfl
  | true=>
    cases h4:aZ a.v b.v with
    | false=>rfl
    | true=>have:=cT h3 h4;rw [cz] at this;cases this) (o9 (jdX S (bf S d)) (ordL S (lstL S)))
 exact this.imp fun {a b} hab=>by simpa using hab
theorem ER {l':List Rw} (hp:l'.Perm (o9 (jdX S (bf S d)) (ordL S (lstL S)))) (hs:l'.Pairwise fun a b=>aZ b.v a.v=false):l'=joinL S d:=by
 have hn:l'.Pairwise fun a b=>a.v≠b.v:=(hp.pairwise_iff fun {a b} hab=>Ne.symm hab).2 h.out.nd
 exact vd (Ek hs hn) (tG h) fun y=>by rw [hp.mem_iff,fh.mem_iff]
theorem pL:(joinL S d).length=fl bG (jdX S (bf S d)) (ordL S (lstL S)) (al (ordL S (lstL S)) (-1)) fun _=>none:=by
 rw [(fh (S:=S) (d:=d)).length_eq];exact y3 h.ctx
theorem DbOk.check:FnP Tryz.prog 36 [gK S,dbP d] (· = .int .i64 0):=Cl S h.hB h.hS h.hc d h.n (fun l hl=>by have:=h.l l hl;omega) h.t
theorem DbOk.new:FnO Tryz.prog 48 0 2 [.pv (gK S),.pv (dbP d)] [] (fun v ob'=>v= .ptr 0 0∧ob'=ar [(0,oX S (.pv (dbP (bf S d))) (.pv (ak (lstL S))) 1),(1,.mp [] [])]):=
 wG S h.hB h.val h.hS d h.n (fun l hl=>by have:=h.l l hl;omega) fun r hr h2 x hx=>((h.t r hr h2).row x hx).l
theorem DbOk.plan0:pr S (bf S d) (lstL S) [] [] (planS S):=Ax S h.hB h.val (bf S d) (lstL S) (iN S h.hB h.val).1 (planS S) (He S h.hB h.ord)
theorem DbOk.Dw:FnO Tryz.prog 49 2 0 [.ptr big 0] (jnO S (bf S d) (lstL S) [] []) (fun v ob'=>v=xg (joinL S d).length∧ob'=ar (jnO S (bf S d) (lstL S) [.int .i64 (-1)] [ca (planS S)])):=by
 have:=vD S (bf S d) (lstL S) [] [] (planS S) h.plan0 (ordL S (lstL S)) h.ctx;rw [pL h];exact this
end
def pJ (l:List Rw):PV:=if 2000<l.length then .tup [bL [],.int .i64 3] else .tup [bL l,.int .i64 0]
theorem fl_12 {S:Sch} {d:List (List Rw)} (h:DbOk S d):(joinL S d).length≤12^12:=by
 rw [pL h];have h1:=valL_le (gm (J:=jdX S (bf S d)) h.ctx.t12) ((al (ordL S (lstL S)) (-1)).map (a7 (ordL S (lstL S)) (ordL S (lstL S)).length)) (fun _=>none);have h2:=qN h.ord.dP;have h3:(ordL S (lstL S)).length≤12:=n12 h.ord;exact C0 h1 (Kd Ma L8)
theorem iH (S:Sch) (d:List (List Rw)) (h:DbOk S d):FnP Tryz.prog 12 [gK S,dbP d] (· =pJ (joinL S d)):=by
 refine FnP.fg2 (FnP.of func12 rfl ntmps12 Mc fun m0 w0 F R0=>?_);have hchk:=h.check;have hnew:=h.new;have hsz:=h.Dw;have h12:=fl_12 h;have hll:(aj ((((joinL S d).length:Nat):Int)).natAbs).length≤1000000:=mV (ig h12 Ma);have hof:=fO 2000 Ma Ma;have hl2:(aj ((2000:Int)).natAbs).length≤1000000:=by rw [show (2000:Int).natAbs=2000 from rfl];exact mV (a:=2000) (ig (k:=4) Ma Ma)
 have hcmp:=gl (((joinL S d).length:Nat):Int) 2000 hll hl2;have hpl:=Cm S (bf S d) (lstL S) (planS S);have hol:(o9 (jdX S (bf S d)) (ordL S (lstL S))).length=(joinL S d).length:=fh.length_eq.symm;have htup:=fun hll=>sy S (bf S d) (lstL S) [.int .i64 (-1)] [ca (planS S)] (planS S) hpl (ordL S (lstL S)) h.ctx h.dist h.wts h.val.r2 h.hwa h.hho (o9 (jdX S (bf S d)) (ordL S (lstL S))) rfl hll
 have hvl:∀ x∈o9 (jdX S (bf S d)) (ordL S (lstL S)),x.v.length≤1000000:=fun x hx=>by
  have:=((h.out.mem x).1 hx).1;have:=h.hB.a;omega
 have hsrt:=fun hll=>w7 (o9 (jdX S (bf S d)) (ordL S (lstL S))) hll hvl
 have hjo:=fun l'=>ER (l':=l') h
 have hbp:∀ l,pJ l=if 2000<l.length then .tup [bL [],.int .i64 3] else .tup [bL l,.int .i64 0]:=fun l=>rfl
 clear h12 hll hl2 hvl hpl;generalize joinL S d=JL at*;generalize o9 (jdX S (bf S d)) (ordL S (lstL S))=OL at*;refine Z3 rfl rfl rfl rfl<|Z2 rfl rfl rfl<|Rs 11 rfl rfl (ae call36 hchk rfl)<|A1 rfl<|Z2 rfl rfl rfl ?_;refine Gc rfl rfl (fun hc13=>absurd hc13 Mc) (fun hc13=>?_);refine Il<|Z2 rfl rfl rfl<|Rs 17 rfl rfl (ah [] 1 call48 hnew rfl rfl rfl rfl trivial Ma rfl)<|A1 rfl<|Wk [(7,.ptr 1 0)] [(1,oX S (.pv (dbP (bf S d))) (.pv (ak (lstL S))) 2),(2,.mp [] [])] 3 (aS L9) (aO L9) rfl rfl<|Z1 rfl rfl<|Rs 19 rfl rfl (ah [1,2] 3 call49 hsz rfl rfl rfl rfl ⟨L9,L9,trivial⟩ Ma rfl)<|Rs 20 rfl rfl (ae call51 hof rfl)<|Rs 21 rfl rfl (ae call50 hcmp rfl)<|A1 rfl<|Wk [(7,.ptr 1 0),(22,.pv (.bool (decide (((((JL.length:Nat):Int))-2000).sign>0))))] [(1,oX S (.pv (dbP (bf S d))) (.pv (ak (lstL S))) 2),(2,.mp [.int .i64 (-1)] [ca (planS S)])] 3 (aS L9) (aO L9) rfl rfl ?_;refine Gp rfl rfl (fun hc22=>?_) (fun hc22=>?_)
 ·have hbig:2000<JL.length:=by
   have:0<(((JL.length:Nat):Int)-2000).sign:=hc22;have:=Int.sign_pos_iff.1 this;omega
  exact Z2 rfl rfl rfl<|Gt rfl<|⟨_,_,rfl,rfl,by rw [hbp,By hbig];rfl⟩
 ·have hsm:¬ 2000<JL.length:=fun hb=>hc22 (by
   have:0<(((JL.length:Nat):Int)-2000).sign:=Int.sign_pos_iff.2 L8;exact this)
  have htu:=htup L8;have hso:=hsrt L8;refine Il<|Z1 rfl rfl<|Rs 24 rfl rfl (ah [1,2] 3 call52 htu rfl rfl rfl rfl ⟨L9,L9,trivial⟩ Ma rfl)<|A1 rfl<|Wk [(8,.gsl 3 2 OL.length)] [(3,jz OL)] 4 (aS L9) (aO L9) rfl rfl<|Z1 rfl rfl ?_;refine RL.call rfl (dU (os:=[(big,jz OL)]) [3] 4 call53 (args:=[.gsl big 2 OL.length,.pv (.fn (.func 54) [] [])]) (k':=0) L9 L9 L9 L9 ⟨L9,trivial⟩ Ma L9 hso fun v ob' hv=>?_);obtain ⟨l',hp',hs',rfl,rfl⟩:=hv;have hle:=hp'.length_eq;have hje:=hjo l' hp' hs';refine Wk [(8,.gsl 3 2 OL.length)] [(3,jz l')] 4 (aS L9) (aO L9) rfl rfl ?_;subst hje;exact Im (Ir 3 rfl rfl)<|Z3 rfl rfl rfl rfl<|Gt rfl<|⟨_,_,rfl,rfl,by rw [hbp,uv hsm, ← hle];rfl⟩
theorem En:∀ k n,n<10^(k+1)→(Lib.decDigits n).length≤k+1
 | 0,n,h=>by rw [Lib.decDigits,dif_pos L8];simp
 | k+1,n,h=>by
   rw [Lib.decDigits];split
   ·simp
   ·have:=En k (n/10) (by rw [Ky] at h;omega);simp only [AI,FE];omega
theorem Ff {n:Nat} (h:n<1000000000):(Lib.decDigits n).length≤1000:=by
 have:=En 8 n (by simpa using h);omega
theorem mI (S:Sch) (d:List (List Rw)) (h:DbOk S d) (hn:(joinL S d).length<1000000000):FnP Tryz.prog 13 [gK S,dbP d] (· = .tup [.str ⟨(Lib.decDigits (joinL S d).length).toArray⟩,.int .i64 0]):=by
 refine FnP.of func13 rfl ntmps13 Mc fun m0 w0 F R0=>?_
 have hchk:=h.check;have hnew:=h.new;have hsz:=h.Dw;have hst:=lF (joinL S d).length hn (Ff hn);generalize joinL S d=JL at*;refine Z3 rfl rfl rfl rfl<|Z2 rfl rfl rfl<|Rs 9 rfl rfl (ae call36 hchk rfl)<|A1 rfl<|Z2 rfl rfl rfl ?_;refine Gc rfl rfl (fun hc11=>absurd hc11 Mc) (fun hc11=>?_);exact Il<|Z2 rfl rfl rfl<|Rs 15 rfl rfl (ah [] 1 call48 hnew rfl rfl rfl rfl trivial Ma rfl)<|Rs 16 rfl rfl (ah [1,2] 3 call49 hsz rfl rfl rfl rfl ⟨L9,L9,trivial⟩ Ma rfl)<|Rs 17 rfl rfl (ae call55 hst rfl)<|Y2 rfl rfl<|Gt rfl<|⟨_,_,rfl,rfl,rfl⟩
end
section
open Go.RowKit Mk Jn
set_option maxHeartbeats 4000000
theorem Bv (S:Sch) (hB:SB S) (hS:SJn S) (hV:cI S=0) (r:Nat) (hr:r<S.rels.length) (l:List Rw) (hl:l.length≤120) (hT:TblOk S S.rels[r].2 (-100) l):FnP Tryz.prog 40 [gK S,.agg [.int .i64 r,bL l]] (· = .int .i64 0):=by
 refine FnP.of func40 rfl ntmps40 Mc fun m0 w0 F R0=>?_
 have hro:=jd S hB hS hV r hr l 120 (-100) L8 L8 hT;refine Z3 rfl rfl rfl rfl<|Gr rfl ?_;iterate 5 refine A1 rfl ?_
 exact Rs 10 rfl rfl (ae call83 hro rfl)<|A1 rfl<|Gt rfl<|⟨_,_,rfl,rfl,rfl⟩
theorem wB (S:Sch) (d:List (List Rw)) (h:DbOk S d) (r:Nat) (hrd:r<d.length) (hr:r<S.rels.length) (x:List Rw) (hx:TblOk S S.rels[r].2 (-100) x) (hxl:x.length<8) (hne:d[r]≠[]) (hs:CU (d[r]++x)) (hA:S.rels[r].2.length≤1000)
  (nx:List Rw) (hnx:(((d[r]++x).foldl mgR []).filter fun x=> !isZ x)=nx) (hok:(nx.any fun x=>decide (x.w<0)||decide (x.w>100))=false) (hnl:nx.length≤60) (hnv:∀ y∈nx,y.v.length≤1000∧ -1000000≤y.w∧y.w≤1000000):
  FnP Tryz.prog 24 [gK S,dbP d,.agg [.int .i64 r,bL x]] (· = .tup [dbP (d.set r nx),.int .i64 0]):=by
 refine FnP.fg2 (FnP.of func24 rfl ntmps24 Mc fun m0 w0 F R0=>?_);have hchk:=h.check;have hdel:=Bv S h.hB h.hS h.hc r hr x L8 hx;have htr:=cD hrd;have htn:=dN hrd;have hrow:∀ k (hk:k<d.length),d[k].length≤12∧∀ y∈d[k],y.v.length≤1000∧ -1000000≤y.w∧y.w≤1000000:=fun k hk=>by
  have hk2:k<S.rels.length:=by have:=h.n;omega
  refine ⟨h.l _ (af hk),fun y hy=>?_⟩;have:=(h.t k hk hk2).row y hy;have hsl:=h.hS.l _ (af hk2);have hwl:=this.l;have hww:=this.w;exact ⟨L8,L8,L8⟩
 have hxr:∀ y∈x,y.v.length≤1000∧ -1000000≤y.w∧y.w≤1000000:=fun y hy=>by
  have:=hx.row y hy;have hwl:=this.l;have hww:=this.w;exact ⟨L8,L8,L8⟩
 have hdr:=hrow r hrd;have hcp:=mw d[r] 1 L8 (fun y hy=>(hdr.2 y hy).1) (fun y hy=>by have:=hdr.2 y hy;omega);rw [iT] at hcp;have hall:∀ y∈d[r]++x,y.v.length≤1000∧ -1000000≤y.w∧y.w≤1000000:=fun y hy=>by
  rcases Dq.1 hy with hy | hy
  ·exact hdr.2 y hy
  ·exact hxr y hy
 have hso:=wK (d[r]++x) (by simp [hne]) (by rw [AI];omega) hs (fun y hy=>(hall y hy).1) (fun y hy=>(hall y hy).2);rw [hnx] at hso;have hco:=v8 nx L8 67 _ call67 (fun y _=>su y);rw [hok] at hco;have hsn:(d.set r nx).length=d.length:=IF;have hcps:∀ k (hk:k<d.length),FnP Tryz.prog 65 [bL ((d.set r nx)[k]'L8),.int .i64 1] (· =bL ((d.set r nx)[k]'L8)):=fun k hk=>by
  have:=zT ((d.set r nx)[k]'L8) 1;rw [iT] at this;rw [Li] at this ⊢;by_cases e:r=k
  ·rw [By e] at this ⊢;exact this L8 (fun y hy=>(hnv y hy).1) (fun y hy=>by have:=hnv y hy;omega)
  ·rw [uv e] at this ⊢;have hk2:=hrow k hk;exact this L8 (fun y hy=>(hk2.2 y hy).1) (fun y hy=>by have:=hk2.2 y hy;omega)
 have hdl:=dH d;have hdn:d.length≤1000:=by have:=h.n;have:=h.hS.r;omega
 have hrp:0<d[r].length:=IT.2 hne;have hrc:=aK d[r];have hxc:=aK x;have hxlf:=dw x;have hxa:=fj d[r] x;have hge:∀ k (hk:k<d.length),((d.set r nx)[k]'L8)=if r=k then nx else d[k]:=fun k hk=>Li ..
 have hel:r<d.length:=hrd;have hdr12:=hdr.1;have hso2:FnP Tryz.prog 25 [.sl none (d[r].length+x.length) (aB d[r]++aB x)] (· =bL nx):=by rw [← hxa, ← AI];exact hso
 clear hrow hdr hall hnx hs hok hxr;refine Z4 rfl rfl rfl rfl rfl<|Z2 rfl rfl rfl<|Rs 16 rfl rfl (ae call36 hchk rfl)<|A1 rfl<|Z2 rfl rfl rfl ?_;refine Gc rfl rfl (fun hc18=>absurd hc18 Mc) (fun hc18=>?_);refine Il<|Z2 rfl rfl rfl<|Rs 22 rfl rfl (ae call40 hdel rfl)<|A1 rfl<|Z2 rfl rfl rfl ?_;refine Gc rfl rfl (fun hc24=>absurd hc24 Mc) (fun hc24=>?_);refine Il<|Ge rfl follows [0,1,2,3,4,5,6,7,8,9,10] L9<|D1 rfl rfl<|D1 rfl rfl<|D1 rfl rfl<|Ds 29 [] rfl rfl rfl (fun τ h=>ag r underlying36 qk (Ee h 0 rfl rfl) (Ee h 1 rfl rfl) rfl hrd htn) rfl L9<|Ds 30 [] rfl rfl rfl (fun τ h=>ai ⟨_,underlying38,rfl⟩ (Ee h 0 rfl rfl) htr) rfl L9<|Ds 31 [] rfl rfl rfl (fun τ h=>ah [] 2 call65 hcp (h.args.trans rfl) rfl rfl rfl trivial Ma ((LC _).trans (h.n 0 _ rfl))) rfl L9<|D1 rfl rfl<|D1 rfl rfl<|Ds 34 [2] rfl rfl rfl (fun τ h=>sG xi (Ee h 0 rfl rfl) (Eo h 0 rfl rfl) hrc (.inl ⟨none,(Ee h 1 rfl rfl)⟩) hxc hxlf L8 hrp) rfl L9<|Ds 35 [] rfl rfl rfl (fun τ h=>ae call25 hso2 (h.bt rfl)) rfl L9<|D1 rfl rfl ?_;refine ⟨L9,?_⟩;refine Wk [(1,.pv (dbP d)),(5,.ptr 1 0),(10,.pv (bL nx))] [(1,.mix 59 [.pv (.int .i64 r),.pv (bL x)])] 2 (aS L9) (aO L9) rfl rfl<|Z1 rfl rfl<|Rs 37 rfl rfl (ae call66 hco rfl) ?_;refine Gc rfl rfl (fun hc37=>absurd hc37 Mc) (fun hc37=>?_);refine Il<|Z3 rfl rfl rfl rfl ?_;refine Gp rfl rfl (fun hc40=>absurd hc40 L8) (fun hc40=>?_);refine Il<|Z1 rfl rfl<|Im (Iu 11 2 1 38 rfl rfl)<|Z3 rfl rfl rfl rfl ?_;refine Gl rfl (st:=fun x_0:Nat×List (List Rw)=>mkS [(5,.ptr 1 0),(10,.pv (bL nx)),(11,.gsl 2 1 x_0.2.length),(41,.pv (dbP d)),(42,.pv (.int .i64 d.length)),(43,.pv (.int .i64 x_0.1))] [(1,.mix 59 [.pv (.int .i64 r),.pv (bL x)]),(2,.gro 38 (dv x_0.2))] 3)
  (I:=fun x_0=>x_0.1≤d.length∧x_0.2=(d.set r nx).take x_0.1) (μ:=fun x_0=>d.length-x_0.1) (x0:=(0,[])) (Io (aS rfl) (aO L9) rfl rfl) (⟨cH _,rfl⟩) ?_
 rintro ⟨k,q⟩ ⟨hk,hq⟩;try simp only at hk hq ⊢
 refine Z1 rfl rfl ?_;refine Gp rfl rfl (fun hc44=>?_) (fun hc44=>?_)
 ·have hlt:k<d.length:=L8;have htk:=cD hlt;have htkn:=dN hlt;have hck:=hcps k hlt;have hqs:(d.set r nx).take (k+1)=q++[(d.set r nx)[k]'L8]:=by rw [aJ L8,hq]
  have hgk:=hge k hlt;have hql:(dv q).length=q.length*1:=dH q;have hqn:q.length=k:=by rw [hq,BX];omega
  refine Il<|Z1 rfl rfl<|Rs 46 rfl rfl (ag k underlying36 qk rfl rfl rfl hlt htkn)<|Rs 47 rfl rfl (ai ⟨_,underlying38,rfl⟩ rfl htk)<|Y2 rfl rfl<|Z4 rfl rfl rfl rfl rfl ?_;refine Gc rfl rfl (fun hc51=>?_) (fun hc51=>?_)
  ·have hkr0:(k:Int)=r:=by simpa using hc51
   have hkr:r=k:=L8;rw [By hkr] at hgk;rw [hgk] at hck hqs;have hsn2:=jE q nx;exact Z2 rfl rfl rfl<|Z2 rfl rfl rfl<|Rs 55 rfl rfl (ae call65 hck rfl)<|Y3 rfl rfl rfl<|Z2 rfl rfl rfl<|⟨(k+1,q++[nx]),Ip [0,1,4] ⟨rfl,rfl,C4 (b:=V.gsl 4 1 (q.length+1)) L9 (congrArg (fun n=>V.gsl 4 1 n) (bW q nx)),rfl,rfl,rfl,trivial⟩ ⟨L9,C4 (b:=some (Ob.gro 38 (dv q++[bL nx]))) L9 (congrArg (fun c=>some (Ob.gro 38 c)) hsn2),trivial⟩ rfl rfl Ma rfl,⟨Me,by simp only;rw [hqs]⟩,Me⟩
  ·have hkr:¬ r=k:=fun e=>by subst e;simp at hc51
   rw [uv hkr] at hgk;rw [hgk] at hck hqs;have hsn2:=jE q d[k];exact Il<|Z2 rfl rfl rfl<|Rs 55 rfl rfl (ae call65 hck rfl)<|Y3 rfl rfl rfl<|Z2 rfl rfl rfl<|⟨(k+1,q++[d[k]]),Ip [0,1,4] ⟨rfl,rfl,C4 (b:=V.gsl 4 1 (q.length+1)) L9 (congrArg (fun n=>V.gsl 4 1 n) (bW q d[k])),rfl,rfl,rfl,trivial⟩ ⟨L9,C4 (b:=some (Ob.gro 38 (dv q++[bL d[k]]))) L9 (congrArg (fun c=>some (Ob.gro 38 c)) hsn2),trivial⟩ rfl rfl Ma rfl,⟨Me,by simp only;rw [hqs]⟩,Me⟩
 ·have hqf:q=d.set r nx:=by rw [hq,aR L8]
  exact Gx rfl<|Im (Ir 2 rfl rfl)<|Z3 rfl rfl rfl rfl<|Gt rfl<|⟨_,_,rfl,rfl,by rw [hqf];rfl⟩
theorem vK (a:List Rw) (ha:a.length≤1000000) (hv:∀ x∈a,x.v.length≤1000000):FnP Tryz.prog 19 [bL a,bL a] (· = .bool true):=by
 refine FnP.of func19 rfl ntmps19 Mc fun m0 w0 F R0=>?_
 refine Z1 rfl rfl<|Gr rfl ?_;iterate 5 refine A1 rfl ?_
 refine Gc rfl rfl (fun hc10=>absurd hc10 Mc) (fun hc10=>?_);refine Il<|Z3 rfl rfl rfl rfl ?_;refine Gl rfl (st:=fun x_0:Nat=>mkS [(0,.pv (bL a)),(1,.pv (bL a)),(12,.pv (.int .i64 a.length)),(13,.pv (.int .i64 x_0))] [] 0)
  (I:=fun x_0=>x_0≤a.length) (μ:=fun x_0=>a.length-x_0) (x0:=(0)) (Io (aS rfl) trivial rfl rfl) (cH _) ?_
 rintro k hk;refine Z1 rfl rfl ?_;refine Gp rfl rfl (fun hc14=>?_) (fun hc14=>?_)
 ·have hlt:k<a.length:=L8;have hov:(aB a)[k*2+0]? =some (aI a[k].v):=nr hlt;have how:=s5 hlt;have hne:=aW hlt;have htx:=mO a[k].v a[k].v (hv _ (af hlt)) (hv _ (af hlt));rw [show decide (a[k].v=a[k].v)=true from Fz rfl] at htx;generalize a[k]=x at*;refine Il<|Z2 rfl rfl rfl<|Ge rfl follows [0,1,2,3,4,5,6,7,8,9,10,11,12,13,14,15,16,17,18,19,20,21,22,23,24] L9<|D1 rfl rfl<|D1 rfl rfl<|Ds 18 [] rfl rfl rfl (fun τ h=>ag k underlying38 lM (Ee h 0 rfl rfl) (Ee h 1 rfl rfl) rfl hlt hne) rfl L9<|D1 rfl rfl<|Ds 20 [] rfl rfl rfl (fun τ h=>ai ⟨_,underlying3,rfl⟩ (Ee h 0 rfl rfl) how) rfl L9<|D1 rfl rfl<|D1 rfl rfl<|Ds 23 [] rfl rfl rfl (fun τ h=>ag k underlying38 lM (Ee h 0 rfl rfl) (Ee h 1 rfl rfl) rfl hlt hne) rfl L9<|D1 rfl rfl<|Ds 25 [] rfl rfl rfl (fun τ h=>ai ⟨_,underlying3,rfl⟩ (Ee h 0 rfl rfl) how) rfl L9<|Ds 26 [] rfl rfl rfl (fun τ h=>XJ.cast (v':= .pv (.bool false)) (aQ (Ee h 0 rfl rfl) (Ee h 1 rfl rfl) rfl) (congrArg (fun b=>V.pv (.bool b)) Mc)) rfl L9<|D1 rfl rfl<|D1 rfl rfl<|D1 rfl rfl<|Dg 30 [] rfl rfl rfl rfl (fun τ h=>ag k underlying38 lM (Ee h 0 rfl rfl) (Ee h 1 rfl rfl) rfl hlt hne) rfl L9<|D1 rfl rfl<|Dg 32 [] rfl rfl rfl rfl (fun τ h=>ai ⟨_,underlying47,rfl⟩ (Ee h 0 rfl rfl) hov) rfl L9<|D1 rfl rfl<|D1 rfl rfl<|Dg 35 [] rfl rfl rfl rfl (fun τ h=>ag k underlying38 lM (Ee h 0 rfl rfl) (Ee h 1 rfl rfl) rfl hlt hne) rfl L9<|D1 rfl rfl<|Dg 37 [] rfl rfl rfl rfl (fun τ h=>ai ⟨_,underlying47,rfl⟩ (Ee h 0 rfl rfl) hov) rfl L9<|Dg 38 [] rfl rfl rfl rfl (fun τ h=>ae call63 htx (h.bt rfl)) rfl L9<|D1 rfl rfl<|D1 rfl rfl ?_;refine ⟨L9,?_⟩;refine Gc rfl rfl (fun hc40=>absurd hc40 Mc) (fun hc40=>?_);exact Il<|Z2 rfl rfl rfl<|⟨(k+1),Io (aS rfl) trivial rfl rfl,L8,L8⟩
 ·exact Gx rfl<|Z1 rfl rfl<|Gt rfl<|⟨_,_,rfl,rfl,rfl⟩
end
section
open Go.RowKit Mk Jn
set_option maxHeartbeats 4000000
abbrev tA:ByteArray:=⟨#[97]⟩
abbrev tB:ByteArray:=⟨#[98]⟩
abbrev tC:ByteArray:=⟨#[99]⟩
abbrev tX:ByteArray:=⟨#[120]⟩
abbrev t1:ByteArray:=⟨#[49]⟩
abbrev t2:ByteArray:=⟨#[50]⟩
def prS:Sch:=⟨[(tA,1),(tB,3),(tC,1)],[(⟨#[114]⟩,[0,1]),(⟨#[113]⟩,[1,2])],[], -1⟩
def prD:List (List Rw):=[[⟨[t1,tX],2⟩],[⟨[tX,t2],3⟩]]
def prJ:List Rw:=[⟨[t1,tX,t2],6⟩]
theorem DX (nm:ByteArray):FnP Tryz.prog 179 [.agg [.str nm,.int .i64 1],.str t1] (· = .bool true):=kG nm t1 (.inr ⟨L9,by decide+kernel⟩)
theorem Hm (nm:ByteArray):FnP Tryz.prog 179 [.agg [.str nm,.int .i64 1],.str t2] (· = .bool true):=kG nm t2 (.inr ⟨L9,by decide+kernel⟩)
theorem Gn (nm:ByteArray):FnP Tryz.prog 179 [.agg [.str nm,.int .i64 3],.str tX] (· = .bool true):=qW nm tX (.inr ⟨L9,Ma⟩)
theorem E1 (low:Int) (hl:low≤ -2) (w:Int) (hw:w≠0∧ -2≤w∧w≤100):RowOk prS [0,1] low ⟨[t1,tX],w⟩:=by
 refine ⟨rfl,fun i h h2 nm=>?_,Me⟩;match i,h with
 | 0,_=>exact DX nm
 | 1,_=>exact Gn nm
theorem Da:RowOk prS [0,1] 1 ⟨[t1,tX],2⟩:=by
 refine ⟨rfl,fun i h h2 nm=>?_,Ma⟩;match i,h with
 | 0,_=>exact DX nm
 | 1,_=>exact Gn nm
theorem Fo:RowOk prS [1,2] 1 ⟨[tX,t2],3⟩:=by
 refine ⟨rfl,fun i h h2 nm=>?_,Ma⟩;match i,h with
 | 0,_=>exact Gn nm
 | 1,_=>exact Hm nm
theorem pr_sb:SB prS:=⟨Ma,Ma,Ma,Ma,Ma,Ma⟩
theorem El:cI prS=0:=L9
theorem pr_sj:SJn prS:=zq (jF El) Ma Ma
theorem EN {y:ByteArray} (h:y.data.toList.all (· !=0)=true):Zf y:=fun hm=>by
 have:=AT.1 h _ hm;simp at this
theorem w6:DbOk prS prD where
 hB:=pr_sb
 hc:=El
 hS:=pr_sj
 n:=rfl
 l:=Ma
 t:=fun r h h2=>by
  match r,h with
  | 0,_=>
    refine ⟨fun x hx=>?_,Kz _ _⟩;obtain rfl:=AK.1 hx;exact Da
  | 1,_=>
    refine ⟨fun x hx=>?_,Kz _ _⟩;obtain rfl:=AK.1 hx;exact Fo
 zf:=fun l hl x hx y hy=>by
  simp only [prD,Bd,K9,or_false] at hl;rcases hl with rfl | rfl
  ·obtain rfl:=AK.1 hx;simp only [Bd,K9,or_false] at hy;rcases hy with rfl | rfl<;>exact ⟨EN Ma,Ma⟩
  ·obtain rfl:=AK.1 hx;simp only [Bd,K9,or_false] at hy;rcases hy with rfl | rfl<;>exact ⟨EN Ma,Ma⟩
theorem FB:bf prS prD=prD:=L9
theorem pr_is:IsJoin prS prD prJ where
 mem:=fun y=>by
  rw [show iL prS prD=[([0,1],[⟨[t1,tX],2⟩]),([1,2],[⟨[tX,t2],3⟩])] from rfl];simp only [Ez,AK,prJ];constructor
  ·rintro rfl;exact ⟨rfl,_,rfl,rfl,_,⟨_,rfl,rfl,1,rfl,rfl⟩,rfl⟩
  ·rintro ⟨hl,x,rfl,e1,w',⟨z,rfl,e2,w2,rfl,rfl⟩,e3⟩;obtain ⟨v,w⟩:=y;match v,hl with
   | [a,b,c],_=>
     simp only [AS,JZ] at e1 e2;injection e1 with h1 e1
     injection e1 with h2 e1
     injection e2 with h3 e2
     injection e2 with h4 e2
     have k1:a=t1:=h1;have k2:b=tX:=h2;have k4:c=t2:=h4;have k5:w=6:=e3;rw [k1,k2,k4,k5]
 nd:=Kz _ _
theorem xB:joinL prS prD=prJ:=by
 have h:=sN w6;rw [FB] at h;exact vd (tG w6) (Kz _ _) fun y=>by rw [h.mem,pr_is.mem]
theorem AU:FnP Tryz.prog 47 [] (· = .tup [gK prS,dbP prD]):=by
 refine FnP.fg2 (FnP.ofC func47 rfl ntmps47 Mc fun m0 w0 F R0=>?_);exact Z2 rfl rfl rfl<|Z3 rfl rfl rfl rfl<|Rs 6 rfl rfl (aq none Mc el28 rfl Ma Ma rfl rfl)<|Rs 7 rfl rfl (aq none Mc xj rfl Ma Ma rfl rfl)<|A1 rfl<|Rs 9 rfl rfl (aq none Mc xj rfl Ma Ma rfl rfl)<|A1 rfl<|Rs 11 rfl rfl (aq none Mc el31 rfl Ma Ma rfl rfl)<|Y3 rfl rfl rfl<|Z1 rfl rfl<|Rs 14 rfl rfl (aq none Mc uq rfl Ma Ma rfl rfl)<|A1 rfl<|Rs 16 rfl rfl (aq none Mc xi rfl Ma Ma rfl rfl)<|Rs 17 rfl rfl (aq none Mc uq rfl Ma Ma rfl rfl)<|A1 rfl<|Rs 19 rfl rfl (aq none Mc xi rfl Ma Ma rfl rfl)<|Rs 20 rfl rfl (aq none Mc el36 rfl Ma Ma rfl rfl)<|Y2 rfl rfl<|Gt rfl<|⟨_,_,rfl,rfl,⟨aY ⟨_,underlying34,rfl⟩ sz34 rfl rfl rfl,trivial⟩,rfl⟩
theorem HH:TblOk prS [0,1] (-100) [⟨[t1,tX], -2⟩]:=by
 refine ⟨fun x hx=>?_,Kz _ _⟩;obtain rfl:=AK.1 hx;exact E1 (-100) Ma (-2) Ma
theorem CD:FnP Tryz.prog 24 [gK prS,dbP prD,.agg [.int .i64 0,bL [⟨[t1,tX], -2⟩]]] (· = .tup [dbP (prD.set 0 []),.int .i64 0]):=
 wB prS prD w6 0 Ma Ma [⟨[t1,tX], -2⟩] HH Ma (by simp [prD]) (by
  show CU [⟨[t1,tX],2⟩,⟨[t1,tX], -2⟩];refine List.pairwise_pair.2 ?_;exact cz _) Ma [] L9 rfl Ma (fun y hy=>by simp at hy)
theorem pX:FnP Tryz.prog 9 [] (· = .bool true):=by
 refine FnP.of func9 rfl ntmps9 Mc fun m0 w0 F R0=>?_
 have hbu:=iH prS prD w6;have hsi:=mI prS prD w6 (by rw [xB];decide);rw [xB] at hbu hsi;rw [show pJ prJ= .tup [bL prJ,.int .i64 0] from rfl] at hbu;rw [show (⟨(Lib.decDigits prJ.length).toArray⟩:ByteArray)=⟨#[49]⟩ by rw [Lib.decDigits,dif_pos Ma];rfl] at hsi;have hro:=vK prJ Ma Ma;have hch:=w6.check;refine Z1 rfl rfl<|Gr rfl<|Rs 10 rfl rfl (ae call47 AU rfl) ?_;iterate 6 refine A1 rfl ?_
 refine Z2 rfl rfl rfl<|Rs 16 rfl rfl (ae call12 hbu rfl) ?_;iterate 5 refine A1 rfl ?_
 refine Z2 rfl rfl rfl<|Rs 22 rfl rfl (ae call13 hsi rfl) ?_;iterate 5 refine A1 rfl ?_
 refine Z2 rfl rfl rfl<|Rs 28 rfl rfl (aq none Mc uq rfl Ma Ma rfl rfl)<|A1 rfl<|Rs 30 rfl rfl (aq none Mc xi rfl Ma Ma rfl rfl)<|A1 rfl<|Rs 32 rfl rfl (ae call24 CD rfl) ?_;iterate 5 refine A1 rfl ?_
 refine Z4 rfl rfl rfl rfl rfl<|Rg 39 rfl rfl rfl (aq none Mc uq rfl Ma Ma rfl rfl)<|A1 rfl<|Rg 41 rfl rfl rfl (aq none Mc xi rfl Ma Ma rfl rfl)<|Rg 42 rfl rfl rfl (ae call19 hro rfl) ?_;iterate 7 refine A1 rfl ?_
 refine Rg 50 rfl rfl rfl (XJ.cast (v':= .pv (.bool true)) (cF rfl rfl rfl) (congrArg (fun b=>V.pv (.bool b)) (Lm _))) ?_;iterate 12 refine A1 rfl ?_
 refine Rg 63 rfl rfl rfl (ag 0 underlying36 qk rfl rfl rfl Ma (by simp [dv,prD]))<|Rg 64 rfl rfl rfl (ai (v:=bL []) ⟨_,underlying38,rfl⟩ rfl rfl) ?_;iterate 6 refine A1 rfl ?_
 exact Rg 71 rfl rfl rfl (ae call36 hch rfl)<|Y3 rfl rfl rfl<|Gt rfl<|⟨_,_,rfl,rfl,rfl⟩
end
section
open Go.RowKit Mk Jn
set_option maxHeartbeats 4000000
theorem E4 {v:ByteArray} {kd:Int} (h:v∈gX kd):Zf v∧v.size≤10000:=by
 have hz:∀ l:List ByteArray,(∀ y∈l,y.data.toList.all (· !=0)=true∧y.size≤10000)→v∈l→Zf v∧v.size≤10000:=fun l hl hm=>⟨EN (hl v hm).1,(hl v hm).2⟩
 unfold gX at h;split at h
 ·exact hz _ Ma h
 ·split at h
  ·exact hz _ Ma h
  ·exact hz _ Ma h
theorem GK {l:List Rw} {B:Int} (h:∀ x∈l,x.w≤B):o0 l≤B*l.length:=by
 unfold o0;induction l with
 | nil=>simp
 | cons x l ih=>
   have h1:=h x Mc;have h2:=ih fun y hy=>h y (by simp [hy])
   simp only [AS,List.sum_cons,CG];rw [Int.natCast_add,Int.mul_add];have:B*((1:Nat):Int)=B:=Mc;omega
theorem nY {S:Sch} {A:List Int} (hk:∀ a∈S.attrs,a.2=1∨a.2=2∨a.2=3) (hA:∀ a∈A,0≤a∧a<S.attrs.length) {most:Nat} (hm:most≤20) {l:List Rw} (h:MdT S A most l):TblOk S A 1 l∧l.length≤most∧(∀ x∈l,∀ y∈x.v,Zf y∧y.size≤10000)∧∀ x∈l,x.w≤5*most:=by
 obtain ⟨l0,rfl,hl,hx⟩:=h;have hp:∀ z∈l0,0<z.w:=fun z hz=>by have:=(hx z hz).1;omega
 have hs:=tU hp;have ht:o0 l0≤5*l0.length:=GK fun x hx'=>(hx x hx').1.2
 have hmd:∀ x∈lH l0,MdV S A x.v:=fun x hx'=>by
  obtain ⟨z,hz,e⟩:=hs.val x hx';rw [e];exact (hx z hz).2
 have hw5:∀ x∈lH l0,x.w≤5*most:=fun x hx'=>by
  have h1:=zR (hs.pos hp) x hx';rw [hs.tot] at h1;omega
 refine ⟨⟨fun x hx'=>⟨(hmd x hx').1,fun i h1 h2 nm=>?_,?_⟩,hs.asc⟩,C0 hs.len hl,fun x hx' y hy=>?_,hw5⟩
 ·have hv:=(hmd x hx').2 i h1 h2;have hr:=hA _ (af h2);refine we nm _ _ ?_ hv;have hlt:A[i].toNat<S.attrs.length:=L8;rw [mC hlt];exact hk _ (af hlt)
 ·have h1:=hs.pos hp x hx';have h2:=hw5 x hx';omega
 ·obtain ⟨i,hi,rfl⟩:=Ks.1 hy;have hm2:=hmd x hx';exact E4 (hm2.2 i hi (by rw [← hm2.1];exact hi))
theorem pe {S:Sch} (hB:SB S) (hc:cI S=0) (hS:SJn S) (hk:∀ a∈S.attrs,a.2=1∨a.2=2∨a.2=3) {most:Nat} (hm:most≤12) {d:List (List Rw)} (hd:d.length=S.rels.length) (ht:∀ i (h:i<d.length) (h2:i<S.rels.length),MdT S S.rels[i].2 most d[i]):DbOk S d where
 hB:=hB
 hc:=hc
 hS:=hS
 n:=hd
 l:=fun l hl=>by
  obtain ⟨i,hi,rfl⟩:=Ks.1 hl;have:=(nY hk (hS.b _ (af (show i<S.rels.length by omega))) L8 (ht i hi L8)).2.1;omega
 t:=fun r h h2=>(nY hk (hS.b _ (af h2)) L8 (ht r h h2)).1
 zf:=fun l hl=>by
  obtain ⟨i,hi,rfl⟩:=Ks.1 hl;exact (nY hk (hS.b _ (af (show i<S.rels.length by omega))) L8 (ht i hi L8)).2.2.1
end
section
open Go.RowKit Mk Jn
section
variable {S:Sch} {P:List Nat} {d:List (List Rw)} (hP:P.Perm (List.range S.rels.length))
include hP
end
end
section
open Go.RowKit Mk Jn
def usK (S:Sch) (a:Int) (k:Nat):List Nat:=(List.range k).filter fun i=>decide (a∈(S.rels.getD i default).2)
theorem nP {S:Sch} {a:Int} {k:Nat} (h:k<S.rels.length):usK S a (k+1)=if a∈S.rels[k].2 then usK S a k++[k] else usK S a k:=by
 unfold usK;rw [K8,Jt];have e:S.rels.getD k default=S.rels[k]:=by simp [List.getD,h]
 by_cases hm:a∈S.rels[k].2
 ·rw [By hm];simp [h,hm]
 ·rw [uv hm];simp [h,hm]
theorem rJ (S:Sch) (a:Int) (k:Nat):(usK S a k).length≤k:=by
 unfold usK;exact C0 (IN _ _) Mc
theorem og (S:Sch) (hB:SB S) (hS:SJn S) (hc:cI S=0) (a:Int):FnP Tryz.prog 72 [gK S,.int .i64 a] (· =ak ((usK S a S.rels.length).map Int.ofNat)):=by
 refine FnP.of func72 rfl ntmps72 Mc fun m0 w0 F R0=>?_
 have hck:=qT S hB;rw [hc] at hck;have hrl:=hS.r;have hrc:=yQ S.rels;refine Z2 rfl rfl rfl<|Z1 rfl rfl<|Rs 9 rfl rfl (ae call82 hck rfl)<|A1 rfl ?_;refine Gc rfl rfl (fun hc10=>absurd hc10 Mc) (fun hc10=>?_);refine Il<|Z1 rfl rfl<|Im (Iu 5 1 1 3 rfl rfl)<|Z4 rfl rfl rfl rfl rfl ?_;refine Gl rfl (st:=fun x_0:Nat×List Nat=>mkS [(1,.pv (.int .i64 a)),(5,.gsl 1 1 x_0.2.length),(12,.pv (.sl none S.rels.length (bj S.rels))),(13,.pv (.int .i64 S.rels.length)),(14,.pv (.int .i64 x_0.1))] [(1,.gro 3 (aE (x_0.2.map Int.ofNat)))] 2)
  (I:=fun x_0=>x_0.1≤S.rels.length∧x_0.2=usK S a x_0.1) (μ:=fun x_0=>S.rels.length-x_0.1) (x0:=(0,[])) (Io (aS rfl) (aO L9) rfl rfl) (⟨cH _,rfl⟩) ?_
 rintro ⟨k,q⟩ ⟨hk,hq⟩;try simp only at hk hq ⊢
 refine Z1 rfl rfl ?_;refine Gp rfl rfl (fun hc15=>?_) (fun hc15=>?_)
 ·have hlt:k<S.rels.length:=L8;have hrr:=cW hlt;have hrn:=ew hlt;have hql:q.length≤k:=by rw [hq];exact rJ S a k
  have hus:=nP (a:=a) hlt;have hA:=hS.l _ (af hlt);have hin:=rK S.rels[k].2 a L8;generalize S.rels[k]=rk at*;refine Il<|Z1 rfl rfl<|Rs 17 rfl rfl (ag k underlying31 Eu rfl rfl rfl hlt hrn)<|Rs 18 rfl rfl (db ⟨_,underlying30,rfl⟩ Eu rfl hrr rfl)<|Y3 rfl rfl rfl<|Z3 rfl rfl rfl rfl<|Rs 22 rfl rfl (ae call64 hin rfl) ?_;refine Gc rfl rfl (fun hc22=>?_) (fun hc22=>?_)
  ·have hsn:aE (q.map Int.ofNat)++[.int .i64 (k:Int)]=aE ((q++[k]).map Int.ofNat):=Mc;refine Gr rfl ?_;iterate 5 refine A1 rfl ?_
   exact Z2 rfl rfl rfl<|⟨(k+1,q++[k]),Ip [0,4] ⟨rfl,congrArg (fun n=>V.gsl 4 1 n) (bW q k),rfl,rfl,rfl,trivial⟩ ⟨C4 (b:=some (.gro 3 (aE (q.map Int.ofNat)++[.int .i64 (k:Int)]))) L9 (congrArg (fun c=>some (Ob.gro 3 c)) hsn),trivial⟩ rfl rfl Ma rfl,⟨L8,by simp only;rw [hus,By (Kb hc22),hq]⟩,Me⟩
  ·exact Il<|Z2 rfl rfl rfl<|⟨(k+1,q),Io (aS rfl) (aO L9) rfl rfl,⟨L8,by simp only;rw [hus,uv (Kt hc22),hq]⟩,Me⟩
 ·refine Im (Ir 1 rfl rfl) ?_;have hke:k=S.rels.length:=L8;subst hke;exact Gx rfl<|Z2 rfl rfl rfl<|Gt rfl<|⟨_,_,rfl,rfl,by rw [hq];simp [ak];rfl⟩
def joK (S:Sch) (k:Nat):List Nat:=(List.range k).filter fun a=>decide (1<(usK S (a:Int) S.rels.length).length)
theorem wU (S:Sch) (k:Nat):joK S (k+1)=if 1<(usK S (k:Int) S.rels.length).length then joK S k++[k] else joK S k:=by
 unfold joK;rw [K8,Jt];by_cases hm:1<(usK S (k:Int) S.rels.length).length
 ·rw [By hm];simp [hm]
 ·rw [uv hm];simp [hm]
theorem tH (S:Sch) (k:Nat):(joK S k).length≤k:=by
 unfold joK;exact C0 (IN _ _) Mc
theorem ga (S:Sch) (hB:SB S) (hS:SJn S) (hc:cI S=0):FnP Tryz.prog 26 [gK S] (· =ak ((joK S S.attrs.length).map Int.ofNat)):=by
 refine FnP.of func26 rfl ntmps26 Mc fun m0 w0 F R0=>?_
 have hal:=hS.a;have hac:=mi S.attrs;refine Z2 rfl rfl rfl<|Z1 rfl rfl<|Im (Iu 3 1 1 3 rfl rfl)<|Z4 rfl rfl rfl rfl rfl ?_;refine Gl rfl (st:=fun x_0:Nat×List Nat=>mkS [(1,.ptr 0 0),(3,.gsl 1 1 x_0.2.length),(7,.pv (.int .i64 S.attrs.length)),(8,.pv (.int .i64 x_0.1))] [(0,oZ S),(1,.gro 3 (aE (x_0.2.map Int.ofNat)))] 2)
  (I:=fun x_0=>x_0.1≤S.attrs.length∧x_0.2=joK S x_0.1) (μ:=fun x_0=>S.attrs.length-x_0.1) (x0:=(0,[])) (Io (aS rfl) (aO L9) rfl rfl) (⟨cH _,rfl⟩) ?_
 rintro ⟨k,q⟩ ⟨hk,hq⟩;try simp only at hk hq ⊢
 refine Z1 rfl rfl ?_;refine Gp rfl rfl (fun hc9=>?_) (fun hc9=>?_)
 ·have hlt:k<S.attrs.length:=L8;have hql:q.length≤k:=by rw [hq];exact tH S k
  have hus:=wU S k;have huk:=og S hB hS hc (k:Int);have hul:=rJ S (k:Int) S.rels.length;generalize usK S (k:Int) S.rels.length=u at*;refine Il<|Z2 rfl rfl rfl<|Z2 rfl rfl rfl<|Rs 13 rfl rfl (ae call72 huk rfl)<|Y2 rfl rfl ?_;refine Gp rfl rfl (fun hc15=>?_) (fun hc15=>?_)
  ·have hm:1<u.length:=by simp at hc15;omega
   have hsn:aE (q.map Int.ofNat)++[.int .i64 (k:Int)]=aE ((q++[k]).map Int.ofNat):=Mc;refine Gr rfl ?_;iterate 5 refine A1 rfl ?_
   exact Z2 rfl rfl rfl<|⟨(k+1,q++[k]),Ip [0,3] ⟨rfl,congrArg (fun n=>V.gsl 3 1 n) (bW q k),rfl,rfl,trivial⟩ ⟨L9,C4 (b:=some (.gro 3 (aE (q.map Int.ofNat)++[.int .i64 (k:Int)]))) L9 (congrArg (fun c=>some (Ob.gro 3 c)) hsn),trivial⟩ rfl rfl Ma rfl,⟨L8,by simp only;rw [hus,By hm,hq]⟩,Me⟩
  ·exact Il<|Z2 rfl rfl rfl<|⟨(k+1,q),Io (aS rfl) (aO L9) rfl rfl,⟨L8,by simp only;rw [hus,uv (by simp at hc15;omega),hq]⟩,Me⟩
 ·refine Im (Ir 1 rfl rfl) ?_;have hke:k=S.attrs.length:=L8;subst hke;exact Gx rfl<|Z2 rfl rfl rfl<|Gt rfl<|⟨_,_,rfl,rfl,by rw [hq];simp [ak];rfl⟩
theorem o7 (S:Sch) (hB:SB S) (hS:SJn S) (hV:cI S=0) (r:Nat) (hr:r<S.rels.length) (l:List Rw) (hl:l.length≤60) (hT:TblOk S S.rels[r].2 1 l):
  FnP Tryz.prog 27 [gK S,.int .i64 r,bL l] (· =bL (gF S S.rels[r].2 l)):=by
 refine FnP.of func27 rfl ntmps27 Mc fun m0 w0 F R0=>?_
 have ht:=CQ S hB hS hV r hr l hl hT;have hlv:=zS S hS r hr l L8 fun x hx=>(hT.row x hx).l
 generalize gF S S.rels[r].2 l=m at*;refine Z2 rfl rfl rfl<|Z3 rfl rfl rfl rfl<|Rs 10 rfl rfl (ae call45 ht rfl)<|A1 rfl ?_;refine Gc rfl rfl (fun hc11=>absurd hc11 Mc) (fun hc11=>?_);exact Il<|Z3 rfl rfl rfl rfl<|Rs 15 rfl rfl (ae call73 hlv rfl)<|A1 rfl<|Gt rfl<|⟨_,_,rfl,rfl,rfl⟩
end
section
open Go.RowKit Mk Jn
theorem kH (S:Sch) (A:List Int) (l:List Rw):gF S A (gF S A l)=gF S A l:=by
 unfold gF;rw [List.filter_filter]
 congr 1
 funext x;simp
theorem kJ {S:Sch} {d:List (List Rw)} (h:d.length=S.rels.length):bf S (bf S d)=bf S d:=by
 have hl:=qz h;have hl2:=qz hl;apply Jl
 ·rw [hl2,hl]
 ·intro i h1 h2;have hi:i<S.rels.length:=by rw [hl] at h2;exact h2
  rw [ur h2 hi,ur L8 hi,kH]
theorem xT {l m:List Rw} (h:List.Sublist l m) (hm:Aj m):Aj l:=J0 h hm
theorem kQ {S:Sch} {d:List (List Rw)} (h:DbOk S d):DbOk S (bf S d) where
 hB:=h.hB
 hc:=h.hc
 hS:=h.hS
 n:=qz h.n
 l:=fun l hl=>by
  obtain ⟨l',hl',hs⟩:=qQ hl;have:=h.l l' hl';have:=hs.length_le;omega
 t:=fun r h1 h2=>by
  have hr:r<d.length:=by rw [h.n];exact h2
  have:=h.t r hr h2;rw [ur hr h2];have hs:List.Sublist (gF S S.rels[r].2 d[r]) d[r]:=Kc;exact ⟨fun x hx=>this.row x (hs.mem hx),xT hs this.asc⟩
 zf:=fun l hl x hx=>by
  obtain ⟨l',hl',hs⟩:=qQ hl;exact h.zf l' hl' x (hs.mem hx)
theorem qY {S:Sch} {d:List (List Rw)} (h:DbOk S d):joinL S (bf S d)=joinL S d:=
 vd (tG (kQ h)) (tG h) fun y=>by
  rw [(sN (kQ h)).mem,(sN h).mem,kJ h.n]
theorem k6 {S:Sch} (hn:∀ r∈S.rels,r.2.Nodup) (a:Int):∀ k,k≤S.rels.length→((S.rels.take k).flatMap (·.2)).count a=(usK S a k).length
 | 0,_=>by simp [usK]
 | k+1,h=>by
   have hlt:k<S.rels.length:=L8;rw [aJ hlt,JS,List.count_append,k6 hn a k L8,nP hlt];have hnd:=hn _ (af hlt);by_cases hm:a∈S.rels[k].2
   ·rw [By hm,AI];have:S.rels[k].2.count a=1:=by rw [List.Nodup.count hnd,By hm]
    simp [this]
   ·rw [uv hm];have:S.rels[k].2.count a=0:=List.count_eq_zero.2 hm;simp [this]
def vt (J:List Int) (A:List Int) (v:List ByteArray):Bool:=(A.zip v).any fun p=>(p.2.toList==(⟨#[]⟩:ByteArray).toList)&&decide (p.1∈J)
theorem tx {S:Sch} (hV:Valid S) (hn:∀ r∈S.rels,r.2.Nodup) {r:ByteArray×List Int} (hr:r∈S.rels) (x:Rw):
  vt ((joK S S.attrs.length).map Int.ofNat) r.2 x.v= !bq (S.rels.flatMap (·.2)) r.2 x:=by
 unfold vt bq;rw [List.not_all_eq_any_not];have key:∀ p∈r.2.zip x.v,((p.2.toList==(⟨#[]⟩:ByteArray).toList)&&decide (p.1∈(joK S S.attrs.length).map Int.ofNat))= !(!(p.2.toList==(⟨#[]⟩:ByteArray).toList)||(((S.rels.flatMap (·.2)).count p.1:Nat):Int)==1):=fun p hp=>by
  have ha:p.1∈r.2:=(List.of_mem_zip hp).1;have hb:=hV.rng r hr p.1 ha;obtain ⟨a,hpa⟩:=BY hb.1;have hal:a<S.attrs.length:=L8;have hc:=k6 hn p.1 S.rels.length (Cz _);rw [Ki] at hc;have hpos:0<(S.rels.flatMap (·.2)).count p.1:=List.count_pos_iff.2 (H2.2 ⟨r,hr,ha⟩);have hj:p.1∈(joK S S.attrs.length).map Int.ofNat↔1<(usK S p.1 S.rels.length).length:=by
   rw [hpa];unfold joK;simp only [Df,Hf,IG,F8];constructor
   ·rintro ⟨b,⟨_,h⟩,e⟩;obtain rfl:b=a:=Int.ofNat.inj e;exact h
   ·exact fun h=>⟨a,⟨hal,h⟩,rfl⟩
  rw [← hc] at hj;generalize (S.rels.flatMap (·.2)).count p.1=c at*;have hd:decide (p.1∈(joK S S.attrs.length).map Int.ofNat)= !(((c:Nat):Int)==1):=by
   have h0:decide (p.1∈(joK S S.attrs.length).map Int.ofNat)=decide (1<c):=decide_eq_decide.2 hj;rw [h0];by_cases h1:1<c
   ·have:((c:Int)==1)=false:=by simp;omega
    rw [this];simp [h1]
   ·have:((c:Int)==1)=true:=by simp;omega
    rw [this];simp [h1]
  rw [hd];cases (p.2.toList==(⟨#[]⟩:ByteArray).toList)<;>simp
 rw [Ho,IQ,IQ];exact ⟨fun ⟨p,hp,h⟩=>⟨p,hp,by rw [← key p hp];exact h⟩,fun ⟨p,hp,h⟩=>⟨p,hp,by rw [key p hp];exact h⟩⟩
end
section
open Go.RowKit Mk Jn
def bR (l:List Rw):List Rw:=if 2000<l.length then [] else l
def bE (l:List Rw):Int:=if 2000<l.length then 3 else 0
theorem I3 (l:List Rw):pJ l= .tup [bL (bR l),.int .i64 (bE l)]:=by
 unfold pJ bR bE;split<;>rfl
theorem JV (l:List Rw):(bR l).length≤2000:=by
 unfold bR;split
 ·simp
 ·omega
theorem Jj {S:Sch} {most:Nat} (h:Made S most):∀ a∈S.attrs,a.2=1∨a.2=2∨a.2=3:=fun a ha=>by
 obtain ⟨i,hi,rfl⟩:=Ks.1 ha;have:=h.at' i hi;omega
theorem Jh {S:Sch} (h:Made S 5):SJn S:=
 zq (jF (I0 h Ma)) (by have:=h.r2;omega) fun x hx=>by
  obtain ⟨i,hi,rfl⟩:=J3 hx;have:=IW (h.rs i hi).2.2.1 (h.rs i hi).2.2.2;have:=h.a2;omega
theorem JK {S:Sch} {d:List (List Rw)} (hM:Made S 5) (hd:MdD S 4 S.rels.length d):DbOk S d:=
 pe (JO hM Ma) (I0 hM Ma) (Jh hM) (Jj hM) (most:=4) Ma hd.1 hd.2
theorem bR_v {S:Sch} {d:List (List Rw)} (h:DbOk S d) (hM:Made S 5):∀ x∈bR (joinL S d),x.v.length≤1000000:=fun x hx=>by
 have hm:x∈joinL S d:=by
  unfold bR at hx;split at hx
  ·simp at hx
  ·exact hx
 have:=(((sN h).mem x).1 hm).1;have:=hM.a2;omega
end
section
open Go.RowKit Mk Jn
def zj (J A:List Int) (v:List ByteArray) (n:Nat):Bool:=((A.zip v).take n).any fun p=>(p.2.toList==(⟨#[]⟩:ByteArray).toList)&&decide (p.1∈J)
theorem qU {J A:List Int} {v:List ByteArray} {n:Nat} (hn:n<A.length) (hv:n<v.length):zj J A v (n+1)=(zj J A v n||((v[n].toList==(⟨#[]⟩:ByteArray).toList)&&decide (A[n]∈J))):=by
 have h:n<(A.zip v).length:=by simp;omega
 unfold zj;rw [aJ h,List.any_append];simp
theorem vR {J A:List Int} {v:List ByteArray} (h:v.length=A.length):zj J A v A.length=vt J A v:=by
 unfold zj vt;rw [aR Md]
def iP (f:Rw→Bool) (l:List Rw) (j:Nat):Nat:=((l.take j).filter f).length
theorem ry {f:Rw→Bool} {l:List Rw} {j:Nat} (h:j<l.length):iP f l (j+1)=if f l[j]=true then iP f l j+1 else iP f l j:=by
 unfold iP;rw [aJ h,Jt,AI];by_cases hf:f l[j]=true<;>simp [hf]
theorem xV {f:Rw→Bool} {l:List Rw} {j:Nat} (h:j<l.length) (hf:f l[j]=true):∃ hk:iP f l j<(l.filter f).length,(l.filter f)[iP f l j]=l[j]:=by
 have e:l.filter f=(l.take j).filter f++(l[j]::(l.drop (j+1)).filter f):=by
  conv=>lhs;rw [← JM j l,Ji h,Jt,List.filter_cons_of_pos hf]
 refine ⟨by rw [e];unfold iP;simp,?_⟩;unfold iP;rw [List.getElem_of_eq e,List.getElem_append_right (Cz _)];simp
theorem uF {f:Rw→Bool} {l:List Rw}:iP f l l.length=(l.filter f).length:=by unfold iP;rw [Ki]
section
variable {C:Ctx} {n:Nat} {σ:St} {dst:Option Tmp} {ty:TypeId} {pos:String} {after:Array Edge} {gd:Option (Nat×Bool)} {x y z:Operand}
theorem oy {T e:TypeId} {s k:Nat} {kl kh:IntKind} {il ih:Int} {bn:Option Bool} {cs:List PV} (l h:Nat) (hT:C.P.underlying T=some (.slice e)) (hs:dx C.P e s) (hx:σ.ev n x= .pv (.sl bn k cs))
  (hy:σ.ev n y= .pv (.int kl il)) (hi:il=(l:Int)) (hz:σ.ev n z= .pv (.int kh ih)) (hj:ih=(h:Int)) (h1:l≤h) (h2:h≤k) (hcs:cs.length=k*s):
  XJ C n ⟨dst,.slice T x (some y) (some z) none,ty,pos,after,gd⟩ σ ⟨.pv (.sl bn (h-l) ((cs.drop (l*s)).take ((h-l)*s))),[],[]⟩:=
 uP (some y) (some z) l h hT hs hx (by rintro _ ⟨⟩;exact ⟨hy,hi⟩) Mc (by rintro _ ⟨⟩;exact ⟨hz,hj⟩) Mc h1 h2 hcs
end
theorem qD {S:Sch} (hM:Made S 5):∀ r∈S.rels,r.2.Nodup:=fun r hr=>by
 obtain ⟨i,hi,rfl⟩:=J3 hr;exact (hM.rs i hi).2.2.1.imp fun h e=>by omega
theorem Ak {S:Sch} {n:Nat}:((joK S n).map Int.ofNat).length≤n:=by rw [Cq];exact tH S n
theorem yR {l:List (ByteArray×List Int)} {r:Nat} (hr:r<l.length):(bj l)[r*2+1]? =some (ak l[r].2):=by
 have h2:(((bj l).drop (r*2)).take 2)[1]? =[PV.str l[r].1,ak l[r].2][1]? :=by rw [cW hr]
 simpa [Et,IP] using h2
theorem row_one {m:List Rw} {k:Nat} (h:k<m.length):PV.sl none (k+1-k) (((aB m).drop (k*2)).take ((k+1-k)*2))=bL [m[k]]:=by
 rw [show k+1-k=1 by omega,Nat.one_mul,aN h];rfl
theorem eG (t:List Int):FnP Tryz.prog 7 [ak t] (· = .bool true):=by
 refine FnP.of func7 rfl ntmps7 Mc fun m0 w0 F R0=>?_
 refine Z1 rfl rfl<|Z3 rfl rfl rfl rfl ?_;refine Gp rfl rfl (fun hc23=>?_) (fun hc23=>?_)
 ·exact Gr rfl<|Rs 24 rfl rfl (ae call9 pX rfl)<|A1 rfl<|Gt rfl<|⟨_,_,rfl,rfl,rfl⟩
 ·have hL:t.length≤400:=L8;refine Il<|Z1 rfl rfl ?_;refine RL.call rfl (fA [] 0 call10 (Cr t L8) rfl rfl rfl rfl trivial Ma rfl ?_);rintro _ _ ⟨rfl,rfl⟩;refine A1 rfl<|Z1 rfl rfl ?_;refine RL.call rfl (jW call16 (Jd t 0 5 L8 (cH _) L8 L8) rfl rfl ?_);rintro _ _ ⟨⟨S,hM,rfl⟩,k1,hk1,rfl⟩;have hS:=Jh hM;have hr1:=hM.r1;have hr2:=hM.r2;have hB:=JO hM Ma;have hc:=I0 hM Ma;refine Y2 rfl rfl<|Z2 rfl rfl rfl ?_;refine RL.call rfl (jW call11 (nB t k1 L8 hk1 S 4 Ma L8 (fun r hr=>⟨hS.l r hr,hS.b r hr⟩)) rfl rfl ?_);rintro _ _ ⟨⟨d,hd,rfl⟩,k2,hk2,rfl⟩;have hdb:=JK hM hd;have hdn:=hdb.n;refine A1 rfl<|Z1 rfl rfl<|Im (Iu 6 2 1 38 rfl rfl) ?_;have hjn:=ga S hB hS hc;have hnd:∀ r∈S.rels,r.2.Nodup:=qD hM;have hml:=fun (r:ByteArray×List Int) (hr:r∈S.rels) (x:Rw)=>tx (jF hc) hnd hr x
  have hJl:=Ak (S:=S) (n:=S.attrs.length);have hal:=hS.a;generalize (joK S S.attrs.length).map Int.ofNat=J at*;refine Z1 rfl rfl<|Rs 33 rfl rfl (ae call26 hjn rfl)<|A1 rfl<|Z3 rfl rfl rfl rfl ?_;refine Gl rfl (st:=fun x_0:Nat=>mkS [(4,.ptr 1 0),(5,.pv (dbP d)),(6,.gsl 2 1 x_0),(7,.pv (ak J)),(34,.pv (dbP d)),(35,.pv (.int .i64 d.length)),(36,.pv (.int .i64 x_0))] [(1,oZ S),(2,.gro 38 (dv ((bf S d).take x_0)))] 3)
   (I:=fun x_0=>x_0≤d.length) (μ:=fun x_0=>d.length-x_0) (x0:=(0)) (Io (aS rfl) (aO L9) rfl rfl) (cH _) ?_
  rintro i hi;refine Z1 rfl rfl ?_;refine Gp rfl rfl (fun hc37=>?_) (fun hc37=>?_)
  ·have hid:i<d.length:=L8;have hir:i<S.rels.length:=L8;have hT:=hdb.t i hid hir;have hdl:=hdb.l _ (af hid);have hlv:=o7 S hB hS hc i hir d[i] L8 hT;have htn:dv d≠[]:=fun e=>by have:=dH d;rw [e] at this;simp at this;omega
   have htr:(dv d)[i*1]? =some (bL d[i]):=by simp [dv,hid]
   have hrn:=ew hir;have hra:=yR hir;have hmr:=hml _ (af hir);have hvl:=fun x hx=>(hT.row x hx).l
   have hAl:=hS.l _ (af hir);have hsd:dv ((bf S d).take i)++[bL (gF S S.rels[i].2 d[i])]=dv ((bf S d).take (i+1)):=by
    rw [aJ (by rw [qz hdn];exact hir),ur hid hir];simp [dv]
   have hl2:(dv ((bf S d).take i)).length=i*1:=by rw [dH,BX,qz hdn];omega
   unfold gF at hlv hsd;generalize bq (S.rels.flatMap (·.2)) S.rels[i].2=f at*;generalize S.rels[i].2=A at*;generalize d[i]=l at*;refine Il<|Z1 rfl rfl<|Rs 39 rfl rfl (ag i underlying36 qk rfl rfl rfl hid htn)<|Rs 40 rfl rfl (ai ⟨_,underlying38,rfl⟩ rfl htr)<|Y2 rfl rfl<|Z3 rfl rfl rfl rfl<|Rs 44 rfl rfl (ae call27 hlv rfl)<|A1 rfl<|Z1 rfl rfl ?_;have hlc:=aK l;have hmc:=aK (l.filter f);refine Z3 rfl rfl rfl rfl ?_;refine Gl rfl (st:=fun x_1:Nat=>mkS [(4,.ptr 1 0),(5,.pv (dbP d)),(6,.gsl 2 1 i),(7,.pv (ak J)),(8,.pv (.int .i64 i)),(10,.pv (bL (l.filter f))),(11,.pv (.int .i64 ((iP f l x_1:Nat):Int))),(34,.pv (dbP d)),(35,.pv (.int .i64 d.length)),(36,.pv (.int .i64 i)),(45,.pv (bL l)),(46,.pv (.int .i64 l.length)),(47,.pv (.int .i64 x_1))] [(1,oZ S),(2,.gro 38 (dv ((bf S d).take i)))] 3)
    (I:=fun x_1=>x_1≤l.length) (μ:=fun x_1=>l.length-x_1) (x0:=(0)) (Io (aS rfl) (aO L9) rfl rfl) (cH _) ?_
   rintro j hj;refine Z1 rfl rfl ?_;refine Gp rfl rfl (fun hc48=>?_) (fun hc48=>?_)
   ·have hjl:j<l.length:=L8;have hyr:=aN hjl;have hyn:=aW hjl;have hyv:=hvl _ (af hjl);have hmy:=hmr l[j];have hls:=ry (f:=f) hjl;have hla:=fun h=>xV (f:=f) hjl h
    have hlk:iP f l j≤j:=by unfold iP;exact C0 (IN _ _) Md
    generalize l[j]=y at*;refine Il<|Gr rfl<|Rs 49 rfl rfl (ag j underlying38 lM rfl rfl rfl hjl hyn)<|Rs 50 rfl rfl (db ⟨_,underlying49,rfl⟩ lM rfl hyr rfl)<|Y2 rfl rfl<|Z1 rfl rfl<|Z3 rfl rfl rfl rfl<|Rs 54 rfl rfl (ag i underlying31 Eu rfl rfl rfl hir hrn)<|A1 rfl<|Rs 56 rfl rfl (ai ⟨_,underlying22,rfl⟩ rfl hra)<|Y2 rfl rfl ?_;refine Gl rfl (st:=fun x_2:Nat=>mkS [(4,.ptr 1 0),(5,.pv (dbP d)),(6,.gsl 2 1 i),(7,.pv (ak J)),(8,.pv (.int .i64 i)),(10,.pv (bL (l.filter f))),(11,.pv (.int .i64 ((iP f l j:Nat):Int))),(13,.ptr 3 0),(14,.pv (.bool (zj J A y.v x_2))),(34,.pv (dbP d)),(35,.pv (.int .i64 d.length)),(36,.pv (.int .i64 i)),(45,.pv (bL l)),(46,.pv (.int .i64 l.length)),(47,.pv (.int .i64 j)),(56,.pv (ak A)),(57,.pv (.int .i64 A.length)),(58,.pv (.int .i64 x_2))] [(1,oZ S),(2,.gro 38 (dv ((bf S d).take i))),(3,.mix 49 [.pv (aI y.v),.pv (.int .i64 y.w)])] 4)
     (I:=fun x_2=>x_2≤A.length) (μ:=fun x_2=>A.length-x_2) (x0:=(0)) (Io (aS rfl) (aO L9) rfl rfl) (cH _) ?_
    rintro n hn;refine Z1 rfl rfl ?_;refine Gp rfl rfl (fun hc59=>?_) (fun hc59=>?_)
    ·have hna:n<A.length:=L8;have hnv:n<y.v.length:=L8;have han:=aH hna;have hai:(aE A)[n*1]? =some (.int .i64 A[n]):=by simp [hna]
     have hyi:(aA y.v)[n*1]? =some (.str y.v[n]):=by simp [hnv]
     have hyne:=bc hnv;have hms:=qU (J:=J) hna hnv;have hin:=so J A[n] L8;refine Il<|Z1 rfl rfl<|Rs 61 rfl rfl (ag n underlying22 sz3 rfl rfl rfl hna han)<|Rs 62 rfl rfl (ai ⟨_,underlying3,rfl⟩ rfl hai)<|Y2 rfl rfl ?_;obtain ⟨b1,hb1⟩:∃ b,b=zj J A y.v n:=⟨_,rfl⟩;obtain ⟨b2,hb2⟩:∃ b,b=(y.v[n].toList==(⟨#[]⟩:ByteArray).toList):=⟨_,rfl⟩;rw [← hb1, ← hb2] at hms;rw [← hb1];by_cases g1:b1=true
     ·subst g1;refine Gr rfl ?_;iterate 15 refine A1 rfl ?_
      exact Z2 rfl rfl rfl<|⟨(n+1),Io ⟨rfl,rfl,rfl,rfl,rfl,rfl,rfl,rfl,congrArg (fun b=>V.pv (.bool b)) (by rw [hms];simp),rfl,rfl,rfl,rfl,rfl,rfl,rfl,rfl,rfl,trivial⟩ (aO L9) rfl rfl,L8,L8⟩
     ·by_cases g2:b2=true
      ·obtain rfl:b1=false:=Jw g1;subst g2;refine Gr rfl ?_;iterate 5 refine A1 rfl ?_
       exact Rg 68 rfl rfl rfl (ag n underlying47 sz9 rfl rfl rfl hnv hyne)<|Rg 69 rfl rfl rfl (ai ⟨_,underlying9,rfl⟩ rfl hyi)<|Rg 70 rfl rfl rfl (XJ.cast (v':= .pv (.bool true)) (cF rfl rfl rfl) (congrArg (fun b=>V.pv (.bool b)) hb2.symm))<|Y3 rfl rfl rfl<|Rg 74 rfl rfl rfl (ae call28 hin rfl)<|Y3 rfl rfl rfl<|Z2 rfl rfl rfl<|⟨(n+1),Io ⟨rfl,rfl,rfl,rfl,rfl,rfl,rfl,rfl,congrArg (fun b=>V.pv (.bool b)) (by rw [hms];simp),rfl,rfl,rfl,rfl,rfl,rfl,rfl,rfl,rfl,trivial⟩ (aO L9) rfl rfl,L8,L8⟩
      ·obtain rfl:b1=false:=Jw g1;obtain rfl:b2=false:=Jw g2;refine Gr rfl ?_;iterate 5 refine A1 rfl ?_
       refine Rg 68 rfl rfl rfl (ag n underlying47 sz9 rfl rfl rfl hnv hyne)<|Rg 69 rfl rfl rfl (ai ⟨_,underlying9,rfl⟩ rfl hyi)<|Rg 70 rfl rfl rfl (XJ.cast (v':= .pv (.bool false)) (cF rfl rfl rfl) (congrArg (fun b=>V.pv (.bool b)) hb2.symm)) ?_;iterate 7 refine A1 rfl ?_
       exact Z2 rfl rfl rfl<|⟨(n+1),Io ⟨rfl,rfl,rfl,rfl,rfl,rfl,rfl,rfl,congrArg (fun b=>V.pv (.bool b)) (by rw [hms];simp),rfl,rfl,rfl,rfl,rfl,rfl,rfl,rfl,rfl,trivial⟩ (aO L9) rfl rfl,L8,L8⟩
    ·have hnA:n=A.length:=L8;subst hnA;rw [vR hyv,hmy];obtain ⟨b3,hb3⟩:∃ b,b=f y:=⟨_,rfl⟩;rw [← hb3];refine Gx rfl<|Z1 rfl rfl ?_;refine Gc rfl rfl (fun hc78=>?_) (fun hc78=>?_)
     ·have hf:b3=false:=by simpa using hc78
      rw [hf] at hb3;exact Gx rfl<|Z2 rfl rfl rfl<|⟨(j+1),Io ⟨rfl,rfl,rfl,rfl,rfl,rfl,congrArg (fun k:Nat=>V.pv (.int .i64 (k:Int))) (by rw [hls,uv (by rw [← hb3];decide)]),rfl,rfl,rfl,rfl,rfl,rfl,trivial⟩ (aO L9) rfl rfl,L8,L8⟩
     ·have hf:b3=true:=by simpa using hc78
      rw [hf] at hb3;obtain ⟨hkm,hke⟩:=hla hb3.symm;have hls2:iP f l j+1=iP f l (j+1):=by rw [hls,By hb3.symm]
      have hro:=vK [y] Mc (by intro x hx;rw [AK.1 hx];omega);have h1s:=row_one hkm;rw [hke] at h1s;have hlk2:=hlk;generalize iP f l j=kk at*;refine Il<|Ge rfl follows [0,1,2,3,4,5,6,7,8,9,10,11,12,13,14] L9<|D1 rfl rfl<|D1 rfl rfl<|D1 rfl rfl<|Ds 82 [] rfl rfl rfl (fun τ h=>XJ.cast (v':= .pv (.bool false)) (aQ (Ee h 0 rfl rfl) (Ee h 1 rfl rfl) rfl) (congrArg (fun b=>V.pv (.bool b)) (I6 L8))) rfl L9 ?_;iterate 5 refine D1 rfl rfl ?_
      refine Dg 88 [] rfl rfl rfl rfl (fun τ h=>XJ.cast (v':= .pv (bL [y])) (oy kk (kk+1) underlying38 lM (Ee h 0 rfl rfl) (Ee h 1 rfl rfl) rfl (Ee h 2 rfl rfl) L8 L8 L8 hmc) (congrArg V.pv h1s)) rfl L9<|D1 rfl rfl<|Dg 90 [] rfl rfl rfl rfl (fun τ h=>aq none Mc xi rfl Ma Ma (h.JU rfl rfl) rfl) rfl L9<|Dg 91 [] rfl rfl rfl rfl (fun τ h=>ae call19 hro (h.bt rfl)) rfl L9<|D1 rfl rfl<|D1 rfl rfl ?_;refine ⟨L9,?_⟩;refine Gc rfl rfl (fun hc93=>absurd hc93 Mc) (fun hc93=>?_);exact Il<|Z3 rfl rfl rfl rfl<|Z2 rfl rfl rfl<|⟨(j+1),Io ⟨rfl,rfl,rfl,rfl,rfl,rfl,congrArg (fun k:Int=>V.pv (.int .i64 k)) L8,rfl,rfl,rfl,rfl,rfl,rfl,trivial⟩ (aO L9) rfl rfl,L8,L8⟩
   ·have hjl:j=l.length:=L8;subst hjl;rw [uF];refine Gx rfl<|Z4 rfl rfl rfl rfl rfl ?_;refine Gc rfl rfl (fun hc100=>absurd hc100 Mc) (fun hc100=>?_);refine Il<|Gr rfl ?_;iterate 5 refine A1 rfl ?_
    exact Z2 rfl rfl rfl<|⟨(i+1),Ip [0,1,4] (aT rfl) ⟨L9,C4 (b:=some (.gro 38 (dv ((bf S d).take i)++[bL (l.filter f)]))) L9 (congrArg (fun c=>some (Ob.gro 38 c)) hsd),trivial⟩ rfl rfl Ma rfl,L8,L8⟩
  ·have hie:i=d.length:=L8;subst hie;have hll:=qz hdn;have htk:(bf S d).take d.length=bf S d:=aR L8;rw [htk];have hbu:=iH S d hdb;rw [I3] at hbu;have hb2:=iH S (bf S d) (kQ hdb);rw [qY hdb,I3] at hb2;have hdl:(bf S d).length=d.length:=L8;have hb3:FnP Tryz.prog 12 [gK S,.sl none d.length (dv (bf S d))] (· = .tup [bL (bR (joinL S d)),.int .i64 (bE (joinL S d))]):=by rw [← hdl];exact hb2
   have hrl:=JV (joinL S d);have hro:=vK (bR (joinL S d)) L8 (bR_v hdb hM);have htl3:(dv (bf S d)).length=d.length:=by rw [dH];omega
   generalize bR (joinL S d)=A0 at*;generalize bE (joinL S d)=e0 at*;refine Im (Ir 2 rfl rfl)<|Gx rfl<|Z2 rfl rfl rfl<|Rs 109 rfl rfl (ae call12 hbu rfl) ?_;iterate 5 refine A1 rfl ?_
   refine Z2 rfl rfl rfl<|Rs 115 rfl rfl (ae call12 hb3 rfl) ?_;iterate 5 refine A1 rfl ?_
   exact Z2 rfl rfl rfl<|Rs 120 rfl rfl (XJ.cast (v':= .pv (.bool true)) (aQ rfl rfl rfl) (congrArg (fun b=>V.pv (.bool b)) Mc))<|Y3 rfl rfl rfl<|Rg 124 rfl rfl rfl (ae call19 hro rfl)<|Y2 rfl rfl<|Rg 127 rfl rfl rfl (ae call9 pX rfl)<|Y2 rfl rfl<|Gt rfl<|⟨_,_,rfl,rfl,rfl⟩
end
end Go.Proofs.YtedfonppffochaaGreatDoor
