/- Lemmas for the statement of this claim's last text. No condition. -/
import Derived.Lib.Walk
import Derived.Lib.ItoaMem
import Derived.WalkKit
import Derived.BigCall
import Derived.BigGuard
import Derived.Test.YtedfonppffochaaGreatDoorJA11
set_option maxRecDepth 100000
set_option maxHeartbeats 4000000
open Go.RowKit Go.Proofs.Tryz
namespace Go.Proofs.YtedfonppffochaaGreatDoor
section
open Mk Jn
theorem xV {P R:List Rw} {x y:Rw} {k:Nat} (h:k=P.length):(P++x::R).set k y=P++y::R:=by
 subst h;rw [List.set_append_right _ _ (qT _),Oy];rfl
theorem mo {P R:List Rw} {x:Rw} {k:Nat} {h:k<(P++x::R).length} (e:k=P.length):(P++x::R)[k]=x:=by
 subst e;simp
def qSw (A X M Y B:List Rw) (i:Nat):List Rw:=(A++Y.take i)++(X.drop i++(M++(X.take i++(Y.drop i++B))))
theorem Np {A X M Y B:List Rw} (h:X.length=Y.length) (i:Nat):(qSw A X M Y B i).length=A.length+X.length+M.length+Y.length+B.length:=by
 unfold qSw;simp only [a6,iP,Ak];omega
theorem N8 {A X M Y B:List Rw} (h:X.length=Y.length) {i:Nat} (hi:i<X.length):
  oy (qSw A X M Y B i) (A.length+i) (A.length+X.length+M.length+i)=qSw A X M Y B (i+1):=by
 have hiy:i<Y.length:=OC;have hl:=Np (A:=A) (M:=M) (B:=B) h i;have hx:∀ R,X.drop i++R=X[i]::(X.drop (i+1)++R):=fun R=>by rw [C0 hi];rfl
 have hy:∀ R,Y.drop i++R=Y[i]::(Y.drop (i+1)++R):=fun R=>by rw [C0 hiy];rfl
 have e0:qSw A X M Y B i=(A++Y.take i)++X[i]::(X.drop (i+1)++(M++(X.take i++(Y.drop i++B)))):=by
  unfold qSw;rw [hx]
 have e1:qSw A X M Y B i=(A++Y.take i++(X.drop i++(M++X.take i)))++Y[i]::(Y.drop (i+1)++B):=by
  unfold qSw;simp only [xJ,hy]
 have g0:(qSw A X M Y B i)[A.length+i]'OC=X[i]:=(List.getElem_of_eq e0 _).trans (mo OH);have g1:(qSw A X M Y B i)[A.length+X.length+M.length+i]'OC=Y[i]:=
  (List.getElem_of_eq e1 _).trans (mo (by simp only [a6,iP,Ak];omega))
 rw [ri OC OC,g0,g1,e0,xV OH];have e2:(A++Y.take i)++Y[i]::(X.drop (i+1)++(M++(X.take i++(Y.drop i++B))))=(A++Y.take i++Y[i]::(X.drop (i+1)++(M++X.take i)))++Y[i]::(Y.drop (i+1)++B):=by
  simp only [xJ,F8,hy]
 rw [e2,xV (by simp only [a6,iP,Ak,qU];omega)];unfold qSw;rw [aR hiy,aR hi];simp only [xJ,F8,Ew]
theorem kJ (A X M Y B l:List Rw) (n:Nat) (a c k:Int) (hl:l=A++(X++(M++(Y++B)))) (hn:l.length=n) (hXY:X.length=Y.length) (hn2:n<=100000) (ha:a=A.length) (hc:c=((A.length+X.length+M.length:Nat):Int)) (hk:k=X.length):
  FnO Tryz.prog 244 1 0 [.osl big 2 n,.pv (.int .i64 a),.pv (.int .i64 c),.pv (.int .i64 k),.pv Gg] [(big,di l)] (fun v ob'=>v= .tup []/\ob'=ar [(big,di (A++(Y++(M++(X++B)))))]):=by
 refine FnO.of func244 O ntmps244 OG fun m0 w0 F R0=>?_
 subst ha hc hk;have h0:l=qSw A X M Y B 0:=by rw [hl];simp [qSw]
 have h1:qSw A X M Y B X.length=A++(Y++(M++(X++B))):=by
  unfold qSw;rw [J4,List.drop_length,bk (Oo hXY.symm),Lv (Oo hXY.symm)];simp
 have hlen:=fun i=>Np (A:=A) (M:=M) (B:=B) hXY i
 have hln:A.length+X.length+M.length+Y.length+B.length=n:=by rw [<-hn,h0,hlen]
 have hat:=fun i (hi:i<X.length)=>N8 (A:=A) (M:=M) (B:=B) hXY hi
 rw [h0,<-h1];clear h0 h1 hl hn;obtain ⟨Z,hZ⟩:∃ Z:Nat->List Rw,Z=qSw A X M Y B:=⟨_,O⟩;rw [<-hZ] at hat hlen ⊢;clear hZ;generalize hA:A.length=a at*;generalize hX:X.length=k at*;generalize hM:M.length=d at*;refine Z1 O O ?_;refine Gl O (st:=fun x_0:Nat=>mkS [(0,.osl big 2 n),(1,.pv (.int .i64 a)),(2,.pv (.int .i64 ((a+k+d:Nat):Int))),(3,.pv (.int .i64 k)),(10,.pv (.int .i64 x_0))] [(big,di (Z x_0))] 0)
  (I:=fun x_0=>x_0<=k) (μ:=fun x_0=>k-x_0) (x0:=(0)) (Io (aS O) (aO OD) O O) (eF _) ?_
 rintro i hi;refine Z3 O O O O ?_;refine Gp O O (fun hc13=>?_) (fun hc13=>?_)
 ·have hik:i<k:=OC;have hzl:=hlen i;have hp:a+i<(Z i).length:=OC;have hq:a+k+d+i<(Z i).length:=OC;have hr1:=aN hp;have hr2:=aN hq;have hcl:=aK (Z i);have hsw:=ov hp hq;rw [hat i hik] at hsw;generalize (Z i)[a+i]=x at*;generalize (Z i)[a+k+d+i]=y at*;refine Il<|Ge O follows [0,1,2,3,4,5,6,7,8,9,10,11,12,13,14,15,16,17,18,19,20,21,22,23] OD ?_;iterate 12 refine D1 O O ?_
  refine Ds 28 [_] O O O (fun τ h=>aa (a+k+d+i) underlying38 lM (Ee h 0 O O) (Eo h 0 O O) (Ee h 1 O O) OC OC) O OD ?_;first | refine D3 O O OF ?_ | refine D1 O O ?_
  iterate 4 refine D1 O O ?_
  refine Ds 34 [_] O O O (fun τ h=>aa (a+i) underlying38 lM (Ee h 0 O O) (Eo h 0 O O) (Ee h 1 O O) OC OC) O OD ?_;first | refine D3 O O OF ?_ | refine D1 O O ?_
  refine Ds 36 [_] O O O (fun τ h=>aa (a+i) underlying38 lM (Ee h 0 O O) (Eo h 0 O O) (Ee h 1 O O) OC OC) O OD<|DL.step (d:=none) [_] O O O (fun τ h=>wD lM (Ee h 0 O O) (Eo h 0 O O) (Ee h 1 O O) O (by simp;exact ⟨O,O⟩) OC) O OD ?_;refine Ds 37 [_] O O O (fun τ h=>aa (a+k+d+i) underlying38 lM (Ee h 0 O O) (Eo h 0 O O) (Ee h 1 O O) OC OC) O OD<|DL.step (d:=none) [_] O O O (fun τ h=>wD lM (Ee h 0 O O) (Eo h 0 O O) (Ee h 1 O O) O (by simp;exact ⟨O,O⟩) (by simp [eY];omega)) O OD ?_;refine ⟨OD,?_⟩;exact Z3 O O O O<|⟨(i+1),Io (aS O) ⟨ry (b:=some (Ob.cells 49 ((((aB (Z i)).take ((a+i)*2)++eV y++(aB (Z i)).drop ((a+i)*2+2)).take ((a+k+d+i)*2))++eV x++(((aB (Z i)).take ((a+i)*2)++eV y++(aB (Z i)).drop ((a+i)*2+2)).drop ((a+k+d+i)*2+2))))) OD (af (fun c=>some (Ob.cells 49 c)) hsw),OK⟩ O O,OC,OC⟩
 ·have hik:i=k:=OC;subst hik;exact Gx O<|⟨[],[(big,di (Z i))],[],Io trivial (aO OD) O O,O,O,O,O,O⟩
theorem L6 (A X Y B l:List Rw) (n:Nat) (a m b:Int) (hl:l=A++(X++(Y++B))) (hn:l.length=n) (hn2:n<=100000) (hX:0<X.length) (hY:0<Y.length) (ha:a=A.length) (hm:m=((A.length+X.length:Nat):Int)) (hb:b=((A.length+X.length+Y.length:Nat):Int)):
  FnO Tryz.prog 211 1 0 [.osl big 2 n,.pv (.int .i64 a),.pv (.int .i64 m),.pv (.int .i64 b),.pv Gg] [(big,di l)] (fun v ob'=>v= .tup []/\ob'=ar [(big,di (A++(Y++(X++B))))]):=by
 refine FnO.of func211 O ntmps211 OG fun m0 w0 F R0=>?_
 subst ha hm hb hl;have hln:A.length+X.length+Y.length+B.length=n:=by rw [<-hn];simp;omega
 clear hn;refine Z4 O O O O O<|Z4 O O O O O ?_;refine Gl O (st:=fun x_0:List Rw×List Rw×List Rw×List Rw=>mkS [(0,.osl big 2 n),(2,.pv (.int .i64 ((A.length+X.length:Nat):Int))),(4,.pv Gg),(10,.pv (.int .i64 x_0.2.1.length)),(11,.pv (.int .i64 x_0.2.2.1.length))] [(big,di (A++(x_0.1++(x_0.2.1++(x_0.2.2.1++(x_0.2.2.2++B))))))] 0)
  (I:=fun x_0=>((0<x_0.2.1.length/\0<x_0.2.2.1.length)/\x_0.1.length+x_0.2.1.length=X.length)/\x_0.1++(x_0.2.2.1++(x_0.2.1++x_0.2.2.2))=Y++X) (μ:=fun x_0=>x_0.2.1.length+x_0.2.2.1.length) (x0:=([],X,Y,[])) (Io ⟨O,O,O,af (fun z=>V.pv (.int .i64 z)) OI,af (fun z=>V.pv (.int .i64 z)) OI,OK⟩ (aO OD) O O) (⟨⟨⟨hX,hY⟩,OG⟩,OG⟩) ?_
 rintro ⟨P,U,W,Q⟩ ⟨⟨⟨hU,hW⟩,hPU⟩,hE⟩;try simp only at hU hW hPU hE ⊢
 have hPl:A.length+P.length+U.length+W.length+Q.length+B.length=n:=by have:=af List.length hE;simp only [a6] at this;omega
 refine Z3 O O O O ?_;refine Gc O O (fun hc20=>?_) (fun hc20=>?_)
 ·refine Il<|Z3 O O O O ?_;refine Gp O O (fun hc23=>?_) (fun hc23=>?_)
  ·obtain ⟨U1,U2,hU12,h1⟩:∃ U1 U2,U=U1++U2/\U1.length=W.length:=⟨U.take W.length,U.drop W.length,(zj _ _).symm,by rw [iP];omega⟩;have hUl:U.length=U1.length+U2.length:=by rw [hU12,a6]
   have hsr:=kJ (A++P) U1 U2 W (Q++B) (A++(P++(U++(W++(Q++B))))) n (((A.length+X.length:Nat):Int)-(U.length:Int)) ((A.length+X.length:Nat):Int) (W.length:Int) (by rw [hU12];simp) OH h1 hn2 OH OH OC;refine Gr O ?_;iterate 7 refine A1 O ?_
   exact Rs 31 O O (ah [big] 0 call244 hsr O O O O ⟨O,OK⟩ OE O)<|Z4 O O O O O<|⟨(P++W,U2,U1,Q),Io ⟨O,O,O,af (fun z=>V.pv (.int .i64 z)) OI,af (fun z=>V.pv (.int .i64 z)) (by rw [h1]),OK⟩ ⟨af (fun l=>some (Ob.cells 49 (aB l))) OG,OK⟩ O O,⟨⟨⟨OI,OI⟩,by simp only [a6];omega⟩,by rw [<-hE,hU12];simp⟩,OI⟩
  ·have h20:¬ (U.length:Int)=W.length:=by simpa using hc20
   have hne:U.length<W.length:=OC;obtain ⟨W1,W2,hW12,h1⟩:∃ W1 W2,W=W1++W2/\W2.length=U.length:=⟨W.take (W.length-U.length),W.drop (W.length-U.length),(zj _ _).symm,by rw [Ak];omega⟩;have hWl:W.length=W1.length+W2.length:=by rw [hW12,a6]
   have hsr:=kJ (A++P) U W1 W2 (Q++B) (A++(P++(U++(W++(Q++B))))) n (((A.length+X.length:Nat):Int)-(U.length:Int)) (((A.length+X.length:Nat):Int)+(W.length:Int)-(U.length:Int)) (U.length:Int) (by rw [hW12];simp) OH h1.symm hn2 OH OH O;refine Gr O ?_;iterate 11 refine A1 O ?_
   exact Rs 46 O O (ah [big] 0 call244 hsr O O O O ⟨O,OK⟩ OE O)<|Z4 O O O O O<|⟨(P,W2,W1,U++Q),Io ⟨O,O,O,af (fun z=>V.pv (.int .i64 z)) (by rw [h1]),af (fun z=>V.pv (.int .i64 z)) OI,OK⟩ ⟨af (fun l=>some (Ob.cells 49 (aB l))) OG,OK⟩ O O,⟨⟨⟨OI,OI⟩,OI⟩,by rw [<-hE,hW12];simp⟩,OI⟩
 ·have h20:(U.length:Int)=W.length:=by simpa using hc20
  have hne:U.length=W.length:=OC;have hsr:=kJ (A++P) U [] W (Q++B) (A++(P++(U++(W++(Q++B))))) n (((A.length+X.length:Nat):Int)-(U.length:Int)) ((A.length+X.length:Nat):Int) (U.length:Int) OG OH hne hn2 OH OH O;have hfin:(A++P)++(W++([]++(U++(Q++B))))=A++(Y++(X++B)):=by
   have e:(A++P)++(W++([]++(U++(Q++B))))=A++((P++(W++(U++Q)))++B):=OG;rw [e,hE];simp
  refine Gx O<|Gr O ?_;iterate 7 refine A1 O ?_
  exact Rs 57 O O (ah [big] 0 call244 hsr O O O O ⟨O,OK⟩ OE O)<|⟨[],[(big,di (A++(Y++(X++B))))],[],Io trivial ⟨ry (b:=some (di ((A++P)++(W++([]++(U++(Q++B))))))) OD (af (fun l=>some (di l)) hfin),OK⟩ O O,O,O,O,O,O⟩
end
section
open Mk Jn
theorem Oa {x y z:Rw} (h1:leR x y) (h2:aZ y.v z.v=true):aZ x.v z.v=true:=by
 cases h:aZ x.v z.v with
 | true=>rfl
 | false=>have:=ck (show leR z x from h) h1;unfold leR at this;rw [h2] at this;cases this
theorem N3 {x y z:Rw} (h1:aZ x.v y.v=true) (h2:leR y z):aZ x.v z.v=true:=by
 cases h:aZ x.v z.v with
 | true=>rfl
 | false=>have:=ck h2 (show leR z x from h);unfold leR at this;rw [h1] at this;cases this
theorem MP {A L B:List Rw} {k:Nat} (h1:A.length<=k) (h2:k<A.length+L.length):(A++(L++B)).getD k dR=L.getD (k-A.length) dR:=by
 rw [qY OH,qY OC,List.getElem_append_right h1,Ln OC]
theorem Mo {L:List Rw} (h:CU L) {i j:Nat} (hij:i<=j) (hj:j<L.length):leR (L.getD i dR) (L.getD j dR):=by
 rw [qY OC,qY hj];rcases LK i j with h1 | h1
 ·unfold CU at h;rw [Ja] at h;exact h i j OC hj h1
 ·have:i=j:=OC;subst this;exact Nz _
theorem b6 {L R:List Rw}:CU (L++R)↔CU L/\CU R/\∀ x∈L,∀ y∈R,leR x y:=Kv
theorem Nt {P Q:List Rw} {x y:Rw} {k:Nat} (h:k=P.length):oy (P++x::y::Q) k (k+1)=P++y::x::Q:=by
 subst h;have e:P++x::y::Q=(P++[x])++y::Q:=OG;have g0:(P++x::y::Q)[P.length]'OG=x:=mo O;have g1:(P++x::y::Q)[P.length+1]'OG=y:=(List.getElem_of_eq e _).trans (mo OG);rw [ri OG OG,g0,g1,xV O];have e2:P++y::y::Q=(P++[y])++y::Q:=OG;rw [e2,xV OG];simp
theorem Nf {P Q:List Rw} {x y:Rw} {k:Nat} (h:k=P.length):oy (P++x::y::Q) (k+1) k=P++y::x::Q:=by
 subst h;have e:P++x::y::Q=(P++[x])++y::Q:=OG;have g0:(P++x::y::Q)[P.length]'OG=x:=mo O;have g1:(P++x::y::Q)[P.length+1]'OG=y:=(List.getElem_of_eq e _).trans (mo OG);rw [ri OG OG,g0,g1,e,xV OG];have e2:(P++[x])++x::Q=P++x::x::Q:=OG;rw [e2,xV O]
theorem Ma {i j:Nat}:((i:Int)+(j:Int)).fdiv (2^(min (1:Int).toNat IntKind.u64.bits))=(((i+j)/2:Nat):Int):=by
 have e:(2:Int)^(min (1:Int).toNat IntKind.u64.bits)=2:=OE;rw [e,Int.fdiv_eq_ediv_of_nonneg _ OE];omega
theorem NT {R:List Rw} {x:Rw} {p:Nat} (h:CU R) (h1:∀ k,k<p->aZ (R.getD k dR).v x.v=true) (h2:∀ k,p<=k->k<R.length->aZ (R.getD k dR).v x.v=false) (hp:p<=R.length):CU (R.take p++x::R.drop p):=by
 have hs:CU (R.take p++R.drop p):=by rw [zj];exact h
 obtain ⟨s1,s2,s3⟩:=b6.1 hs;have m1:∀ y∈R.take p,leR y x:=fun y hy=>by
  obtain ⟨k,hk,rfl⟩:=By hy;rw [iP] at hk;have:=h1 k OC;rw [qY OC] at this;rw [Lx];exact Mx this
 have m2:∀ y∈R.drop p,leR x y:=fun y hy=>by
  obtain ⟨k,hk,rfl⟩:=By hy;rw [Ak] at hk;have:=h2 (p+k) OC OC;rw [qY OC] at this;rw [List.getElem_drop];exact this
 refine b6.2 ⟨s1,Km.2 ⟨m2,s2⟩,fun y hy z hz=>?_⟩;rcases k6.1 hz with rfl | hz
 ·exact m1 y hy
 ·exact s3 y hy z hz
theorem Nx {L:List Rw} {x:Rw} {p:Nat} (h:CU L) (h1:∀ k,k<p->aZ x.v (L.getD k dR).v=false) (h2:∀ k,p<=k->k<L.length->aZ x.v (L.getD k dR).v=true) (hp:p<=L.length):CU (L.take p++x::L.drop p):=by
 have hs:CU (L.take p++L.drop p):=by rw [zj];exact h
 obtain ⟨s1,s2,s3⟩:=b6.1 hs;have m1:∀ y∈L.take p,leR y x:=fun y hy=>by
  obtain ⟨k,hk,rfl⟩:=By hy;rw [iP] at hk;have:=h1 k OC;rw [qY OC] at this;rw [Lx];exact this
 have m2:∀ y∈L.drop p,leR x y:=fun y hy=>by
  obtain ⟨k,hk,rfl⟩:=By hy;rw [Ak] at hk;have:=h2 (p+k) OC OC;rw [qY OC] at this;rw [List.getElem_drop];exact Mx this
 refine b6.2 ⟨s1,Km.2 ⟨m2,s2⟩,fun y hy z hz=>?_⟩;rcases k6.1 hz with rfl | hz
 ·exact m1 y hy
 ·exact s3 y hy z hz
theorem MO (R:List Rw) (x:Rw) (p:Nat):(R.take p++x::R.drop p).Perm (x::R):=by
 refine List.perm_middle.trans ?_;rw [zj]
theorem Mb {i:Nat} (h:i<1000000000):IntKind.u64.wrap (i:Int)=(i:Int):=by
 show ((i:Int)%18446744073709551616)=i;omega
def upL (A R B:List Rw) (x:Rw) (t:Nat):List Rw:=A++(R.take t++x::(R.drop t++B))
theorem NA {A R B:List Rw} {x:Rw} {t:Nat} (h:t<R.length):oy (upL A R B x t) (A.length+t) (A.length+t+1)=upL A R B x (t+1):=by
 have e:upL A R B x t=(A++R.take t)++x::R[t]::(R.drop (t+1)++B):=by unfold upL;rw [C0 h,xJ];rfl
 rw [e,Nt OH];unfold upL;rw [aR h];simp only [xJ,F8,Ew]
theorem M6 {A R B:List Rw} {x:Rw} {t:Nat} (h:t<R.length):oy (upL A R B x (t+1)) (A.length+t+1) (A.length+t)=upL A R B x t:=by
 have e:upL A R B x (t+1)=(A++R.take t)++R[t]::x::(R.drop (t+1)++B):=by
  unfold upL;rw [aR h];simp only [xJ,F8,Ew]
 rw [e,Nf OH];unfold upL;rw [C0 h,xJ];rfl
theorem Mr {A R B:List Rw} {x:Rw} {t:Nat} (h:t<=R.length):(upL A R B x t).length=A.length+R.length+B.length+1:=by
 unfold upL;simp only [a6,qU,iP,Ak];omega
theorem M9 (A R B l:List Rw) (x:Rw) (n a m b:Nat) (hl:l=A++(x::(R++B))) (hn:l.length=n) (hn2:n<=100000) (hv:∀ y∈l,y.v.length<=1000) (hR:CU R) (ha:a=A.length) (hm:m=A.length+1) (hb:b=A.length+1+R.length):
  FnO Tryz.prog 171 1 0 [.osl big 2 n,.pv (.int .i64 a),.pv (.int .i64 m),.pv (.int .i64 b),.pv Gg] [(big,di l)] (fun v ob'=>v= .tup []/\∃ S,S.Perm (x::R)/\CU S/\ob'=ar [(big,di (A++(S++B)))]):=by
 refine FnO.of func171 O ntmps171 OG fun m0 w0 F R0=>?_
 have hlu:l=upL A R B x 0:=by rw [hl];simp [upL]
 have hnn:n=A.length+R.length+B.length+1:=by rw [<-hn,hlu,Mr (eF _)]
 have hx:l.getD a dR=x:=by rw [hl,ha,qY OG];exact mo O
 have hRl:∀ k,m<=k->k<b->l.getD k dR=R.getD (k-m) dR:=fun k h1 h2=>by
  have e:l=(A++[x])++(R++B):=by rw [hl];simp
  rw [e,MP OH OH]
  congr 1
  simp;omega
 have hsr:∀ k k',m<=k->k<=k'->k'<b->leR (l.getD k dR) (l.getD k' dR):=fun k k' h1 h2 h3=>by
  rw [hRl k h1 OC,hRl k' OC h3];exact Mo hR OC OC
 have hfin:∀ p,p<=R.length->(∀ k,m<=k->k<m+p->aZ (l.getD k dR).v x.v=true)->(∀ k,m+p<=k->k<b->aZ (l.getD k dR).v x.v=false)->∃ S,S.Perm (x::R)/\CU S/\upL A R B x p=A++(S++B):=fun p hp h1 h2=>by
  refine ⟨R.take p++x::R.drop p,MO R x p,NT hR (fun k hk=>?_) (fun k h3 h4=>?_) hp,?_⟩
  ·have:=h1 (m+k) OC OC;rw [hRl _ OC OC,LO] at this;exact this
  ·have:=h2 (m+k) OC OC;rw [hRl _ OC OC,LO] at this;exact this
  ·unfold upL;simp
 have hup:=fun t (ht:t<R.length)=>NA (A:=A) (B:=B) (x:=x) ht
 have hul:=fun t (ht:t<=R.length)=>Mr (A:=A) (B:=B) (x:=x) ht
 have hal:a<l.length:=OC;have hra:=aN hal;have hxa:l[a]=x:=by rw [<-qY hal];exact hx
 have hxv:=hv l[a] (aJ hal);rw [hxa] at hra hxv;have hcl:=aK l;have hRn:b=m+R.length:=OC;have hbn:b<=n:=OC;have ham:m=a+1:=OC;rw [<-ha] at hup hul hnn;clear hl hRl hR hx;obtain ⟨Z,hZ⟩:∃ Z:Nat->List Rw,Z=upL A R B x:=⟨_,O⟩;rw [<-hZ] at hup hul hlu;have hfin2:=hfin;rw [<-hZ] at hfin2;clear hZ hfin ha hm hb;generalize R.length=r at*;refine Z4 O O O O O ?_;refine Gc O O (fun hc28=>?_) (fun hc28=>absurd hc28 OH);refine Z2 O O O<|Z2 O O O ?_;refine Gl O (st:=fun x_0:Nat×Nat=>mkS [(0,.osl big 2 n),(1,.pv (.int .i64 a)),(4,.pv Gg),(10,.pv (.int .i64 x_0.1)),(11,.pv (.int .i64 x_0.2))] [(big,di l)] 0)
  (I:=fun x_0=>((m<=x_0.1/\x_0.1<=x_0.2)/\x_0.2<=b)/\(∀ k,m<=k->k<x_0.1->aZ (l.getD k dR).v x.v=true)/\∀ k,x_0.2<=k->k<b->aZ (l.getD k dR).v x.v=false) (μ:=fun x_0=>x_0.2-x_0.1) (x0:=(m,b)) (Io (aS O) (aO OD) O O) (⟨⟨⟨qT _,OI⟩,qT _⟩,fun k h1 h2=>by omega,fun k h1 h2=>by omega⟩) ?_
 rintro ⟨i,j⟩ ⟨⟨⟨hmi,hij⟩,hjb⟩,hlo,hhi⟩;try simp only at hmi hij hjb hlo hhi ⊢
 refine Z3 O O O O ?_;refine Gp O O (fun hc33=>?_) (fun hc33=>?_)
 ·have hlt:i<j:=OC;have hh:(i+j)/2<l.length:=OC;have hh1:i<=(i+j)/2/\(i+j)/2<j:=OC;have hrh:=aN hh;have hhv:=hv _ (aJ hh);have hgh:l.getD ((i+j)/2) dR=l[(i+j)/2]:=qY hh;have hcm:=vO l[(i+j)/2] x OC OC;have hcz:=Eb l[(i+j)/2].v x.v;have hms:=@Ma i j;have hwm:=Mb (i:=(i+j)/2) OC;have hwa:=Mb (i:=i+j) OC;have hwi:IntKind.i64.wrap (((i+j)/2:Nat):Int)=(((i+j)/2:Nat):Int):=eT OC;generalize (i+j)/2=hd at*;refine Il<|Z3 O O O O<|Rs 37 O O (XJ.cast (v':= .pv (.int .u64 ((i:Int)+(j:Int)))) (en underlying3 underlying161 O) (af (fun z=>V.pv (.int .u64 z)) (by rw [<-LD];exact hwa)))<|Rs 38 O O (XJ.cast (v':= .pv (.int .u64 (hd:Int))) (Ii O O OE) (af (fun z=>V.pv (.int .u64 z)) hms))<|Rs 39 O O (XJ.cast (v':= .pv (.int .i64 (hd:Int))) (en underlying161 underlying3 O) (af (fun z=>V.pv (.int .i64 z)) hwi))<|A1 O<|Ge O follows [0,1,2,3,4,5,6,7,8,9,10] OD ?_;iterate 3 refine D1 O O ?_
  refine Ds 43 [_] O O O (fun τ h=>aa hd underlying38 lM (Ee h 0 O O) (Eo h 0 O O) (Ee h 1 O O) O OC) O OD ?_;first | refine D3 O O OF ?_ | refine D1 O O ?_
  iterate 2 refine D1 O O ?_
  refine Ds 47 [_] O O O (fun τ h=>aa a underlying38 lM (Ee h 0 O O) (Eo h 0 O O) (Ee h 1 O O) O OC) O OD ?_;first | refine D3 O O OF ?_ | refine D1 O O ?_
  refine Ds 49 [] O O O (fun τ h=>bb call54 (Ee h 0 O O) hcm (h.jv O)) O OD<|D1 O O ?_;refine ⟨OD,?_⟩;refine Gp O O (fun hc50=>?_) (fun hc50=>?_)
  ·have hls:aZ (l.getD hd dR).v x.v=true:=by rw [hgh,<-hcz];exact x7 hc50
   exact Z3 O O O O<|⟨(hd+1,j),Io (aS O) (aO OD) O O,⟨⟨⟨OI,OI⟩,hjb⟩,fun k h1 h2=>Oa (hsr k hd h1 OC OC) hls,hhi⟩,OI⟩
  ·have hls:aZ (l.getD hd dR).v x.v=false:=by rw [hgh,<-hcz];exact Et hc50
   exact Z2 O O O<|⟨(i,hd),Io (aS O) (aO OD) O O,⟨⟨⟨hmi,OI⟩,OI⟩,hlo,fun k h1 h2=>ck (show leR x (l.getD hd dR) from hls) (hsr hd k OC h1 h2)⟩,OI⟩
 ·have hie:i=j:=OC;subst hie;obtain ⟨S,hS1,hS2,hS3⟩:=hfin2 (i-m) OC (fun k h1 h2=>hlo k h1 OC) (fun k h1 h2=>hhi k OC h2);refine Gx O<|Z2 O O O ?_;refine Gl O (st:=fun x_1:Nat=>mkS [(0,.osl big 2 n),(10,.pv (.int .i64 i)),(13,.pv (.int .i64 ((a+x_1:Nat):Int)))] [(big,di (Z x_1))] 0)
   (I:=fun x_1=>x_1<=i-m) (μ:=fun x_1=>i-m-x_1) (x0:=(0)) (Io ⟨O,O,af (fun z:Nat=>V.pv (.int .i64 (z:Int))) (KX a).symm,OK⟩ ⟨af (fun l=>some (di l)) hlu,OK⟩ O O) (eF _) ?_
  rintro t ht;refine Z4 O O O O O ?_;refine Gp O O (fun hc58=>?_) (fun hc58=>?_)
  ·have hlt:t<i-m:=OC;have hzl:=hul t OC;have hp:a+t<(Z t).length:=OC;have hq:a+t+1<(Z t).length:=OC;have hr1:=aN hp;have hr2:=aN hq;have hcl2:=aK (Z t);have hsw:=ov hp hq;rw [hup t OC] at hsw;generalize (Z t)[a+t]=x1 at*;generalize (Z t)[a+t+1]=y1 at*;refine Il<|Ge O follows [0,1,2,3,4,5,6,7,8,9,10,11,12,13,14,15,16,17] OD ?_;iterate 8 refine D1 O O ?_
   refine Ds 69 [_] O O O (fun τ h=>aa (a+t+1) underlying38 lM (Ee h 0 O O) (Eo h 0 O O) (Ee h 1 O O) OC OC) O OD ?_;first | refine D3 O O OF ?_ | refine D1 O O ?_
   iterate 2 refine D1 O O ?_
   refine Ds 73 [_] O O O (fun τ h=>aa (a+t) underlying38 lM (Ee h 0 O O) (Eo h 0 O O) (Ee h 1 O O) O OC) O OD ?_;first | refine D3 O O OF ?_ | refine D1 O O ?_
   refine Ds 75 [_] O O O (fun τ h=>aa (a+t) underlying38 lM (Ee h 0 O O) (Eo h 0 O O) (Ee h 1 O O) O OC) O OD<|DL.step (d:=none) [_] O O O (fun τ h=>wD lM (Ee h 0 O O) (Eo h 0 O O) (Ee h 1 O O) O (by simp;exact ⟨O,O⟩) OC) O OD ?_;refine Ds 76 [_] O O O (fun τ h=>aa (a+t+1) underlying38 lM (Ee h 0 O O) (Eo h 0 O O) (Ee h 1 O O) OC OC) O OD<|DL.step (d:=none) [_] O O O (fun τ h=>wD lM (Ee h 0 O O) (Eo h 0 O O) (Ee h 1 O O) O (by simp;exact ⟨O,O⟩) (by simp [eY];omega)) O OD ?_;refine ⟨OD,?_⟩;exact Z3 O O O O<|⟨(t+1),Io ⟨O,O,af (fun z:Int=>V.pv (.int .i64 z)) OC,OK⟩ ⟨ry (b:=some (Ob.cells 49 ((((aB (Z t)).take ((a+t)*2)++eV y1++(aB (Z t)).drop ((a+t)*2+2)).take ((a+t+1)*2))++eV x1++(((aB (Z t)).take ((a+t)*2)++eV y1++(aB (Z t)).drop ((a+t)*2+2)).drop ((a+t+1)*2+2))))) OD (af (fun c=>some (Ob.cells 49 c)) hsw),OK⟩ O O,OC,OC⟩
  ·have hte:t=i-m:=OC;subst hte;exact Gx O<|Gt O<|⟨[],[(big,di (A++(S++B)))],[],Io trivial ⟨ry (b:=some (di (Z (i-m)))) OD (af (fun l=>some (di l)) hS3),OK⟩ O O,O,O,O,O,S,hS1,hS2,O⟩
theorem Nc (A L B l:List Rw) (y:Rw) (n a m b:Nat) (hl:l=A++(L++(y::B))) (hn:l.length=n) (hn2:n<=100000) (hv:∀ z∈l,z.v.length<=1000) (hL:CU L) (h2L:2<=L.length) (ha:a=A.length) (hm:m=A.length+L.length) (hb:b=A.length+L.length+1):
  FnO Tryz.prog 171 1 0 [.osl big 2 n,.pv (.int .i64 a),.pv (.int .i64 m),.pv (.int .i64 b),.pv Gg] [(big,di l)] (fun v ob'=>v= .tup []/\∃ S,S.Perm (L++[y])/\CU S/\ob'=ar [(big,di (A++(S++B)))]):=by
 refine FnO.of func171 O ntmps171 OG fun m0 w0 F R0=>?_
 have hlu:l=upL A L B y L.length:=by rw [hl];simp [upL]
 have hnn:n=A.length+L.length+B.length+1:=by rw [<-hn,hlu,Mr (qT _)]
 have hy:l.getD m dR=y:=by
  have e:l=(A++L)++y::B:=by rw [hl];simp
  rw [qY OC,List.getElem_of_eq e,mo OH]
 have hLl:∀ k,a<=k->k<m->l.getD k dR=L.getD (k-a) dR:=fun k h1 h2=>by
  rw [hl,MP OC OC,ha]
 have hsr:∀ k k',a<=k->k<=k'->k'<m->leR (l.getD k dR) (l.getD k' dR):=fun k k' h1 h2 h3=>by
  rw [hLl k h1 OC,hLl k' OC h3];exact Mo hL OC OC
 have hfin:∀ p,p<=L.length->(∀ k,a<=k->k<a+p->leR (l.getD k dR) y)->(∀ k,a+p<=k->k<m->aZ y.v (l.getD k dR).v=true)->∃ S,S.Perm (L++[y])/\CU S/\upL A L B y p=A++(S++B):=fun p hp h1 h2=>by
  refine ⟨L.take p++y::L.drop p,(MO L y p).trans (List.perm_append_singleton y L).symm,Nx hL (fun k hk=>?_) (fun k h3 h4=>?_) hp,?_⟩
  ·have:=h1 (a+k) OC OC;rw [hLl _ OC OC,LO] at this;exact this
  ·have:=h2 (a+k) OC OC;rw [hLl _ OC OC,LO] at this;exact this
  ·unfold upL;simp
 have hup:=fun t (ht:t<L.length)=>M6 (A:=A) (B:=B) (x:=y) ht
 have hul:=fun t (ht:t<=L.length)=>Mr (A:=A) (B:=B) (x:=y) ht
 have hal:m<l.length:=OC;have hra:=aN hal;have hxa:l[m]=y:=by rw [<-qY hal];exact hy
 have hxv:=hv l[m] (aJ hal);rw [hxa] at hra hxv;have hcl:=aK l;have hmn:m=a+L.length:=OC;have hbm:b=m+1:=OC;rw [<-ha] at hup hul hnn;clear hl hLl hL hy;obtain ⟨Z,hZ⟩:∃ Z:Nat->List Rw,Z=upL A L B y:=⟨_,O⟩;rw [<-hZ] at hup hul hlu;have hfin2:=hfin;rw [<-hZ] at hfin2;clear hZ hfin ha hm hb;generalize L.length=r at*;refine Z4 O O O O O ?_;refine Gc O O (fun hc28=>absurd hc28 OH) (fun hc28=>?_);refine Il<|Z4 O O O O O ?_;refine Gc O O (fun hc80=>?_) (fun hc80=>absurd hc80 OH);refine Z2 O O O<|Z2 O O O ?_;refine Gl O (st:=fun x_0:Nat×Nat=>mkS [(0,.osl big 2 n),(2,.pv (.int .i64 m)),(4,.pv Gg),(14,.pv (.int .i64 x_0.1)),(15,.pv (.int .i64 x_0.2))] [(big,di l)] 0)
  (I:=fun x_0=>((a<=x_0.1/\x_0.1<=x_0.2)/\x_0.2<=m)/\(∀ k,a<=k->k<x_0.1->leR (l.getD k dR) y)/\∀ k,x_0.2<=k->k<m->aZ y.v (l.getD k dR).v=true) (μ:=fun x_0=>x_0.2-x_0.1) (x0:=(a,m)) (Io (aS O) (aO OD) O O) (⟨⟨⟨qT _,OI⟩,qT _⟩,fun k h1 h2=>by omega,fun k h1 h2=>by omega⟩) ?_
 rintro ⟨i,j⟩ ⟨⟨⟨hmi,hij⟩,hjb⟩,hlo,hhi⟩;try simp only at hmi hij hjb hlo hhi ⊢
 refine Z3 O O O O ?_;refine Gp O O (fun hc85=>?_) (fun hc85=>?_)
 ·have hlt:i<j:=OC;have hh:(i+j)/2<l.length:=OC;have hh1:i<=(i+j)/2/\(i+j)/2<j:=OC;have hrh:=aN hh;have hhv:=hv _ (aJ hh);have hgh:l.getD ((i+j)/2) dR=l[(i+j)/2]:=qY hh;have hcm:=vO y l[(i+j)/2] OC OC;have hcz:=Eb y.v l[(i+j)/2].v;have hms:=@Ma i j;have hwm:=Mb (i:=(i+j)/2) OC;have hwa:=Mb (i:=i+j) OC;have hwi:IntKind.i64.wrap (((i+j)/2:Nat):Int)=(((i+j)/2:Nat):Int):=eT OC;generalize (i+j)/2=hd at*;refine Il<|Z3 O O O O<|Rs 89 O O (XJ.cast (v':= .pv (.int .u64 ((i:Int)+(j:Int)))) (en underlying3 underlying161 O) (af (fun z=>V.pv (.int .u64 z)) (by rw [<-LD];exact hwa)))<|Rs 90 O O (XJ.cast (v':= .pv (.int .u64 (hd:Int))) (Ii O O OE) (af (fun z=>V.pv (.int .u64 z)) hms))<|Rs 91 O O (XJ.cast (v':= .pv (.int .i64 (hd:Int))) (en underlying161 underlying3 O) (af (fun z=>V.pv (.int .i64 z)) hwi))<|A1 O<|Ge O follows [0,1,2,3,4,5,6,7,8,9,10,11] OD ?_;iterate 3 refine D1 O O ?_
  refine Ds 95 [_] O O O (fun τ h=>aa m underlying38 lM (Ee h 0 O O) (Eo h 0 O O) (Ee h 1 O O) O OC) O OD ?_;first | refine D3 O O OF ?_ | refine D1 O O ?_
  iterate 2 refine D1 O O ?_
  refine Ds 99 [_] O O O (fun τ h=>aa hd underlying38 lM (Ee h 0 O O) (Eo h 0 O O) (Ee h 1 O O) O OC) O OD ?_;first | refine D3 O O OF ?_ | refine D1 O O ?_
  refine Ds 101 [] O O O (fun τ h=>bb call54 (Ee h 0 O O) hcm (h.jv O)) O OD<|Ds 102 [] O O O (fun τ h=>XJ.cast (v':= .pv (.bool (aZ y.v l[hd].v))) (aQ (Ee h 0 O O) (Ee h 1 O O) O) (af (fun b=>V.pv (.bool b)) hcz)) O OD<|D1 O O ?_;refine ⟨OD,?_⟩;refine Gc O O (fun hc103=>?_) (fun hc103=>?_)
  ·have hls:leR (l.getD hd dR) y:=by rw [hgh];unfold leR;simpa using hc103
   exact Z3 O O O O<|⟨(hd+1,j),Io (aS O) (aO OD) O O,⟨⟨⟨OI,OI⟩,hjb⟩,fun k h1 h2=>ck (hsr k hd h1 OC OC) hls,hhi⟩,OI⟩
  ·have hls:aZ y.v (l.getD hd dR).v=true:=by rw [hgh];simpa using hc103
   exact Z2 O O O<|⟨(i,hd),Io (aS O) (aO OD) O O,⟨⟨⟨hmi,OI⟩,OI⟩,hlo,fun k h1 h2=>N3 hls (hsr hd k OC h1 h2)⟩,OI⟩
 ·have hie:i=j:=OC;subst hie;obtain ⟨S,hS1,hS2,hS3⟩:=hfin2 (i-a) OC (fun k h1 h2=>hlo k h1 OC) (fun k h1 h2=>hhi k OC h2);refine Gx O<|Z2 O O O ?_;refine Gl O (st:=fun x_1:Nat=>mkS [(0,.osl big 2 n),(14,.pv (.int .i64 i)),(17,.pv (.int .i64 ((a+x_1:Nat):Int)))] [(big,di (Z x_1))] 0)
   (I:=fun x_1=>i-a<=x_1/\x_1<=r) (μ:=fun x_1=>x_1) (x0:=(r)) (Io ⟨O,O,af (fun z:Nat=>V.pv (.int .i64 (z:Int))) hmn,OK⟩ ⟨af (fun l=>some (di l)) hlu,OK⟩ O O) (⟨OC,qT _⟩) ?_
  rintro t ⟨ht,htr⟩;refine Z3 O O O O ?_;refine Gp O O (fun hc110=>?_) (fun hc110=>?_)
  ·obtain ⟨u,rfl⟩:∃ u,t=u+1:=⟨t-1,OC⟩;have hur:u<r:=OC;have hzl:=hul (u+1) OC;have hp:a+u<(Z (u+1)).length:=OC;have hq:a+u+1<(Z (u+1)).length:=OC;have hr1:=aN hp;have hr2:=aN hq;have hcl2:=aK (Z (u+1));have hsw:=ov hq hp;rw [hup u hur] at hsw;generalize (Z (u+1))[a+u]=x1 at*;generalize (Z (u+1))[a+u+1]=y1 at*;refine Il<|Ge O follows [0,1,2,3,4,5,6,7,8,9,10,11,12,13,14,15,16,17] OD ?_;iterate 8 refine D1 O O ?_
   refine Ds 121 [_] O O O (fun τ h=>aa (a+u) underlying38 lM (Ee h 0 O O) (Eo h 0 O O) (Ee h 1 O O) OC OC) O OD ?_;first | refine D3 O O OF ?_ | refine D1 O O ?_
   iterate 2 refine D1 O O ?_
   refine Ds 125 [_] O O O (fun τ h=>aa (a+u+1) underlying38 lM (Ee h 0 O O) (Eo h 0 O O) (Ee h 1 O O) O OC) O OD ?_;first | refine D3 O O OF ?_ | refine D1 O O ?_
   refine Ds 127 [_] O O O (fun τ h=>aa (a+u+1) underlying38 lM (Ee h 0 O O) (Eo h 0 O O) (Ee h 1 O O) O OC) O OD<|DL.step (d:=none) [_] O O O (fun τ h=>wD lM (Ee h 0 O O) (Eo h 0 O O) (Ee h 1 O O) O (by simp;exact ⟨O,O⟩) OC) O OD ?_;refine Ds 128 [_] O O O (fun τ h=>aa (a+u) underlying38 lM (Ee h 0 O O) (Eo h 0 O O) (Ee h 1 O O) OC OC) O OD<|DL.step (d:=none) [_] O O O (fun τ h=>wD lM (Ee h 0 O O) (Eo h 0 O O) (Ee h 1 O O) O (by simp;exact ⟨O,O⟩) (by simp [eY];omega)) O OD ?_;refine ⟨OD,?_⟩;exact Z3 O O O O<|⟨(u),Io ⟨O,O,af (fun z:Int=>V.pv (.int .i64 z)) OC,OK⟩ ⟨ry (b:=some (Ob.cells 49 ((((aB (Z (u+1))).take ((a+u+1)*2)++eV x1++(aB (Z (u+1))).drop ((a+u+1)*2+2)).take ((a+u)*2))++eV y1++(((aB (Z (u+1))).take ((a+u+1)*2)++eV x1++(aB (Z (u+1))).drop ((a+u+1)*2+2)).drop ((a+u)*2+2))))) OD (af (fun c=>some (Ob.cells 49 c)) hsw),OK⟩ O O,⟨OC,OC⟩,OC⟩
  ·have hte:t=i-a:=OC;subst hte;exact Gx O<|Gt O<|⟨[],[(big,di (A++(S++B)))],[],Io trivial ⟨ry (b:=some (di (Z (i-a)))) OD (af (fun l=>some (di l)) hS3),OK⟩ O O,O,O,O,O,S,hS1,hS2,O⟩
end
section
open Mk Jn
theorem M8 {L R l:List Rw} {a m b s e:Nat} (hL:CU L) (hR:CU R) (hm:m=a+L.length) (hb:b=m+R.length)
  (hLl:∀ k,a<=k->k<m->l.getD k dR=L.getD (k-a) dR) (hRl:∀ k,m<=k->k<b->l.getD k dR=R.getD (k-m) dR)
  (hs:a<=s/\s<=m) (he:m<=e/\e<=b) (h1:s=a\/e=b\/leR (l.getD (s-1) dR) (l.getD e dR)) (h2:s=m\/e=m\/leR (l.getD (e-1) dR) (l.getD s dR)):
  ∃ L1 L2 R1 R2,L=L1++L2/\R=R1++R2/\L1.length=s-a/\R1.length=e-m/\(∀ x∈L1,∀ y∈R2,leR x y)/\∀ x∈R1,∀ y∈L2,leR x y:=by
 refine ⟨L.take (s-a),L.drop (s-a),R.take (e-m),R.drop (e-m),(zj _ _).symm,(zj _ _).symm,by rw [iP];omega,by rw [iP];omega,fun x hx y hy=>?_,fun x hx y hy=>?_⟩
 ·obtain ⟨i,hi,rfl⟩:=By hx;obtain ⟨j,hj,rfl⟩:=By hy;rw [iP] at hi;rw [Ak] at hj;rw [Lx,List.getElem_drop,<-qY OC,<-qY OC];have c1:leR (L.getD i dR) (L.getD (s-1-a) dR):=Mo hL OC OC;have c2:leR (R.getD (e-m) dR) (R.getD (e-m+j) dR):=Mo hR OC OC;have c3:leR (l.getD (s-1) dR) (l.getD e dR):=by
   rcases h1 with h | h | h
   ·omega
   ·omega
   ·exact h
  rw [hLl _ OC OC,hRl _ OC OC] at c3;exact ck c1 (ck c3 c2)
 ·obtain ⟨i,hi,rfl⟩:=By hx;obtain ⟨j,hj,rfl⟩:=By hy;rw [iP] at hi;rw [Ak] at hj;rw [Lx,List.getElem_drop,<-qY OC,<-qY OC];have c1:leR (R.getD i dR) (R.getD (e-1-m) dR):=Mo hR OC OC;have c2:leR (L.getD (s-a) dR) (L.getD (s-a+j) dR):=Mo hL OC OC;have c3:leR (l.getD (e-1) dR) (l.getD s dR):=by
   rcases h2 with h | h | h
   ·omega
   ·omega
   ·exact h
  rw [hRl _ OC OC,hLl _ OC OC] at c3;exact ck c1 (ck c3 c2)
theorem b3 {L1 L2 R1 R2 S1 S2:List Rw} (hL:CU (L1++L2)) (hR:CU (R1++R2)) (h1:∀ x∈L1,∀ y∈R2,leR x y) (h2:∀ x∈R1,∀ y∈L2,leR x y) (p1:S1.Perm (L1++R1)) (p2:S2.Perm (L2++R2)) (s1:CU S1) (s2:CU S2):
  (S1++S2).Perm ((L1++L2)++(R1++R2))/\CU (S1++S2):=by
 obtain ⟨_,_,l3⟩:=b6.1 hL;obtain ⟨_,_,r3⟩:=b6.1 hR;refine ⟨(p1.append p2).trans ?_,b6.2 ⟨s1,s2,fun x hx y hy=>?_⟩⟩
 ·rw [xJ,xJ];refine L0 L1 ?_;rw [<-xJ,<-xJ];exact List.Perm.append_right R2 List.perm_append_comm
 ·rcases my.1 (p1.mem_iff.1 hx) with hx | hx<;>rcases my.1 (p2.mem_iff.1 hy) with hy | hy
  ·exact l3 x hx y hy
  ·exact h1 x hx y hy
  ·exact h2 x hx y hy
  ·exact r3 x hx y hy
def N4 (n N:Nat):Prop:=∀ (A L R B l:List Rw) (a m b:Nat),l=A++(L++(R++B))->l.length=n->(∀ z∈l,z.v.length<=1000)->CU L->CU R->0<L.length->0<R.length->L.length+R.length<=N->a=A.length->m=A.length+L.length->b=A.length+L.length+R.length->
  FnO Tryz.prog 171 1 0 [.osl big 2 n,.pv (.int .i64 a),.pv (.int .i64 m),.pv (.int .i64 b),.pv Gg] [(big,di l)] (fun v ob'=>v= .tup []/\∃ S,S.Perm (L++R)/\CU S/\ob'=ar [(big,di (A++(S++B)))])
theorem Nn (A L R B l:List Rw) (n a m b:Nat) (hl:l=A++(L++(R++B))) (hn:l.length=n) (hn2:n<=100000) (hv:∀ z∈l,z.v.length<=1000) (hL:CU L) (hR:CU R) (h2L:2<=L.length) (h2R:2<=R.length) (ha:a=A.length) (hm:m=A.length+L.length) (hb:b=A.length+L.length+R.length) (hrec:N4 n (L.length+R.length-1)):
  FnO Tryz.prog 171 1 0 [.osl big 2 n,.pv (.int .i64 a),.pv (.int .i64 m),.pv (.int .i64 b),.pv Gg] [(big,di l)] (fun v ob'=>v= .tup []/\∃ S,S.Perm (L++R)/\CU S/\ob'=ar [(big,di (A++(S++B)))]):=by
 refine FnO.of func171 O ntmps171 OG fun m0 w0 F R0=>?_
 have hnn:n=A.length+L.length+R.length+B.length:=by rw [<-hn,hl];simp;omega
 have hLl:∀ k,a<=k->k<m->l.getD k dR=L.getD (k-a) dR:=fun k h1 h2=>by
  rw [hl,MP OC OC,ha]
 have hRl:∀ k,m<=k->k<b->l.getD k dR=R.getD (k-m) dR:=fun k h1 h2=>by
  have e:l=(A++L)++(R++B):=by rw [hl];simp
  rw [e,MP OH OH]
  congr 1
  simp;omega
 have hcl:=aK l;have hmA:m=a+L.length:=OC;have hbA:b=m+R.length:=OC;obtain ⟨mid,hmid⟩:∃ mid,mid=(a+b)/2:=⟨_,O⟩;obtain ⟨s0,hs0⟩:∃ s0,s0=if mid<m then mid+m-b else a:=⟨_,O⟩
 obtain ⟨r0,hr0⟩:∃ r0,r0=if mid<m then mid else m:=⟨_,O⟩
 have hms0:=@Ma a b;have hwa0:=Mb (i:=a+b) OC;have hwi0:IntKind.i64.wrap (((a+b)/2:Nat):Int)=(((a+b)/2:Nat):Int):=eT OC;rw [<-hmid] at hms0 hwi0;refine Z4 O O O O O ?_;refine Gc O O (fun hc28=>absurd hc28 OH) (fun hc28=>?_);refine Il<|Z4 O O O O O ?_;refine Gc O O (fun hc80=>absurd hc80 OH) (fun hc80=>?_);refine Il<|Z3 O O O O<|Rs 132 O O (XJ.cast (v':= .pv (.int .u64 ((a:Int)+(b:Int)))) (en underlying3 underlying161 O) (af (fun z=>V.pv (.int .u64 z)) (by rw [<-LD];exact hwa0)))<|Rs 133 O O (XJ.cast (v':= .pv (.int .u64 (mid:Int))) (Ii O O OE) (af (fun z=>V.pv (.int .u64 z)) hms0))<|Rs 134 O O (XJ.cast (v':= .pv (.int .i64 (mid:Int))) (en underlying161 underlying3 O) (af (fun z=>V.pv (.int .i64 z)) hwi0))<|A1 O<|Z4 O O O O O<|Z2 O O O<|Z3 O O O O ?_;refine Gp O O (fun hc140=>?_) (fun hc140=>?_)
 ·have hs1:s0=mid+m-b/\r0=mid:=by rw [hs0,hr0,og OC,og OC];exact ⟨O,O⟩
  have hsr:(s0+(b-mid)=m/\a<=s0)/\(s0<=r0/\r0<=m):=OC;have hse:s0=a\/mid+m-s0=b:=OC;have hre:r0=m\/mid+m-r0=m:=OC;have hpc:∀ c,s0<=c->c<r0->m<=mid+m-1-c/\mid+m-1-c<b:=fun c h1 h2=>by omega
  clear hs0 hr0;refine Z4 O O O O O<|Z2 O O O<|Z3 O O O O ?_;refine Gl O (st:=fun x_0:Nat×Nat=>mkS [(0,.osl big 2 n),(1,.pv (.int .i64 a)),(2,.pv (.int .i64 m)),(3,.pv (.int .i64 b)),(4,.pv Gg),(18,.pv (.int .i64 mid)),(19,.pv (.int .i64 (mid+m))),(20,.pv (.int .i64 x_0.1)),(21,.pv (.int .i64 x_0.2)),(22,.pv (.int .i64 ((mid:Int)+(m:Int)-1)))] [(big,di l)] 0)
   (I:=fun x_0=>(s0<=x_0.1/\x_0.1<=x_0.2/\x_0.2<=r0)/\(x_0.1=s0\/leR (l.getD (x_0.1-1) dR) (l.getD (mid+m-x_0.1) dR))/\(x_0.2=r0\/leR (l.getD (mid+m-1-x_0.2) dR) (l.getD x_0.2 dR))) (μ:=fun x_0=>x_0.2-x_0.1) (x0:=(s0,r0)) (Io ⟨O,O,O,O,O,O,O,af (fun z:Int=>V.pv (.int .i64 z)) OI,af (fun z:Int=>V.pv (.int .i64 z)) OI,O,OK⟩ (aO OD) O O) (⟨⟨qT _,OI,qT _⟩,.inl O,.inl O⟩) ?_
  rintro ⟨s,r⟩ ⟨⟨hs,hsr2,hr⟩,hi1,hi2⟩;try simp only at hs hsr2 hr hi1 hi2 ⊢
  refine Z3 O O O O ?_;refine Gp O O (fun hc151=>?_) (fun hc151=>?_)
  ·have hlt:s<r:=OC;obtain ⟨c,hc⟩:∃ c,c=(s+r)/2:=⟨_,O⟩;have hc1:s<=c/\c<r:=OC;obtain ⟨hp1,hp2⟩:=hpc c OC OC;obtain ⟨q,hq⟩:∃ q,q=mid+m-1-c:=⟨_,O⟩;have hcl1:c<l.length:=OC;have hql1:q<l.length:=OC;have hrc:=aN hcl1;have hrq:=aN hql1;have hcv:=hv _ (aJ hcl1);have hqv:=hv _ (aJ hql1);have hgc:l.getD c dR=l[c]:=qY hcl1;have hgq:l.getD q dR=l[q]:=qY hql1;have hcm:=vO l[q] l[c] OC OC;have hcz:=Eb l[q].v l[c].v;have hms:=@Ma s r;have hwa:=Mb (i:=s+r) OC;have hwi:IntKind.i64.wrap (((s+r)/2:Nat):Int)=(((s+r)/2:Nat):Int):=eT OC;rw [<-hc] at hms hwi;refine Il<|Z3 O O O O<|Rs 155 O O (XJ.cast (v':= .pv (.int .u64 ((s:Int)+(r:Int)))) (en underlying3 underlying161 O) (af (fun z=>V.pv (.int .u64 z)) (by rw [<-LD];exact hwa)))<|Rs 156 O O (XJ.cast (v':= .pv (.int .u64 (c:Int))) (Ii O O OE) (af (fun z=>V.pv (.int .u64 z)) hms))<|Rs 157 O O (XJ.cast (v':= .pv (.int .i64 (c:Int))) (en underlying161 underlying3 O) (af (fun z=>V.pv (.int .i64 z)) hwi))<|A1 O<|Ge O follows [0,1,2,3,4,5,6,7,8,9,10,11,12,13] OD ?_;iterate 5 refine D1 O O ?_
   refine Ds 163 [_] O O O (fun τ h=>aa q underlying38 lM (Ee h 0 O O) (Eo h 0 O O) (Ee h 1 O O) OC OC) O OD ?_;first | refine D3 O O OF ?_ | refine D1 O O ?_
   iterate 2 refine D1 O O ?_
   refine Ds 167 [_] O O O (fun τ h=>aa c underlying38 lM (Ee h 0 O O) (Eo h 0 O O) (Ee h 1 O O) O OC) O OD ?_;first | refine D3 O O OF ?_ | refine D1 O O ?_
   refine Ds 169 [] O O O (fun τ h=>bb call54 (Ee h 0 O O) hcm (h.jv O)) O OD<|Ds 170 [] O O O (fun τ h=>XJ.cast (v':= .pv (.bool (aZ l[q].v l[c].v))) (aQ (Ee h 0 O O) (Ee h 1 O O) O) (af (fun b=>V.pv (.bool b)) hcz)) O OD<|D1 O O ?_;refine ⟨OD,?_⟩;refine Gc O O (fun hc171=>?_) (fun hc171=>?_)
   ·have hls:leR (l.getD c dR) (l.getD q dR):=by rw [hgc,hgq];unfold leR;simpa using hc171
    exact Z3 O O O O<|⟨(c+1,r),Io (aS O) (aO OD) O O,⟨⟨OI,OI,hr⟩,.inr (by show leR (l.getD (c+1-1) dR) (l.getD (mid+m-(c+1)) dR);rw [Nat.add_sub_cancel,show mid+m-(c+1)=q by omega];exact hls),hi2⟩,OI⟩
   ·have hls:leR (l.getD q dR) (l.getD c dR):=by rw [hgc,hgq];exact Mx (by simpa using hc171)
    exact Z2 O O O<|⟨(s,c),Io (aS O) (aO OD) O O,⟨⟨hs,OI,OI⟩,hi1,.inr (by show leR (l.getD (mid+m-1-c) dR) (l.getD c dR);rw [<-hq];exact hls)⟩,OI⟩
  ·have hsr3:s=r:=OC;subst hsr3;obtain ⟨e,he⟩:∃ e,e=mid+m-s:=⟨_,O⟩;have hem:m<=e/\e<=b:=by
    rcases hse with h | h<;>rcases hre with h' | h'<;>omega
   have hg1:s=a\/e=b\/leR (l.getD (s-1) dR) (l.getD e dR):=by
    rcases hi1 with h | h
    ·subst h;rcases hse with h | h
     ·exact .inl h
     ·exact .inr (.inl OC)
    ·rw [<-he] at h;exact .inr (.inr h)
   have hg2:s=m\/e=m\/leR (l.getD (e-1) dR) (l.getD s dR):=by
    rcases hi2 with h | h
    ·subst h;rcases hre with h | h
     ·exact .inl h
     ·exact .inr (.inl OC)
    ·rw [show mid+m-1-s=e-1 by omega] at h;exact .inr (.inr h)
   obtain ⟨L1,L2,R1,R2,rfl,rfl,hl1,hr1,hx1,hx2⟩:=M8 hL hR hmA hbA hLl hRl OC hem hg1 hg2;have e1:(L1++L2).length=L1.length+L2.length:=a6;have e2:(R1++R2).length=R1.length+R2.length:=a6;have sL1:CU L1:=(b6.1 hL).1;have sL2:CU L2:=(b6.1 hL).2.1;have sR1:CU R1:=(b6.1 hR).1;have sR2:CU R2:=(b6.1 hR).2.1;have hrt:=fun (h1:0<L2.length) (h2:0<R1.length)=>L6 (A++L1) L2 R1 (R2++B) l n (s:Int) (m:Int) (e:Int) (by rw [hl];simp) hn hn2 h1 h2 OH OH OH
   clear hLl hRl hi1 hi2 hg1 hg2 hpc;refine Gx O<|Z2 O O O<|Rs 177 O O (XJ.cast (v':= .pv (.int .i64 (e:Int))) (Hw O O OC) (af (fun z=>V.pv (.int .i64 z)) OC))<|A1 O<|Z4 O O O O O ?_;apply Iy 4 181 185 [182,183,184] O ON
   ·intro hb3;iterate 4 refine A1 O ?_
    exact Iq OM O O O
   ·intro hb3;iterate 4 refine A1 O ?_
    exact Iq OM O O O
   refine Gc O O (fun hc185=>?_) (fun hc185=>?_)
   ·have hne:0<L2.length/\0<R1.length:=by simp at hc185;omega
    have hrt2:=hrt hne.1 hne.2;refine Gr O ?_;iterate 5 refine A1 O ?_
    refine Rs 191 O O (ah [big] 0 call211 hrt2 O O O O ⟨O,OK⟩ OE O) ?_;have hlen2:((A++L1)++(R1++(L2++(R2++B)))).length=n:=by simp;omega
    have hv2:∀ z∈(A++L1)++(R1++(L2++(R2++B))),z.v.length<=1000:=fun z hz=>hv z (by rw [hl];simp only [my] at hz ⊢; rcases hz with (h | h) | h | h | h | h<;>simp [h])
    refine Z4 O O O O O ?_;apply Iy 4 195 199 [196,197,198] O ON
    ·intro hb3;iterate 4 refine A1 O ?_
     exact Iq OM O O O
    ·intro hb3;iterate 4 refine A1 O ?_
     exact Iq OM O O O
    refine Gc O O (fun hc199=>?_) (fun hc199=>?_)
    ·have hne3:0<L1.length/\0<R1.length:=by simp at hc199;omega
     have hr3:=hrec A L1 R1 (L2++(R2++B)) ((A++L1)++(R1++(L2++(R2++B)))) a s mid OG hlen2 hv2 sL1 sR1 hne3.1 hne3.2 OC ha OC OC;refine Gr O ?_;iterate 5 refine A1 O ?_
     refine RL.call O (fA [big] 0 call171 hr3 O O O O ⟨O,OK⟩ OE O ?_);rintro _ _ ⟨rfl,S1,hS1p,hS1s,rfl⟩;have hS1l:S1.length=L1.length+R1.length:=by rw [hS1p.length_eq,a6]
     have hlen3:(A++(S1++(L2++(R2++B)))).length=n:=by simp;omega
     have hv3:∀ z∈A++(S1++(L2++(R2++B))),z.v.length<=1000:=fun z hz=>hv z (by
      rw [hl];simp only [my] at hz ⊢;rcases hz with h | h | h | h | h
      ·simp [h]
      ·rcases my.1 (hS1p.mem_iff.1 h) with h | h<;>simp [h]
      ·simp [h]
      ·simp [h]
      ·simp [h])
     refine Z4 O O O O O ?_;apply Iy 4 209 213 [210,211,212] O ON
     ·intro hb3;iterate 4 refine A1 O ?_
      exact Iq OM O O O
     ·intro hb3;iterate 4 refine A1 O ?_
      exact Iq OM O O O
     refine Gc O O (fun hc213=>?_) (fun hc213=>?_)
     ·have hne4:0<L2.length/\0<R2.length:=by simp at hc213;omega
      have hr4:=hrec (A++S1) L2 R2 B (A++(S1++(L2++(R2++B)))) mid e b OG hlen3 hv3 sL2 sR2 hne4.1 hne4.2 OC OH OH OH;refine Gr O ?_;iterate 5 refine A1 O ?_
      refine RL.call O (fA [big] 0 call171 hr4 O O O O ⟨O,OK⟩ OE O ?_);rintro _ _ ⟨rfl,S2,hS2p,hS2s,rfl⟩;obtain ⟨hP,hSs⟩:=b3 hL hR hx1 hx2 hS1p hS2p hS1s hS2s;exact ⟨[],[(big,di (A++((S1++S2)++B)))],[],Io trivial ⟨ry (b:=some (di ((A++S1)++(S2++B)))) OD (af (fun l=>some (di l)) OG),OK⟩ O O,O,O,O,O,S1++S2,hP,hSs,O⟩
     ·have hne4:L2.length=0\/R2.length=0:=by simp at hc213;omega
      obtain ⟨S2,hS2⟩:∃ S2,S2=L2++R2:=⟨_,O⟩;have hS2p:S2.Perm (L2++R2):=by rw [hS2]
      have hS2s:CU S2:=by
       rw [hS2];rcases hne4 with h | h
       ·rw [sg.1 h];exact sR2
       ·rw [sg.1 h,xd];exact sL2
      rw [show A++(S1++(L2++(R2++B)))=(A++S1)++(S2++B) by rw [hS2];simp];refine Il ?_;obtain ⟨hP,hSs⟩:=b3 hL hR hx1 hx2 hS1p hS2p hS1s hS2s;exact ⟨[],[(big,di (A++((S1++S2)++B)))],[],Io trivial ⟨ry (b:=some (di ((A++S1)++(S2++B)))) OD (af (fun l=>some (di l)) OG),OK⟩ O O,O,O,O,O,S1++S2,hP,hSs,O⟩
    ·have hne3:L1.length=0\/R1.length=0:=by simp at hc199;omega
     obtain ⟨S1,hS1⟩:∃ S1,S1=L1++R1:=⟨_,O⟩;have hS1p:S1.Perm (L1++R1):=by rw [hS1]
     have hS1s:CU S1:=by
      rw [hS1];rcases hne3 with h | h
      ·rw [sg.1 h];exact sR1
      ·rw [sg.1 h,xd];exact sL1
     rw [show (A++L1)++(R1++(L2++(R2++B)))=A++(S1++(L2++(R2++B))) by rw [hS1];simp];refine Il ?_;have hS1l:S1.length=L1.length+R1.length:=by rw [hS1p.length_eq,a6]
     have hlen3:(A++(S1++(L2++(R2++B)))).length=n:=by simp;omega
     have hv3:∀ z∈A++(S1++(L2++(R2++B))),z.v.length<=1000:=fun z hz=>hv z (by
      rw [hl];simp only [my] at hz ⊢;rcases hz with h | h | h | h | h
      ·simp [h]
      ·rcases my.1 (hS1p.mem_iff.1 h) with h | h<;>simp [h]
      ·simp [h]
      ·simp [h]
      ·simp [h])
     refine Z4 O O O O O ?_;apply Iy 4 209 213 [210,211,212] O ON
     ·intro hb3;iterate 4 refine A1 O ?_
      exact Iq OM O O O
     ·intro hb3;iterate 4 refine A1 O ?_
      exact Iq OM O O O
     refine Gc O O (fun hc213=>?_) (fun hc213=>?_)
     ·have hne4:0<L2.length/\0<R2.length:=by simp at hc213;omega
      have hr4:=hrec (A++S1) L2 R2 B (A++(S1++(L2++(R2++B)))) mid e b OG hlen3 hv3 sL2 sR2 hne4.1 hne4.2 OC OH OH OH;refine Gr O ?_;iterate 5 refine A1 O ?_
      refine RL.call O (fA [big] 0 call171 hr4 O O O O ⟨O,OK⟩ OE O ?_);rintro _ _ ⟨rfl,S2,hS2p,hS2s,rfl⟩;obtain ⟨hP,hSs⟩:=b3 hL hR hx1 hx2 hS1p hS2p hS1s hS2s;exact ⟨[],[(big,di (A++((S1++S2)++B)))],[],Io trivial ⟨ry (b:=some (di ((A++S1)++(S2++B)))) OD (af (fun l=>some (di l)) OG),OK⟩ O O,O,O,O,O,S1++S2,hP,hSs,O⟩
     ·have hne4:L2.length=0\/R2.length=0:=by simp at hc213;omega
      obtain ⟨S2,hS2⟩:∃ S2,S2=L2++R2:=⟨_,O⟩;have hS2p:S2.Perm (L2++R2):=by rw [hS2]
      have hS2s:CU S2:=by
       rw [hS2];rcases hne4 with h | h
       ·rw [sg.1 h];exact sR2
       ·rw [sg.1 h,xd];exact sL2
      rw [show A++(S1++(L2++(R2++B)))=(A++S1)++(S2++B) by rw [hS2];simp];refine Il ?_;obtain ⟨hP,hSs⟩:=b3 hL hR hx1 hx2 hS1p hS2p hS1s hS2s;exact ⟨[],[(big,di (A++((S1++S2)++B)))],[],Io trivial ⟨ry (b:=some (di ((A++S1)++(S2++B)))) OD (af (fun l=>some (di l)) OG),OK⟩ O O,O,O,O,O,S1++S2,hP,hSs,O⟩
   ·have hne:L2.length=0\/R1.length=0:=by simp at hc185;omega
    have hl2:l=(A++L1)++(R1++(L2++(R2++B))):=by
     rw [hl];rcases hne with h | h
     ·rw [sg.1 h];simp
     ·rw [sg.1 h];simp
    rw [hl2];refine Il ?_;have hlen2:((A++L1)++(R1++(L2++(R2++B)))).length=n:=by simp;omega
    have hv2:∀ z∈(A++L1)++(R1++(L2++(R2++B))),z.v.length<=1000:=fun z hz=>hv z (by rw [hl];simp only [my] at hz ⊢; rcases hz with (h | h) | h | h | h | h<;>simp [h])
    refine Z4 O O O O O ?_;apply Iy 4 195 199 [196,197,198] O ON
    ·intro hb3;iterate 4 refine A1 O ?_
     exact Iq OM O O O
    ·intro hb3;iterate 4 refine A1 O ?_
     exact Iq OM O O O
    refine Gc O O (fun hc199=>?_) (fun hc199=>?_)
    ·have hne3:0<L1.length/\0<R1.length:=by simp at hc199;omega
     have hr3:=hrec A L1 R1 (L2++(R2++B)) ((A++L1)++(R1++(L2++(R2++B)))) a s mid OG hlen2 hv2 sL1 sR1 hne3.1 hne3.2 OC ha OC OC;refine Gr O ?_;iterate 5 refine A1 O ?_
     refine RL.call O (fA [big] 0 call171 hr3 O O O O ⟨O,OK⟩ OE O ?_);rintro _ _ ⟨rfl,S1,hS1p,hS1s,rfl⟩;have hS1l:S1.length=L1.length+R1.length:=by rw [hS1p.length_eq,a6]
     have hlen3:(A++(S1++(L2++(R2++B)))).length=n:=by simp;omega
     have hv3:∀ z∈A++(S1++(L2++(R2++B))),z.v.length<=1000:=fun z hz=>hv z (by
      rw [hl];simp only [my] at hz ⊢;rcases hz with h | h | h | h | h
      ·simp [h]
      ·rcases my.1 (hS1p.mem_iff.1 h) with h | h<;>simp [h]
      ·simp [h]
      ·simp [h]
      ·simp [h])
     refine Z4 O O O O O ?_;apply Iy 4 209 213 [210,211,212] O ON
     ·intro hb3;iterate 4 refine A1 O ?_
      exact Iq OM O O O
     ·intro hb3;iterate 4 refine A1 O ?_
      exact Iq OM O O O
     refine Gc O O (fun hc213=>?_) (fun hc213=>?_)
     ·have hne4:0<L2.length/\0<R2.length:=by simp at hc213;omega
      have hr4:=hrec (A++S1) L2 R2 B (A++(S1++(L2++(R2++B)))) mid e b OG hlen3 hv3 sL2 sR2 hne4.1 hne4.2 OC OH OH OH;refine Gr O ?_;iterate 5 refine A1 O ?_
      refine RL.call O (fA [big] 0 call171 hr4 O O O O ⟨O,OK⟩ OE O ?_);rintro _ _ ⟨rfl,S2,hS2p,hS2s,rfl⟩;obtain ⟨hP,hSs⟩:=b3 hL hR hx1 hx2 hS1p hS2p hS1s hS2s;exact ⟨[],[(big,di (A++((S1++S2)++B)))],[],Io trivial ⟨ry (b:=some (di ((A++S1)++(S2++B)))) OD (af (fun l=>some (di l)) OG),OK⟩ O O,O,O,O,O,S1++S2,hP,hSs,O⟩
     ·have hne4:L2.length=0\/R2.length=0:=by simp at hc213;omega
      obtain ⟨S2,hS2⟩:∃ S2,S2=L2++R2:=⟨_,O⟩;have hS2p:S2.Perm (L2++R2):=by rw [hS2]
      have hS2s:CU S2:=by
       rw [hS2];rcases hne4 with h | h
       ·rw [sg.1 h];exact sR2
       ·rw [sg.1 h,xd];exact sL2
      rw [show A++(S1++(L2++(R2++B)))=(A++S1)++(S2++B) by rw [hS2];simp];refine Il ?_;obtain ⟨hP,hSs⟩:=b3 hL hR hx1 hx2 hS1p hS2p hS1s hS2s;exact ⟨[],[(big,di (A++((S1++S2)++B)))],[],Io trivial ⟨ry (b:=some (di ((A++S1)++(S2++B)))) OD (af (fun l=>some (di l)) OG),OK⟩ O O,O,O,O,O,S1++S2,hP,hSs,O⟩
    ·have hne3:L1.length=0\/R1.length=0:=by simp at hc199;omega
     obtain ⟨S1,hS1⟩:∃ S1,S1=L1++R1:=⟨_,O⟩;have hS1p:S1.Perm (L1++R1):=by rw [hS1]
     have hS1s:CU S1:=by
      rw [hS1];rcases hne3 with h | h
      ·rw [sg.1 h];exact sR1
      ·rw [sg.1 h,xd];exact sL1
     rw [show (A++L1)++(R1++(L2++(R2++B)))=A++(S1++(L2++(R2++B))) by rw [hS1];simp];refine Il ?_;have hS1l:S1.length=L1.length+R1.length:=by rw [hS1p.length_eq,a6]
     have hlen3:(A++(S1++(L2++(R2++B)))).length=n:=by simp;omega
     have hv3:∀ z∈A++(S1++(L2++(R2++B))),z.v.length<=1000:=fun z hz=>hv z (by
      rw [hl];simp only [my] at hz ⊢;rcases hz with h | h | h | h | h
      ·simp [h]
      ·rcases my.1 (hS1p.mem_iff.1 h) with h | h<;>simp [h]
      ·simp [h]
      ·simp [h]
      ·simp [h])
     refine Z4 O O O O O ?_;apply Iy 4 209 213 [210,211,212] O ON
     ·intro hb3;iterate 4 refine A1 O ?_
      exact Iq OM O O O
     ·intro hb3;iterate 4 refine A1 O ?_
      exact Iq OM O O O
     refine Gc O O (fun hc213=>?_) (fun hc213=>?_)
     ·have hne4:0<L2.length/\0<R2.length:=by simp at hc213;omega
      have hr4:=hrec (A++S1) L2 R2 B (A++(S1++(L2++(R2++B)))) mid e b OG hlen3 hv3 sL2 sR2 hne4.1 hne4.2 OC OH OH OH;refine Gr O ?_;iterate 5 refine A1 O ?_
      refine RL.call O (fA [big] 0 call171 hr4 O O O O ⟨O,OK⟩ OE O ?_);rintro _ _ ⟨rfl,S2,hS2p,hS2s,rfl⟩;obtain ⟨hP,hSs⟩:=b3 hL hR hx1 hx2 hS1p hS2p hS1s hS2s;exact ⟨[],[(big,di (A++((S1++S2)++B)))],[],Io trivial ⟨ry (b:=some (di ((A++S1)++(S2++B)))) OD (af (fun l=>some (di l)) OG),OK⟩ O O,O,O,O,O,S1++S2,hP,hSs,O⟩
     ·have hne4:L2.length=0\/R2.length=0:=by simp at hc213;omega
      obtain ⟨S2,hS2⟩:∃ S2,S2=L2++R2:=⟨_,O⟩;have hS2p:S2.Perm (L2++R2):=by rw [hS2]
      have hS2s:CU S2:=by
       rw [hS2];rcases hne4 with h | h
       ·rw [sg.1 h];exact sR2
       ·rw [sg.1 h,xd];exact sL2
      rw [show A++(S1++(L2++(R2++B)))=(A++S1)++(S2++B) by rw [hS2];simp];refine Il ?_;obtain ⟨hP,hSs⟩:=b3 hL hR hx1 hx2 hS1p hS2p hS1s hS2s;exact ⟨[],[(big,di (A++((S1++S2)++B)))],[],Io trivial ⟨ry (b:=some (di ((A++S1)++(S2++B)))) OD (af (fun l=>some (di l)) OG),OK⟩ O O,O,O,O,O,S1++S2,hP,hSs,O⟩
 ·have hs1:s0=a/\r0=m:=by rw [hs0,hr0,ga OC,ga OC];exact ⟨O,O⟩
  have hsr:(a<=s0/\a<=s0)/\(s0<=r0/\r0<=m):=OC;have hse:s0=a\/mid+m-s0=b:=OC;have hre:r0=m\/mid+m-r0=m:=OC;have hpc:∀ c,s0<=c->c<r0->m<=mid+m-1-c/\mid+m-1-c<b:=fun c h1 h2=>by omega
  clear hs0 hr0;refine Z2 O O O<|Z2 O O O<|Z3 O O O O ?_;refine Gl O (st:=fun x_0:Nat×Nat=>mkS [(0,.osl big 2 n),(1,.pv (.int .i64 a)),(2,.pv (.int .i64 m)),(3,.pv (.int .i64 b)),(4,.pv Gg),(18,.pv (.int .i64 mid)),(19,.pv (.int .i64 (mid+m))),(20,.pv (.int .i64 x_0.1)),(21,.pv (.int .i64 x_0.2)),(22,.pv (.int .i64 ((mid:Int)+(m:Int)-1)))] [(big,di l)] 0)
   (I:=fun x_0=>(s0<=x_0.1/\x_0.1<=x_0.2/\x_0.2<=r0)/\(x_0.1=s0\/leR (l.getD (x_0.1-1) dR) (l.getD (mid+m-x_0.1) dR))/\(x_0.2=r0\/leR (l.getD (mid+m-1-x_0.2) dR) (l.getD x_0.2 dR))) (μ:=fun x_0=>x_0.2-x_0.1) (x0:=(s0,r0)) (Io ⟨O,O,O,O,O,O,O,af (fun z:Int=>V.pv (.int .i64 z)) OI,af (fun z:Int=>V.pv (.int .i64 z)) OI,O,OK⟩ (aO OD) O O) (⟨⟨qT _,OI,qT _⟩,.inl O,.inl O⟩) ?_
  rintro ⟨s,r⟩ ⟨⟨hs,hsr2,hr⟩,hi1,hi2⟩;try simp only at hs hsr2 hr hi1 hi2 ⊢
  refine Z3 O O O O ?_;refine Gp O O (fun hc151=>?_) (fun hc151=>?_)
  ·have hlt:s<r:=OC;obtain ⟨c,hc⟩:∃ c,c=(s+r)/2:=⟨_,O⟩;have hc1:s<=c/\c<r:=OC;obtain ⟨hp1,hp2⟩:=hpc c OC OC;obtain ⟨q,hq⟩:∃ q,q=mid+m-1-c:=⟨_,O⟩;have hcl1:c<l.length:=OC;have hql1:q<l.length:=OC;have hrc:=aN hcl1;have hrq:=aN hql1;have hcv:=hv _ (aJ hcl1);have hqv:=hv _ (aJ hql1);have hgc:l.getD c dR=l[c]:=qY hcl1;have hgq:l.getD q dR=l[q]:=qY hql1;have hcm:=vO l[q] l[c] OC OC;have hcz:=Eb l[q].v l[c].v;have hms:=@Ma s r;have hwa:=Mb (i:=s+r) OC;have hwi:IntKind.i64.wrap (((s+r)/2:Nat):Int)=(((s+r)/2:Nat):Int):=eT OC;rw [<-hc] at hms hwi;refine Il<|Z3 O O O O<|Rs 155 O O (XJ.cast (v':= .pv (.int .u64 ((s:Int)+(r:Int)))) (en underlying3 underlying161 O) (af (fun z=>V.pv (.int .u64 z)) (by rw [<-LD];exact hwa)))<|Rs 156 O O (XJ.cast (v':= .pv (.int .u64 (c:Int))) (Ii O O OE) (af (fun z=>V.pv (.int .u64 z)) hms))<|Rs 157 O O (XJ.cast (v':= .pv (.int .i64 (c:Int))) (en underlying161 underlying3 O) (af (fun z=>V.pv (.int .i64 z)) hwi))<|A1 O<|Ge O follows [0,1,2,3,4,5,6,7,8,9,10,11,12,13] OD ?_;iterate 5 refine D1 O O ?_
   refine Ds 163 [_] O O O (fun τ h=>aa q underlying38 lM (Ee h 0 O O) (Eo h 0 O O) (Ee h 1 O O) OC OC) O OD ?_;first | refine D3 O O OF ?_ | refine D1 O O ?_
   iterate 2 refine D1 O O ?_
   refine Ds 167 [_] O O O (fun τ h=>aa c underlying38 lM (Ee h 0 O O) (Eo h 0 O O) (Ee h 1 O O) O OC) O OD ?_;first | refine D3 O O OF ?_ | refine D1 O O ?_
   refine Ds 169 [] O O O (fun τ h=>bb call54 (Ee h 0 O O) hcm (h.jv O)) O OD<|Ds 170 [] O O O (fun τ h=>XJ.cast (v':= .pv (.bool (aZ l[q].v l[c].v))) (aQ (Ee h 0 O O) (Ee h 1 O O) O) (af (fun b=>V.pv (.bool b)) hcz)) O OD<|D1 O O ?_;refine ⟨OD,?_⟩;refine Gc O O (fun hc171=>?_) (fun hc171=>?_)
   ·have hls:leR (l.getD c dR) (l.getD q dR):=by rw [hgc,hgq];unfold leR;simpa using hc171
    exact Z3 O O O O<|⟨(c+1,r),Io (aS O) (aO OD) O O,⟨⟨OI,OI,hr⟩,.inr (by show leR (l.getD (c+1-1) dR) (l.getD (mid+m-(c+1)) dR);rw [Nat.add_sub_cancel,show mid+m-(c+1)=q by omega];exact hls),hi2⟩,OI⟩
   ·have hls:leR (l.getD q dR) (l.getD c dR):=by rw [hgc,hgq];exact Mx (by simpa using hc171)
    exact Z2 O O O<|⟨(s,c),Io (aS O) (aO OD) O O,⟨⟨hs,OI,OI⟩,hi1,.inr (by show leR (l.getD (mid+m-1-c) dR) (l.getD c dR);rw [<-hq];exact hls)⟩,OI⟩
  ·have hsr3:s=r:=OC;subst hsr3;obtain ⟨e,he⟩:∃ e,e=mid+m-s:=⟨_,O⟩;have hem:m<=e/\e<=b:=by
    rcases hse with h | h<;>rcases hre with h' | h'<;>omega
   have hg1:s=a\/e=b\/leR (l.getD (s-1) dR) (l.getD e dR):=by
    rcases hi1 with h | h
    ·subst h;rcases hse with h | h
     ·exact .inl h
     ·exact .inr (.inl OC)
    ·rw [<-he] at h;exact .inr (.inr h)
   have hg2:s=m\/e=m\/leR (l.getD (e-1) dR) (l.getD s dR):=by
    rcases hi2 with h | h
    ·subst h;rcases hre with h | h
     ·exact .inl h
     ·exact .inr (.inl OC)
    ·rw [show mid+m-1-s=e-1 by omega] at h;exact .inr (.inr h)
   obtain ⟨L1,L2,R1,R2,rfl,rfl,hl1,hr1,hx1,hx2⟩:=M8 hL hR hmA hbA hLl hRl OC hem hg1 hg2;have e1:(L1++L2).length=L1.length+L2.length:=a6;have e2:(R1++R2).length=R1.length+R2.length:=a6;have sL1:CU L1:=(b6.1 hL).1;have sL2:CU L2:=(b6.1 hL).2.1;have sR1:CU R1:=(b6.1 hR).1;have sR2:CU R2:=(b6.1 hR).2.1;have hrt:=fun (h1:0<L2.length) (h2:0<R1.length)=>L6 (A++L1) L2 R1 (R2++B) l n (s:Int) (m:Int) (e:Int) (by rw [hl];simp) hn hn2 h1 h2 OH OH OH
   clear hLl hRl hi1 hi2 hg1 hg2 hpc;refine Gx O<|Z2 O O O<|Rs 177 O O (XJ.cast (v':= .pv (.int .i64 (e:Int))) (Hw O O OC) (af (fun z=>V.pv (.int .i64 z)) OC))<|A1 O<|Z4 O O O O O ?_;apply Iy 4 181 185 [182,183,184] O ON
   ·intro hb3;iterate 4 refine A1 O ?_
    exact Iq OM O O O
   ·intro hb3;iterate 4 refine A1 O ?_
    exact Iq OM O O O
   refine Gc O O (fun hc185=>?_) (fun hc185=>?_)
   ·have hne:0<L2.length/\0<R1.length:=by simp at hc185;omega
    have hrt2:=hrt hne.1 hne.2;refine Gr O ?_;iterate 5 refine A1 O ?_
    refine Rs 191 O O (ah [big] 0 call211 hrt2 O O O O ⟨O,OK⟩ OE O) ?_;have hlen2:((A++L1)++(R1++(L2++(R2++B)))).length=n:=by simp;omega
    have hv2:∀ z∈(A++L1)++(R1++(L2++(R2++B))),z.v.length<=1000:=fun z hz=>hv z (by rw [hl];simp only [my] at hz ⊢; rcases hz with (h | h) | h | h | h | h<;>simp [h])
    refine Z4 O O O O O ?_;apply Iy 4 195 199 [196,197,198] O ON
    ·intro hb3;iterate 4 refine A1 O ?_
     exact Iq OM O O O
    ·intro hb3;iterate 4 refine A1 O ?_
     exact Iq OM O O O
    refine Gc O O (fun hc199=>?_) (fun hc199=>?_)
    ·have hne3:0<L1.length/\0<R1.length:=by simp at hc199;omega
     have hr3:=hrec A L1 R1 (L2++(R2++B)) ((A++L1)++(R1++(L2++(R2++B)))) a s mid OG hlen2 hv2 sL1 sR1 hne3.1 hne3.2 OC ha OC OC;refine Gr O ?_;iterate 5 refine A1 O ?_
     refine RL.call O (fA [big] 0 call171 hr3 O O O O ⟨O,OK⟩ OE O ?_);rintro _ _ ⟨rfl,S1,hS1p,hS1s,rfl⟩;have hS1l:S1.length=L1.length+R1.length:=by rw [hS1p.length_eq,a6]
     have hlen3:(A++(S1++(L2++(R2++B)))).length=n:=by simp;omega
     have hv3:∀ z∈A++(S1++(L2++(R2++B))),z.v.length<=1000:=fun z hz=>hv z (by
      rw [hl];simp only [my] at hz ⊢;rcases hz with h | h | h | h | h
      ·simp [h]
      ·rcases my.1 (hS1p.mem_iff.1 h) with h | h<;>simp [h]
      ·simp [h]
      ·simp [h]
      ·simp [h])
     refine Z4 O O O O O ?_;apply Iy 4 209 213 [210,211,212] O ON
     ·intro hb3;iterate 4 refine A1 O ?_
      exact Iq OM O O O
     ·intro hb3;iterate 4 refine A1 O ?_
      exact Iq OM O O O
     refine Gc O O (fun hc213=>?_) (fun hc213=>?_)
     ·have hne4:0<L2.length/\0<R2.length:=by simp at hc213;omega
      have hr4:=hrec (A++S1) L2 R2 B (A++(S1++(L2++(R2++B)))) mid e b OG hlen3 hv3 sL2 sR2 hne4.1 hne4.2 OC OH OH OH;refine Gr O ?_;iterate 5 refine A1 O ?_
      refine RL.call O (fA [big] 0 call171 hr4 O O O O ⟨O,OK⟩ OE O ?_);rintro _ _ ⟨rfl,S2,hS2p,hS2s,rfl⟩;obtain ⟨hP,hSs⟩:=b3 hL hR hx1 hx2 hS1p hS2p hS1s hS2s;exact ⟨[],[(big,di (A++((S1++S2)++B)))],[],Io trivial ⟨ry (b:=some (di ((A++S1)++(S2++B)))) OD (af (fun l=>some (di l)) OG),OK⟩ O O,O,O,O,O,S1++S2,hP,hSs,O⟩
     ·have hne4:L2.length=0\/R2.length=0:=by simp at hc213;omega
      obtain ⟨S2,hS2⟩:∃ S2,S2=L2++R2:=⟨_,O⟩;have hS2p:S2.Perm (L2++R2):=by rw [hS2]
      have hS2s:CU S2:=by
       rw [hS2];rcases hne4 with h | h
       ·rw [sg.1 h];exact sR2
       ·rw [sg.1 h,xd];exact sL2
      rw [show A++(S1++(L2++(R2++B)))=(A++S1)++(S2++B) by rw [hS2];simp];refine Il ?_;obtain ⟨hP,hSs⟩:=b3 hL hR hx1 hx2 hS1p hS2p hS1s hS2s;exact ⟨[],[(big,di (A++((S1++S2)++B)))],[],Io trivial ⟨ry (b:=some (di ((A++S1)++(S2++B)))) OD (af (fun l=>some (di l)) OG),OK⟩ O O,O,O,O,O,S1++S2,hP,hSs,O⟩
    ·have hne3:L1.length=0\/R1.length=0:=by simp at hc199;omega
     obtain ⟨S1,hS1⟩:∃ S1,S1=L1++R1:=⟨_,O⟩;have hS1p:S1.Perm (L1++R1):=by rw [hS1]
     have hS1s:CU S1:=by
      rw [hS1];rcases hne3 with h | h
      ·rw [sg.1 h];exact sR1
      ·rw [sg.1 h,xd];exact sL1
     rw [show (A++L1)++(R1++(L2++(R2++B)))=A++(S1++(L2++(R2++B))) by rw [hS1];simp];refine Il ?_;have hS1l:S1.length=L1.length+R1.length:=by rw [hS1p.length_eq,a6]
     have hlen3:(A++(S1++(L2++(R2++B)))).length=n:=by simp;omega
     have hv3:∀ z∈A++(S1++(L2++(R2++B))),z.v.length<=1000:=fun z hz=>hv z (by
      rw [hl];simp only [my] at hz ⊢;rcases hz with h | h | h | h | h
      ·simp [h]
      ·rcases my.1 (hS1p.mem_iff.1 h) with h | h<;>simp [h]
      ·simp [h]
      ·simp [h]
      ·simp [h])
     refine Z4 O O O O O ?_;apply Iy 4 209 213 [210,211,212] O ON
     ·intro hb3;iterate 4 refine A1 O ?_
      exact Iq OM O O O
     ·intro hb3;iterate 4 refine A1 O ?_
      exact Iq OM O O O
     refine Gc O O (fun hc213=>?_) (fun hc213=>?_)
     ·have hne4:0<L2.length/\0<R2.length:=by simp at hc213;omega
      have hr4:=hrec (A++S1) L2 R2 B (A++(S1++(L2++(R2++B)))) mid e b OG hlen3 hv3 sL2 sR2 hne4.1 hne4.2 OC OH OH OH;refine Gr O ?_;iterate 5 refine A1 O ?_
      refine RL.call O (fA [big] 0 call171 hr4 O O O O ⟨O,OK⟩ OE O ?_);rintro _ _ ⟨rfl,S2,hS2p,hS2s,rfl⟩;obtain ⟨hP,hSs⟩:=b3 hL hR hx1 hx2 hS1p hS2p hS1s hS2s;exact ⟨[],[(big,di (A++((S1++S2)++B)))],[],Io trivial ⟨ry (b:=some (di ((A++S1)++(S2++B)))) OD (af (fun l=>some (di l)) OG),OK⟩ O O,O,O,O,O,S1++S2,hP,hSs,O⟩
     ·have hne4:L2.length=0\/R2.length=0:=by simp at hc213;omega
      obtain ⟨S2,hS2⟩:∃ S2,S2=L2++R2:=⟨_,O⟩;have hS2p:S2.Perm (L2++R2):=by rw [hS2]
      have hS2s:CU S2:=by
       rw [hS2];rcases hne4 with h | h
       ·rw [sg.1 h];exact sR2
       ·rw [sg.1 h,xd];exact sL2
      rw [show A++(S1++(L2++(R2++B)))=(A++S1)++(S2++B) by rw [hS2];simp];refine Il ?_;obtain ⟨hP,hSs⟩:=b3 hL hR hx1 hx2 hS1p hS2p hS1s hS2s;exact ⟨[],[(big,di (A++((S1++S2)++B)))],[],Io trivial ⟨ry (b:=some (di ((A++S1)++(S2++B)))) OD (af (fun l=>some (di l)) OG),OK⟩ O O,O,O,O,O,S1++S2,hP,hSs,O⟩
   ·have hne:L2.length=0\/R1.length=0:=by simp at hc185;omega
    have hl2:l=(A++L1)++(R1++(L2++(R2++B))):=by
     rw [hl];rcases hne with h | h
     ·rw [sg.1 h];simp
     ·rw [sg.1 h];simp
    rw [hl2];refine Il ?_;have hlen2:((A++L1)++(R1++(L2++(R2++B)))).length=n:=by simp;omega
    have hv2:∀ z∈(A++L1)++(R1++(L2++(R2++B))),z.v.length<=1000:=fun z hz=>hv z (by rw [hl];simp only [my] at hz ⊢; rcases hz with (h | h) | h | h | h | h<;>simp [h])
    refine Z4 O O O O O ?_;apply Iy 4 195 199 [196,197,198] O ON
    ·intro hb3;iterate 4 refine A1 O ?_
     exact Iq OM O O O
    ·intro hb3;iterate 4 refine A1 O ?_
     exact Iq OM O O O
    refine Gc O O (fun hc199=>?_) (fun hc199=>?_)
    ·have hne3:0<L1.length/\0<R1.length:=by simp at hc199;omega
     have hr3:=hrec A L1 R1 (L2++(R2++B)) ((A++L1)++(R1++(L2++(R2++B)))) a s mid OG hlen2 hv2 sL1 sR1 hne3.1 hne3.2 OC ha OC OC;refine Gr O ?_;iterate 5 refine A1 O ?_
     refine RL.call O (fA [big] 0 call171 hr3 O O O O ⟨O,OK⟩ OE O ?_);rintro _ _ ⟨rfl,S1,hS1p,hS1s,rfl⟩;have hS1l:S1.length=L1.length+R1.length:=by rw [hS1p.length_eq,a6]
     have hlen3:(A++(S1++(L2++(R2++B)))).length=n:=by simp;omega
     have hv3:∀ z∈A++(S1++(L2++(R2++B))),z.v.length<=1000:=fun z hz=>hv z (by
      rw [hl];simp only [my] at hz ⊢;rcases hz with h | h | h | h | h
      ·simp [h]
      ·rcases my.1 (hS1p.mem_iff.1 h) with h | h<;>simp [h]
      ·simp [h]
      ·simp [h]
      ·simp [h])
     refine Z4 O O O O O ?_;apply Iy 4 209 213 [210,211,212] O ON
     ·intro hb3;iterate 4 refine A1 O ?_
      exact Iq OM O O O
     ·intro hb3;iterate 4 refine A1 O ?_
      exact Iq OM O O O
     refine Gc O O (fun hc213=>?_) (fun hc213=>?_)
     ·have hne4:0<L2.length/\0<R2.length:=by simp at hc213;omega
      have hr4:=hrec (A++S1) L2 R2 B (A++(S1++(L2++(R2++B)))) mid e b OG hlen3 hv3 sL2 sR2 hne4.1 hne4.2 OC OH OH OH;refine Gr O ?_;iterate 5 refine A1 O ?_
      refine RL.call O (fA [big] 0 call171 hr4 O O O O ⟨O,OK⟩ OE O ?_);rintro _ _ ⟨rfl,S2,hS2p,hS2s,rfl⟩;obtain ⟨hP,hSs⟩:=b3 hL hR hx1 hx2 hS1p hS2p hS1s hS2s;exact ⟨[],[(big,di (A++((S1++S2)++B)))],[],Io trivial ⟨ry (b:=some (di ((A++S1)++(S2++B)))) OD (af (fun l=>some (di l)) OG),OK⟩ O O,O,O,O,O,S1++S2,hP,hSs,O⟩
     ·have hne4:L2.length=0\/R2.length=0:=by simp at hc213;omega
      obtain ⟨S2,hS2⟩:∃ S2,S2=L2++R2:=⟨_,O⟩;have hS2p:S2.Perm (L2++R2):=by rw [hS2]
      have hS2s:CU S2:=by
       rw [hS2];rcases hne4 with h | h
       ·rw [sg.1 h];exact sR2
       ·rw [sg.1 h,xd];exact sL2
      rw [show A++(S1++(L2++(R2++B)))=(A++S1)++(S2++B) by rw [hS2];simp];refine Il ?_;obtain ⟨hP,hSs⟩:=b3 hL hR hx1 hx2 hS1p hS2p hS1s hS2s;exact ⟨[],[(big,di (A++((S1++S2)++B)))],[],Io trivial ⟨ry (b:=some (di ((A++S1)++(S2++B)))) OD (af (fun l=>some (di l)) OG),OK⟩ O O,O,O,O,O,S1++S2,hP,hSs,O⟩
    ·have hne3:L1.length=0\/R1.length=0:=by simp at hc199;omega
     obtain ⟨S1,hS1⟩:∃ S1,S1=L1++R1:=⟨_,O⟩;have hS1p:S1.Perm (L1++R1):=by rw [hS1]
     have hS1s:CU S1:=by
      rw [hS1];rcases hne3 with h | h
      ·rw [sg.1 h];exact sR1
      ·rw [sg.1 h,xd];exact sL1
     rw [show (A++L1)++(R1++(L2++(R2++B)))=A++(S1++(L2++(R2++B))) by rw [hS1];simp];refine Il ?_;have hS1l:S1.length=L1.length+R1.length:=by rw [hS1p.length_eq,a6]
     have hlen3:(A++(S1++(L2++(R2++B)))).length=n:=by simp;omega
     have hv3:∀ z∈A++(S1++(L2++(R2++B))),z.v.length<=1000:=fun z hz=>hv z (by
      rw [hl];simp only [my] at hz ⊢;rcases hz with h | h | h | h | h
      ·simp [h]
      ·rcases my.1 (hS1p.mem_iff.1 h) with h | h<;>simp [h]
      ·simp [h]
      ·simp [h]
      ·simp [h])
     refine Z4 O O O O O ?_;apply Iy 4 209 213 [210,211,212] O ON
     ·intro hb3;iterate 4 refine A1 O ?_
      exact Iq OM O O O
     ·intro hb3;iterate 4 refine A1 O ?_
      exact Iq OM O O O
     refine Gc O O (fun hc213=>?_) (fun hc213=>?_)
     ·have hne4:0<L2.length/\0<R2.length:=by simp at hc213;omega
      have hr4:=hrec (A++S1) L2 R2 B (A++(S1++(L2++(R2++B)))) mid e b OG hlen3 hv3 sL2 sR2 hne4.1 hne4.2 OC OH OH OH;refine Gr O ?_;iterate 5 refine A1 O ?_
      refine RL.call O (fA [big] 0 call171 hr4 O O O O ⟨O,OK⟩ OE O ?_);rintro _ _ ⟨rfl,S2,hS2p,hS2s,rfl⟩;obtain ⟨hP,hSs⟩:=b3 hL hR hx1 hx2 hS1p hS2p hS1s hS2s;exact ⟨[],[(big,di (A++((S1++S2)++B)))],[],Io trivial ⟨ry (b:=some (di ((A++S1)++(S2++B)))) OD (af (fun l=>some (di l)) OG),OK⟩ O O,O,O,O,O,S1++S2,hP,hSs,O⟩
     ·have hne4:L2.length=0\/R2.length=0:=by simp at hc213;omega
      obtain ⟨S2,hS2⟩:∃ S2,S2=L2++R2:=⟨_,O⟩;have hS2p:S2.Perm (L2++R2):=by rw [hS2]
      have hS2s:CU S2:=by
       rw [hS2];rcases hne4 with h | h
       ·rw [sg.1 h];exact sR2
       ·rw [sg.1 h,xd];exact sL2
      rw [show A++(S1++(L2++(R2++B)))=(A++S1)++(S2++B) by rw [hS2];simp];refine Il ?_;obtain ⟨hP,hSs⟩:=b3 hL hR hx1 hx2 hS1p hS2p hS1s hS2s;exact ⟨[],[(big,di (A++((S1++S2)++B)))],[],Io trivial ⟨ry (b:=some (di ((A++S1)++(S2++B)))) OD (af (fun l=>some (di l)) OG),OK⟩ O O,O,O,O,O,S1++S2,hP,hSs,O⟩
theorem MY (n:Nat) (hn2:n<=100000):∀ N,N4 n N
 | 0=>fun A L R B l a m b hl hn hv hL hR h1 h2 hN ha hm hb=>by omega
 | N+1=>fun A L R B l a m b hl hn hv hL hR h1 h2 hN ha hm hb=>by
   have ih:=MY n hn2 N;match L,h1,hL,hl,hN,hm,hb with
   | [x],h1,hL,hl,hN,hm,hb=>exact M9 A R B l x n a m b (by simpa using hl) hn hn2 hv hR ha (by simpa using hm) (by simpa using hb)
   | x::x2::L,h1,hL,hl,hN,hm,hb=>
     match R,h2,hR,hl,hN,hb with
     | [y],h2,hR,hl,hN,hb=>exact Nc A (x::x2::L) B l y n a m b (by simpa using hl) hn hn2 hv hL OG ha hm (by simpa using hb)
     | y::y2::R,h2,hR,hl,hN,hb=>
       exact Nn A (x::x2::L) (y::y2::R) B l n a m b hl hn hn2 hv hL hR OG OG ha hm hb<|fun A' L' R' B' l' a' m' b' e1 e2 e3 e4 e5 e6 e7 e8=>ih A' L' R' B' l' a' m' b' e1 e2 e3 e4 e5 e6 e7 OC
end
section
open Mk Jn
def Mq (k:Nat) (ss:List (List Rw)):Prop:=∀ s∈ss,CU s/\s.length=k
theorem Mq.len {k:Nat} {ss:List (List Rw)} (h:Mq k ss):ss.flatten.length=ss.length*k:=by
 induction ss with
 | nil=>simp
 | cons s ss ih=>
   rw [List.flatten_cons,a6,(h s OG).2,ih fun t ht=>h t (by simp [ht]),qU,Oe,Ow,LL]
theorem Mq.snoc {k:Nat} {ss:List (List Rw)} (h:Mq k ss) {s:List Rw} (hs:CU s) (hl:s.length=k):Mq k (ss++[s]):=fun t ht=>by
 rcases my.1 ht with h1 | h1
 ·exact h t h1
 ·rw [fe.1 h1];exact ⟨hs,hl⟩
theorem xi (ss:List (List Rw)) (s:List Rw):(ss++[s]).flatten=ss.flatten++s:=OG
def MW (k:Nat) (q:List Rw):Prop:=∃ ss t,q=ss.flatten++t/\Mq k ss/\CU t/\t.length<k
theorem MW.whole {k:Nat} {q:List Rw} (h:MW k q) (hq:q.length<=k):CU q:=by
 obtain ⟨ss,t,rfl,hf,ht,htl⟩:=h;rw [a6,hf.len] at hq;match ss,hf,hq with
 | [],_,_=>simpa using ht
 | [s],hf,hq=>
   have:t=[]:=sg.1 (by simp at hq;omega);subst this;simpa using (hf s OG).1
 | s::s2::ss,_,hq=>
   exfalso;simp only [qU,Oe,Ow] at hq;omega
theorem NH (l:List Rw) (n:Nat) (hl:l.length=n) (hn:n<=10000) (hv:∀ x∈l,x.v.length<=1000):FnO Tryz.prog 110 1 0 [.osl big 2 n,.pv (.int .i64 n),.pv Gg] [(big,di l)] (fun v ob'=>v= .tup []/\∃ s,s.Perm l/\CU s/\ob'=ar [(big,di s)]):=by
 refine FnO.of func110 O ntmps110 OG fun m0 w0 F R0=>?_
 have hsy:=MY n OC n;have hvp:∀ q:List Rw,q.Perm l->∀ x∈q,x.v.length<=1000:=fun q hq x hx=>hv x (hq.mem_iff.1 hx)
 refine Z1 O O<|Z3 O O O O ?_;refine Gl O (st:=fun x_0:List (List Rw)×List Rw=>mkS [(0,.osl big 2 n),(1,.pv (.int .i64 n)),(2,.pv Gg),(6,.pv (.int .i64 20)),(7,.pv (.int .i64 ((x_0.1.length*20:Nat):Int))),(8,.pv (.int .i64 ((x_0.1.length*20+20:Nat):Int)))] [(big,di (x_0.1.flatten++x_0.2))] 0)
  (I:=fun x_0=>Mq 20 x_0.1/\(x_0.1.flatten++x_0.2).Perm l) (μ:=fun x_0=>x_0.2.length) (x0:=([],l)) (Io (aS O) (aO OD) O O) (⟨fun s h=>by simp at h,OG⟩) ?_
 rintro ⟨ss,u⟩ ⟨hss,hp⟩;try simp only at hss hp ⊢
 have hfl:=hss.len;have hpl:ss.length*20+u.length=n:=by rw [<-hl,<-hp.length_eq,a6,hfl]
 refine Z3 O O O O ?_;refine Gp O O (fun hc13=>?_) (fun hc13=>?_)
 ·have hu:20<=u.length:=OC;obtain ⟨u1,u2,rfl,hu1⟩:∃ u1 u2,u=u1++u2/\u1.length=20:=⟨u.take 20,u.drop 20,(zj _ _).symm,by rw [iP];omega⟩;have hin:=Mz ss.flatten u1 u2 n (by rw [hfl];simp only [a6] at hpl;omega) OC (fun x hx=>hvp _ hp x (by rw [<-xJ];exact hx));rw [hfl,hu1,xJ] at hin;refine Il<|Z4 O O O O O ?_;refine RL.call O (fA [big] 0 call155 hin O O O O ⟨O,OK⟩ OE O ?_);rintro _ _ ⟨rfl,S,hSp,hSs,rfl⟩;exact Z2 O O O<|Z4 O O O O O<|⟨(ss++[S],u2),Io ⟨O,O,O,O,af (fun z:Int=>V.pv (.int .i64 z)) (by simp only [a6,vt];omega),af (fun z:Int=>V.pv (.int .i64 z)) (by simp only [a6,vt];omega),OK⟩ ⟨af (fun l=>some (di l)) (by rw [xi]),OK⟩ O O,⟨hss.snoc hSs (by rw [hSp.length_eq,hu1]),by rw [xi,xJ];exact (L0 _ (List.Perm.append_right _ hSp)).trans hp⟩,by simp only [a6];omega⟩
 ·have hu:u.length<20:=OC;have hin:=Mz ss.flatten u [] n (by rw [hfl];simp;omega) OC (fun x hx=>hvp _ hp x (by simpa using hx));rw [hfl,hpl,xd] at hin;refine Gx O<|Z4 O O O O O ?_;refine RL.call O (fA [big] 0 call155 hin O O O O ⟨O,OK⟩ OE O ?_);rintro _ _ ⟨rfl,S,hSp,hSs,rfl⟩;have hq0:(ss.flatten++S++[]).Perm l:=by rw [xd];exact (L0 _ hSp).trans hp
  have hr0:MW 20 (ss.flatten++S++[]):=⟨ss,S,by rw [xd],hss,hSs,by rw [hSp.length_eq];exact hu⟩;generalize ss.flatten++S++[]=q0 at*;clear hss hp hfl hpl hin hSp hSs hu;refine Gl O (st:=fun x_1:Nat×List Rw=>mkS [(0,.osl big 2 n),(1,.pv (.int .i64 n)),(2,.pv Gg),(6,.pv (.int .i64 x_1.1))] [(big,di x_1.2)] 0)
   (I:=fun x_1=>(20<=x_1.1/\x_1.1<=20000)/\MW x_1.1 x_1.2/\x_1.2.Perm l) (μ:=fun x_1=>20000-x_1.1) (x0:=(20,q0)) (Io (aS O) (aO OD) O O) (⟨⟨qT _,OI⟩,hr0,hq0⟩) ?_
  rintro ⟨k,q⟩ ⟨⟨hk1,hk2⟩,hr,hp⟩;try simp only at hk1 hk2 hr hp ⊢
  refine Z3 O O O O ?_;refine Gp O O (fun hc30=>?_) (fun hc30=>?_)
  ·have hkn:k<n:=OC;obtain ⟨ss,t,rfl,hss,hts,htl⟩:=hr;refine Il<|Z4 O O O O O ?_;refine Gl O (st:=fun x_2:List (List Rw)×List (List Rw)=>mkS [(0,.osl big 2 n),(1,.pv (.int .i64 n)),(2,.pv Gg),(6,.pv (.int .i64 k)),(7,.pv (.int .i64 ((x_2.1.length*(2*k):Nat):Int))),(8,.pv (.int .i64 ((x_2.1.length*(2*k)+2*k:Nat):Int)))] [(big,di (x_2.1.flatten++(x_2.2.flatten++t)))] 0)
    (I:=fun x_2=>(Mq (2*k) x_2.1/\Mq k x_2.2)/\(x_2.1.flatten++(x_2.2.flatten++t)).Perm l) (μ:=fun x_2=>x_2.2.length) (x0:=([],ss)) (Io ⟨O,O,O,O,af (fun z:Int=>V.pv (.int .i64 z)) OG,af (fun z:Int=>V.pv (.int .i64 z)) OG,OK⟩ (aO OD) O O) (⟨⟨fun s h=>by simp at h,hss⟩,hp⟩) ?_
   rintro ⟨rs,us⟩ ⟨⟨hrs,hus⟩,hp2⟩;try simp only at hrs hus hp2 ⊢
   have hrl:=hrs.len;have hul:=hus.len;have hpl:rs.length*(2*k)+(us.length*k+t.length)=n:=by rw [<-hl,<-hp2.length_eq,a6,a6,hrl,hul]
   refine Z3 O O O O ?_;refine Gp O O (fun hc35=>?_) (fun hc35=>?_)
   ·have hge:rs.length*(2*k)+2*k<=n:=OC;obtain ⟨s1,s2,us,rfl⟩:∃ s1 s2 us',us=s1::s2::us':=by
     match us,hpl with
     | [],hpl=>simp at hpl;omega
     | [s],hpl=>simp at hpl;omega
     | s1::s2::us',_=>exact ⟨s1,s2,us',O⟩
    obtain ⟨hs1,hl1⟩:=hus s1 OG;obtain ⟨hs2,hl2⟩:=hus s2 OG;have hln2:(rs.flatten++((s1::s2::us).flatten++t)).length=n:=by rw [hp2.length_eq,hl]
    have hsm:=hsy rs.flatten s1 s2 (us.flatten++t) (rs.flatten++((s1::s2::us).flatten++t)) (rs.length*(2*k)) (rs.length*(2*k)+k) (rs.length*(2*k)+2*k) OG hln2 (hvp _ hp2) hs1 hs2 OC OC OC hrl.symm OC OC;refine Il<|Z4 O O O O O<|Rs 40 O O (XJ.cast (v':= .pv (.int .i64 ((rs.length*(2*k)+k:Nat):Int))) (Mj O O OC) (af (fun z=>V.pv (.int .i64 z)) OC))<|Y2 O O ?_;refine RL.call O (fA [big] 0 call171 hsm O O O O ⟨O,OK⟩ OE O ?_);rintro _ _ ⟨rfl,S,hSp,hSs,rfl⟩;have hSl:S.length=2*k:=by rw [hSp.length_eq,a6];omega
    have hrn:=hrs.snoc hSs hSl;have hpn:((rs++[S]).flatten++(us.flatten++t)).Perm l:=by
     refine List.Perm.trans ?_ hp2;rw [xi,xJ];refine L0 _ ?_;have e:(s1::s2::us).flatten++t=(s1++s2)++(us.flatten++t):=OG;rw [e];exact List.Perm.append_right _ hSp
    refine Z2 O O O<|Gr O ?_;iterate 5 refine A1 O ?_
    exact ⟨(rs++[S],us),Io ⟨O,O,O,O,af (fun z:Nat=>V.pv (.int .i64 (z:Int))) (by rw [a6,vt,Oe,Ow]),af (fun z:Int=>V.pv (.int .i64 z)) (by rw [a6,vt,Oe,Ow];omega),OK⟩ ⟨af (fun l=>some (di l)) (by rw [xi,xJ]),OK⟩ O O,⟨⟨hrn,fun s h=>hus s (by simp [h])⟩,hpn⟩,by simp only [qU];omega⟩
   ·have hlt2:n<rs.length*(2*k)+2*k:=OC;have hul2:us=[]\/∃ s,us=[s]:=by
     match us,hpl with
     | [],_=>exact .inl O
     | [s],_=>exact .inr ⟨s,O⟩
     | s1::s2::us',hpl=>exfalso;simp only [qU,Oe,Ow] at hpl;omega
    refine Gx O<|Z2 O O O<|Rs 51 O O (XJ.cast (v':= .pv (.int .i64 ((rs.length*(2*k)+k:Nat):Int))) (Mj O O OC) (af (fun z=>V.pv (.int .i64 z)) OC))<|A1 O<|Z3 O O O O ?_;refine Gp O O (fun hc54=>?_) (fun hc54=>?_)
    ·have hmn:rs.length*(2*k)+k<n:=OC;obtain ⟨s,rfl⟩:∃ s,us=[s]:=by
      rcases hul2 with rfl | h
      ·exfalso;simp at hpl;omega
      ·exact h
     obtain ⟨hs1,hl1⟩:=hus s OG;have hln2:(rs.flatten++([s].flatten++t)).length=n:=by rw [hp2.length_eq,hl]
     have hpl2:rs.length*(2*k)+(k+t.length)=n:=by simpa using hpl
     have hsm:=hsy rs.flatten s t [] (rs.flatten++([s].flatten++t)) (rs.length*(2*k)) (rs.length*(2*k)+k) n OG hln2 (hvp _ hp2) hs1 hts OC OC OC hrl.symm OC OC;refine Gr O ?_;iterate 5 refine A1 O ?_
     refine RL.call O (fA [big] 0 call171 hsm O O O O ⟨O,OK⟩ OE O ?_);rintro _ _ ⟨rfl,S,hSp,hSs,rfl⟩;have hSl:S.length=k+t.length:=by rw [hSp.length_eq,a6];omega
     have hrn:MW (2*k) (rs.flatten++(S++[])):=⟨rs,S,by rw [xd],hrs,hSs,OC⟩;have hpn:(rs.flatten++(S++[])).Perm l:=by
      refine List.Perm.trans ?_ hp2;rw [xd];refine L0 _ ?_;simpa using hSp
     exact Z3 O O O O<|⟨(2*k,rs.flatten++(S++[])),Io ⟨O,O,O,af (fun z:Int=>V.pv (.int .i64 z)) OC,OK⟩ (aO OD) O O,⟨⟨OC,OC⟩,hrn,hpn⟩,OI⟩
    ·have hmn:n<=rs.length*(2*k)+k:=OC;have hrn:MW (2*k) (rs.flatten++(us.flatten++t)):=by
      refine ⟨rs,us.flatten++t,O,hrs,?_,?_⟩
      ·rcases hul2 with rfl | ⟨s,rfl⟩
       ·simpa using hts
       ·have:t=[]:=sg.1 (by simp at hpl;omega);rw [this];simpa using (hus s OG).1
      ·rw [a6,hul];omega
     exact Il<|Z3 O O O O<|⟨(2*k,rs.flatten++(us.flatten++t)),Io ⟨O,O,O,af (fun z:Int=>V.pv (.int .i64 z)) OC,OK⟩ (aO OD) O O,⟨⟨OC,OC⟩,hrn,hp2⟩,OI⟩
  ·have hsq:=hr.whole (by rw [hp.length_eq,hl];omega);exact Gx O<|⟨[],[(big,di q)],[],Io trivial (aO OD) O O,O,O,O,O,q,hp,hsq,O⟩
theorem Mw (l:List Rw) (n:Nat) (hl:l.length=n) (hn:n<=10000) (hv:∀ x∈l,x.v.length<=1000):FnO Tryz.prog 68 1 0 [.osl big 2 n,.pv Gg] [(big,di l)] (fun v ob'=>v= .tup []/\∃ s,s.Perm l/\CU s/\ob'=ar [(big,di s)]):=by
 refine FnO.of func68 O ntmps68 OG fun m0 w0 F R0=>?_
 have hst:=NH l n hl hn hv;refine Z4 O O O O O ?_;refine RL.call O (fA [big] 0 call110 hst O O O O ⟨O,OK⟩ OE O ?_);rintro _ _ ⟨rfl,S,hSp,hSs,rfl⟩;exact ⟨[],[(big,di S)],[],Io trivial (aO OD) O O,O,O,O,O,S,hSp,hSs,O⟩
end
section
open Mk Jn
def mgR (out:List Rw) (x:Rw):List Rw:=if h:0<out.length then (if out[out.length-1].v=x.v then out.set (out.length-1) ⟨out[out.length-1].v,out[out.length-1].w+x.w⟩ else out++[x]) else out++[x]
structure MgI (out:List Rw) (k:Nat):Prop where
 n:out.length<=k
 v:∀ y∈out,y.v.length<=1000
 w:∀ y∈out, -(1000000*(k:Int))<=y.w/\y.w<=1000000*(k:Int)
 z:0<k->0<out.length
theorem MgI.put {out:List Rw} {k:Nat} (h:MgI out k) {x:Rw} (hv:x.v.length<=1000) (hw: -1000000<=x.w/\x.w<=1000000):MgI (out++[x]) (k+1):=by
 refine ⟨by simp only [a6,vt];have:=h.n;omega,fun y hy=>?_,fun y hy=>?_,fun _=>by simp⟩
 ·rw [my,fe] at hy;rcases hy with hy | rfl
  ·exact h.v y hy
  ·exact hv
 ·rw [my,fe] at hy;rcases hy with hy | rfl
  ·have:=h.w y hy;omega
  ·omega
theorem MgI.set {out:List Rw} {k:Nat} (h:MgI out k) {i:Nat} (hi:i<out.length) {w:Int} (hw: -1000000<=w/\w<=1000000):MgI (out.set i ⟨out[i].v,out[i].w+w⟩) (k+1):=by
 refine ⟨by simp only [tx];have:=h.n;omega,fun y hy=>?_,fun y hy=>?_,fun _=>by simp only [tx];omega⟩
 ·rcases JS hy with hy | rfl
  ·exact h.v y hy
  ·show out[i].v.length<=1000;exact h.v _ (aJ hi)
 ·rcases JS hy with hy | rfl
  ·have:=h.w y hy;omega
  ·have:=h.w _ (aJ hi);simp only;omega
theorem wK (l:List Rw) (h0:l≠[]) (hn:l.length<20) (hs:CU l) (hv:∀ x∈l,x.v.length<=1000) (hw:∀ x∈l, -1000000<=x.w/\x.w<=1000000):FnP Tryz.prog 25 [bL l] (· =bL ((l.foldl mgR []).filter fun x=> !isZ x)):=by
 refine FnP.fg2 (FnP.of func25 O ntmps25 OG fun m0 w0 F R0=>?_);have hcp:=mw l 1 OC hv (fun x hx=>by have:=hw x hx;omega);rw [iT] at hcp;have hst:=rX l l.length O hn hs hv;have hlp:0<l.length:=CG.2 h0;have hlc:aB l≠[]:=aW hlp;have hll:=aK l;refine Z1 O O<|Z1 O O<|Rs 9 O O (ah [] 0 call65 hcp O O O O trivial OE O)<|A1 O<|Im (St.ku 3 O O hlp hlc)<|Wk [(3,.osl 0 2 l.length)] [(0,di l)] 1 (aS OD) (aO OD) O O<|Z1 O O<|Rs 11 O O (ah [0] 1 call68 hst O O O O ⟨O,OK⟩ OE O)<|Z1 O O<|Im (Iu 4 1 2 49 O O)<|Z3 O O O O ?_;refine Gl O (st:=fun x_0:Nat×List Rw=>mkS [(4,.gsl 1 2 x_0.2.length),(12,.osl 0 2 l.length),(13,.pv (.int .i64 l.length)),(14,.pv (.int .i64 x_0.1))] [(0,di l),(1,.gro 49 (aB x_0.2))] 2)
  (I:=fun x_0=>(x_0.1<=l.length/\MgI x_0.2 x_0.1)/\x_0.2=(l.take x_0.1).foldl mgR []) (μ:=fun x_0=>l.length-x_0.1) (x0:=(0,[])) (Io (aS O) (aO OD) O O) (⟨⟨eF _,⟨qT _,fun _ h=>by simp at h,fun _ h=>by simp at h,fun h=>absurd h OG⟩⟩,O⟩) ?_
 rintro ⟨k,out⟩ ⟨⟨hk,hI⟩,ho⟩;try simp only at hk hI ho ⊢
 have hol:=aK out;refine Z1 O O ?_;refine Gp O O (fun hc15=>?_) (fun hc15=>?_)
 ·have hlt:k<l.length:=OC;have hrow:=aN hlt;have hxv:=hv _ (aJ hlt);have hxw:=hw _ (aJ hlt);have hfo:(l.take (k+1)).foldl mgR []=mgR out l[k]:=by rw [aR hlt,J0,<-ho];rfl
  have hpu:=hI.put hxv hxw;have hse:=fun i (hi:i<out.length)=>hI.set hi hxw
  have hkn:=hI.n;have hkw:=hI.w;have hkv:=hI.v;generalize l[k]=x at*;refine Il<|Gr O<|Rs 16 O O (aa k underlying38 lM O O O O OC) ?_;first | refine A3 O OF ?_ | refine A1 O ?_
  refine Y2 O O<|Z3 O O O O ?_;by_cases he:out=[]
  ·refine Ge O follows [0,1,2,3,4,5,6,7,8,9,10,11,12] OD<|D1 O O<|Ds 21 [] O O O (fun τ h=>XJ.cast (v':= .pv (.bool false)) (aQ (Ee h 0 O O) (Ee h 1 O O) O) (af (fun b=>V.pv (.bool b)) (Et (by rw [he];decide)))) O OD ?_;iterate 11 refine D1 O O ?_
   refine ⟨OD,?_⟩;refine Gc O O (fun hc32=>absurd hc32 OG) (fun hc32=>?_);have hmg:mgR out x=out++[x]:=by unfold mgR;rw [dif_neg (by rw [he];decide)]
   have hsn2:=dW out x;refine Il<|Gr O ?_;iterate 5 refine A1 O ?_
   exact Z2 O O O<|⟨(k+1,out++[x]),Ip [0,4] ⟨ry (b:=V.gsl 4 2 (out.length+1)) OD (af (fun n=>V.gsl 4 2 n) (bW out x)),O,O,O,OK⟩ ⟨OD,ry (b:=some (Ob.gro 49 (aB out++eV x))) OD (af (fun c=>some (Ob.gro 49 c)) hsn2),OK⟩ O O OE O,⟨⟨OI,hpu⟩,by simp only;rw [hfo,hmg]⟩,OI⟩
  ·have hpos:0<out.length:=CG.2 he;have hcne:aB out≠[]:=aW hpos;have hq:out.length-1<out.length:=OC;have hov:(aB out)[(out.length-1)*2+0]? =some (aI out[out.length-1].v):=nr hq;have how:=s5 hq;have hom:=aJ hq;have hob:=hkw _ hom;have heq:=Kd out[out.length-1].v x.v (by have:=hkv _ hom;omega) OC;refine Im (St.ku 4 O O hpos hcne)<|Ge O follows [0,1,2,3,4,5,6,7,8,9,10,11,12] OD<|D1 O O<|Ds 21 [] O O O (fun τ h=>XJ.cast (v':= .pv (.bool true)) (aQ (Ee h 0 O O) (Ee h 1 O O) O) (af (fun b=>V.pv (.bool b)) (x7 OC))) O OD ?_;iterate 4 refine D1 O O ?_
   refine Dg 26 [_] O O O O (fun τ h=>aa (out.length-1) underlying38 lM (Ee h 0 O O) (Eo h 0 O O) (Ee h 1 O O) OC hq) O OD<|D1 O O<|Dg 28 [_] O O O O (fun τ h=>aC ⟨_,underlying47,O⟩ (Ee h 0 O O) (Eo h 0 O O) hov) O OD ?_;iterate 2 refine D1 O O ?_
   refine Dg 31 [] O O O O (fun τ h=>ae call69 heq (h.bt O)) O OD<|D1 O O ?_;refine ⟨OD,?_⟩;refine Gc O O (fun hc32=>?_) (fun hc32=>?_)
   ·have hee:out[out.length-1].v=x.v:=Kh hc32;have hmg:mgR out x=out.set (out.length-1) ⟨out[out.length-1].v,out[out.length-1].w+x.w⟩:=by unfold mgR;rw [dif_pos hpos,og hee]
    have hst9:=qu hq (out[out.length-1].w+x.w);have hse9:=hse _ hq;refine Ge O follows [0,1,2,3,4,5,6,7,8,9,10,11] OD ?_;iterate 3 refine D1 O O ?_
    refine Ds 36 [_] O O O (fun τ h=>aa (out.length-1) underlying38 lM (Ee h 0 O O) (Eo h 0 O O) (Ee h 1 O O) OC hq) O OD<|D1 O O<|Ds 38 [_] O O O (fun τ h=>aC ⟨_,underlying3,O⟩ (Ee h 0 O O) (Eo h 0 O O) how) O OD ?_;iterate 2 refine D1 O O ?_
    refine Ds 41 [] O O O (fun τ h=>Mj (Ee h 0 O O) (Ee h 1 O O) OC) O OD<|Ds 42 [_] O O O (fun τ h=>aa (out.length-1) underlying38 lM (Ee h 0 O O) (Eo h 0 O O) (Ee h 1 O O) OC hq) O OD<|D1 O O<|DL.step (d:=none) [_] O O O (fun τ h=>aF sz3 (Ee h 0 O O) (Eo h 0 O O) (Ee h 1 O O) O (by first | omega | (simp;omega))) O OD ?_;refine ⟨OD,?_⟩;refine Im (St.pn 4 O O hpos (by intro e;have h:=af List.length e;rw [tx] at h;exact hcne (vG h))) ?_;exact Gx O<|Z2 O O O<|⟨(k+1,out.set (out.length-1) ⟨out[out.length-1].v,out[out.length-1].w+x.w⟩),Io ⟨ry (b:=V.gsl 1 2 out.length) OD (af (fun n=>V.gsl 1 2 n) (tx).symm),O,O,O,OK⟩ ⟨OD,ry (b:=some (Ob.gro 49 ((aB out).set ((out.length-1)*2+1) (.int .i64 (out[out.length-1].w+x.w))))) OD (af (fun c=>some (Ob.gro 49 c)) hst9),OK⟩ O O,⟨⟨OI,hse9⟩,by simp only;rw [hfo,hmg]⟩,OI⟩
   ·have hmg:mgR out x=out++[x]:=by unfold mgR;rw [dif_pos hpos,ga (Kq hc32)]
    have hsn2:=dW out x;refine Il<|Im (St.pn 4 O O hpos hcne)<|Gr O ?_;iterate 5 refine A1 O ?_
    exact Z2 O O O<|⟨(k+1,out++[x]),Ip [0,4] ⟨ry (b:=V.gsl 4 2 (out.length+1)) OD (af (fun n=>V.gsl 4 2 n) (bW out x)),O,O,O,OK⟩ ⟨OD,ry (b:=some (Ob.gro 49 (aB out++eV x))) OD (af (fun c=>some (Ob.gro 49 c)) hsn2),OK⟩ O O OE O,⟨⟨OI,hpu⟩,by simp only;rw [hfo,hmg]⟩,OI⟩
 ·have hof:out=l.foldl mgR []:=by rw [ho,show l.take k=l from bk OC]
  have hpos:0<out.length:=hI.z OC;have hcne:aB out≠[]:=aW hpos;have hde:=rF out out.length O (by have:=hI.n;omega);exact Im (St.ku 4 O O hpos hcne)<|Gx O<|Z1 O O<|Rs 50 O O (ah [1] 2 call70 hde O O O O ⟨O,OK⟩ OE O)<|A1 O<|Im (Ir 1 O O)<|Gt O<|⟨_,_,O,O,by rw [hof];rfl⟩
end
section
open Mk Jn
theorem MT (l:List Rw) (h0:l≠[]) (hn:l.length<=1000) (hv:∀ x∈l,x.v.length<=1000) (hw:∀ x∈l, -1000000<=x.w/\x.w<=1000000):FnP Tryz.prog 25 [bL l] (fun v=>∃ s,s.Perm l/\CU s/\v=bL ((s.foldl mgR []).filter fun x=> !isZ x)):=by
 refine FnP.fg2 (FnP.of func25 O ntmps25 OG fun m0 w0 F R0=>?_);have hcp:=mw l 1 OC hv (fun x hx=>by have:=hw x hx;omega);rw [iT] at hcp;have hst:=Mw l l.length O OC hv;have hlp:0<l.length:=CG.2 h0;have hlc:aB l≠[]:=aW hlp;have hll:=aK l;refine Z1 O O<|Z1 O O<|Rs 9 O O (ah [] 0 call65 hcp O O O O trivial OE O)<|A1 O<|Im (St.ku 3 O O hlp hlc)<|Wk [(3,.osl 0 2 l.length)] [(0,di l)] 1 (aS OD) (aO OD) O O<|Z1 O O ?_;refine RL.call O (fA [0] 1 call68 hst O O O O ⟨O,OK⟩ OE O ?_);rintro _ _ ⟨rfl,s,hsp,hss,rfl⟩;have hsl:s.length=l.length:=hsp.length_eq;have hvs:∀ x∈s,x.v.length<=1000:=fun x hx=>hv x (hsp.mem_iff.1 hx)
 have hws:∀ x∈s, -1000000<=x.w/\x.w<=1000000:=fun x hx=>hw x (hsp.mem_iff.1 hx)
 have hsc:=aK s;refine Z1 O O<|Im (Iu 4 1 2 49 O O)<|Z3 O O O O ?_;refine Gl O (st:=fun x_0:Nat×List Rw=>mkS [(4,.gsl 1 2 x_0.2.length),(12,.osl 0 2 l.length),(13,.pv (.int .i64 l.length)),(14,.pv (.int .i64 x_0.1))] [(0,di s),(1,.gro 49 (aB x_0.2))] 2)
  (I:=fun x_0=>(x_0.1<=l.length/\MgI x_0.2 x_0.1)/\x_0.2=(s.take x_0.1).foldl mgR []) (μ:=fun x_0=>l.length-x_0.1) (x0:=(0,[])) (Io (aS O) (aO OD) O O) (⟨⟨eF _,⟨qT _,fun _ h=>by simp at h,fun _ h=>by simp at h,fun h=>absurd h OG⟩⟩,O⟩) ?_
 rintro ⟨k,out⟩ ⟨⟨hk,hI⟩,ho⟩;try simp only at hk hI ho ⊢
 have hol:=aK out;refine Z1 O O ?_;refine Gp O O (fun hc15=>?_) (fun hc15=>?_)
 ·have hlt:k<s.length:=OC;have hrow:=aN hlt;have hxv:=hvs _ (aJ hlt);have hxw:=hws _ (aJ hlt);have hfo:(s.take (k+1)).foldl mgR []=mgR out s[k]:=by rw [aR hlt,J0,<-ho];rfl
  have hpu:=hI.put hxv hxw;have hse:=fun i (hi:i<out.length)=>hI.set hi hxw
  have hkn:=hI.n;have hkw:=hI.w;have hkv:=hI.v;generalize s[k]=x at*;refine Il<|Gr O<|Rs 16 O O (aa k underlying38 lM O O O O OC) ?_;first | refine A3 O OF ?_ | refine A1 O ?_
  refine Y2 O O<|Z3 O O O O ?_;by_cases he:out=[]
  ·refine Ge O follows [0,1,2,3,4,5,6,7,8,9,10,11,12] OD<|D1 O O<|Ds 21 [] O O O (fun τ h=>XJ.cast (v':= .pv (.bool false)) (aQ (Ee h 0 O O) (Ee h 1 O O) O) (af (fun b=>V.pv (.bool b)) (Et (by rw [he];decide)))) O OD ?_;iterate 11 refine D1 O O ?_
   refine ⟨OD,?_⟩;refine Gc O O (fun hc32=>absurd hc32 OG) (fun hc32=>?_);have hmg:mgR out x=out++[x]:=by unfold mgR;rw [dif_neg (by rw [he];decide)]
   have hsn2:=dW out x;refine Il<|Gr O ?_;iterate 5 refine A1 O ?_
   exact Z2 O O O<|⟨(k+1,out++[x]),Ip [0,4] ⟨ry (b:=V.gsl 4 2 (out.length+1)) OD (af (fun n=>V.gsl 4 2 n) (bW out x)),O,O,O,OK⟩ ⟨OD,ry (b:=some (Ob.gro 49 (aB out++eV x))) OD (af (fun c=>some (Ob.gro 49 c)) hsn2),OK⟩ O O OE O,⟨⟨OI,hpu⟩,by simp only;rw [hfo,hmg]⟩,OI⟩
  ·have hpos:0<out.length:=CG.2 he;have hcne:aB out≠[]:=aW hpos;have hq:out.length-1<out.length:=OC;have hov:(aB out)[(out.length-1)*2+0]? =some (aI out[out.length-1].v):=nr hq;have how:=s5 hq;have hom:=aJ hq;have hob:=hkw _ hom;have heq:=Kd out[out.length-1].v x.v (by have:=hkv _ hom;omega) OC;refine Im (St.ku 4 O O hpos hcne)<|Ge O follows [0,1,2,3,4,5,6,7,8,9,10,11,12] OD<|D1 O O<|Ds 21 [] O O O (fun τ h=>XJ.cast (v':= .pv (.bool true)) (aQ (Ee h 0 O O) (Ee h 1 O O) O) (af (fun b=>V.pv (.bool b)) (x7 OC))) O OD ?_;iterate 4 refine D1 O O ?_
   refine Dg 26 [_] O O O O (fun τ h=>aa (out.length-1) underlying38 lM (Ee h 0 O O) (Eo h 0 O O) (Ee h 1 O O) OC hq) O OD<|D1 O O<|Dg 28 [_] O O O O (fun τ h=>aC ⟨_,underlying47,O⟩ (Ee h 0 O O) (Eo h 0 O O) hov) O OD ?_;iterate 2 refine D1 O O ?_
   refine Dg 31 [] O O O O (fun τ h=>ae call69 heq (h.bt O)) O OD<|D1 O O ?_;refine ⟨OD,?_⟩;refine Gc O O (fun hc32=>?_) (fun hc32=>?_)
   ·have hee:out[out.length-1].v=x.v:=Kh hc32;have hmg:mgR out x=out.set (out.length-1) ⟨out[out.length-1].v,out[out.length-1].w+x.w⟩:=by unfold mgR;rw [dif_pos hpos,og hee]
    have hst9:=qu hq (out[out.length-1].w+x.w);have hse9:=hse _ hq;refine Ge O follows [0,1,2,3,4,5,6,7,8,9,10,11] OD ?_;iterate 3 refine D1 O O ?_
    refine Ds 36 [_] O O O (fun τ h=>aa (out.length-1) underlying38 lM (Ee h 0 O O) (Eo h 0 O O) (Ee h 1 O O) OC hq) O OD<|D1 O O<|Ds 38 [_] O O O (fun τ h=>aC ⟨_,underlying3,O⟩ (Ee h 0 O O) (Eo h 0 O O) how) O OD ?_;iterate 2 refine D1 O O ?_
    refine Ds 41 [] O O O (fun τ h=>Mj (Ee h 0 O O) (Ee h 1 O O) OC) O OD<|Ds 42 [_] O O O (fun τ h=>aa (out.length-1) underlying38 lM (Ee h 0 O O) (Eo h 0 O O) (Ee h 1 O O) OC hq) O OD<|D1 O O<|DL.step (d:=none) [_] O O O (fun τ h=>aF sz3 (Ee h 0 O O) (Eo h 0 O O) (Ee h 1 O O) O (by first | omega | (simp;omega))) O OD ?_;refine ⟨OD,?_⟩;refine Im (St.pn 4 O O hpos (by intro e;have h:=af List.length e;rw [tx] at h;exact hcne (vG h))) ?_;exact Gx O<|Z2 O O O<|⟨(k+1,out.set (out.length-1) ⟨out[out.length-1].v,out[out.length-1].w+x.w⟩),Io ⟨ry (b:=V.gsl 1 2 out.length) OD (af (fun n=>V.gsl 1 2 n) (tx).symm),O,O,O,OK⟩ ⟨OD,ry (b:=some (Ob.gro 49 ((aB out).set ((out.length-1)*2+1) (.int .i64 (out[out.length-1].w+x.w))))) OD (af (fun c=>some (Ob.gro 49 c)) hst9),OK⟩ O O,⟨⟨OI,hse9⟩,by simp only;rw [hfo,hmg]⟩,OI⟩
   ·have hmg:mgR out x=out++[x]:=by unfold mgR;rw [dif_pos hpos,ga (Kq hc32)]
    have hsn2:=dW out x;refine Il<|Im (St.pn 4 O O hpos hcne)<|Gr O ?_;iterate 5 refine A1 O ?_
    exact Z2 O O O<|⟨(k+1,out++[x]),Ip [0,4] ⟨ry (b:=V.gsl 4 2 (out.length+1)) OD (af (fun n=>V.gsl 4 2 n) (bW out x)),O,O,O,OK⟩ ⟨OD,ry (b:=some (Ob.gro 49 (aB out++eV x))) OD (af (fun c=>some (Ob.gro 49 c)) hsn2),OK⟩ O O OE O,⟨⟨OI,hpu⟩,by simp only;rw [hfo,hmg]⟩,OI⟩
 ·have hof:out=s.foldl mgR []:=by rw [ho,show s.take k=s from bk OC]
  have hpos:0<out.length:=hI.z OC;have hcne:aB out≠[]:=aW hpos;have hde:=rF out out.length O (by have:=hI.n;omega);exact Im (St.ku 4 O O hpos hcne)<|Gx O<|Z1 O O<|Rs 50 O O (ah [1] 2 call70 hde O O O O ⟨O,OK⟩ OE O)<|A1 O<|Im (Ir 1 O O)<|Gt O<|⟨_,_,O,O,s,hsp,hss,by rw [hof];rfl⟩
end
section
open Go.RowKit Go.Sort Go.Lib
theorem H8 (w:World) (T:TypeId) (nd:Nat) (hs:nd<=24):Holds (fun (b:UInt8)=>Value.int .u8 (b.toNat:Int)) (w.alloc (.cells zeros24 T)) w.heap.size 0 (Array.replicate nd (0:UInt8)):=fun j hj=>by
 have hj':j<nd:=by simpa using hj
 refine ⟨?_,World.frozen?_alloc_new _ _ _ _⟩;rw [World.cell?_alloc_new,zeros24_at _ OC,getElem!_pos _ j hj];simp
theorem fin0 (w:World) (o:Obj) (dk:Array UInt8) (k:Nat):∃ os,(putRow (fun (b:UInt8)=>Value.int .u8 (b.toNat:Int)) (w.alloc o) w.heap.size 0 dk).drewN k=grow (w.drewN k) os:=by
 rw [alloc_eq_grow];obtain ⟨os',_,e⟩:=putRow_grow_new (fun (b:UInt8)=>Value.int .u8 (b.toNat:Int)) w #[o] w.heap.size 0 dk (qT _);exact ⟨os',by rw [e];rfl⟩
set_option maxHeartbeats 6400000
theorem pB (u:Nat) (hu64:u<18446744073709551616) (w:World) (htab:Lib.TabIs Tryz.prog w "internal/strconv.uint64pow10" .u64 Lib.pow10Tab):
  Calls Tryz.prog 166 #[.int .u64 u,.int .i64 10] w fun e w'=>e= .returned (.string ⟨(Lib.decDigits u).toArray⟩)/\∃ k os,w'=grow (w.drewN k) os:=by
 by_cases hs:u<100
 ·have hwr:IntKind.i64.wrap (u:Int)=(u:Int):=eT OC;have hlt:((u:Int)<100):=OC
  go_enter func166,ntmps166
  go_wp2_with (fail)
  refine (Tryz.internal_strconv_small u hs _).mono ?_;rintro e w' ⟨rfl,rfl⟩
  go_wp2
  go_ret
  exact ⟨O,0, #[],by simp [World.drewN_zero]⟩
 ·have hu1:1<=u:=OC;have hge:¬ ((u:Int)<100):=OC;have hnd20:Lib.nDigits u<=20:=by have:=Lib.numDigits_eq u hu1 hu64;split at this<;>omega
  have hb3:Lib.nDigits u<=23:=OC;have hal:Tryz.prog.arrayLen 255=24:=by simp [Program.arrayLen,underlying255]
  have hsl1:∀ W,(Instr.sliceAt 255 (.pointer (some ⟨w.heap.size,0,none⟩)) none (some (.int .i64 (Lib.nDigits u:Int))) none).run Tryz.prog W= .ok (.slice (some ⟨w.heap.size,0,none⟩) (Lib.nDigits u) 24) W:=fun W=>by
   rw [run_sliceAt_array_h W 255 ⟨w.heap.size,0,none⟩ (by simp [Program.arrayLen,Program.elem,underlying255]) .i64 (Lib.nDigits u:Int) OC (by rw [hal];omega)]
   go_simp
  have hH0:=H8 w 255 (Lib.nDigits u) OC;have hfmt:=Tryz.internal_strconv_formatBase10 w.heap.size 0 24 u (Array.replicate (Lib.nDigits u) 0) (w.alloc (.cells Lib.zeros24 255)) hH0 (by rw [Array.size_replicate];exact Lib.lt_pow_nDigits u) hu64 (by rw [Array.size_replicate];omega);rw [Array.size_replicate] at hfmt;have HH0:=Lib.hid hH0;clear hH0 hal
  go_enter func166,ntmps166
  go_wp2_with (fail)
  refine (Tryz.internal_strconv_numDigits u hu1 hu64 _ (Lib.tabIs_alloc htab _)).mono ?_;rintro e w' ⟨rfl,rfl⟩
  go_wp2_with (fail)
  refine hfmt.mono ?_;rintro e w' ⟨rfl,k,v',dk,rfl,hF⟩;have hcv:(convert 163 9 (.slice (some ⟨w.heap.size,0,none⟩) (Lib.nDigits u) 24)).run Tryz.prog ((putRow (fun (b:UInt8)=>Value.int .u8 (b.toNat:Int)) (w.alloc (.cells Lib.zeros24 255)) w.heap.size 0 dk).drewN k)= .ok (.string ⟨(Lib.decDigits u).toArray⟩) ((putRow (fun (b:UInt8)=>Value.int .u8 (b.toNat:Int)) (w.alloc (.cells Lib.zeros24 255)) w.heap.size 0 dk).drewN k):=by
   have h:=run_convert_bytes_back (P:=Tryz.prog) ((putRow (fun (b:UInt8)=>Value.int .u8 (b.toNat:Int)) (w.alloc (.cells Lib.zeros24 255)) w.heap.size 0 dk).drewN k) 163 9 5 ⟨w.heap.size,0,none⟩ 24 (Lib.decDigits u) underlying163 underlying5 underlying9 (fun j hj=>by
    rw [Lib.row_is_numeral hF j hj,Lib.add_plain,World.cell?_drewN];exact cell?_putRow (fun (b:UInt8)=>Value.int .u8 (b.toNat:Int)) _ w.heap.size 0 _ dk HH0.out (by rw [hF.size,Array.size_replicate]) j (by rw [hF.size];rw [Lib.decDigits_length] at hj;exact hj))
   rw [Lib.decDigits_length] at h;exact h
  go_wp2
  go_ret
  obtain ⟨os,eo⟩:=fin0 w (.cells Lib.zeros24 255) dk k;exact ⟨O,k,os,eo⟩
theorem nE (u:Nat) (hu64:u<18446744073709551616):FnP Tryz.prog 106 [.int .u64 u,.int .i64 10] (· = .str ⟨(Lib.decDigits u).toArray⟩):=by
 have hin:FnP Tryz.prog 166 [.int .u64 u,.int .i64 10] (· = .str ⟨(Lib.decDigits u).toArray⟩):=by
  intro w R us hG hR hrel;obtain ⟨v11,rfl,h11⟩:=nJ hrel;obtain ⟨v12,rfl,h12⟩:=nJ h11;obtain rfl:=kj h12;exact (pB u hu64 w (GQ hG)).mono fun e w' ⟨he,k,os,hw⟩=>⟨_,_,he,O,by rw [hw];exact tn w k os,by simp only [RelP]⟩
 refine FnP.of func106 O ntmps106 OG fun m0 w0 F R0=>?_
 exact Z1 O O<|Z2 O O O<|Rs 7 O O (ae call166 hin O)<|A1 O<|Gt O<|⟨_,_,O,O,O⟩
end
section
open Mk Jn
section
variable {C:Ctx} {n:Nat} {σ:St} {dst:Option Tmp} {ty t t':TypeId} {pos:String} {after:Array Edge} {gd:Option (Nat×Bool)} {x y:Operand}
theorem pI {e:TypeId} {id:Nat} {s:ByteArray} (id':Nat) (he:ElemIs C.P t e (.int .u8 0) 1 1) (hu:C.P.underlying t'=some .string) (hs:σ.ev n x= .gsl id 1 0) (ho:σ.ob id=some (.gro e []))
  (hy:σ.ev n y= .pv (.str s)) (hb:s.size<=1000000000) (h0:0<s.size) (hid:σ.av id'=true):
  XJ C n ⟨dst,.call { callee:= .builtin .append,args:= #[x,y],argTypes:= #[t,t'] },ty,pos,after,gd⟩ σ ⟨.gsl id' 1 s.size,[(id',some (.gro e (az s.data.toList))),(id,none)],[id']⟩:=by
 rintro a w Q ⟨m,R,hw⟩;obtain ⟨A0,c,hev,hkc,hcm,hz,hp⟩:=hw.gsl hs;obtain ⟨rfl,rfl,hmn⟩:=hz O;obtain ⟨i,hi,hzz,hsize,hbytes⟩:=info_parts he.info;have hsv:a.eval y= .string s:=hw.str hy;have h63:s.size<=maxLen:=by simp only [maxLen];omega
 have hsl:s.data.toList.length=s.size:=by rw [zE];rfl
 have hne:az s.data.toList≠[]:=fun e=>by
  have:=af List.length e;simp only [az,rJ,hsl,Ot] at this;omega
 have hrun:=Go.run_append_nil_string (P:=C.P) w t t' ty e i (.int .u8 0) he.u hu hi hzz s OC OC (by rw [hbytes];omega);have hgr:w.grownBy (w.drew.alloc (.cells (s.data.map (fun b=>Value.int .u8 b.toNat)++Builtin.zeroCells (Value.int .u8 0).cells (grownCap w s.size 0 e-s.size)) e)) none:=⟨O,O,O,OG,fun q hq _=>heap_alloc_old w.drew _ hq⟩;have hge:=grownCap_ge w s.size 0 e;have hlm:=grownCap_le_maxLen w s.size 0 e h63;have hz1:(Value.int IntKind.u8 0).cells.size=1:=rfl;have hg:=heap_alloc_new w.drew (.cells (s.data.map (fun b=>Value.int .u8 b.toNat)++Builtin.zeroCells (Value.int .u8 0).cells (grownCap w s.size 0 e-s.size)) e);have hcs':(s.data.map (fun b=>Value.int .u8 b.toNat)++Builtin.zeroCells (Value.int .u8 0).cells (grownCap w s.size 0 e-s.size)).size=grownCap w s.size 0 e:=by
  have:s.data.size=s.size:=rfl;simp only [Array.size_append,Array.size_map,size_zeroCells,hz1];omega
 have htk:(s.data.map (fun b=>Value.int .u8 b.toNat)++Builtin.zeroCells (Value.int .u8 0).cells (grownCap w s.size 0 e-s.size)).toList.take s.size=Lib.strCells s:=by
  rw [Array.toList_append,List.take_left' (by rw [zE,Array.size_map];rfl),Om];rfl
 generalize (s.data.map (fun b=>Value.int .u8 b.toNat)++Builtin.zeroCells (Value.int .u8 0).cells (grownCap w s.size 0 e-s.size))=cur' at*;generalize grownCap w s.size 0 e=c' at*;generalize hw':w.drew.alloc (.cells cur' e)=w' at*;have hg2:w'.heap[w.heap.size]? =some (.cells cur' e (0,0)):=hg;unfold Oper.wp;have hexec:(execOp a.eval ⟨dst,.call { callee:= .builtin .append,args:= #[x,y],argTypes:= #[t,t'] },ty,pos,after,gd⟩).run C.P w= .ok (.value (.slice (some ⟨w.heap.size,0,none⟩) s.size c')) w':=by
  unfold execOp;simp only [resolve,invoke,builtin,Sem.run_bind,Sem.run_pure,Result.andThen_ok,Lq,jt,Jl,hev,hsv,hrun]
 rw [hexec];have hcl:(az s.data.toList).length=s.size:=by simp only [az,rJ,hsl]
 refine ⟨_,O,upd (upd m id none) id' (some (w.heap.size,cur'.size)),R,?_⟩;rw [Iw];have sub:∀ i x,upd m id none i=some x->m i=some x/\i≠id:=fun i x e=>by
  by_cases hi:i=id
  ·subst hi;rw [au] at e;cases e
  ·rw [aG _ _ hi] at e;exact ⟨e,hi⟩
 refine SW.put ((hw.drop id).fresh hid hg2 hgr (fun q hq=>by cases hq) (fun hh=>?_) (fun i b' N' hi e=>?_) (.inr ?_) (.gro e (az s.data.toList)) ?_ (bQ hne)) dst ?_
 ·have:=hw.hr.rsz _ hh;omega
 ·have:=(hw.hr.own i b' N' (sub i _ hi).1).1;omega
 ·have:=hw.hr.frame.size;omega
 ·intro m' av' hR _ _;refine ⟨cur',hg2,O,by rw [hcl,hcs'];exact hge,?_⟩;rw [hcl,htk];exact (jj s).mono hR
 ·simp only [Rel];refine ⟨by simp [avL],_,c',O,hge,hlm,fun h=>by omega,fun _ b' N' e'=>?_⟩;rw [au] at e';cases e';exact ⟨O,by rw [hcs',ID]⟩
end
theorem w4 (s:ByteArray) (h0:0<s.size) (hb:s.size<=1000000000):FnO Tryz.prog 105 2 1 [.ptr big 0,.pv (.str s)] [(big,.mix 165 [.pv .nilptr,.gsl 9001 1 0]),(9001,.gro 5 [])] (fun v ob'=>v= .tup [.pv (.int .i64 s.size),.pv .niliface]/\ob'=ar [(big,.mix 165 [.ptr big 0,.gsl 0 1 s.size]),(0,.gro 5 (az s.data.toList))]):=by
 refine FnO.of func105 O ntmps105 OG fun m0 w0 F R0=>?_
 have hcc:=u7 0 [];refine Z2 O O O<|Z1 O O<|Rs 7 O O (ah [big,9001] 0 call165 hcc O O O O ⟨O,O,OK⟩ OE O)<|Gr O ?_;iterate 6 refine A1 O ?_
 exact Rs 14 O O (pI 0 F4 underlying9 O O O hb h0 O)<|Y3 O O O<|Z4 O O O O O<|Gt O<|⟨[(4,.pv (.int .i64 s.size)),(5,.pv .niliface)],[(big,.mix 165 [.ptr big 0,.gsl 0 1 s.size]),(0,.gro 5 (az s.data.toList))],[.pv (.int .i64 s.size),.pv .niliface],Io (aS O) (aO OD) O O,O,O,O,O,O⟩
theorem FH (n:Nat):0<(Lib.decDigits n).length:=by
 cases h:Lib.decDigits n with
 | nil=>
   exfalso;rw [Lib.decDigits] at h;split at h<;>simp at h
 | cons a l=>simp
theorem lF (n:Nat) (hn:n<1000000000) (hl:(Lib.decDigits n).length<=1000):FnP Tryz.prog 55 [ec (n:Int)] (· = .str ⟨(Lib.decDigits n).toArray⟩):=by
 refine FnP.of func55 O ntmps55 OG fun m0 w0 F R0=>?_
 have hz:decide ((n:Int)<0)=false:=Et OC;have hfu:=nE n OC;have hdp:=FH n;rw [show ec (n:Int)= .agg [.bool false,.sl none (aj n).length (bX (aj n))] by show PV.agg [.bool (decide ((n:Int)<0)),z1 ((n:Int).natAbs)]=_;rw [hz];rfl];by_cases h0:n=0
 ·subst h0;rw [aV];refine Z2 O O O<|Z4 O O O O O ?_;refine Gc O O (fun hc9=>?_) (fun hc9=>absurd hc9 OG);exact Z1 O O<|Gt O<|⟨_,_,O,O,by show PV.str ⟨#[48]⟩=_;rw [Lib.decDigits,dif_pos OE];rfl⟩
 ·have hlm:aj n=[n]:=by
   rw [aj,ga h0,show n/1000000000=0 by omega,aV,Nat.mod_eq_of_lt hn]
  rw [hlm];have hg0:(bX [n])[0]? =some (.int .u64 (n:Int)):=rfl;generalize hD:Lib.decDigits n=D at*;have hDn:D≠[]:=fun e=>by rw [e] at hdp;simp at hdp
  have hws:=w4 ⟨D.toArray⟩ (show 0<D.length from hdp) (show D.length<=1000000000 by omega);have hbs:=j8 D hDn OC;refine Z2 O O O<|Z4 O O O O O ?_;refine Gc O O (fun hc=>absurd hc OG) (fun hc=>?_);refine Il<|Z1 O O<|Im (St.er 1 1 2 1 5 O O O)<|Z2 O O O ?_;refine Gc O O (fun hc=>absurd hc OG) (fun hc=>?_);refine Il<|Gr O ?_;iterate 5 refine A1 O ?_
  refine Gl O (st:=fun b:Bool=>bif b then mkS [(1,.ptr 0 0),(3,.ptr 1 0),(4,.pv (.int .i64 0))] [(0,.mix 91 [.pv (.bool false),.pv (.sl none 1 (bX [n]))]),(1,.mix 165 [.pv .nilptr,.gsl 2 1 0]),(2,.gro 5 [])] 3 else mkS [(1,.ptr 0 0),(3,.ptr 1 0),(4,.pv (.int .i64 (-1)))] [(0,.mix 91 [.pv (.bool false),.pv (.sl none 1 (bX [n]))]),(1,.mix 165 [.ptr 1 0,.gsl 2 1 D.length]),(2,.gro 5 (az D))] 3)
   (I:=fun _=>True) (μ:=fun b=>bif b then 1 else 0) (x0:=true) (Io (aS O) (aO O) O O) trivial ?_
  rintro (_ | _) _
  ·simp only [Hh];refine Z2 O O O ?_;refine Gp O O (fun hc=>absurd hc OE) (fun hc=>?_);exact Gx O<|Gr O<|Rs 40 O O (ah [1,2] 3 call108 hbs O O O O ⟨O,O,OK⟩ OE O)<|A1 O<|Gt O<|⟨_,_,O,O,O⟩
  ·simp only [Kb];refine Z2 O O O ?_;refine Gp O O (fun hc=>?_) (fun hc=>absurd hc OE);refine Il<|Z3 O O O O<|Rs 24 O O (ag 0 underlying89 gk O O O OE (by simp [bX]))<|Rs 25 O O (ai ⟨_,underlying136,O⟩ O hg0)<|Rs 26 O O (ae call106 hfu O)<|A1 O<|Gr O ?_;iterate 6 refine A1 O ?_
   refine Gp O O (fun hc=>absurd hc OG) (fun hc=>?_);exact Il<|Z1 O O<|Rs 39 O O (ah [1,2] 3 call105 hws O O O O ⟨O,O,OK⟩ OE O)<|Z3 O O O O<|⟨false,Ip [0,1,3] (aT O) (aP OD) O O OE O,OK,OE⟩
end
section
open Mk Jn
def qp (S:Sch) (d:List (List Rw)) (k:Nat):List (List Rw):=(List.zipWith (fun r l=>gF S r.2 l) S.rels d).take k
def bf (S:Sch) (d:List (List Rw)):List (List Rw):=List.zipWith (fun r l=>gF S r.2 l) S.rels d
theorem wo {S:Sch} {d:List (List Rw)} (hd:d.length=S.rels.length) {k:Nat} (hk:k<S.rels.length):qp S d (k+1)=qp S d k++[gF S S.rels[k].2 (d[k]'OC)]:=by
 unfold qp;rw [aR OH,List.getElem_zipWith]
theorem zJ {S:Sch} {d:List (List Rw)} (hd:d.length=S.rels.length):qp S d S.rels.length=bf S d:=bk OH
theorem K4 {S:Sch} {d:List (List Rw)} (hd:d.length=S.rels.length) {k:Nat} (hk:k<=S.rels.length):(qp S d k).length=k:=by
 unfold qp;simp;omega
theorem wG (S:Sch) (hS:SB S) (hV:Valid S) (hJ:SJn S) (d:List (List Rw)) (hd:d.length=S.rels.length) (hl:∀ l∈d,l.length<=1000) (hv:∀ r (h:r<d.length) (h2:r<S.rels.length),∀ x∈d[r],x.v.length=S.rels[r].2.length):
  FnO Tryz.prog 48 0 2 [.pv (gK S),.pv (dbP d)] [] (fun v ob'=>v= .ptr 0 0/\ob'=ar [(0,oX S (.pv (dbP (bf S d))) (.pv (ak (lstL S))) 1),(1,.mp [] [])]):=by
 refine FnO.of func48 O ntmps48 OG fun m0 w0 F R0=>?_
 have hle:=(iN S hS hV).2;have hr:=hJ.r;have hall:=zJ hd;generalize lstL S=lp at*;have hdl:=dH d;refine Z2 O O O<|Ge O follows [0,1,2,3,4,5,6] OD ?_;iterate 2 refine D1 O O ?_
 refine Ds 9 [] O O O (fun τ h=>ae call85 hle (h.bt O)) O OD<|Ds 10 [] O O O (fun τ h=>fF 1 (h.n 0 _ O)) O OD ?_;iterate 3 refine D1 O O ?_
 refine ⟨OD,?_⟩;refine Im (St.er 2 4 3 1 38 O O O)<|Z4 O O O O O ?_;refine Gl O (st:=fun x_0:Nat×List (List Rw)=>mkS [(1,.pv (dbP d)),(2,.ptr 0 0),(5,.ptr 2 0),(15,.pv (.int .i64 S.rels.length)),(16,.pv (.int .i64 x_0.1))] [(0,oZ S),(1,.mp [] []),(2,oX S (.gsl 3 1 x_0.2.length) (.pv (ak lp)) 1),(3,.gro 38 (Cq x_0.2))] 4)
  (I:=fun x_0=>x_0.1<=S.rels.length/\x_0.2=qp S d x_0.1) (μ:=fun x_0=>S.rels.length-x_0.1) (x0:=(0,[])) (Io (aS O) (aO OD) O O) (⟨eF _,by simp [qp]⟩) ?_
 rintro ⟨k,q⟩ ⟨hk,hq⟩;try simp only at hk hq ⊢
 refine Z1 O O ?_;refine Gp O O (fun hc17=>?_) (fun hc17=>?_)
 ·have hlt:k<S.rels.length:=OC;have hkd:k<d.length:=OC;have htr:=cD hkd;have htn:=dN hkd;have hlv:=zS S hJ k hlt d[k] (hl _ (aJ hkd)) (hv k hkd hlt);have hsu:=wo hd hlt;have hqk:=K4 hd hk;rw [<-hq] at hqk hsu;have hql:(Cq q).length=q.length*1:=dH q;have hsn:=jE q (gF S S.rels[k].2 d[k]);generalize gF S S.rels[k].2 d[k]=lv at*;generalize d[k]=tk at*;refine Il<|Z2 O O O<|Ge O follows [0,1,2,3,4,5,6,7,8,9,10,11,12,13,14,15,16] OD ?_;iterate 9 refine D1 O O ?_
  refine Ds 28 [] O O O (fun τ h=>ag k underlying36 qk (Ee h 0 O O) (Ee h 1 O O) O hkd htn) O OD<|Ds 29 [] O O O (fun τ h=>ai ⟨_,underlying38,O⟩ (Ee h 0 O O) htr) O OD<|Ds 30 [] O O O (fun τ h=>ae call73 hlv (h.bt O)) O OD ?_;iterate 5 refine D1 O O ?_
  refine ⟨OD,?_⟩;exact Z2 O O O<|⟨(k+1,q++[lv]),Ip [0,1,2,5] (aT O) ⟨OD,OD,ry (b:=some (oX S (.gsl 5 1 (q.length+1)) (.pv (ak lp)) 1)) OD (af (fun n=>some (oX S (.gsl 5 1 n) (.pv (ak lp)) 1)) (bW q lv)),ry (b:=some (.gro 38 (Cq q++[bL lv]))) OD (af (fun c=>some (Ob.gro 38 c)) hsn),OK⟩ O O OE O,⟨OI,by simp only;rw [hsu]⟩,OI⟩
 ·have hqf:q=bf S d:=by rw [hq,show k=S.rels.length by omega,hall]
  rw [hqf];exact Gx O<|Im (Ir 3 O O)<|Z2 O O O<|Gt O<|⟨[(4,.ptr 0 0)],[(0,oX S (.pv (dbP (bf S d))) (.pv (ak lp)) 1),(1,.mp [] [])],[.ptr 0 0],Ip [2,1] (aT O) (aP OD) O O OE O,O,O,O,O,O⟩
end
section
open Mk Jn
abbrev jrO (S:Sch) (T:List (List Rw)) (lp:List Int) (D:VD) (l:List Rw):List (Nat×Ob):=[(big,oX S (.pv (dbP T)) (.pv (ak lp)) 9001),(9001,.mp [.int .i64 (-1)] [ca D]),(0,.gro 49 (aB l))]
theorem DA (P:List Int):Pre P 0 s0B:=fun a=>by simp
theorem now0B (n:Nat):NowOk n s0B (List.replicate n eb):=⟨OG,fun a h x e=>(by cases e),fun a _=>rfl⟩
theorem sy (S:Sch) (T:List (List Rw)) (lp:List Int) (pk pv:List PV) (D:VD) (hpl:pr S T lp pk pv D) (P:List Int) (hc:CtxV (jdB S T lp D) P D) (hd:∀ l∈T,l.Pairwise fun a b=>a.v≠b.v) (hw100:∀ l∈T,∀ x∈l,1<=x.w/\x.w<=100) (hr6:S.rels.length<=6) (hwa:D.wa=aD P) (hho:∀ v (hv:v<D.hos.length),D.hos[v]=hoL S P v)
  (l:List Rw) (hl:o9 (jdB S T lp D) P=l) (hll:l.length<=1000000):
  FnO Tryz.prog 52 2 1 [.ptr big 0] (jnO S T lp pk pv) (fun v ob'=>v= .gsl 0 2 l.length/\ob'=ar (jrO S T lp D l)):=by
 refine FnO.of func52 O ntmps52 OG fun m0 w0 F R0=>?_
 have hask:=vP S T lp pk pv D hc.ok.s.a hpl;have htt:=sB (jdB S T lp D) P D hc s0B (fun _=>rfl) (List.replicate S.attrs.length eb) [] (now0B _) (fun p hp=>by cases hp);have hol:=y3 hc;rw [hl] at hol;have hhas:=HO hc s0B;have hof:=iR hc;rw [zt] at hl;have hll2:([]:List Rw).length+(enC (jdB S T lp D) P (hoL (jdB S T lp D).S P) ((aD P).drop 0) s0B 1).length<=1000000:=by
  rw [List.drop_zero,Ot,Dq,<-Mc S.attrs.length];exact hl▸hll
 have hgo:=fun now2 M2 h1 h2=>Ey (jdB S T lp D) P D hc hd hw100 hr6 hwa hho (aD P).length 0 OC s0B now2 M2 1 [] (DA P) (fun a x e=>(by cases e)) (fun a x e=>(by cases e)) h1 h2 OE (by unfold GY;simp) hll2
 rw [List.drop_zero,Ew,show (fun _=>none:Asg ByteArray)=s0B from O] at*;rw [show iX (jdB S T lp D).S.attrs.length (enC (jdB S T lp D) P (hoL (jdB S T lp D).S P) (aD P) s0B 1)=l from hl] at hgo;have hemp:fl aU (jdB S T lp D) P (bq P (-1)) s0B=false->l=[]:=fun e=>by
  rw [e] at hhas;have h1:(enW (bC (RJ (jdB S T lp D)) sdS) (aD P) s0B).isEmpty=true:=by simpa using hhas.symm
  rw [<-hl,<-sg,Mc,<-rJ (f:=(·.1)),hof];exact sg.2 (List.isEmpty_iff.1 h1)
 clear hol hhas hof hl;generalize fl aU (jdB S T lp D) P (bq P (-1)) s0B=fb at*;refine Z1 O O<|Z1 O O<|Rs 7 O O (ah [big,9001] 0 call96 hask O O O O ⟨O,O,OK⟩ OE O)<|Y2 O O<|Im (Io (l:=[(3,.ptr 5 0)]) (os:=(5,.mix 139 [.ptr 4 0])::HG S T lp D) (k:=6) (aS OD) (aO OD) O O)<|Z1 O O ?_;refine RL.call O (dU (os:=o6B (jdB S T lp D) (wdB D) s0B (List.replicate S.attrs.length eb) [] []) [4,1,2,3,big,9001] 0 call97 (args:=[.ptr big 0]) (k':=0) OD OD OD OD ⟨OD,OD,OD,OD,OD,OD,OK⟩ OE OD htt fun v ob' hv=>?_);obtain ⟨now2,M2,hn2,hM2,rfl,rfl⟩:=hv;refine A1 O ?_;have hgo2:=hgo now2 M2 hn2 hM2;refine Wk [(3,.ptr 5 0),(10,.pv (.bool (!fb)))] [(4,(oB (wdB D) big 1 S.attrs.length 2 3)),(1,.cells 9 (aA now2)),(2,.cells 4 (ay (stL s0B S.attrs.length))),(3,.mp (ba M2) (bB M2)),(5,.mix 139 [.ptr 4 0]),(big,oX S (.pv (dbP T)) (.pv (ak lp)) 9001),(9001,.mp [.int .i64 (-1)] [ca D])] 6 (aS OD) (aO OD) O O ?_;refine Gc O O (fun hc10=>?_) (fun hc10=>?_)
 ·have hle:=hemp (by simpa using hc10);subst hle;exact Z1 O O<|Im (Iu 2 6 2 49 O O)<|Gt O<|⟨[(2,.gsl 0 2 0)],jrO S T lp D [],[.gsl 0 2 0],Is [6] (aT OD) (aP OD) O O OE O,O,O,O,O,O⟩
 ·refine Il<|Z1 O O<|Im (St.er 6 0 7 2 49 O O O)<|Z1 O O<|Z2 O O O<|Z1 O O ?_;refine RL.call O (qx [4,1,2,3,big,9001,5,6,8,7] 9 call98 hgo2 O O O O O ⟨OD,OD,OD,OD,OD,OD,OD,OD,OD,OD,OK⟩ OE O ?_);rintro _ _ ⟨now4,M4,hn4,hM4,rfl,rfl⟩;exact Z2 O O O<|Gt O<|⟨[(2,.gsl 0 2 l.length)],jrO S T lp D l,[.gsl 0 2 l.length],Is [9] (aT OD) (aP OD) O O OE O,O,O,O,O,O⟩
end
end Go.Proofs.YtedfonppffochaaGreatDoor
