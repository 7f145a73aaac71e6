/- Lemmas. No condition. -/
import Derived.RangeFuncIn
import Derived.RangeFuncCalls
import Derived.RangeFuncLeaves
import Derived.RangeFuncSeq
import Derived.Sort.MapsRangeIn
import Derived.RangeFuncGives
import Derived.RangeFuncKeeps
import Derived.RangeFuncBox
import Derived.Shelf.Abstract
import Derived.OwnWalkIn
import Derived.TacticsInMore
import Derived.LoopNIn
import Derived.LoopIn
import Derived.RegionIn
import Derived.Test.YtoplpepiabedhaaGreatDoorJC9
set_option maxRecDepth 100000
set_option maxHeartbeats 4000000
open Go.RowKit Go.Proofs.Tryz
namespace Go.Proofs.YtoplpepiabedhaaGreatDoor
section
open Go.RowKit Mm
namespace Mm
theorem MOk.msm{W k:Nat}{m:MC}(h:MOk W k m)(d:W<=10^50)(j:k<=50):MSm m:=by
 have l:(10:Nat)^50<=smB:=by decide+kernel
 have q:3*50*10^50<=smB:=by decide+kernel
 have r:9*50*50*10^50<=smB:=by decide+kernel
 exact⟨h.ci,h.s,h.p,h.po,h.cb.up (IT d l),fun e he=>(h.sb e he).up (IT (Sw (Ss 3 j) d) q),
  fun e he=>(h.pb e he).up (IT (Sw (Sw (Ss 9 j) j) d) r)⟩
section
variable {K:Type}[BEq K][LawfulBEq K]
theorem Inc.go{D:Int}{b w:List (K×Rat)}{q:Rat}(d:∀e∈w,dM D (e.2*q)):∀{todo acc:List (K×Rat)},Inc D b w q todo acc->∃acc',Inc D b w q [] acc'
 |[],acc,h=>⟨acc,h⟩
 |e::t,acc,h=>Inc.go d (todo:=t) (Inc.step (l1:=[]) h (d e (h.mem Vj)))
end
theorem CrsI.go{b:List (PP×Rat)}{ws dP:List (Par×Rat)}{p:Par}{x:Rat}(d:LOk 6 ws)(j:dM 6 x):∀{todo:List (Par×Rat)}{acc:List (PP×Rat)},CrsI b ws dP p x todo acc->∃acc',CrsI b ws dP p x [] acc'
 |[],acc,h=>⟨acc,h⟩
 | e::t,acc,h=>by
   have hz:dM 36 (x*e.2):=j.mul (d.it e (h.mem Vj));have l:dM 36 (ctr p x e).2:=by
    simp only[ctr];split
    ·exact hz.add hz
    ·exact hz
   exact CrsI.go d j (todo:=t) (CrsI.step (l1:=[]) h l)
theorem CrsO.go{b:List (PP×Rat)}{ws vs:List (Par×Rat)}(j:LOk 6 ws)(l:LOk 6 vs):∀{todo:List (Par×Rat)}{acc:List (PP×Rat)},CrsO b ws vs todo acc->∃acc',CrsO b ws vs [] acc'
 |[],acc,h=>⟨acc,h⟩
 | e::t,acc,h=>by
   obtain⟨d,h1,h2⟩:=CrsO.into (l1:=[]) h;obtain⟨acc2,h3⟩:=CrsI.go j (l.it e (h.mem Vj)) h2;exact CrsO.go j l (todo:=t) (CrsI.out (l1:=[]) h1 h3)
theorem SOk.add{W W' k:Nat}{x y:Sem}(j:SOk W k x)(l:SOk W' k y):SOk (W+W') k (Sem.add x y):=by
 obtain⟨v,hv,rfl⟩:=j;obtain⟨w,hw,rfl⟩:=l;have d:∀z:Rat,z*(1:Rat)=z:=Rat.mul_one;obtain⟨s,hs⟩:=Inc.go (fun e he=>by rw[d];exact hw.s.it e he) (Inc.start hv.s w.s 1);obtain⟨p,hp⟩:=Inc.go (fun e he=>by rw[d];exact hw.p.it e he) (Inc.start hv.p w.p 1);obtain⟨e,h⟩:=MOk.add hv hw (m:=⟨v.c+w.c,s,p⟩) O hs.ok hp.ok (hp.po hv.po hw.po) (fun x=>by rw[hs.end,d]) (fun x=>by rw[hp.end,d]);exact⟨_,h,e⟩
theorem SOk.mul{W W' k k':Nat}{x y:Sem}(l:SOk W k x)(q:SOk W' k' y):SOk (W*W') (k+k') (Sem.mul x y):=by
 obtain⟨v,hv,rfl⟩:=l;obtain⟨w,hw,rfl⟩:=q;obtain⟨s1,hs1⟩:=Inc.go (fun e he=>(hw.s.it e he).Jj hv.ci) (Inc.start (LOk.nil 6) w.s v.c);obtain⟨s,hs⟩:=Inc.go (fun e he=>(hv.s.it e he).Jj hw.ci) (Inc.start hs1.ok v.s w.c);obtain⟨p1,hp1⟩:=Inc.go (fun e he=>(hw.p.it e he).Jj hv.ci) (Inc.start (LOk.nil 36) w.p v.c);have d:=hp1.po (fun _ h=>absurd h Vj) hw.po;obtain⟨p2,hp2⟩:=Inc.go (fun e he=>(hv.p.it e he).Jj hw.ci) (Inc.start hp1.ok v.p w.c);have j:=hp2.po d hv.po;obtain⟨p,hp⟩:=CrsO.go hw.s hv.s (CrsO.start hp2.ok j);obtain⟨e,h⟩:=MOk.mul hv hw (m:=⟨v.c*w.c,s,p⟩) O hs.ok hp.ok hp.po (fun x=>by rw[hs.end,hs1.end];simp only[lk];grind) (fun x y=>by rw[hp.end,hp2.end,hp1.end];simp only[lk];grind);exact⟨_,h,e⟩
def cnt(n:Int):Sem:=⟨(n:Rat),fun _=>0,fun _ _=>0⟩
theorem Hs(n:Nat):MOk n 0 ⟨((n:Int):Rat),[],[]⟩:=
 ⟨⟨n,O⟩,LOk.nil 6,LOk.nil 36,fun _ h=>absurd h Vj,⟨by have:(0:Rat)<=(n:Rat):=Rat.natCast_le_natCast.2 (cd n);show-(n:Rat)<=(n:Rat);grind,Rat.le_refl⟩,fun _ h=>absurd h Vj,fun _ h=>absurd h Vj⟩
theorem lY(n:Nat):SOk n 0 (cnt n):=⟨_,Hs n,O⟩
theorem Ag(n:Nat):cn (cnt n)=⟨((n:Int):Rat),[],[]⟩:=MX (Hs n) List.Pairwise.nil List.Pairwise.nil
open Classical in
noncomputable def lft(p:Par)(x:Rat):Sem:=⟨1,fun q=>if q=p then x else 0,fun a b=>if a=p/\b=p then x*x else 0⟩
open Classical in
noncomputable def mcOne(p:Par)(x:Rat):MC:=⟨((1:Int):Rat),if x=0 then []else [(p,x)],if x=0 then []else [((p,p),x*x)]⟩
theorem N7{x:Rat}(h:x*x=0):x=0:=by
 rcases Rat.mul_eq_zero.1 h with h|h<;>exact h
open Classical in
theorem xO(p:Par)(x:Rat)(d:dM 6 x)(j:bl 3 x):MOk 1 1 (mcOne p x)/\(mcOne p x).sem=lft p x/\Asc cD (mcOne p x).s/\Asc dU (mcOne p x).p:=by
 have hc:bl 1 ((1:Int):Rat):=⟨by decide+kernel,by decide+kernel⟩;have r:cD p p=0:=eY.2 O;by_cases h:x=0
 ·have e:mcOne p x=⟨((1:Int):Rat),[],[]⟩:=by rw[mcOne,AT h,AT h]
  rw[e];refine⟨⟨⟨1,O⟩,LOk.nil 6,LOk.nil 36,fun _ h=>absurd h Vj,hc,fun _ h=>absurd h Vj,fun _ h=>absurd h Vj⟩,Sem.same O (fun q=>?_) (fun a b=>?_),List.Pairwise.nil,List.Pairwise.nil⟩
  ·show(0:Rat)=if q=p then x else 0
   split
   ·exact h.symm
   ·rfl
  ·show(0:Rat)=if a=p/\b=p then x*x else 0
   split
   ·rw[h,Rat.zero_mul]
   ·rfl
 ·have e:mcOne p x=⟨((1:Int):Rat),[(p,x)],[((p,p),x*x)]⟩:=by rw[mcOne,dt h,dt h]
  rw[e];refine⟨⟨⟨1,O⟩,⟨Vj,by simpa using h,by simpa using d⟩,⟨Vj,?_,?_⟩,?_,hc,?_,?_⟩,Sem.same O (fun q=>?_) (fun a b=>?_),Vj,Vj⟩
  ·intro e he;simp at he;subst he;exact fun h0=>h (N7 h0)
  ·intro e he;simp at he;subst he;exact d.mul d
  ·intro e he;simp at he;subst he;simp only;omega
  ·intro e he;simp at he;subst he;exact j
  ·intro e he;simp at he;subst he;exact j.mul j
  ·show(if p==q then x else 0)+(0:Rat)=if q=p then x else 0
   rw[UT];by_cases hq:q=p
   ·subst hq;simp
   ·rw[dt hq,dt (by simpa using Ne.symm hq)]
  ·show(if(p,p)==eH a b then x*x else 0)+(0:Rat)=if a=p/\b=p then x*x else 0
   rw[UT];by_cases hq:a=p/\b=p
   ·obtain⟨rfl,rfl⟩:=hq;rw[fp Vf];simp
   ·rw[dt hq,dt];intro h2;have l:=eq_of_beq h2;rw[<-fp (show cD p p<=0 by omega)]at l;rcases Ac l with⟨h4,h5⟩|⟨h4,h5⟩
    ·exact hq ⟨h4.symm,h5.symm⟩
    ·exact hq ⟨h5.symm,h4.symm⟩
theorem Es(p:Par)(x:Rat)(d:dM 6 x)(j:bl 3 x):SOk 1 1 (lft p x):=⟨_,(xO p x d j).1,(xO p x d j).2.1⟩
theorem Q1(p:Par)(x:Rat)(d:dM 6 x)(j:bl 3 x):cn (lft p x)=mcOne p x:=by
 obtain⟨h1,h2,h3,h4⟩:=xO p x d j;rw[<-h2];exact MX h1 h3 h4
end Mm
theorem GO{W k:Nat}{m:MC}(h:MOk W k m)(d:Mm.Asc cD m.s)(j:Mm.Asc dU m.p):momP m.sem=mcP m:=by
 show mcP (cn m.sem)=mcP m;rw[MX h d j]
theorem N8{W W' k:Nat}{x y:Mm.Sem}(l:SOk W k x)(q:SOk W' k y)(t:W<=10^50)(d:W'<=10^50)(j:k<=50):FnP prog 177 [momP x,momP y] (· =momP (Mm.Sem.add x y)):=by
 obtain⟨mx,ex,_,_⟩:=l.cn;obtain⟨my,ey,_,_⟩:=q.cn;refine(FP (cn x) (cn y) (mx.msm t j) (my.msm d j)).mono ?_;rintro r ⟨m,hR,rfl⟩;obtain⟨e,hm⟩:=MOk.add mx my hR.c hR.s hR.p hR.po hR.es hR.ep;rw[ex,ey]at e;rw[<-e];exact(GO hm hR.sa hR.pa).symm
theorem sr{W W' k k':Nat}{x y:Mm.Sem}(l:SOk W k x)(q:SOk W' k' y)(t:W<=10^50)(d:W'<=10^50)(u:k<=50)(j:k'<=50):FnP prog 56 [momP x,momP y] (· =momP (Mm.Sem.mul x y)):=by
 obtain⟨mx,ex,_,_⟩:=l.cn;obtain⟨my,ey,_,_⟩:=q.cn;refine(He (cn x) (cn y) (mx.msm t u) (my.msm d j)).mono ?_;rintro r ⟨m,hR,rfl⟩;obtain⟨e,hm⟩:=MOk.mul mx my hR.c hR.s hR.p hR.po hR.es hR.ep;rw[ex,ey]at e;rw[<-e];exact(GO hm hR.sa hR.pa).symm
theorem kH(n:Nat)(d:n<=9223372036854775807):FnP prog 54 [.int .i64 n] (· =momP (cnt n)):=by
 have h:=xj (n:Int) Vf Vf;rw[show mcP (mcW (n:Int))=momP (cnt n) by show mcP ⟨((n:Int):Rat),[],[]⟩=mcP (cn (cnt n));rw[Ag]]at h;exact h
theorem Jq(p:Par)(x:Rat)(t:FOk x):FnP prog 202 [dr p,frP x] (· =mcP (mcOne p x)):=by
 refine FnP.ofC func202 O ntmps202 Vj fun m0 w0 F R0=>?_
 have q:=ko 1 Vh Vh;have u:=eL x;have z:=gH x x t t;have s:(x.num.sign==0)=decide (x=0):=gD;refine Z3 O<|Gr O<|Rs O (bt [] 3 call54 q O O O O trivial Vh O)<|Y2 O<|Z1 O<|Rs O (aa call203 u O)<|A1 O ?_;refine Gc O (fun hc9=>?_) (fun hc9=>?_)
 ·have j:¬x=0:=by have l:(x.num.sign !=0)=true:=hc9;rw[bne,s]at l;simpa using l
  have e:mcOne p x=⟨((1:Int):Rat),[(p,x)],[((p,p),x*x)]⟩:=by rw[mcOne,dt j,dt j]
  refine Z4 O<|RL.step (d:=none) O O (bZ kZ underlying117 O O O O ⟨p,O⟩ (r:=none) O O O)<|RW 9 O ?_;iterate 7 refine D1 O ?_
  refine Ds [] O (fun τ h=>aa call139 z (h.aK O)) O Vg<|DL.step (d:=none) [4] O O O (fun τ h=>bZ rZ underlying118 (Ee h 0 O O) (Eo h 0 O O) (Ee h 1 O O) (Ee h 2 O O) ⟨(p,p),O⟩ (r:=none) O O O) O Vg ?_;refine⟨Vg,?_⟩;exact Q4 (St.cw (ks:=[dr p]) (vs:=[frP x]) 3 Vg O (RY _))<|Q4 (St.cw (ks:=[ppP (p,p)]) (vs:=[frP (x*x)]) 4 Vg O (RY _))<|Z2 O<|Gt O<|⟨_,_,O,O,⟨az ⟨_,underlying120,O⟩ j0 O O O,Vm⟩,by rw[e];rfl⟩
 ·have j:x=0:=by have l:(x.num.sign !=0)=false:=hc9;rw[bne,s]at l;simpa using l
  have e:mcOne p x=⟨((1:Int):Rat),[],[]⟩:=by rw[mcOne,AT j,AT j]
  exact Q3<|Q4 (St.cw (ks:=[]) (vs:=[]) 3 Vg O (RY _))<|Q4 (St.cw (ks:=[]) (vs:=[]) 4 Vg O (RY _))<|Z2 O<|Gt O<|⟨_,_,O,O,⟨az ⟨_,underlying120,O⟩ j0 O O O,Vm⟩,by rw[e];rfl⟩
theorem Ga(p:Par)(x:Rat)(d:dM 6 x)(j:bl 3 x):FnP prog 202 [dr p,frP x] (· =momP (lft p x)):=by
 have h:=Jq p x (dD d.O6 j (by decide+kernel));rw[<-Q1 p x d j]at h;exact h
end
section
def mN(l:List Nat):List PV:=l.map fun(n:Nat)=>PV.int .i64 (n:Int)
abbrev pli(l:List Nat):PV:= .sl none l.length (mN l)
abbrev bigC(z:Int):List PV:=[.bool (decide (z<0)),pli (ai z.natAbs)]
abbrev Ma(z:Int):PV:= .agg (bigC z)
theorem Af(l:List Nat):(mN l).length=l.length:=by simp[mN]
theorem nB{l:List Nat}{k:Nat}(h:k<l.length):(mN l)[k*1]? =some (.int .i64 (lim l k:Int)):=by rw[fW h];simp[mN,h]
theorem sE{l:List Nat}{k:Nat}(h:k<l.length):mN l≠[]:=fun e=>by have:=Af l;rw[e]at this;simp at this;omega
theorem Ft(l:List Nat)(k:Nat):(mN l).take k=mN (l.take k):=by simp[mN,List.map_take]
theorem limI_snoc(l:List Nat)(n:Nat):mN l++[.int .i64 (n:Int)]=mN (l++[n]):=by simp[mN]
attribute [simp] Af
theorem iX{α:Type}(l:List α)(a:α):l.length+1=(l++[a]).length:=Vj
theorem I5(neg:Bool)(n:Nat):(neg&&decide (0<(ai n).length))=decide (sgn neg n<0):=by
 rw[<-EP];congr 1;rw[RJ];simp
theorem Lw{neg b:Bool}{l:List Nat}{n:Nat}(s:n<=l.length)(e:ai (val l)=l.take n)(r:b=(neg&&decide (0<n))):PV.agg [.bool b,.sl none n (mN (l.take n))]=Ma (sgn neg (val l)):=by
 have d:(ai (val l)).length=n:=by rw[e,Rr];omega
 have j:b=decide (sgn neg (val l)<0):=by rw[r,<-I5,d]
 have q:(sgn neg (val l)).natAbs=val l:=xx _ _;show _=PV.agg [.bool (decide (sgn neg (val l)<0)),.sl none (ai (sgn neg (val l)).natAbs).length (mN (ai (sgn neg (val l)).natAbs))];rw[q,j,d,e]
theorem Ct(neg:Bool)(l:List Nat)(u:l.length<=1000000000)(s:Lok l):FnP prog 194 [.agg [.bool neg,pli l]] (· =Ma (sgn neg (val l))):=by
 refine FnP.ofC func194 O ntmps194 Vj fun m0 w0 F R0=>?_
 refine Z2 O ?_;refine Gl O (st:=fun Vn:Nat=>mkS [(1,.ptr 0 0),(2,.ptr 1 0)] [(0,.mix 135 [.pv (.bool neg),.pv (.sl none Vn (mN (l.take Vn)))]),(1,.mix 135 [.pv (.bool false),.pv nS])] 2)
  (I:=fun Vn=>Vn<=l.length/\∀i,Vn<=i->l.getD i 0=0) (μ:=fun Vn=>Vn) (x0:=(l.length)) (Q5 (aS O) ⟨by rw[T3];rfl,O,Vm⟩ O O) (⟨BY _,fun i hi=>zo hi⟩) ?_
 rintro n ⟨hn,hz⟩;by_cases hp:0<n
 ·have j:n-1<(l.take n).length:=by simp;omega
  have t:(mN (l.take n))[(n-1)*1]? =some (.int .i64 (lim l (n-1):Int)):=by rw[nB j];simp[lim,List.getD,Ry,show n-1<n by omega]
  have q:=sE j;have r:n-1<n:=Vf;refine Z3 O<|Rs O (XJ.cast (v':= .pv (.bool true)) (aC O O O) Vk) ?_;iterate 7 refine A1 O ?_
  refine Rg O (ae (n-1) underlying22 sz3 O O Vf r q) ?_;first|refine A2 O Vi ?_|refine A1 O ?_
  refine Y2 O ?_;refine Gc O (fun hc17=>?_) (fun hc17=>?_)
  ·have d:lim l (n-1)=0:=by have:=qX hc17;omega
   refine Q3<|Gr O ?_;iterate 5 refine A1 O ?_
   exact Rs O (XJ.cast (v':= pIi ((n-1:Nat):Int)) (L3 O O Vf) (ag (fun i=>pIi i) Vf))<|Rs O ((di (n-1) underlying22 sz3 O O O Vf Vk).cast (v':= .pv (.sl none (n-1) (mN (l.take (n-1))))) (by rw[R6,Ft,List.take_take,SG Vf]))<|Y2 O<|⟨(n-1),Q5 (aS O) (aO O) O O,⟨Vf,fun i hi=>by rcases Uw i n with e|e;rw[show i=n-1 by omega];exact d;exact hz i e⟩,Vf⟩
  ·have d:lim l (n-1)≠0:=by have:=lM hc17;omega
   refine Gx O<|Z4 O ?_;refine Gc O (fun hc29=>?_) (fun hc29=>?_)
   ·refine Z2 O<|Z2 O<|Gt O ?_;exfalso;have:=qX hc29;omega
   ·refine Q3<|Z2 O<|Gt O ?_;have e:=jI s hn hz (.inr d);exact⟨_,_,O,O,⟨az ⟨_,underlying135,O⟩ FB O O O,Vm⟩,Lw hn e (by simp[hp])⟩
 ·refine Z3 O<|Rs O (XJ.cast (v':= .pv (.bool false)) (aC O O O) Vk) ?_;iterate 11 refine A1 O ?_
  refine Gc O (fun hc17=>absurd hc17 Vj) (fun hc17=>?_);refine Gx O<|Z4 O ?_;refine Gc O (fun hc29=>?_) (fun hc29=>?_)
  ·refine Z2 O<|Z2 O<|Gt O ?_;have e:=jI s hn hz (.inl Vf);exact⟨_,_,O,O,⟨az ⟨_,underlying135,O⟩ FB O O O,Vm⟩,Lw hn e (by simp[hp])⟩
  ·refine Q3<|Z2 O<|Gt O ?_;exfalso;have:=lM hc29;omega
theorem pO{neg:Bool}{n v:Nat}(l:List Nat)(d:l.length=n)(j:n<=1000000000)(q:Lok l)(r:val l=v):FnP prog 194 [.agg [.bool neg,.sl none n (mN l)]] (· =Ma (sgn neg v)):=by
 subst d r;exact Ct neg l j q
theorem Bb(a b:Nat)(D:(ai a).length<=1000000000)(E:(ai b).length<=1000000000):FnP prog 195 [pli (ai a),pli (ai b)] (· = .int .i64 (yr a b)):=by
 refine FnP.of func195 O ntmps195 Vj fun m0 w0 F R0=>?_
 refine Z1 O<|Gr O ?_;iterate 5 refine A1 O ?_
 refine Gc O (fun hc10=>?_) (fun hc10=>?_)
 ·refine Gr O ?_;iterate 5 refine A1 O ?_
  refine Gp O (fun hc15=>?_) (fun hc15=>?_)
  ·exact Z1 O<|Gt O<|⟨_,_,O,O,ag (PV.int .i64) (s5 (fN Vf)).symm⟩
  ·refine Q3<|Z1 O<|Gt O ?_;have u:=AB hc10;exact⟨_,_,O,O,ag (PV.int .i64) (r4 (fN Vf)).symm⟩
 ·have l:(ai a).length=(ai b).length:=by have:=sJ hc10;omega
  refine Q3<|Z4 O ?_;refine Gl O (st:=fun Vn:Nat=>mkS [(0,.pv (pli (ai a))),(1,.pv (pli (ai b))),(5,pIi ((Vn:Int)-1))] [] 0)
   (I:=fun Vn=>Vn<=(ai a).length/\(ai a).drop Vn=(ai b).drop Vn) (μ:=fun Vn=>Vn) (x0:=((ai a).length)) (Q5 (aS O) trivial O O) (⟨BY _,by rw[Tv (BY _),Tv Vf]⟩) ?_
  rintro i ⟨hi,hd⟩;refine Z2 O ?_;refine Gp O (fun hc20=>?_) (fun hc20=>?_)
  ·have d:i-1<(ai a).length:=Vf;have j:i-1<(ai b).length:=Vf;have z:=nB d;have r:=sE d;have A:=nB j;have s:=sE j;have q:(ai a).drop (i-1+1)=(ai b).drop (i-1+1):=by rw[show i-1+1=i by omega];exact hd
   refine Q3<|RW 9 O ?_;iterate 2 refine D1 O ?_
   refine Ds [] O (fun τ h=>ae (i-1) underlying22 sz3 (Ee h 0 O O) (Ee h 1 O O) Vf d r) O Vg ?_;first|refine D2 O O Vi ?_|refine D1 O ?_
   iterate 2 refine D1 O ?_
   refine Ds [] O (fun τ h=>ae (i-1) underlying22 sz3 (Ee h 0 O O) (Ee h 1 O O) Vf j s) O Vg ?_;first|refine D2 O O Vi ?_|refine D1 O ?_
   refine D1 O ?_;refine⟨Vg,?_⟩;refine Gp O (fun hc31=>?_) (fun hc31=>?_)
   ·refine Z1 O<|Gt O ?_;have t:=nA (cJ a) l d q (by show lim _ _<lim _ _;omega);rw[bo,bo]at t;exact⟨_,_,O,O,ag (PV.int .i64) (s5 t).symm⟩
   ·refine Q3<|RW 9 O ?_;iterate 2 refine D1 O ?_
    refine Ds [] O (fun τ h=>ae (i-1) underlying22 sz3 (Ee h 0 O O) (Ee h 1 O O) Vf d r) O Vg ?_;first|refine D2 O O Vi ?_|refine D1 O ?_
    iterate 2 refine D1 O ?_
    refine Ds [] O (fun τ h=>ae (i-1) underlying22 sz3 (Ee h 0 O O) (Ee h 1 O O) Vf j s) O Vg ?_;first|refine D2 O O Vi ?_|refine D1 O ?_
    refine D1 O ?_;refine⟨Vg,?_⟩;refine Gp O (fun hc40=>?_) (fun hc40=>?_)
    ·refine Z1 O<|Gt O ?_;have t:=nA (cJ b) l.symm j q.symm (by show lim _ _<lim _ _;omega);rw[bo,bo]at t;exact⟨_,_,O,O,ag (PV.int .i64) (r4 t).symm⟩
    ·exact Q3<|Z3 O<|⟨(i-1),Q5 ⟨O,O,ag (fun i:Int=>V.pv (PV.int .i64 i)) (show(i:Int)-1-1=((i-1:Nat):Int)-1 by omega),Vm⟩ trivial O O,⟨Vf,by rw[RF d,RF j,q,<-fW d,<-fW j];congr 1;omega⟩,Vf⟩
  ·refine Gx O<|Z1 O<|Gt O ?_;have B:i=0:=Vf;subst B;exact⟨_,_,O,O,ag (PV.int .i64) (Gf (uf (by simpa using hd))).symm⟩
theorem IA(neg:Bool)(a:Nat):(sgn neg a).tmod 1000000000=sgn neg (a%1000000000):=by
 cases neg
 ·rfl
 ·show(-(a:Int)).tmod 1000000000= -((a%1000000000:Nat):Int);rw[Int.neg_tmod];rfl
theorem yS(neg:Bool)(a:Nat):(sgn neg a).tdiv 1000000000=sgn neg (a/1000000000):=by
 cases neg
 ·rfl
 ·show(-(a:Int)).tdiv 1000000000= -((a/1000000000:Nat):Int);rw[Int.neg_tdiv];rfl
theorem y6(n:Int):sgn (decide (n<0)) n.natAbs=n:=by
 by_cases h:n<0
 ·rw[Ru h];simp[sgn];omega
 ·rw[Rv h];simp[sgn];omega
theorem KV(n:Int)(u: -9223372036854775808<=n)(z:n<=9223372036854775807):FnP prog 103 [.int .i64 n] (· =Ma n):=by
 refine FnP.ofC func103 O ntmps103 Vj fun m0 w0 F R0=>?_
 obtain⟨neg,hneg⟩:∃b,b=decide (n<0):=⟨_,O⟩;have j:sgn neg n.natAbs=n:=by rw[hneg];exact y6 n
 refine Z1 O<|Z1 O<|Rs O (XJ.cast (v':= .pv (.bool neg)) (aC O O O) (ag (fun b=>V.pv (.bool b)) hneg.symm))<|Y3 O<|Q4 (St.da 1 1 2 1 3 O O O) ?_;refine Gl O (st:=fun Vn:Nat×List Nat=>mkS [(0,pIi (sgn neg Vn.1)),(2,.ptr 0 0),(3,.ptr 1 0)] [(0,.mix 135 [.pv (.bool false),.pv nS]),(1,.mix 135 [.pv (.bool neg),.gsl 2 1 Vn.2.length]),(2,.gro 3 (mN Vn.2))] 3)
  (I:=fun Vn=>Vn.2++ai Vn.1=ai n.natAbs/\Vn.1<=n.natAbs) (μ:=fun Vn=>Vn.1) (x0:=(n.natAbs,[])) (Q5 ⟨ag (fun i=>pIi i) j.symm,O,O,Vm⟩ (aO O) O O) (⟨O,BY _⟩) ?_
 rintro⟨a,l⟩ ⟨hla,hle⟩;try simp only at hla hle ⊢
 refine Z2 O ?_;refine Gc O (fun hc9=>?_) (fun hc9=>?_)
 ·refine Q3 ?_
  repeat apply Rh
  refine AW.block ?_;have d:a≠0:=fun e=>by rw[e]at hc9;cases neg<;>simp[sgn]at hc9
  refine Z1 O<|Rs O (XJ.cast (v':= pIi (sgn neg (a%1000000000))) (oW O O Vh) (ag (fun i=>pIi i) (IA neg a)))<|A1 O<|Z2 O ?_;refine Gp O (fun hc13=>?_) (fun hc13=>?_)
  ·refine Z1 O<|Rs O (XJ.cast (v':= pIi ((a%1000000000:Nat):Int)) (Ll O (by cases neg<;>simp[sgn]<;>omega) (by cases neg<;>simp[sgn]<;>omega)) (ag (fun i=>pIi i) (by cases neg<;>simp[sgn]at hc13 ⊢ ;omega)))<|A1 O ?_;have q:l.length<=1000000:=by
    have r:=ag List.length hla;rw[IS]at r;have s:(ai n.natAbs).length<=3:=bj.2 Vf;omega
   refine Gr O ?_;iterate 7 refine A1 O ?_
   refine Z1 O<|Rs O (XJ.cast (v':= pIi (sgn neg (a/1000000000))) (uU O O Vh) (ag (fun i=>pIi i) (by rw[yS,fy];cases neg<;>simp[sgn]<;>omega))) ?_;exact A1 O<|⟨(a/1000000000,l++[a%1000000000]),Q6 [0,1,4] (aT O) ⟨O,RI (b:=some (.mix 135 [.pv (.bool neg),.gsl 4 1 (l.length+1)])) Vg (ag (fun n=>some (Ob.mix 135 [.pv (.bool neg),.gsl 4 1 n])) (iX l _)),ag (fun c=>some (Ob.gro 3 c)) (limI_snoc _ _),Vm⟩ O O Vh O,⟨by rw[<-hla,cV d];simp,Vf⟩,Vf⟩
  ·have t:sgn neg (a%1000000000)=((a%1000000000:Nat):Int):=by cases neg<;>simp[sgn]at hc13 ⊢ ;omega
   refine Q3 ?_;have q:l.length<=1000000:=by
    have r:=ag List.length hla;rw[IS]at r;have s:(ai n.natAbs).length<=3:=bj.2 Vf;omega
   refine Z2 O<|Rs O (XJ.cast (v':= pIi ((a%1000000000:Nat):Int)) lH (ag (fun i=>pIi i) t)) ?_;iterate 4 refine A1 O ?_
   refine Z1 O<|Rs O (XJ.cast (v':= pIi (sgn neg (a/1000000000))) (uU O O Vh) (ag (fun i=>pIi i) (by rw[yS,fy];cases neg<;>simp[sgn]<;>omega))) ?_;exact A1 O<|⟨(a/1000000000,l++[a%1000000000]),Q6 [0,1,4] (aT O) ⟨O,RI (b:=some (.mix 135 [.pv (.bool neg),.gsl 4 1 (l.length+1)])) Vg (ag (fun n=>some (Ob.mix 135 [.pv (.bool neg),.gsl 4 1 n])) (iX l _)),ag (fun c=>some (Ob.gro 3 c)) (limI_snoc _ _),Vm⟩ O O Vh O,⟨by rw[<-hla,cV d];simp,Vf⟩,Vf⟩
 ·refine Gx O ?_;have d:a=0:=by cases neg<;>simp[sgn]at hc9<;>omega
  rw[d,ba,Sk]at hla;exact Q4 (Q8 2 O O)<|Z2 O<|Gt O<|⟨_,_,O,O,⟨az ⟨_,underlying135,O⟩ FB O O O,Vm⟩,by rw[hla,hneg];rfl⟩
end
section
def intI(l:List Int):List PV:=l.map fun(n:Int)=>PV.int .i64 n
theorem HJ(l:List Int):(intI l).length=l.length:=by simp[intI]
theorem intI_nat(l:List Nat):mN l=intI (l.map Int.ofNat):=by simp[intI,mN]
attribute [simp] HJ
end
section
theorem tdivN{a b:Nat}(h:a<=9223372036854775807):IntKind.i64.wrap ((a:Int).tdiv (b:Int))=((a/b:Nat):Int):=by
 have e:(a:Int).tdiv (b:Int)=((a/b:Nat):Int):=rfl;have d:=Nat.div_le_self a b;rw[e];generalize a/b=c at*;rw[fy Vf]
end
section
def pS(n:Nat):Nat:=(Lib.decDigits n).length
theorem iJ{n:Nat}(h:10<=n):pS n=pS (n/10)+1:=by
 rw[pS,pS,Lib.decDigits,dif_neg Vf];simp
theorem dq{n:Nat}(h:n<10):pS n=1:=by rw[pS,Lib.decDigits,dif_pos h];rfl
theorem s9{n k:Nat}(j:0<k)(h:n<10^k):pS n<=k:=by
 induction k generalizing n with
 |zero=>omega
 | succ k ih=>
   by_cases h2:n<10
   ·rw[dq h2];omega
   ·rw[iJ Vf];have d:0<k:=by
     rcases SY k with e|e
     ·subst e;simp at h;omega
     ·exact e
    have:=ih d (n:=n/10) (by rw[Nat.div_lt_iff_lt_mul Vh];rw[Tc]at h;exact h);omega
theorem tdivP{a b:Nat}(h:a<=9223372036854775807):IntKind.i64.wrap ((a:Int).tdiv (b:Int))=((a/b:Nat):Int):=tdivN h
end
section
open Mk
def leD:Nat->Nat->List UInt8
 |0,_=>[]
 |k+1,n=>UInt8.ofNat (48+n%10)::leD k (n/10)
theorem leD_len:∀(k n:Nat),(leD k n).length=k
 |0,_=>rfl
 |k+1,n=>by simp[leD,leD_len k]
attribute [simp] leD_len
theorem wy:∀(a b n:Nat),leD (a+b) n=leD a n++leD b (n/10^a)
 |0,b,n=>by simp[leD]
 | a+1,b,n=>by
   rw[show a+1+b=(a+b)+1 by omega,leD,leD,wy a b,SN,Nat.div_div_eq_div_mul,Tc,SX 10]
theorem Dk:∀(k m n:Nat),k<=m->leD k (n%10^m)=leD k n
 |0,_,_,_=>rfl
 |k+1,0,_,h=>by omega
 | k+1,m+1,n,h=>by
   have e1:n%10^(m+1)%10=n%10:=Nat.mod_mod_of_dvd _ ⟨10^m,by rw[Tc,SX]⟩;have d:n%10^(m+1)/10=n/10%10^m:=by rw[Tc,SX];exact Nat.mod_mul_right_div_self n 10 (10^m)
   rw[leD,leD,e1,d,Dk k m _ Vf]
theorem yQ:∀k,leD k 0=List.replicate k 48
 |0=>rfl
 |k+1=>by rw[leD,Nat.zero_mod,Nat.zero_div,yQ k];rfl
theorem NX{n k:Nat}(d:pS n<=k):leD k n=(Lib.decDigits n).reverse++List.replicate (k-pS n) 48:=by
 induction n using Nat.strongRecOn generalizing k with
 | ind n ih=>
   by_cases h:n<10
   ·obtain⟨j,rfl⟩:∃j,k=j+1:=⟨k-1,by rw[dq h]at d;omega⟩;rw[dq h,leD,Ut h,Nat.div_eq_of_lt h,yQ,Lib.decDigits,dif_pos h];rfl
   ·rw[iJ Vf]at d;obtain⟨j,rfl⟩:∃j,k=j+1:=⟨k-1,Vf⟩;have l:Lib.decDigits n=Lib.decDigits (n/10)++[UInt8.ofNat (48+n%10)]:=by
     conv=>lhs;rw[Lib.decDigits]
     rw[dif_neg h]
    rw[leD,ih (n/10) Vf Vf,iJ (n:=n) Vf,l,List.reverse_append];simp
theorem KZ{n:Nat}(h:n≠0):(Lib.decDigits n).reverse.getD (pS n-1) 0≠48:=by
 induction n using Nat.strongRecOn with
 | ind n ih=>
   by_cases h2:n<10
   ·rw[dq h2,Lib.decDigits,dif_pos h2];simp only[Ux,List.reverse_singleton,List.getD_cons_zero];intro e;have:=ag UInt8.toNat e;simp at this;omega
   ·have:=ih (n/10) Vf Vf;rw[iJ Vf,Lib.decDigits,dif_neg h2,List.reverse_append];have d:0<pS (n/10):=by
     by_cases h3:n/10<10
     ·rw[dq h3];decide
     ·rw[iJ Vf];omega
    obtain⟨j,hj⟩:∃j,pS (n/10)=j+1:=⟨_,(Nat.succ_pred_eq_of_pos d).symm⟩;rw[hj]at this ⊢;simpa using this
theorem Bs(n:Nat):pS n<=9*(ai n).length+1:=by
 by_cases h:n=0
 ·subst h;rw[dq Vh];omega
 ·have d:=kL n;rw[show(1000000000:Nat)=10^9 from O,<-Nat.pow_mul]at d;by_cases h0:(ai n).length=0
  ·exact absurd (dj.1 h0) h
  ·have:=s9 Vf d;omega
theorem xN{n:Nat}(h:n≠0):pS n<=9*(ai n).length:=by
 have d:=kL n;rw[show(1000000000:Nat)=10^9 from O,<-Nat.pow_mul]at d;by_cases h0:(ai n).length=0
 ·exact absurd (dj.1 h0) h
 ·exact s9 Vf d
theorem KI(n i:Nat):leD (9*(i+1)) n=leD (9*i) n++leD 9 (lim (ai n) i):=by
 rw[show 9*(i+1)=9*i+9 by omega,wy,kI]
 congr 1
 rw[show(1000000000:Nat)=10^9 from O,<-Nat.pow_mul,Dk 9 9 _ (BY _)]
theorem KS(k d:Nat):leD (k+1) d=leD k d++[UInt8.ofNat (48+d/10^k%10)]:=by
 rw[wy k 1];rfl
structure Rev(E e:List UInt8)(i:Nat):Prop where
 len:e.length=E.length
 ile:2*i<=E.length+1
 at_:∀j,j<E.length->e.getD j 0=if j<i\/E.length-i<=j then E.getD (E.length-1-j) 0 else E.getD j 0
theorem rev_zero(E:List UInt8):Rev E E 0:=⟨O,Vf,fun j hj=>by rw[dt Vf]⟩
theorem tJ{l:List UInt8}{k i:Nat}{x:UInt8}(d:k<l.length):(l.set k x).getD i 0=if i=k then x else l.getD i 0:=by
 simp only[List.getD,TU];by_cases h:i=k
 ·subst h;simp[d]
 ·rw[dt (fun e=>h e.symm),dt h]
theorem zF{E e:List UInt8}{i:Nat}(h:Rev E e i)(q:i<E.length-1-i):Rev E ((e.set i (e.getD (E.length-1-i) 0)).set (E.length-1-i) (e.getD i 0)) (i+1):=by
 have d:=h.len;refine⟨by simp[d],Vf,fun j hj=>?_⟩;have l:e.getD i 0=E.getD i 0:=by rw[h.at_ i Vf,dt Vf]
 have a2:e.getD (E.length-1-i) 0=E.getD (E.length-1-i) 0:=by rw[h.at_ _ Vf,dt Vf]
 rw[tJ Vk,tJ Vf,l,a2];by_cases h1:j=E.length-1-i
 ·rw[AT h1,AT Vf];congr 1;omega
 ·rw[dt h1];by_cases h2:j=i
  ·rw[AT h2,AT Vf];congr 1;omega
  ·rw[dt h2,h.at_ j hj];by_cases h3:j<i\/E.length-i<=j
   ·rw[AT h3,AT Vf]
   ·rw[dt h3,dt Vf]
theorem EJ{E e:List UInt8}{i:Nat}(h:Rev E e i)(t:E.length<=2*i+1):e=E.reverse:=by
 have d:=h.len;refine SO (by simp[d]) fun j h1 h2=>?_
 have l:j<E.length:=Vf;have q:=h.at_ j l;rw[List.getElem_reverse];have r:e.getD j 0=e[j]:=by simp[List.getD,h1]
 have s:E.getD (E.length-1-j) 0=E[E.length-1-j]:=by simp[List.getD,show E.length-1-j<E.length by omega]
 rw[<-r,q,<-s];split
 ·rfl
 ·congr 1;omega
theorem xm(l:List UInt8)(d:Nat)(j:d<10):aF l++[.int .u8 ((48:Int)+(d:Int))]=aF (l++[UInt8.ofNat (48+d)]):=by
 simp only[aF,RG,bP,SD]
 congr 3
 have:(UInt8.ofNat (48+d)).toNat=48+d:=by simp;omega
 rw[this];rfl
theorem bytesP_len(l:List UInt8):(aF l).length=l.length:=by simp[aF]
attribute [simp] bytesP_len
theorem yj(l:List UInt8)(k:Nat):(aF l).take k=aF (l.take k):=by simp[aF,List.map_take]
theorem jy(l:List UInt8)(k:Nat)(x:UInt8):(aF l).set k (.int .u8 (x.toNat:Int))=aF (l.set k x):=by simp[aF,SH]
theorem gp{l:List UInt8}{k:Nat}(h:k<l.length):(aF l)[k*1]? =some (.int .u8 ((l.getD k 0).toNat:Int)):=by rw[oD h];simp[List.getD,h]
theorem ik(z:Int):Lib.itoa z=(if z<0 then [45]else [])++Lib.decDigits z.natAbs:=by
 unfold Lib.itoa;split
 ·rfl
 ·rw[show z.toNat=z.natAbs by omega];rfl
theorem oT:Lib.itoa 0=[48]:=by
 rw[ik,dt Vh,Int.natAbs_zero,Lib.decDigits,dif_pos Vh];rfl
theorem u8_48(x:UInt8):(((x.toNat:Nat):Int)==48)=true↔x=48:=by
 rw[S0];constructor
 ·intro h;exact UInt8.toNat_inj.1 (show x.toNat=(48:UInt8).toNat from Int.ofNat_inj.1 h)
 ·intro h;rw[h];rfl
theorem Bv(z:Int)(hl:(ai z.natAbs).length<=1000000):FnP prog 104 [Ma z] (· = .str ⟨(Lib.itoa z).toArray⟩):=by
 refine FnP.of func104 O ntmps104 Vj fun m0 w0 F R0=>?_
 obtain⟨n,hn⟩:∃n,n=z.natAbs:=⟨_,O⟩;refine Z2 O<|Z4 O ?_;refine Gc O (fun hc12=>?_) (fun hc12=>?_)
 ·refine Z1 O<|Gt O ?_;have h0:=dj.1 (show(ai z.natAbs).length=0 by have:=qX hc12;omega);have hz:z=0:=Vf;exact⟨_,_,O,O,by rw[hz,oT];rfl⟩
 ·have T:0<(ai z.natAbs).length:=by have:=lM hc12;omega
  have U:z.natAbs≠0:=fun e=>by rw[e,ba]at T;simp at T
  refine Q3<|Z1 O<|Q4 (Ra 3 1 1 5 O O)<|Z1 O ?_;refine Gl O (st:=fun Vn:Nat×List UInt8=>mkS [(1,.ptr 0 0),(3,.gsl 1 1 Vn.2.length),(4,pIi Vn.1)] [(0,.mix 135 [.pv (.bool (decide (z<0))),.pv (pli (ai z.natAbs))]),(1,.gro 5 (aF Vn.2))] 2)
   (I:=fun Vn=>Vn.1<=(ai z.natAbs).length/\Vn.2=leD (9*Vn.1) z.natAbs) (μ:=fun Vn=>(ai z.natAbs).length-Vn.1) (x0:=(0,[])) (Q5 (aS O) (aO O) O O) (⟨cd _,O⟩) ?_
  rintro⟨i,l⟩ ⟨hi,hll⟩;try simp only at hi hll ⊢
  refine Gr O ?_;iterate 5 refine A1 O ?_
  refine Gp O (fun hc17=>?_) (fun hc17=>?_)
  ·have Y:i<(ai z.natAbs).length:=Vf;have hv:=nB Y;have hne:=sE Y;have hbd:=k6 (cJ z.natAbs) i;have r:=KI z.natAbs i;have hlen:l.length=9*i:=by rw[hll,leD_len]
   rw[<-hll]at r;clear hll;refine Q3 ?_
   repeat apply Rh
   refine AW.block ?_;generalize lim (ai z.natAbs) i=d at*;refine Z4 O ?_;first|refine A2 O Vi ?_|refine A1 O ?_
   refine A1 O<|Z1 O ?_;refine Gl O (st:=fun x_1:Nat×List UInt8=>mkS [(1,.ptr 0 0),(3,.gsl 1 1 x_1.2.length),(4,pIi i),(5,pIi ((d/10^x_1.1:Nat):Int)),(6,pIi x_1.1)] [(0,.mix 135 [.pv (.bool (decide (z<0))),.pv (pli (ai z.natAbs))]),(1,.gro 5 (aF x_1.2))] 2)
    (I:=fun x_1=>x_1.1<=9/\x_1.2=l++leD x_1.1 d) (μ:=fun x_1=>9-x_1.1) (x0:=(0,l)) (Q5 ⟨O,O,O,ag (fun n:Nat=>pIi n) Vj,O,Vm⟩ (aO O) O O) (⟨cd _,by simp[leD]⟩) ?_
   rintro⟨k,m⟩ ⟨hk,hm⟩;try simp only at hk hm ⊢
   refine Z2 O ?_;refine Gp O (fun hc26=>?_) (fun hc26=>?_)
   ·have hmlen:m.length=9*i+k:=by rw[hm];simp;omega
    have Z:=KS k d;have hq:d/10^k<=d:=Nat.div_le_self _ _;have hq2:d/10^(k+1)=d/10^k/10:=by rw[Tc,Nat.div_div_eq_div_mul]
    have hs3:m++[UInt8.ofNat (48+d/10^k%10)]=l++leD (k+1) d:=by rw[Z,hm,TC]
    have aa:d/10^k%10<10:=Ti _ Vh;have hbs:=xm m (d/10^k%10) aa;clear hm Z;refine Q3 ?_
    repeat apply Rh
    refine AW.block ?_;generalize d/10^k=c at*;refine Z2 O<|Rs O (XJ.cast (v':= pIi ((c%10:Nat):Int)) (oW O O Vh) O)<|A1 O<|Rs O (XJ.cast (v':= .pv (.int .u8 ((48:Int)+((c%10:Nat):Int)))) (iM underlying3 underlying5 O) (ag (fun i=>V.pv (.int .u8 i)) (by show((48:Int)+((c%10:Nat):Int))%256=_;omega))) ?_;exact Y3 O<|Z1 O<|Rs O (XJ.cast (v':= pIi ((c/10:Nat):Int)) (uU O O Vh) (ag (fun i=>pIi i) (tdivP (b:=10) Vf)))<|A1 O<|Z3 O<|⟨(k+1,m++[UInt8.ofNat (48+c%10)]),Q6 [0,3] ⟨O,RI (b:= .gsl 3 1 (m.length+1)) O (ag (V.gsl 3 1) (iX m _)),O,ag (fun n:Nat=>pIi n) hq2.symm,O,Vm⟩ ⟨O,ag (fun c=>some (Ob.gro 5 c)) hbs,Vm⟩ O O Vh O,⟨Vf,hs3⟩,Vf⟩
   ·have hk9:k=9:=Vf;rw[hk9,<-r]at hm;exact Gx O<|Z3 O<|⟨(i+1,m),Q5 (aS O) (aO O) O O,⟨Vf,hm⟩,Vf⟩
  ·have hie:i=(ai z.natAbs).length:=Vf;rw[hie,NX (xN U)]at hll;have q:=KZ U;have ab:(Lib.decDigits z.natAbs).reverse.length=pS z.natAbs:=by simp[pS]
   have hDp:0<pS z.natAbs:=by unfold pS;rw[Lib.decDigits];split<;>simp
   have H:=ik z;have hdl:=Bs z.natAbs;have hD:∃D,D=(Lib.decDigits z.natAbs).reverse:=⟨_,O⟩;obtain⟨D,hD⟩:=hD;rw[<-hD]at hll q ab;have hDr:Lib.decDigits z.natAbs=D.reverse:=by rw[hD,List.reverse_reverse]
   rw[hDr]at H;clear hD hDr;rw[<-ab]at q hDp;have hlD:l.take D.length=D:=by rw[hll];simp
   have hge:D.length<=l.length:=by rw[hll];simp
   have hlge:∀j,D.length<=j->j<l.length->l.getD j 0=48:=fun j h1 h2=>by
    rw[hll]at h2 ⊢;simp at h2;simp only[List.getD,List.getElem?_append_right h1,List.getElem?_replicate];rw[AT Vf];rfl
   have hlt:l.getD (D.length-1) 0≠48:=by
    rw[hll];simp only[List.getD,Uo (show D.length-1<D.length by omega)];simpa[List.getD]using q
   have hllen:l.length<=9000001:=by
    have:=ag List.length hll;simp at this;omega
   clear hll q;refine Q4 (St.LQ 3 O O Vf (nK (k:=0) Vf))<|Gx O ?_;refine Gl O (st:=fun x_2:Nat=>mkS [(1,.ptr 0 0),(3,.osl 1 1 x_2)] [(0,.mix 135 [.pv (.bool (decide (z<0))),.pv (pli (ai z.natAbs))]),(1,.cells 5 (aF l))] 2)
    (I:=fun x_2=>D.length<=x_2/\x_2<=l.length) (μ:=fun x_2=>x_2) (x0:=(l.length)) (Q5 (aS O) (aO O) O O) (⟨hge,BY _⟩) ?_
   rintro k ⟨s,hk2⟩;have hkl:k-1<l.length:=Vf;have hvk:=gp hkl;have h48:=u8_48 (l.getD (k-1) 0);have hgek:=hlge (k-1);have heq:k=D.length->l.getD (k-1) 0≠48:=fun e=>by rw[e];exact hlt
   generalize l.getD (k-1) 0=ck at*;refine Z4 O<|Rs O (ak (k-1) underlying277 sz5 O O O Vf Vf) ?_;first|refine A2 O Vi ?_|refine A1 O ?_
   refine A1 O ?_;refine Gc O (fun hc44=>?_) (fun hc44=>?_)
   ·have G:D.length<=k-1:=by have h1:=h48.1 hc44;rcases Uw (k-1) D.length with e|e;exact absurd h1 (heq Vf);exact e
    exact Q3<|Z4 O<|Rs O (pC (k-1) underlying277 sz5 O O O Vf Vf)<|A1 O<|⟨(k-1),Q5 (aS O) (aO O) O O,⟨G,Vf⟩,Vf⟩
   ·have G:k=D.length:=by
     apply Decidable.byContradiction;intro hne;have:=h48.2 (hgek Vf hkl);rw[hc44]at this;cases this
    refine Gx O<|Q4 (St.N1 (vs:=aF D) 1 k (by rfl) (by rw[yj,G,hlD])) ?_;rw[G];refine Z2 O ?_;refine Gc O (fun hc51=>?_) (fun hc51=>?_)
    ·have u:∃E,E=D++[45]:=⟨_,O⟩;obtain⟨E,u⟩:=u;have J:Lib.itoa z=E.reverse:=by rw[H,AT (by simpa using hc51),u];simp
     have hEl:E.length=D.length+1:=by rw[u];simp
     refine Z2 O<|Rs O (qt 3 Ot O O Vj O O O O Vf O)<|A1 O ?_;rw[show aF D++[PV.int .u8 45]=aF E by rw[u];simp[aF],<-hEl];refine Gr O ?_;iterate 5 refine A1 O ?_
     refine Gl O (st:=fun x_3:Nat×List UInt8=>mkS [(3,.osl 1 1 x_3.2.length),(7,pIi x_3.1),(8,pIi ((x_3.2.length:Int)-1-x_3.1))] [(1,.cells 5 (aF x_3.2))] 2)
      (I:=fun x_3=>Rev E x_3.2 x_3.1) (μ:=fun x_3=>x_3.2.length-x_3.1) (x0:=(0,E)) (Q6 [0,3] ⟨O,O,ag (fun i=>pIi i) Vj,Vm⟩ (aP O) O O Vh O) (rev_zero E) ?_
     rintro⟨i,e⟩ hR;try simp only at hR ⊢
     refine Z3 O ?_;refine Gp O (fun hc60=>?_) (fun hc60=>?_)
     ·have A:=hR.len;have t:i<e.length:=Vf;have s:e.length-1-i<e.length:=Vf;have hvi:=gp t;have hvk:=gp s;have r:=zF hR Vf;rw[<-A]at r;have B:((aF e).set (i*1) (.int .u8 ((e.getD (e.length-1-i) 0).toNat:Int))).set ((e.length-1-i)*1) (.int .u8 ((e.getD i 0).toNat:Int))=aF ((e.set i (e.getD (e.length-1-i) 0)).set (e.length-1-i) (e.getD i 0)):=by rw[R6,R6,jy,jy]
      have L:((e.set i (e.getD (e.length-1-i) 0)).set (e.length-1-i) (e.getD i 0)).length=e.length:=Vj;clear hR;refine Q3 ?_
      repeat apply Rh
      refine AW.block ?_;generalize (e.set i (e.getD (e.length-1-i) 0)).set (e.length-1-i) (e.getD i 0)=e2 at*;generalize e.getD (e.length-1-i) 0=ck at*;generalize e.getD i 0=ci at*;refine RW 16 O ?_;iterate 6 refine D1 O ?_
      refine Ds [_] O (fun τ h=>ak (e.length-1-i) underlying277 sz5 (Ee h 0 O O) (Eo h 0 O O) (Ee h 1 O O) Vf s) O Vg ?_;first|refine D2 O O Vi ?_|refine D1 O ?_
      iterate 2 refine D1 O ?_
      refine Ds [_] O (fun τ h=>ak i underlying277 sz5 (Ee h 0 O O) (Eo h 0 O O) (Ee h 1 O O) O t) O Vg ?_;first|refine D2 O O Vi ?_|refine D1 O ?_
      refine Ds [_] O (fun τ h=>ak i underlying277 sz5 (Ee h 0 O O) (Eo h 0 O O) (Ee h 1 O O) O t) O Vg<|D1 O<|Ds [_] O (fun τ h=>ak (e.length-1-i) underlying277 sz5 (Ee h 0 O O) (Eo h 0 O O) (Ee h 1 O O) Vf s) O Vg<|D1 O ?_;refine⟨Vg,?_⟩;refine Gr O ?_;iterate 6 refine A1 O ?_
      exact⟨(i+1,e2),Q5 ⟨ag (V.osl 1 1) L.symm,O,ag (fun i:Int=>V.pv (PV.int .i64 i)) (show(e.length:Int)-1-i-1=(e2.length:Int)-1-((i+1:Nat):Int) by omega),Vm⟩ ⟨ag (fun c=>some (Ob.cells 5 c)) B,Vm⟩ O O,r,by show e2.length-(i+1)<e.length-i;omega⟩
     ·have A:=hR.len;have M:=EJ hR Vf;refine Gx O<|Z1 O<|Rs O (Fz e underlying277 underlying5 underlying9 (.inr ⟨_,_,_,_,O,O,(by rw[R6];exact(aQ Vj).symm)⟩)) ?_;exact A1 O<|Gt O<|⟨_,_,O,O,by rw[J,<-M];rfl⟩
    ·have u:∃E,E=D:=⟨_,O⟩;obtain⟨E,u⟩:=u;have J:Lib.itoa z=E.reverse:=by rw[H,dt (by simpa using hc51),u];simp
     have hEl:E.length<=D.length+1:=by rw[u];omega
     rw[<-u];refine Q3<|Gr O ?_;iterate 5 refine A1 O ?_
     refine Gl O (st:=fun x_3:Nat×List UInt8=>mkS [(3,.osl 1 1 x_3.2.length),(7,pIi x_3.1),(8,pIi ((x_3.2.length:Int)-1-x_3.1))] [(1,.cells 5 (aF x_3.2))] 2)
      (I:=fun x_3=>Rev E x_3.2 x_3.1) (μ:=fun x_3=>x_3.2.length-x_3.1) (x0:=(0,E)) (Q5 ⟨O,O,ag (fun i=>pIi i) Vj,Vm⟩ (aO O) O O) (rev_zero E) ?_
     rintro⟨i,e⟩ hR;try simp only at hR ⊢
     refine Z3 O ?_;refine Gp O (fun hc60=>?_) (fun hc60=>?_)
     ·have A:=hR.len;have t:i<e.length:=Vf;have s:e.length-1-i<e.length:=Vf;have hvi:=gp t;have hvk:=gp s;have r:=zF hR Vf;rw[<-A]at r;have B:((aF e).set (i*1) (.int .u8 ((e.getD (e.length-1-i) 0).toNat:Int))).set ((e.length-1-i)*1) (.int .u8 ((e.getD i 0).toNat:Int))=aF ((e.set i (e.getD (e.length-1-i) 0)).set (e.length-1-i) (e.getD i 0)):=by rw[R6,R6,jy,jy]
      have L:((e.set i (e.getD (e.length-1-i) 0)).set (e.length-1-i) (e.getD i 0)).length=e.length:=Vj;clear hR;refine Q3 ?_
      repeat apply Rh
      refine AW.block ?_;generalize (e.set i (e.getD (e.length-1-i) 0)).set (e.length-1-i) (e.getD i 0)=e2 at*;generalize e.getD (e.length-1-i) 0=ck at*;generalize e.getD i 0=ci at*;refine RW 16 O ?_;iterate 6 refine D1 O ?_
      refine Ds [_] O (fun τ h=>ak (e.length-1-i) underlying277 sz5 (Ee h 0 O O) (Eo h 0 O O) (Ee h 1 O O) Vf s) O Vg ?_;first|refine D2 O O Vi ?_|refine D1 O ?_
      iterate 2 refine D1 O ?_
      refine Ds [_] O (fun τ h=>ak i underlying277 sz5 (Ee h 0 O O) (Eo h 0 O O) (Ee h 1 O O) O t) O Vg ?_;first|refine D2 O O Vi ?_|refine D1 O ?_
      refine Ds [_] O (fun τ h=>ak i underlying277 sz5 (Ee h 0 O O) (Eo h 0 O O) (Ee h 1 O O) O t) O Vg<|D1 O<|Ds [_] O (fun τ h=>ak (e.length-1-i) underlying277 sz5 (Ee h 0 O O) (Eo h 0 O O) (Ee h 1 O O) Vf s) O Vg<|D1 O ?_;refine⟨Vg,?_⟩;refine Gr O ?_;iterate 6 refine A1 O ?_
      exact⟨(i+1,e2),Q5 ⟨ag (V.osl 1 1) L.symm,O,ag (fun i:Int=>V.pv (PV.int .i64 i)) (show(e.length:Int)-1-i-1=(e2.length:Int)-1-((i+1:Nat):Int) by omega),Vm⟩ ⟨ag (fun c=>some (Ob.cells 5 c)) B,Vm⟩ O O,r,by show e2.length-(i+1)<e.length-i;omega⟩
     ·have A:=hR.len;have M:=EJ hR Vf;refine Gx O<|Z1 O<|Rs O (Fz e underlying277 underlying5 underlying9 (.inr ⟨_,_,_,_,O,O,(by rw[R6];exact(aQ Vj).symm)⟩)) ?_;exact A1 O<|Gt O<|⟨_,_,O,O,by rw[J,<-M];rfl⟩
def Le(n:Nat):Bool:=decide (400<pS n)
end
section
open Mk
theorem pL(s:ByteArray):j5 s=(decide (0<s.size)&&(((s.data.toList.getD 0 0).toNat:Int)==45)):=by
 rw[j5,Lib.hasPrefix,Lib.size_eq];cases s.data.toList with
 |nil=>rfl
 | cons a l=>
   have h:((a.toNat:Int)==45)=(a==45):=by
    rw[RJ,S0,S0];constructor
    ·intro h;exact UInt8.toNat_inj.1 (show a.toNat=(45:UInt8).toNat from Int.ofNat_inj.1 h)
    ·intro h;rw[h];rfl
   simp only[List.getD_cons_zero,Rk,h];rw[Ru Vf,UM];show((45:UInt8)==a&&List.isPrefixOf [] l)=_;simp[Bool.beq_comm]
theorem Ap{s:ByteArray}(h:j5 s=true):s.extract 1 s.size=⟨(ay s).toArray⟩/\0<s.size:=by
 have d:=h;rw[pL,sh,Rt]at d;refine⟨?_,d.1⟩;have e:ay s=s.data.toList.drop 1:=by rw[ay,Lib.trimPrefix];rw[j5]at h;rw[AT h];rfl
 have j:(s.extract 1 s.size).data.toList=s.data.toList.drop 1:=Lib.extract_to_end s 1;rw[e,<-j]
theorem yA{s:ByteArray}(h:j5 s=false):s=⟨(ay s).toArray⟩:=by
 have e:ay s=s.data.toList:=by rw[ay,Lib.trimPrefix];rw[j5]at h;rw[dt (by rw[h];decide)]
 rw[e]
def lX(x:ByteArray):Bool:=(((((x.size:Nat):Int)==0)||decide ((x.size:Int)>400))||((((x.data.toList.getD 0 0).toNat:Nat):Int)==48))
theorem rf(x:ByteArray):lX x=mG x:=by
 rw[lX,mG,k7,Lib.size_eq]
 congr 2
 cases x.data.toList with
 |nil=>rfl
 |cons a l=>simp;omega
theorem Pw{x:ByteArray}(h:((((x.size:Nat):Int)==0)||decide ((x.size:Int)>400))=false):0<x.size:=by
 rw[R7]at h;have:=h.1;simp at this;have d:x.size≠0:=fun e=>by rw[e]at h;simp at h
 omega
theorem Hc(D:List UInt8)(k:Nat)(h:k<(⟨D.toArray⟩:ByteArray).size):(((⟨D.toArray⟩:ByteArray)[k]'h).toNat:Int)=((D.getD k 0).toNat:Int):=by rw[<-gE _ k h]
theorem xh(s:ByteArray):FnP prog 100 [.str s] (· = .bool (bh s)):=by
 refine FnP.of func100 O ntmps100 Vj fun m0 w0 F R0=>?_
 obtain⟨v,hv⟩:∃v,v=bh s:=⟨_,O⟩;rw[<-hv];refine Z1 O<|Z2 O ?_;refine Gc O (fun hc6=>?_) (fun hc6=>?_)
 ·exact Z1 O<|Gt O<|⟨_,_,O,O,ag PV.bool (hv.trans (nQ hc6)).symm⟩
 ·have L:v=qe (ay s):=hv.trans (j9 hc6);clear hv;clear hc6;have E:=pL s;obtain⟨t,ht⟩:∃t:ByteArray,t=⟨(ay s).toArray⟩:=⟨_,O⟩;have G:t.data.toList=ay s:=by rw[ht]
  refine Q3<|Z2 O<|Z4 O ?_;apply Rf 4 11 15 [12,13,14] O Vp
  ·intro hb3;have H:0<s.size:=by simpa using hb3
   exact A1 O<|Rg O (bB 0 underlying9 O O O H)<|Rg O ((aC O O O).cast (v':= .pv (.bool ((((s.data.toList.getD 0 0).toNat:Nat):Int)==45))) (by rw[gE _ 0 H]))<|A1 O<|Q7 Vo O O O
  ·intro hb3;iterate 4 refine A1 O ?_
   exact Q7 Vo O O O
  refine Gc O (fun hc15=>?_) (fun hc15=>?_)
  ·have r:j5 s=true:=by rw[E];simpa using hc15
   obtain⟨hD,H⟩:=Ap r;refine Z1 O<|Rs O (XJ.cast (v':= .pv (.str t)) (fu (kl:= .i64) (kh:= .i64) (il:=1) (ih:=0) (some _) none 1 s.size underlying9 O (by rintro _ ⟨⟩;exact⟨O,O⟩) Vj Vj (fun _=>rfl) Vf (BY _)) (ag (fun x=>V.pv (.str x)) (hD.trans ht.symm))) ?_;refine A1 O ?_;have u:=@sR (ay s);have z:=@sM (ay s);rw[<-ht,<-rf]at u z;clear r hc15 E;have M:t.size=(ay s).length:=by rw[Lib.size_eq,G]
   generalize ay s=D at*;refine Z4 O ?_;apply Re 4 21 25 [22,23,24] O Vp
   ·intro hb3;iterate 4 refine A1 O ?_
    exact Q7 Vo O O O
   ·intro hb3;iterate 4 refine A1 O ?_
    exact Q7 Vo O O O
   refine A1 O ?_;apply Re 4 26 30 [27,28,29] O Vp
   ·intro hb8;iterate 4 refine A1 O ?_
    exact Q7 Vo O O O
   ·intro hb8;have H:=Pw hb8;exact A1 O<|Rg O (bB 0 underlying9 O O O H)<|Rg O ((aC O O O).cast (v':= .pv (.bool ((((t.data.toList.getD 0 0).toNat:Nat):Int)==48))) (by rw[gE _ 0 H]))<|A1 O<|Q7 Vo O O O
   refine Gc O (fun hc30=>?_) (fun hc30=>?_)
   ·exact Z1 O<|Gt O<|⟨_,_,O,O,ag PV.bool (L.trans (u (show lX t=true from hc30))).symm⟩
   ·obtain⟨hg2,hD0,hD4⟩:=z (show lX t=false from hc30);refine Q3<|Z1 O ?_;refine Gl O (st:=fun Vn:Nat=>mkS [(3,.pv (.str t)),(4,pIi Vn)] [] 0)
     (I:=fun Vn=>Vn<=D.length/\∀j,j<Vn->kr (D.getD j 0)=true) (μ:=fun Vn=>D.length-Vn) (x0:=(0)) (Q5 (aS O) trivial O O) (⟨cd _,fun j hj=>absurd hj (Tu _)⟩) ?_
    rintro k ⟨hk,hall⟩;refine Z4 O ?_;refine Gp O (fun hc34=>?_) (fun hc34=>?_)
    ·have q:k<D.length:=Vf;have l:k<t.size:=Vf;have J:=gE t k l;have A:=Ea q;have B:=wR q;have d:t[k]'l=D[k]:=by rw[<-J,G];simp[List.getD,q]
     refine Q3 ?_
     repeat apply Rh
     refine AW.block ?_;generalize D[k]=c at A B d ⊢;refine Z2 O<|Rs O (XJ.cast (v':= .pv (.int .u8 c.toNat)) (bB k underlying9 O O O l) (by rw[d]))<|Y2 O ?_;apply Re 5 41 46 [42,43,44,45] O Vp
     ·intro hb4;iterate 5 refine A1 O ?_
      exact Q7 Vo O O O
     ·intro hb4;exact Y2 O<|Rg O (XJ.cast (v':= .pv (.int .u8 c.toNat)) (bB k underlying9 O O O l) (by rw[d]))<|Y2 O<|Q7 Vo O O O
     refine Gc O (fun hc46=>?_) (fun hc46=>?_)
     ·have hc:=A hc46;exact Z1 O<|Gt O<|⟨_,_,O,O,ag PV.bool (by rw[L,hg2,hc])⟩
     ·have hc:=B hc46;exact Q3<|Z3 O<|⟨(k+1),Q5 (aS O) trivial O O,⟨Vf,fun j hj=>by rcases SP.1 hj with h|rfl;exact hall j h;exact hc⟩,Vf⟩
    ·exact Gx O<|Z1 O<|Gt O<|⟨_,_,O,O,ag PV.bool (by rw[L,hg2,wU fun j hj=>hall j Vf])⟩
  ·have r:j5 s=false:=by rw[E];simpa using hc15
   have T:s=t:=(yA r).trans ht.symm;rw[T];refine Q3 ?_;have u:=@sR (ay s);have z:=@sM (ay s);rw[<-ht,<-rf]at u z;clear r hc15 E;have M:t.size=(ay s).length:=by rw[Lib.size_eq,G]
   generalize ay s=D at*;refine Z4 O ?_;apply Re 4 21 25 [22,23,24] O Vp
   ·intro hb3;iterate 4 refine A1 O ?_
    exact Q7 Vo O O O
   ·intro hb3;iterate 4 refine A1 O ?_
    exact Q7 Vo O O O
   refine A1 O ?_;apply Re 4 26 30 [27,28,29] O Vp
   ·intro hb8;iterate 4 refine A1 O ?_
    exact Q7 Vo O O O
   ·intro hb8;have H:=Pw hb8;exact A1 O<|Rg O (bB 0 underlying9 O O O H)<|Rg O ((aC O O O).cast (v':= .pv (.bool ((((t.data.toList.getD 0 0).toNat:Nat):Int)==48))) (by rw[gE _ 0 H]))<|A1 O<|Q7 Vo O O O
   refine Gc O (fun hc30=>?_) (fun hc30=>?_)
   ·exact Z1 O<|Gt O<|⟨_,_,O,O,ag PV.bool (L.trans (u (show lX t=true from hc30))).symm⟩
   ·obtain⟨hg2,hD0,hD4⟩:=z (show lX t=false from hc30);refine Q3<|Z1 O ?_;refine Gl O (st:=fun Vn:Nat=>mkS [(3,.pv (.str t)),(4,pIi Vn)] [] 0)
     (I:=fun Vn=>Vn<=D.length/\∀j,j<Vn->kr (D.getD j 0)=true) (μ:=fun Vn=>D.length-Vn) (x0:=(0)) (Q5 (aS O) trivial O O) (⟨cd _,fun j hj=>absurd hj (Tu _)⟩) ?_
    rintro k ⟨hk,hall⟩;refine Z4 O ?_;refine Gp O (fun hc34=>?_) (fun hc34=>?_)
    ·have q:k<D.length:=Vf;have l:k<t.size:=Vf;have J:=gE t k l;have A:=Ea q;have B:=wR q;have d:t[k]'l=D[k]:=by rw[<-J,G];simp[List.getD,q]
     refine Q3 ?_
     repeat apply Rh
     refine AW.block ?_;generalize D[k]=c at A B d ⊢;refine Z2 O<|Rs O (XJ.cast (v':= .pv (.int .u8 c.toNat)) (bB k underlying9 O O O l) (by rw[d]))<|Y2 O ?_;apply Re 5 41 46 [42,43,44,45] O Vp
     ·intro hb4;iterate 5 refine A1 O ?_
      exact Q7 Vo O O O
     ·intro hb4;exact Y2 O<|Rg O (XJ.cast (v':= .pv (.int .u8 c.toNat)) (bB k underlying9 O O O l) (by rw[d]))<|Y2 O<|Q7 Vo O O O
     refine Gc O (fun hc46=>?_) (fun hc46=>?_)
     ·have hc:=A hc46;exact Z1 O<|Gt O<|⟨_,_,O,O,ag PV.bool (by rw[L,hg2,hc])⟩
     ·have hc:=B hc46;exact Q3<|Z3 O<|⟨(k+1),Q5 (aS O) trivial O O,⟨Vf,fun j hj=>by rcases SP.1 hj with h|rfl;exact hall j h;exact hc⟩,Vf⟩
    ·exact Gx O<|Z1 O<|Gt O<|⟨_,_,O,O,ag PV.bool (by rw[L,hg2,wU fun j hj=>hall j Vf])⟩
theorem BF(n:Int)(d: -9223372036854775808<=n)(j:n<=9223372036854775807):FnP prog 39 [.int .i64 n] (· = .str ⟨(Lib.itoa n).toArray⟩):=by
 refine FnP.of func39 O ntmps39 Vj fun m0 w0 F R0=>?_
 have l:(ai n.natAbs).length<=3:=bj.2 Vf;exact Z1 O<|Z1 O<|Rs O (aa call103 (KV n d j) O)<|Rs O (aa call104 (Bv n Vf) O)<|A1 O<|Gt O<|⟨_,_,O,O,O⟩
end
section
open Mk
theorem tZ(l:List UInt8)(c:UInt8):eI (l++[c])=eI l*10+(c.toNat-48):=by simp[eI]
theorem tN{D:List UInt8}{lo j:Nat}(d:j<D.length)(l:lo<=j):eI ((D.drop lo).take (j+1-lo))=eI ((D.drop lo).take (j-lo))*10+((D.getD j 0).toNat-48):=by
 have e:(D.drop lo).take (j+1-lo)=(D.drop lo).take (j-lo)++[D.getD j 0]:=by
  rw[show j+1-lo=(j-lo)+1 by omega,AI Vk]
  congr 2
  simp[List.getD,d,show lo+(j-lo)=j by omega]
 rw[e,tZ]
theorem yG{D:List UInt8}{z k:Nat}(h:k<=z):(⟨(D.take z).toArray⟩:ByteArray).extract 0 k=⟨(D.take k).toArray⟩:=by
 rw[ByteArray.extract_mk]
 congr 1
 apply Array.ext';simp[List.extract_eq_take_drop,List.take_take,SG h]
theorem GS{D:List UInt8}(d:∀c∈D,kr c=true){lo j:Nat}(h:j-lo<=9):eI ((D.drop lo).take (j-lo))<1000000000:=by
 have q:=wY (l:=(D.drop lo).take (j-lo)) (fun c hc=>d c (TX (Uy hc)));have r:10^((D.drop lo).take (j-lo)).length<=10^9:=S6 Vh Vk;omega
theorem BV(s:ByteArray)(Z:∀c∈ay s,kr c=true)(hl:(ay s).length<=1000000):FnP prog 101 [.str s] (· =Ma (rdZ s)):=by
 refine FnP.ofC func101 O ntmps101 Vj fun m0 w0 F R0=>?_
 obtain⟨v,hv⟩:∃v,v=rdZ s:=⟨_,O⟩;rw[<-hv];obtain⟨ng,hng⟩:∃v,v=j5 s:=⟨_,O⟩;have L:=pL s;rw[rdZ]at hv;rw[<-hng]at hv L;obtain⟨t,ht⟩:∃t:ByteArray,t=⟨(ay s).toArray⟩:=⟨_,O⟩;have htd:t.data.toList=ay s:=by rw[ht]
 have ab:(s.toList !=(⟨#[]⟩:ByteArray).toList)=decide (0<s.size):=by
  rw[bne,k7,Lib.size_eq];cases s.data.toList<;>simp
 refine Z1 O<|Z2 O<|Z3 O<|Q4 (St.da 1 1 2 1 3 O O O)<|Z1 O<|Rs O (XJ.cast (v':= .pv (.bool (decide (0<s.size)))) (dv O O O) (ag (fun b=>V.pv (.bool b)) ab))<|A1 O ?_;apply Rf 4 12 16 [13,14,15] O Vp
 ·intro J;have hp:0<s.size:=by simpa using J
  exact A1 O<|Rg O (bB 0 underlying9 O O O hp)<|Rg O ((aC O O O).cast (v':= .pv (.bool ((((s.data.toList.getD 0 0).toNat:Nat):Int)==45))) (by rw[gE _ 0 hp]))<|A1 O<|Q7 Vo O O O
 ·intro J;iterate 4 refine A1 O ?_
  exact Q7 Vo O O O
 refine Gc O (fun hc16=>?_) (fun hc16=>?_)
 ·have r:ng=true:=by rw[L];exact hc16
  obtain⟨hD,hp⟩:=Ap (hng.symm.trans r);refine RW 5 O<|D1 O<|Ds [] O (fun τ h=>XJ.cast (v':= .pv (.str t)) (fu (kl:= .i64) (kh:= .i64) (il:=1) (ih:=0) (some _) none 1 s.size underlying9 (Ee h 0 O O) (by rintro _ ⟨⟩;exact⟨O,O⟩) Vj Vj (fun _=>rfl) Vf (BY _)) (ag (fun x=>V.pv (.str x)) (hD.trans ht.symm))) O Vg ?_;iterate 3 refine D1 O ?_
  refine⟨Vg,?_⟩;refine Gl O (st:=fun Vn:Nat×List Nat=>mkS [(2,.ptr 0 0),(3,.pv (.str ⟨((ay s).take Vn.1).toArray⟩)),(4,.ptr 1 0)] [(0,.mix 135 [.pv (.bool false),.pv nS]),(1,.mix 135 [.pv (.bool ng),.gsl 2 1 Vn.2.length]),(2,.gro 3 (mN Vn.2))] 3)
   (I:=fun Vn=>Vn.1<=(ay s).length/\Lok Vn.2/\Vn.2.length+Vn.1<=(ay s).length/\eI (ay s)=eI ((ay s).take Vn.1)*1000000000^Vn.2.length+val Vn.2) (μ:=fun Vn=>Vn.1) (x0:=((ay s).length,[])) (Q5 ⟨O,ag (fun x=>V.pv (.str x)) (by rw[ht,T3]),O,Vm⟩ ⟨O,by rw[r];rfl,O,Vm⟩ O O) (⟨BY _,fun _ h=>absurd h Vj,Vj,by simp[val]⟩) ?_
  rintro⟨z,l⟩ ⟨hz,hok,hll,hvl⟩;try simp only at hz hok hll hvl ⊢
  refine Z3 O ?_;refine Gp O (fun hc22=>?_) (fun hc22=>?_)
  ·refine Q3 ?_
   repeat apply Rh
   refine AW.block ?_;have A:0<z:=by
    have M:(⟨((ay s).take z).toArray⟩:ByteArray).size=z:=by simp[ByteArray.size];omega
    rw[M]at hc22;omega
   have d:(⟨((ay s).take z).toArray⟩:ByteArray).size=z:=by simp[ByteArray.size];omega
   have B:=read_step hz O hvl;rw[show eI (List.take (z-(z-9)) (List.drop (z-9) (ay s)))=kU (ay s) z from O]at B;have T:=oM Z z;refine Z3 O<|Rs O (XJ.cast (v':= pIi ((z-9:Nat):Int)) (AK O O) (ag (fun i=>pIi i) (by rw[d];split<;>omega)))<|A1 O<|Z1 O<|Z2 O ?_;refine Gl O (st:=fun x_1:Nat=>mkS [(2,.ptr 0 0),(3,.pv (.str ⟨((ay s).take z).toArray⟩)),(4,.ptr 1 0),(5,pIi ((z-9:Nat):Int)),(6,.pv (.int .i64 ((eI (((ay s).drop (z-9)).take (x_1-(z-9))):Nat):Int))),(7,pIi (x_1:Int))] [(0,.mix 135 [.pv (.bool false),.pv nS]),(1,.mix 135 [.pv (.bool ng),.gsl 2 1 l.length]),(2,.gro 3 (mN l))] 3)
    (I:=fun x_1=>z-9<=x_1/\x_1<=z) (μ:=fun x_1=>z-x_1) (x0:=(z-9)) (Q5 ⟨O,O,O,O,ag (fun n:Nat=>pIi n) (by simp[eI]),O,Vm⟩ (aO O) O O) (⟨BY _,Vf⟩) ?_
   rintro j ⟨hj1,hj2⟩;refine Z4 O ?_;refine Gp O (fun hc31=>?_) (fun hc31=>?_)
   ·refine Q3 ?_
    repeat apply Rh
    refine AW.block ?_;have q:j<z:=by rw[d]at hc31;omega
    have D:j<(ay s).length:=Vf;have E:j<(⟨((ay s).take z).toArray⟩:ByteArray).size:=Vf;have G:=Hc ((ay s).take z) j E;rw[show((ay s).take z).getD j 0=(ay s).getD j 0 by simp[List.getD,Ry,q]]at G;have U:=Z ((ay s).getD j 0) (by simp[List.getD,D]);have Y:=tN D hj1;have J:=GS Z (lo:=z-9) (j:=j) Vf;simp only[kr,sh,Rt]at U;generalize (ay s).getD j 0=c at*;generalize eI (((ay s).drop (z-9)).take (j-(z-9)))=u at*;refine Z4 O<|Rs O (XJ.cast (v':= .pv (.int .u8 (c.toNat:Int))) (bB j underlying9 O O O E) (ag (fun i=>V.pv (.int .u8 i)) G))<|Rs O (XJ.cast (v':= .pv (.int .u8 ((c.toNat-48:Nat):Int))) (aC O O O) (ag (fun i=>V.pv (.int .u8 i)) (by show((c.toNat:Int)-48)%256=_;omega))) ?_;exact Rs O (XJ.cast (v':= pIi ((c.toNat-48:Nat):Int)) (iM underlying5 underlying3 O) (ag (fun i=>pIi i) (fy Vf)))<|Y2 O<|Z3 O<|⟨(j+1),Q5 ⟨O,O,O,O,ag (fun i:Int=>pIi i) (by rw[Y];omega),O,Vm⟩ (aO O) O O,⟨Vf,Vf⟩,Vf⟩
   ·refine Gx O ?_;have q:j=z:=by rw[d]at hc31;omega
    rw[q,show eI (List.take (z-(z-9)) (List.drop (z-9) (ay s)))=kU (ay s) z from O];generalize kU (ay s) z=u at*;refine Gr O ?_;iterate 7 refine A1 O ?_
    refine Z2 O<|Rs O (XJ.cast (v':= .pv (.str ⟨((ay s).take (z-9)).toArray⟩)) (fu (kl:= .i64) (kh:= .i64) (il:=0) (ih:=((z-9:Nat):Int)) none (some _) 0 (z-9) underlying9 O Vj (fun _=>rfl) (by rintro _ ⟨⟩;exact⟨O,O⟩) Vj (cd _) (by rw[d];omega)) (ag (fun x=>V.pv (.str x)) (yG Vf))) ?_;exact A1 O<|⟨(z-9,l++[u]),Q6 [0,1,4] (aT O) ⟨O,RI (b:=some (.mix 135 [.pv (.bool ng),.gsl 4 1 (l.length+1)])) Vg (ag (fun n=>some (Ob.mix 135 [.pv (.bool ng),.gsl 4 1 n])) (iX l _)),ag (fun c=>some (Ob.gro 3 c)) (limI_snoc _ _),Vm⟩ O O Vh O,⟨Vf,hok.append (Lok.one T),by rw[IS,RD];omega,by rw[IS,RD,dF,val_one];exact B⟩,Vf⟩
  ·refine Gx O ?_;have A:z=0:=by
    have M:(⟨((ay s).take z).toArray⟩:ByteArray).size=z:=by simp[ByteArray.size];omega
    rw[M]at hc22;omega
   rw[A,UO,show eI []=0 from O,U8,RV]at hvl;have H:=pO (neg:=ng) l O Vf hok hvl.symm;rw[<-hv]at H;exact Q4 (Q8 2 O O)<|Z1 O<|Rs O (aa call194 H O)<|A1 O<|Gt O<|⟨_,_,O,O,⟨az ⟨_,underlying135,O⟩ FB O O O,Vm⟩,O⟩
 ·have r:ng=false:=by rw[L];exact hc16
  have hts:s=t:=(yA (hng.symm.trans r)).trans ht.symm;rw[hts];refine Q3 ?_;refine Gl O (st:=fun Vn:Nat×List Nat=>mkS [(2,.ptr 0 0),(3,.pv (.str ⟨((ay s).take Vn.1).toArray⟩)),(4,.ptr 1 0)] [(0,.mix 135 [.pv (.bool false),.pv nS]),(1,.mix 135 [.pv (.bool ng),.gsl 2 1 Vn.2.length]),(2,.gro 3 (mN Vn.2))] 3)
   (I:=fun Vn=>Vn.1<=(ay s).length/\Lok Vn.2/\Vn.2.length+Vn.1<=(ay s).length/\eI (ay s)=eI ((ay s).take Vn.1)*1000000000^Vn.2.length+val Vn.2) (μ:=fun Vn=>Vn.1) (x0:=((ay s).length,[])) (Q5 ⟨O,ag (fun x=>V.pv (.str x)) (by rw[ht,T3]),O,Vm⟩ ⟨O,by rw[r];rfl,O,Vm⟩ O O) (⟨BY _,fun _ h=>absurd h Vj,Vj,by simp[val]⟩) ?_
  rintro⟨z,l⟩ ⟨hz,hok,hll,hvl⟩;try simp only at hz hok hll hvl ⊢
  refine Z3 O ?_;refine Gp O (fun hc22=>?_) (fun hc22=>?_)
  ·refine Q3 ?_
   repeat apply Rh
   refine AW.block ?_;have A:0<z:=by
    have M:(⟨((ay s).take z).toArray⟩:ByteArray).size=z:=by simp[ByteArray.size];omega
    rw[M]at hc22;omega
   have d:(⟨((ay s).take z).toArray⟩:ByteArray).size=z:=by simp[ByteArray.size];omega
   have B:=read_step hz O hvl;rw[show eI (List.take (z-(z-9)) (List.drop (z-9) (ay s)))=kU (ay s) z from O]at B;have T:=oM Z z;refine Z3 O<|Rs O (XJ.cast (v':= pIi ((z-9:Nat):Int)) (AK O O) (ag (fun i=>pIi i) (by rw[d];split<;>omega)))<|A1 O<|Z1 O<|Z2 O ?_;refine Gl O (st:=fun x_1:Nat=>mkS [(2,.ptr 0 0),(3,.pv (.str ⟨((ay s).take z).toArray⟩)),(4,.ptr 1 0),(5,pIi ((z-9:Nat):Int)),(6,.pv (.int .i64 ((eI (((ay s).drop (z-9)).take (x_1-(z-9))):Nat):Int))),(7,pIi (x_1:Int))] [(0,.mix 135 [.pv (.bool false),.pv nS]),(1,.mix 135 [.pv (.bool ng),.gsl 2 1 l.length]),(2,.gro 3 (mN l))] 3)
    (I:=fun x_1=>z-9<=x_1/\x_1<=z) (μ:=fun x_1=>z-x_1) (x0:=(z-9)) (Q5 ⟨O,O,O,O,ag (fun n:Nat=>pIi n) (by simp[eI]),O,Vm⟩ (aO O) O O) (⟨BY _,Vf⟩) ?_
   rintro j ⟨hj1,hj2⟩;refine Z4 O ?_;refine Gp O (fun hc31=>?_) (fun hc31=>?_)
   ·refine Q3 ?_
    repeat apply Rh
    refine AW.block ?_;have q:j<z:=by rw[d]at hc31;omega
    have D:j<(ay s).length:=Vf;have E:j<(⟨((ay s).take z).toArray⟩:ByteArray).size:=Vf;have G:=Hc ((ay s).take z) j E;rw[show((ay s).take z).getD j 0=(ay s).getD j 0 by simp[List.getD,Ry,q]]at G;have U:=Z ((ay s).getD j 0) (by simp[List.getD,D]);have Y:=tN D hj1;have J:=GS Z (lo:=z-9) (j:=j) Vf;simp only[kr,sh,Rt]at U;generalize (ay s).getD j 0=c at*;generalize eI (((ay s).drop (z-9)).take (j-(z-9)))=u at*;refine Z4 O<|Rs O (XJ.cast (v':= .pv (.int .u8 (c.toNat:Int))) (bB j underlying9 O O O E) (ag (fun i=>V.pv (.int .u8 i)) G))<|Rs O (XJ.cast (v':= .pv (.int .u8 ((c.toNat-48:Nat):Int))) (aC O O O) (ag (fun i=>V.pv (.int .u8 i)) (by show((c.toNat:Int)-48)%256=_;omega))) ?_;exact Rs O (XJ.cast (v':= pIi ((c.toNat-48:Nat):Int)) (iM underlying5 underlying3 O) (ag (fun i=>pIi i) (fy Vf)))<|Y2 O<|Z3 O<|⟨(j+1),Q5 ⟨O,O,O,O,ag (fun i:Int=>pIi i) (by rw[Y];omega),O,Vm⟩ (aO O) O O,⟨Vf,Vf⟩,Vf⟩
   ·refine Gx O ?_;have q:j=z:=by rw[d]at hc31;omega
    rw[q,show eI (List.take (z-(z-9)) (List.drop (z-9) (ay s)))=kU (ay s) z from O];generalize kU (ay s) z=u at*;refine Gr O ?_;iterate 7 refine A1 O ?_
    refine Z2 O<|Rs O (XJ.cast (v':= .pv (.str ⟨((ay s).take (z-9)).toArray⟩)) (fu (kl:= .i64) (kh:= .i64) (il:=0) (ih:=((z-9:Nat):Int)) none (some _) 0 (z-9) underlying9 O Vj (fun _=>rfl) (by rintro _ ⟨⟩;exact⟨O,O⟩) Vj (cd _) (by rw[d];omega)) (ag (fun x=>V.pv (.str x)) (yG Vf))) ?_;exact A1 O<|⟨(z-9,l++[u]),Q6 [0,1,4] (aT O) ⟨O,RI (b:=some (.mix 135 [.pv (.bool ng),.gsl 4 1 (l.length+1)])) Vg (ag (fun n=>some (Ob.mix 135 [.pv (.bool ng),.gsl 4 1 n])) (iX l _)),ag (fun c=>some (Ob.gro 3 c)) (limI_snoc _ _),Vm⟩ O O Vh O,⟨Vf,hok.append (Lok.one T),by rw[IS,RD];omega,by rw[IS,RD,dF,val_one];exact B⟩,Vf⟩
  ·refine Gx O ?_;have A:z=0:=by
    have M:(⟨((ay s).take z).toArray⟩:ByteArray).size=z:=by simp[ByteArray.size];omega
    rw[M]at hc22;omega
   rw[A,UO,show eI []=0 from O,U8,RV]at hvl;have H:=pO (neg:=ng) l O Vf hok hvl.symm;rw[<-hv]at H;exact Q4 (Q8 2 O O)<|Z1 O<|Rs O (aa call194 H O)<|A1 O<|Gt O<|⟨_,_,O,O,⟨az ⟨_,underlying135,O⟩ FB O O O,Vm⟩,O⟩
end

section
open Mk
def eG(n:Int):ByteArray:=⟨(Lib.itoa n).toArray⟩
theorem s0(n:Nat):eI (Lib.decDigits n)=n:=by
 induction n using Nat.strongRecOn with
 | ind n ih=>
   by_cases h:n<10
   ·rw[Lib.decDigits,dif_pos h];simp[eI];omega
   ·rw[Lib.decDigits,dif_neg h,tZ,ih _ Vf];simp;omega
theorem nF(n:Nat):∀c∈Lib.decDigits n,kr c=true:=by
 induction n using Nat.strongRecOn with
 | ind n ih=>
   intro c hc;have j:∀d,d<10->kr (UInt8.ofNat (48+d))=true:=fun d hd=>by simp[kr];omega
   by_cases h:n<10
   ·rw[Lib.decDigits,dif_pos h,Rn]at hc;rw[hc];exact j n h
   ·rw[Lib.decDigits,dif_neg h]at hc;rcases Rx.1 hc with e|e
    ·exact ih _ Vf c e
    ·rw[Rn]at e;rw[e];exact j _ (Ti _ Vh)
theorem GJ{a b:Nat}(h:Lib.decDigits a=Lib.decDigits b):a=b:=by rw[<-s0 a,h,s0]
theorem Lr(n:Nat):Lib.decDigits n≠[]:=by rw[Lib.decDigits];split<;>simp
theorem JC{a b:Int}(h:Lib.itoa a=Lib.itoa b):a=b:=by
 have d:∀(n:Nat)(l:List UInt8),Lib.decDigits n≠45::l:=fun n l e=>by
  have:=nF n 45 (by rw[e];simp);cases this
 rw[ik,ik]at h;by_cases ha:a<0<;>by_cases hb:b<0
 ·rw[AT ha,AT hb]at h;have:=GJ (List.append_cancel_left h);omega
 ·rw[AT ha,dt hb]at h;exact absurd h.symm (d _ _)
 ·rw[dt ha,AT hb]at h;exact absurd h (d _ _)
 ·rw[dt ha,dt hb]at h;have:=GJ (List.append_cancel_left h);omega
def gb(q:Rat):ByteArray:=if q.den=1 then eG q.num else(eG q.num++⟨#[47]⟩)++eG q.den
end
section
open Mk
theorem Jp{s:ByteArray}(h:Lib.indexByte s.data.toList 47= -1):oa s=s/\cf s=false:=by
 have e:Lib.index s.data.toList [47]= -1:=by rw[Lib.index_one];exact h
 have hc:Lib.cut s.data.toList [47]=(s.data.toList,[],false):=by rw[Lib.cut,e,dt Vf]
 exact⟨by rw[oa,hc],by rw[cf,hc]⟩
theorem IY{l:List UInt8}{k:Nat}(q:k<l.length)(r:∀j,j<k->l.getD j 0≠47)(s:l.getD k 0=47):Lib.indexByte l 47=(k:Int):=by
 rw[<-Lib.index_one];have d:∀j,Lib.occAt l [47] j=(decide (j<l.length)&&(l.getD j 0==47)):=fun j=>by
  rw[Lib.occAt];by_cases hj:j<l.length
  ·rw[RF hj];simp[List.isPrefixOf,List.getD,hj,Bool.beq_comm]
  ·rw[Tv Vf];simp[List.isPrefixOf,hj]
 refine Lib.index_first Vf ?_ fun j hj=>?_
 ·rw[d,s];simp[q]
 ·rw[d];simp;intro _ e;exact absurd e (by simpa[List.getD]using r j hj)
theorem Jz{l:List UInt8}(h:∀j,j<l.length->l.getD j 0≠47):Lib.indexByte l 47= -1:=by
 rcases Int.lt_or_le (Lib.indexByte l 47) 0 with e|e
 ·have:=Lib.indexByte_ge l 47;omega
 ·obtain⟨i,hi⟩:=Rm e;have d:=(Lib.indexByte_some hi).1;obtain⟨hlt,h2⟩:=Rp.1 d;exact absurd (by simp[List.getD,hlt,h2]) (h i hlt)
end
section
open Mk
def fD(l:List Trm):List PV:=l.flatMap trmC
def fE(l:List Prr):List PV:=l.flatMap prrC
theorem n9(l:List Trm):(fD l).length=l.length*3:=bY _ 3 (fun _=>rfl) l
theorem oA(l:List Prr):(fE l).length=l.length*5:=bY _ 5 (fun _=>rfl) l
theorem NA{l:List Trm}{k:Nat}(h:k<l.length):((fD l).drop (k*3)).take 3=trmC l[k]:=cC _ 3 (fun _=>rfl) l k h
theorem Ng{l:List Prr}{k:Nat}(h:k<l.length):((fE l).drop (k*5)).take 5=prrC l[k]:=cC _ 5 (fun _=>rfl) l k h
theorem Q0{l:List Trm}{k:Nat}(h:k<l.length):fD l≠[]:=fun e=>by have:=n9 l;rw[e]at this;simp at this;omega
theorem Pj{l:List Prr}{k:Nat}(h:k<l.length):fE l≠[]:=fun e=>by have:=oA l;rw[e]at this;simp at this;omega
end
section
open Mk
theorem oo(n:Int):ay (eG n)=Lib.decDigits n.natAbs/\j5 (eG n)=decide (n<0):=by
 have e:(eG n).data.toList=(if n<0 then [45]else [])++Lib.decDigits n.natAbs:=ik n;by_cases h:n<0
 ·rw[AT h]at e;have d:Lib.hasPrefix (eG n).data.toList [45]=true:=by rw[e];rfl
  refine⟨by rw[ay,Lib.trimPrefix,AT d,e];rfl,by rw[j5,d,Ru h]⟩
 ·rw[dt h,Sr]at e;have d:Lib.hasPrefix (eG n).data.toList [45]=false:=by
   rw[e,Lib.hasPrefix];cases hd:Lib.decDigits n.natAbs with
   |nil=>rfl
   | cons c l=>
     have:=nF n.natAbs c (by rw[hd];simp);have hc:((45:UInt8)==c)=false:=by
      rw[SL];intro e;rw[<-e]at this;cases this
     show((45:UInt8)==c&&List.isPrefixOf [] l)=false;rw[hc];rfl
  refine⟨by rw[ay,Lib.trimPrefix,dt (by rw[d];decide),e],by rw[j5,d,Rv h]⟩
theorem ny(n:Int):rdZ (eG n)=n:=by
 rw[rdZ,(oo n).1,(oo n).2,s0];exact y6 n
theorem Eh{n:Nat}(h:n≠0):(Lib.decDigits n).getD 0 0≠48:=by
 induction n using Nat.strongRecOn with
 | ind n ih=>
   by_cases h2:n<10
   ·rw[Lib.decDigits,dif_pos h2];intro e;have:=ag UInt8.toNat e;simp at this;omega
   ·rw[Lib.decDigits,dif_neg h2];have:=ih (n/10) Vf Vf;cases hd:Lib.decDigits (n/10)with
    |nil=>exact absurd hd (Lr _)
    |cons c l=>rw[hd]at this;simpa using this
theorem ka(n:Int):bh (eG n)= !Le n.natAbs:=by
 have d:=oo n;by_cases h:n=0
 ·subst h;have e:(eG 0).toList=(⟨#[48]⟩:ByteArray).toList:=by rw[Lib.toList_data,Lib.toList_data];exact oT
  rw[bh,e];rw[show Le (0:Int).natAbs=false by rw[Le];simp[dq]];simp
 ·have j:((eG n).toList==(⟨#[48]⟩:ByteArray).toList)=false:=by
   rw[Lib.toList_data,Lib.toList_data,SL];intro e;exact h (JC (e.trans oT.symm))
  have q:(Lib.decDigits n.natAbs).isEmpty=false:=by
   cases e:Lib.decDigits n.natAbs with
   |nil=>exact absurd e (Lr _)
   |cons a l=>rfl
  have r:((Lib.decDigits n.natAbs).getD 0 0 !=48)=true:=by
   rw[bne_iff_ne];exact Eh Vf
  have s:(Lib.decDigits n.natAbs).all kr=true:=Ri.2 (nF _);rw[j9 j,qe,d.1,q,r,s,Le];rw[RJ];simp[pS];exact⟨fun h=>Rv Vf,fun h=>by have:=Tn h;omega⟩
theorem Co(n:Int):∀c∈(eG n).data.toList,c=45\/kr c=true:=fun c hc=>by
 have e:(eG n).data.toList=(if n<0 then [45]else [])++Lib.decDigits n.natAbs:=ik n;rw[e]at hc;rcases Rx.1 hc with h|h
 ·split at h
  ·simp at h;exact .inl h
  ·simp at h
 ·exact .inr (nF _ c h)
theorem Kw{c:UInt8}(h:c=45\/kr c=true):c≠47:=by
 rcases h with rfl|h
 ·decide
 ·intro e;subst e;cases h
theorem DX{s:ByteArray}(h:∀c∈s.data.toList,c≠47):oa s=s/\cf s=false/\mP s=⟨#[]⟩:=by
 have d:Lib.indexByte s.data.toList 47= -1:=Jz fun j hj e=>h _ (au hj) (by rw[Rj,Hj hj]at e;exact e)
 obtain⟨c1,c2⟩:=Jp d;refine⟨c1,c2,?_⟩;have e:Lib.index s.data.toList [47]= -1:=by rw[Lib.index_one];exact d
 rw[mP,Lib.cut,e];rfl
theorem GP{a b:ByteArray}(h:∀c∈a.data.toList,c≠47):oa ((a++⟨#[47]⟩)++b)=a/\cf ((a++⟨#[47]⟩)++b)=true/\mP ((a++⟨#[47]⟩)++b)=b:=by
 have d:((a++(⟨#[47]⟩:ByteArray))++b).data.toList=a.data.toList++47::b.data.toList:=Vj;have l:Lib.indexByte ((a++(⟨#[47]⟩:ByteArray))++b).data.toList 47=(a.data.toList.length:Int):=by
  rw[d];refine IY Vj (fun j hj e=>?_) (by simp[List.getD]);simp only[List.getD,Uo hj,Hj hj,Ub]at e;exact h _ (au hj) e
 have e:Lib.index ((a++(⟨#[47]⟩:ByteArray))++b).data.toList [47]=(a.data.toList.length:Int):=by rw[Lib.index_one];exact l
 have hc:Lib.cut ((a++(⟨#[47]⟩:ByteArray))++b).data.toList [47]=(a.data.toList,b.data.toList,true):=by
  rw[Lib.cut,e,AT Vf,d];simp only[RH,Prod.mk.injEq,and_true];refine⟨Vj,?_⟩;rw[show([47]:List UInt8).length=1 from O,List.drop_append];simp
 exact⟨by rw[oa,hc],by rw[cf,hc],by rw[mP,hc]⟩
end
section
open Mk Jn
theorem o5(n:Nat)(B:n≠0)(E:n<1000000000)(G:(Lib.decDigits n).length<=1000):FnP prog 99 [dR (-(n:Int))] (· = .str ⟨(45::Lib.decDigits n).toArray⟩):=by
 refine FnP.of func99 O ntmps99 Vj fun m0 w0 F R0=>?_
 have z:decide (-(n:Int)<0)=true:=Ru Vf;have j:=ia n Vf;have d:=Hl n;have l:ai n=[n]:=by rw[ai,dt B,show n/1000000000=0 by omega,ba,Ut E]
 rw[show dR (-(n:Int))= .agg [.bool true,.sl none 1 (bW [n])] by show PV.agg [.bool (decide (-(n:Int)<0)),bF ((-(n:Int)).natAbs)]=_;rw[z,Int.natAbs_neg,R4,bF,l];rfl];have q:(bW [n])[0]? =some (.int .u64 (n:Int)):=rfl;generalize hD:Lib.decDigits n=D at*;have A:D≠[]:=fun e=>by rw[e]at d;simp at d
 have r:=qW ⟨#[45]⟩ Vh Vh;have s:=GD [45] ⟨D.toArray⟩ Vj (show [(45:UInt8)].length+D.length<=1000000000 by simp;omega);have t:=vl (45::D) Vj Vk;have u:(1:Int)>0:=Vh;refine Z2 O<|Z4 O ?_;refine Gc O (fun hc=>absurd hc Vj) (fun hc=>?_);refine Q3<|Z1 O<|Q4 (St.da 1 1 2 1 5 O O O)<|Z2 O ?_;refine Gc O (fun hc=>?_) (fun hc=>absurd hc Vj);refine Gr O<|Rs O (bt [1,2] 3 call190 r O O O O ⟨O,O,Vm⟩ Vh O)<|Gr O ?_;iterate 5 refine A1 O ?_
 refine Gl O (st:=fun b:Bool=>bif b then mkS [(1,.ptr 0 0),(3,.ptr 1 0),(4,pIi 0)] [(0,.mix 114 [.pv (.bool true),.pv (.sl none 1 (bW [n]))]),(1,.mix 311 [.ptr 1 0,.gsl 2 1 1]),(2,.gro 5 (aF [45]))] 3 else mkS [(1,.ptr 0 0),(3,.ptr 1 0),(4,pIi (-1))] [(0,.mix 114 [.pv (.bool true),.pv (.sl none 1 (bW [n]))]),(1,.mix 311 [.ptr 1 0,.gsl 2 1 (45::D).length]),(2,.gro 5 (aF (45::D)))] 3)
  (I:=fun _=>True) (μ:=fun b=>bif b then 1 else 0) (x0:=true) (Q6 [0,1,3] (aT O) (aP Vg) O O Vh O) trivial ?_
 rintro(_|_) _
 ·simp only[RR];refine Z2 O ?_;refine Gp O (fun hc=>absurd hc Vh) (fun hc=>?_);exact Gx O<|Gr O<|Rs O (bt [1,2] 3 call193 t O O O O ⟨O,O,Vm⟩ Vh O)<|A1 O<|Gt O<|⟨_,_,O,O,O⟩
 ·simp only[Sy];refine Z2 O ?_;refine Gp O (fun hc=>?_) (fun hc=>absurd hc Vh);refine Q3<|Z3 O<|Rs O (ae 0 underlying112 gJ O O O Vh (by simp[bW]))<|Rs O (aq ⟨_,underlying300,O⟩ O q)<|Rs O (aa call191 j O)<|A1 O<|Gr O ?_;iterate 6 refine A1 O ?_
  refine Gp O (fun hc=>absurd hc Vj) (fun hc=>?_);exact Q3<|Z1 O<|Rs O (bt [1,2] 3 call190 s O O O O ⟨O,O,Vm⟩ Vh O)<|Z3 O<|⟨false,Q6 [0,1,3] (aT O) (aP Vg) O O Vh O,Vm,Vh⟩
theorem mA{n:Nat}(h:n<1000000000):(Lib.decDigits n).length<=9:=s9 Vh Vf
theorem nC(n:Int):(eG n).size<=(Lib.decDigits n.natAbs).length+1:=by
 have d:(eG n).size=(Lib.itoa n).length:=by simp[eG,ByteArray.size]
 rw[d,ik,IS];split<;>simp<;>omega
theorem lG(z:Int)(j:z.natAbs<1000000000):FnP prog 99 [dR z] (· = .str (eG z)):=by
 have l:=mA j;by_cases h:z<0
 ·have d:=o5 z.natAbs Vf j Vf;have e:eG z=⟨(45::Lib.decDigits z.natAbs).toArray⟩:=by rw[eG,ik,AT h];rfl
  rw[show-((z.natAbs:Nat):Int)=z by omega,<-e]at d;exact d
 ·have d:=pY z.natAbs j Vf;have e:eG z=⟨(Lib.decDigits z.natAbs).toArray⟩:=by rw[eG,ik,dt h];rfl
  rw[show((z.natAbs:Nat):Int)=z by omega,<-e]at d;exact d
structure F1(q:Rat):Prop where
 n:q.num.natAbs<1000000000
 d:q.den<31622
theorem F1.ok{q:Rat}(h:F1 q):FOk q:=⟨h.d,IT (P5 h.n) Vh⟩
theorem CR(q:Rat)(h:F1 q):FnP prog 207 [frP q] (· = .str (gb q)):=by
 refine FnP.of func207 O ntmps207 Vj fun m0 w0 F R0=>?_
 have s:=gS q h.ok;have j:=lG q.num h.n;have l:=lG (q.den:Int) (by rw[R4];have:=h.d;omega);have t:(eG q.num).size<=10:=by have:=nC q.num;have:=mA h.n;omega
 have u:(eG (q.den:Int)).size<=10:=by have z:=nC (q.den:Int);have A:=mA (n:=q.den) (by have:=h.d;omega);rw[R4]at z;omega
 have r:((eG q.num)++⟨#[47]⟩:ByteArray).size=(eG q.num).size+1:=ByteArray.size_append;refine Z2 O<|Z1 O<|Rs O (aa call229 s O) ?_;refine Gc O (fun hc4=>?_) (fun hc4=>?_)
 ·have e:gb q=eG q.num:=AT (by simpa using hc4);exact Z2 O<|Rs O (aa call99 j O)<|A1 O<|Gt O<|⟨_,_,O,O,by rw[e];rfl⟩
 ·have e:gb q=(eG q.num++⟨#[47]⟩)++eG (q.den:Int):=dt (by simpa using hc4);refine Q3<|RW 9 O ?_;iterate 2 refine D1 O ?_
  refine Ds [] O (fun τ h=>aa call99 j (h.aK O)) O Vg<|Ds [] O (fun τ h=>yF (Ee h 0 O O) (Ee h 1 O O) (by show(eG q.num).size+1<=_;omega)) O Vg ?_;iterate 2 refine D1 O ?_
  refine Ds [] O (fun τ h=>aa call99 l (h.aK O)) O Vg<|Ds [] O (fun τ h=>yF (Ee h 0 O O) (Ee h 1 O O) (by rw[show((eG q.num)++⟨#[47]⟩:ByteArray).size=(eG q.num).size+1 from r];omega)) O Vg ?_;refine D1 O ?_;refine⟨Vg,?_⟩;exact Gt O<|⟨_,_,O,O,by rw[e];rfl⟩
theorem mJ(z:Int)(r:z.natAbs<1000000000):FnP prog 206 [dR z] (· = .int .i64 ((Lib.decDigits z.natAbs).length:Nat)):=by
 refine FnP.of func206 O ntmps206 Vj fun m0 w0 F R0=>?_
 have d:=ia z.natAbs Vf;have t:=mA r;by_cases h0:z.natAbs=0
 ·have j:bF z.natAbs= .sl none 0 []:=by rw[h0];exact vD
  have s:(Lib.decDigits z.natAbs).length=1:=by rw[h0];exact dq Vh
  rw[show dR z= .agg [.bool (decide (z<0)),.sl none 0 []] by show PV.agg [.bool (decide (z<0)),bF z.natAbs]=_;rw[j]];refine Z2 O<|Z4 O ?_;refine Gc O (fun hc7=>?_) (fun hc7=>absurd hc7 Vj);exact Z1 O<|Gt O<|⟨_,_,O,O,by rw[s];rfl⟩
 ·have l:ai z.natAbs=[z.natAbs]:=fA h0 r;have j:bF z.natAbs= .sl none 1 [.int .u64 (z.natAbs:Int)]:=by rw[bF,l];rfl
  rw[show dR z= .agg [.bool (decide (z<0)),.sl none 1 [.int .u64 (z.natAbs:Int)]] by show PV.agg [.bool (decide (z<0)),bF z.natAbs]=_;rw[j]];have q:(⟨(Lib.decDigits z.natAbs).toArray⟩:ByteArray).size=(Lib.decDigits z.natAbs).length:=by simp[ByteArray.size]
  generalize (Lib.decDigits z.natAbs)=D at*;refine Z2 O<|Z4 O ?_;refine Gc O (fun hc7=>absurd hc7 Vj) (fun hc7=>?_);refine Q3<|Gr O ?_;iterate 5 refine A1 O ?_
  refine Gr O ?_;iterate 5 refine A1 O ?_
  exact Rs O (ae 0 underlying112 gJ O O O Vh Vj)<|Rs O (aq ⟨_,underlying300,O⟩ O O)<|Rs O (aa call191 d O)<|Y3 O<|Gt O<|⟨_,_,O,O,by rw[show(⟨D.toArray⟩:ByteArray).size=D.length from q];show PV.int .i64 (0+(D.length:Int))=_;rw[Int.zero_add]⟩
theorem BB(q:Rat)(h:F1 q):FnP prog 126 [frP q] (· = .tup [.str (gb q),.int .i64 0]):=by
 refine FnP.of func126 O ntmps126 Vj fun m0 w0 F R0=>?_
 have j:=mJ q.num h.n;have l:=mJ (q.den:Int) (by rw[R4];have:=h.d;omega);have r:=mA h.n;have s:=mA (n:=(q.den:Int).natAbs) (by rw[R4];have:=h.d;omega);have t:=CR q h;have u:decide (((Lib.decDigits q.num.natAbs).length:Int)>400)=false:=Rv Vf;have z:decide (((Lib.decDigits (q.den:Int).natAbs).length:Int)>400)=false:=Rv Vf;refine Z3 O<|Z2 O<|Rs O (aa call206 j O)<|Rs O (XJ.cast (v':= .pv (.bool false)) (aC O O O) (ag (fun b=>V.pv (.bool b)) u))<|Y3 O<|Rg O (aa call206 l O)<|Rg O (XJ.cast (v':= .pv (.bool false)) (aC O O O) (ag (fun b=>V.pv (.bool b)) z))<|A1 O ?_;refine Gc O (fun hc13=>absurd hc13 Vj) (fun hc13=>?_);exact Q3<|Z1 O<|Rs O (aa call207 t O)<|Y2 O<|Gt O<|⟨_,_,O,O,O⟩
structure QOk(s:ByteArray)(q:Rat):Prop where
 sz:s.size<4294967281
 n:bh (oa s)=true/\rdZ (oa s)=q.num
 d:if cf s=true then bh (mP s)=true/\rdZ (mP s)=(q.den:Int)else q.den=1
theorem gl(s:ByteArray)(q:Rat)(h:QOk s q):FnP prog 143 [.str s] (· =frP q):=by
 refine FnP.ofC func143 O ntmps143 Vj fun m0 w0 F R0=>?_
 have l:=Fe s ⟨#[47]⟩ h.sz;have t:=eJ (oa s) (bH h.n.1).1 (by have:=(bH h.n.1).2;omega);rw[h.n.2]at t;have j:=h.d;refine Z1 O<|Z1 O<|Rs O (aa call232 l O) ?_;iterate 7 refine A1 O ?_
 refine Z2 O ?_;refine Gc O (fun hc13=>?_) (fun hc13=>?_)
 ·have u:cf s=false:=by have z:(!cf s)=true:=hc13;simpa using z
  rw[dt (by rw[u];decide)]at j;have r:=eJ Ki (bH jz).1 (by have:=(bH jz).2;omega);rw[sy,show(1:Int)=((q.den:Nat):Int) by rw[j];rfl]at r;exact Z1 O<|Z1 O<|Rs O (aa call233 t O)<|A1 O<|Rs O (aa call233 r O)<|Y2 O<|Gt O<|⟨_,_,O,O,⟨az ⟨_,underlying116,O⟩ qd O O O,Vm⟩,O⟩
 ·have u:cf s=true:=by have z:(!cf s)=false:=hc13;simpa using z
  rw[AT u]at j;have r:=eJ (mP s) (bH j.1).1 (by have:=(bH j.1).2;omega);rw[j.2]at r;exact Q3<|Z1 O<|Rs O (aa call233 t O)<|A1 O<|Rs O (aa call233 r O)<|Y2 O<|Gt O<|⟨_,_,O,O,⟨az ⟨_,underlying116,O⟩ qd O O O,Vm⟩,O⟩
theorem np(q:Rat)(h:F1 q):QOk (gb q) q:=by
 have r:=mA h.n;have s:=mA (n:=q.den) (by have:=h.d;omega);have B:=nC q.num;have t:=nC (q.den:Int);rw[R4]at t;have A:∀n:Nat,(Lib.decDigits n).length<=9->Le n=false:=fun n hn=>by
  have:pS n<=9:=hn;unfold Le;exact Rv Vf
 have j:bh (eG q.num)=true:=by rw[ka,A _ r];rfl
 have u:bh (eG (q.den:Int))=true:=by rw[ka,R4,A _ s];rfl
 have l:∀z:Int,∀c∈(eG z).data.toList,c≠47:=fun z c hc=>Kw (Co _ c hc)
 by_cases hd:q.den=1
 ·have e:gb q=eG q.num:=AT hd;obtain⟨c1,c2,c3⟩:=DX (l q.num);rw[e];refine⟨Vf,by rw[c1];exact⟨j,ny _⟩,?_⟩;rw[c2,dt Vh];exact hd
 ·have e:gb q=(eG q.num++⟨#[47]⟩)++eG (q.den:Int):=dt hd;obtain⟨c1,c2,c3⟩:=GP (a:=eG q.num) (b:=eG (q.den:Int)) (l q.num);rw[e];refine⟨?_,by rw[c1];exact⟨j,ny _⟩,?_⟩
  ·rw[ByteArray.size_append,ByteArray.size_append];have:(⟨#[47]⟩:ByteArray).size=1:=rfl;omega
  ·rw[c2,AT O,c3];exact⟨u,ny _⟩
end
section
open Go.RowKit Mk Jn Mm
theorem y9{K:Type}[BEq K][LawfulBEq K]{f:K->PV}(j:∀a b,keq (f a) (f b)=some (a==b)){l:List (K×Rat)}(d:(l.map (·.1)).Nodup):sX (aI f l):=by
 unfold sX aI;rw[SM];rw[List.Nodup,SM]at d;refine d.imp fun{a b} hne=>?_
 rw[j];cases h:a.1==b.1 with
 |false=>rfl
 |true=>exact absurd (eq_of_beq h) hne
theorem uj{K:Type}(f:K->PV)(l:List (K×Rat)):(aI f l).length=l.length:=by simp[aI]
def mcZ(m:MC):Bool:=(decide (m.c=0)&&decide (m.s.length=0))&&decide (m.p.length=0)
theorem KO(m:MC)(r:(m.s.map (·.1)).Nodup)(t:(m.p.map (·.1)).Nodup):FnP prog 122 [mcP m] (· = .bool (mcZ m)):=by
 refine FnP.of func122 O ntmps122 Vj fun m0 w0 F R0=>?_
 have d:=eL m.c;have j:(m.c.num.sign==0)=decide (m.c=0):=gD;have l:=y9 c7 r;have q:=y9 ft t;have l1:(((aI dr m.s).length:Int)==0)=decide (m.s.length=0):=by rw[uj,RJ,S0,Rt];omega
 have l2:(((aI ppP m.p).length:Int)==0)=decide (m.p.length=0):=by rw[uj,RJ,S0,Rt];omega
 by_cases hc:m.c=0
 ·rw[Ru hc]at j;by_cases h1:m.s.length=0
  ·rw[Ru h1]at l1;refine Z2 O<|Z2 O<|Rs O (aa call203 d O)<|Rs O (XJ.cast (v':= .pv (.bool true)) (aC O O O) (ag (fun b=>V.pv (.bool b)) j))<|Y3 O<|Rg O (ov underlying117 (.inr (.inl ⟨O,l⟩)))<|Rg O (XJ.cast (v':= .pv (.bool true)) (aC O O O) (ag (fun b=>V.pv (.bool b)) l1)) ?_;iterate 4 refine A1 O ?_
   exact Rg O (ov underlying118 (.inr (.inl ⟨O,q⟩)))<|Y3 O<|Gt O<|⟨_,_,O,O,ag PV.bool (by rw[mcZ,Ru hc,Ru h1];exact l2)⟩
  ·rw[Rv h1]at l1;refine Z2 O<|Z2 O<|Rs O (aa call203 d O)<|Rs O (XJ.cast (v':= .pv (.bool true)) (aC O O O) (ag (fun b=>V.pv (.bool b)) j))<|Y3 O<|Rg O (ov underlying117 (.inr (.inl ⟨O,l⟩)))<|Rg O (XJ.cast (v':= .pv (.bool false)) (aC O O O) (ag (fun b=>V.pv (.bool b)) l1)) ?_;iterate 8 refine A1 O ?_
   exact Gt O<|⟨_,_,O,O,ag PV.bool (by rw[mcZ,Ru hc,Rv h1];rfl)⟩
 ·rw[Rv hc]at j;refine Z2 O<|Z2 O<|Rs O (aa call203 d O)<|Rs O (XJ.cast (v':= .pv (.bool false)) (aC O O O) (ag (fun b=>V.pv (.bool b)) j)) ?_;iterate 13 refine A1 O ?_
  exact Gt O<|⟨_,_,O,O,ag PV.bool (by rw[mcZ,Rv hc];rfl)⟩
open Classical in
theorem QS{W k:Nat}{x:Mm.Sem}(q:SOk W k x):FnP prog 122 [momP x] (· = .bool (decide (x=Mm.Sem.zero))):=by
 obtain⟨h1,h2,_,_⟩:=q.cn;have h:=KO (cn x) h1.s.nd h1.p.nd;have e:mcZ (cn x)=decide (x=Mm.Sem.zero):=by
  rw[RJ,Rt];constructor
  ·intro hz;simp only[mcZ,sh,Rt]at hz;obtain⟨⟨h3,h4⟩,h5⟩:=hz;rw[<-h2];have d:=TV.1 h4;have j:=TV.1 h5;exact Sem.same h3 (fun x=>by show lk _ _=_;rw[d];rfl) (fun x y=>by show lk _ _=_;rw[j];rfl)
  ·rintro rfl;have l:cn Mm.Sem.zero=⟨((0:Nat):Int),[],[]⟩:=Ag 0;rw[l];decide+kernel
 rw[e]at h;exact h
theorem Cq(f:Int×Int×Int)(a:Int):FnP prog 201 [.agg (xc f),.rp [.int .i64 a] 0] (· = .bool (f.1==a)):=by
 refine FnP.of func201 O ntmps201 Vj fun m0 w0 F R0=>?_
 refine Z2 O<|Z2 O ?_;first|refine A1 O ?_|refine A2 O Vi ?_
 exact Y2 O<|Gt O<|⟨_,_,O,O,O⟩
def JU{α:Type}(p:α->Bool)(l:List α):Int:=match l.findIdx? p with|some i=>(i:Int)|none=> -1
theorem findIdx_take{α:Type}{l:List α}{p:α->Bool}{k:Nat}(q:k<l.length)(h:(l.take k).any p=false)(r:p l[k]=true):l.findIdx? p=some k:=by
 rw[Ts];refine⟨q,r,fun j hj=>?_⟩;have d:=List.any_eq_false.1 h (l[j]'Vf) (Tg.2 ⟨j,Vf,O⟩);simpa using d
theorem B7(l:List (Int×Int×Int))(g:FuncId)(caps:List PV)(p:Int×Int×Int->Bool)(t:l.length<=1000000)(hc:cu prog g)(s:∀f∈l,FnP prog g ([]++[.agg (xc f)]++caps) (· = .bool (p f))):
  FnP prog 200 [.sl none l.length (aH l),.fn (.func g) [] caps] (· = .int .i64 (JU p l)):=by
 refine FnP.of func200 O ntmps200 Vj fun m0 w0 F R0=>?_
 refine Z1 O<|Z3 O ?_;refine Gl O (st:=fun Vn:Nat=>mkS [(0,.pv (.sl none l.length (aH l))),(1,.pv (.fn (.func g) [] caps)),(7,pIi l.length),(8,pIi Vn)] [] 0)
  (I:=fun Vn=>Vn<=l.length/\(l.take Vn).any p=false) (μ:=fun Vn=>l.length-Vn) (x0:=(0)) (Q5 (aS O) trivial O O) (⟨cd _,O⟩) ?_
 rintro k ⟨hk,hno⟩;refine Z1 O ?_;refine Gp O (fun hc9=>?_) (fun hc9=>?_)
 ·have d:k<l.length:=Vf;have j:=kE d;have r:=oF d;have q:=s _ (au d);refine Q3<|Z2 O<|Z4 O<|Rs O (aU ⟨_,underlying164,O⟩ yb O j O)<|Rs O (fH hc O q O) ?_;refine Gc O (fun hc16=>?_) (fun hc16=>?_)
  ·exact Z2 O<|Gt O<|⟨_,_,O,O,by rw[JU,findIdx_take d hno hc16];rfl⟩
  ·exact Q3<|Z2 O<|⟨(k+1),Q5 (aS O) trivial O O,⟨Vf,fK d hno hc16⟩,Vf⟩
 ·exact Gx O<|Z1 O<|Gt O<|⟨_,_,O,O,by rw[aQ Vf]at hno;rw[JU,Un.2 (fun x hx=>by have:=List.any_eq_false.1 hno x hx;simpa using this)];rfl⟩
open Classical in
noncomputable def liftS(q:ByteArray->Rat)(S:Sch)(a:Int)(v:ByteArray):Mm.Sem:=
 if a=S.label then(if v=⟨#[]⟩then cnt (0:Nat)else lft ⟨-1,⟨#[]⟩⟩ (q v))
 else match S.feats.findIdx? (fun f=>f.1==a)with
  |none=>cnt (1:Nat)
  |some i=>if(S.feats.getD i default).2.1=2 then lft ⟨i,v⟩ 1 else if v=⟨#[]⟩then(if(S.feats.getD i default).2.2=1 then cnt (0:Nat)else cnt (1:Nat))else lft ⟨i,⟨#[]⟩⟩ (q v)
structure VQ(q:ByteArray->Rat)(v:ByteArray):Prop where
 ok:QOk v (q v)
 i:dM 6 (q v)
 b:bl 3 (q v)
theorem Cv(v:ByteArray):(v.toList==(⟨#[]⟩:ByteArray).toList)=decide (v=⟨#[]⟩):=by
 rw[RJ,Rt,S0];exact⟨bytes_inj,fun e=>by rw[e]⟩
theorem tR(q:ByteArray->Rat)(S:Sch)(a:Int)(v:ByteArray)(hl:S.feats.length<=1000000)(hq:v≠⟨#[]⟩->(a=S.label\/∃i,S.feats.findIdx? (fun f=>f.1==a)=some i/\(S.feats.getD i default).2.1≠2)->VQ q v):
  FnP prog 121 [eS S,.int .i64 a,.str v] (· =momP (liftS q S a v)):=by
 refine FnP.ofC func121 O ntmps121 Vj fun m0 w0 F R0=>?_
 have H:=B7 S.feats 201 [.rp [.int .i64 a] 0] (fun f=>f.1==a) hl call201 (fun f _=>Cq f a);have I:=kH 0 Vh;have J:=kH 1 Vh;have U:=nH 1 Vh Vh;have G:=Cv v;refine Z3 O<|Q4 (St.fG 1 O O)<|Z3 O<|Rs O (aa call200 H O)<|A1 O<|Gr O ?_;iterate 5 refine A1 O ?_
 apply Rf 3 18 21 [19,20] O Vp
 ·intro hb4;exact Y3 O<|Q7 Vo O O O
 ·intro hb4;exact Y3 O<|Q7 Vo O O O
 refine A1 O ?_;refine Gc O (fun hc13=>?_) (fun hc13=>?_)
 ·have u:a=S.label/\v=⟨#[]⟩:=by rw[G]at hc13;simpa using hc13
  have e:liftS q S a v=cnt (0:Nat):=by rw[liftS,AT u.1,AT u.2]
  exact Gr O<|Rs O (aa call54 I O)<|A1 O<|Gt O<|⟨_,_,O,O,⟨az ⟨_,underlying120,O⟩ j0 O O O,Vm⟩,by rw[e];rfl⟩
 ·have u:¬ (a=S.label/\v=⟨#[]⟩):=fun h=>by rw[G]at hc13;simp[h.1,h.2]at hc13
  refine Gr O ?_;iterate 5 refine A1 O ?_
  refine Gc O (fun hc23=>?_) (fun hc23=>?_)
  ·have d:a=S.label:=by simpa using hc23
   have Z:v≠⟨#[]⟩:=fun h=>u ⟨d,h⟩
   have B:=hq Z (.inl d);have D:=gl v (q v) B.ok;have E:=Ga ⟨-1,⟨#[]⟩⟩ (q v) B.i B.b;have e:liftS q S a v=lft ⟨-1,⟨#[]⟩⟩ (q v):=by rw[liftS,AT d,dt Z]
   exact Z2 O<|Rs O (aa call143 D O)<|Rs O (aa call202 E O)<|A1 O<|Gt O<|⟨_,_,O,O,⟨az ⟨_,underlying120,O⟩ j0 O O O,Vm⟩,by rw[e];rfl⟩
  ·have d:¬a=S.label:=by simpa using hc23
   refine Z3 O ?_;refine Gp O (fun hc32=>?_) (fun hc32=>?_)
   ·have j:JU (fun f=>f.1==a) S.feats<0:=by simpa using hc32
    have z:S.feats.findIdx? (fun f=>f.1==a)=none:=by
     unfold JU at j;cases hx:S.feats.findIdx? (fun f=>f.1==a)with
     |none=>rfl
     |some i=>rw[hx]at j;simp only at j;omega
    have e:liftS q S a v=cnt (1:Nat):=by rw[liftS,dt d,z]
    exact Gr O<|Rs O (aa call54 J O)<|A1 O<|Gt O<|⟨_,_,O,O,⟨az ⟨_,underlying120,O⟩ j0 O O O,Vm⟩,by rw[e];rfl⟩
   ·have j:¬JU (fun f=>f.1==a) S.feats<0:=by simpa using hc32
    obtain⟨i,z⟩:∃i,S.feats.findIdx? (fun f=>f.1==a)=some i:=by
     unfold JU at j;cases hx:S.feats.findIdx? (fun f=>f.1==a)with
     |none=>rw[hx]at j;simp only at j;omega
     |some i=>exact⟨i,O⟩
    have V:JU (fun f=>f.1==a) S.feats=(i:Int):=by rw[JU,z]
    have l:i<S.feats.length:=(Ts.1 z).1;have L:=kE l;have Y:=oF l;have s:S.feats.getD i default=S.feats[i]:=by simp[List.getD,l]
    have M:∀c,FnP prog 202 [dr ⟨(i:Int),c⟩,frP ((1:Int):Rat)] (· =momP (lft ⟨(i:Int),c⟩ 1)):=fun c=>Ga ⟨i,c⟩ 1 (dM.ofInt 6 1) ⟨by decide+kernel,by decide+kernel⟩
    refine Q3 ?_;rw[V];refine Z3 O<|Rs O (ae i underlying28 yb O O O l Y)<|Rs O (aU ⟨_,underlying164,O⟩ yb O L O)<|Y2 O<|Z4 O ?_;refine Gc O (fun hc41=>?_) (fun hc41=>?_)
    ·have r:S.feats[i].2.1=2:=by simpa using hc41
     have e:liftS q S a v=lft ⟨(i:Int),v⟩ 1:=by rw[liftS,dt d,z];simp only;rw[s,AT r]
     exact Z3 O<|Rs O (aa call136 U O)<|Rs O (aa call202 (M v) O)<|A1 O<|Gt O<|⟨_,_,O,O,⟨az ⟨_,underlying120,O⟩ j0 O O O,Vm⟩,by rw[e];rfl⟩
    ·have r:¬S.feats[i].2.1=2:=by simpa using hc41
     refine Z3 O ?_;apply Rf 4 53 57 [54,55,56] O Vp
     ·intro hb2;iterate 4 refine A1 O ?_
      exact Q7 Vo O O O
     ·intro hb2;iterate 4 refine A1 O ?_
      exact Q7 Vo O O O
     refine A1 O ?_;refine Gc O (fun hc50=>?_) (fun hc50=>?_)
     ·have A:v=⟨#[]⟩/\S.feats[i].2.2=1:=by rw[G]at hc50;simpa using hc50
      have e:liftS q S a v=cnt (0:Nat):=by rw[liftS,dt d,z];simp only;rw[s,dt r,AT A.1,AT A.2]
      exact Gr O<|Rs O (aa call54 I O)<|A1 O<|Gt O<|⟨_,_,O,O,⟨az ⟨_,underlying120,O⟩ j0 O O O,Vm⟩,by rw[e];rfl⟩
     ·have A:¬ (v=⟨#[]⟩/\S.feats[i].2.2=1):=fun h=>by rw[G]at hc50;simp[h.1,h.2]at hc50
      refine Z3 O ?_;refine Gc O (fun hc59=>?_) (fun hc59=>?_)
      ·have t:v=⟨#[]⟩:=by have T:(v.toList==(⟨#[]⟩:ByteArray).toList)=true:=hc59;rw[G]at T;simpa using T
       have e:liftS q S a v=cnt (1:Nat):=by rw[liftS,dt d,z];simp only;rw[s,dt r,AT t,dt (fun h=>A ⟨t,h⟩)]
       exact Gr O<|Rs O (aa call54 J O)<|A1 O<|Gt O<|⟨_,_,O,O,⟨az ⟨_,underlying120,O⟩ j0 O O O,Vm⟩,by rw[e];rfl⟩
      ·have t:¬v=⟨#[]⟩:=by have T:(v.toList==(⟨#[]⟩:ByteArray).toList)=false:=hc59;rw[G]at T;simpa using T
       have B:=hq t (.inr ⟨i,z,by rw[s];exact r⟩);have D:=gl v (q v) B.ok;have E:=Ga ⟨i,⟨#[]⟩⟩ (q v) B.i B.b;have e:liftS q S a v=lft ⟨(i:Int),⟨#[]⟩⟩ (q v):=by rw[liftS,dt d,z];simp only;rw[s,dt r,dt t]
       exact Q3<|Z3 O<|Rs O (aa call143 D O)<|Rs O (aa call202 E O)<|A1 O<|Gt O<|⟨_,_,O,O,⟨az ⟨_,underlying120,O⟩ j0 O O O,Vm⟩,by rw[e];rfl⟩
end
section
open Go.RowKit Mk Jn Mm
def tmL(l:List (Par×Rat)):List Trm:=l.map fun e=>⟨e.1,gb e.2⟩
def prL(l:List (PP×Rat)):List Prr:=l.map fun e=>⟨e.1.1,e.1.2,gb e.2⟩
theorem oN(l:List (Par×Rat)):(tmL l).length=l.length:=by simp[tmL]
theorem pj(l:List (PP×Rat)):(prL l).length=l.length:=by simp[prL]
theorem P1{l:List (Par×Rat)}{k:Nat}(h:k<l.length):((fD (tmL l)).drop (k*3)).take 3=[.int .i64 l[k].1.f,.str l[k].1.c,.str (gb l[k].2)]:=by
 rw[NA (l:=tmL l) (by rw[oN];exact h)];simp[tmL]
theorem Pp{l:List (PP×Rat)}{k:Nat}(h:k<l.length):((fE (prL l)).drop (k*5)).take 5=[.int .i64 l[k].1.1.f,.str l[k].1.1.c,.int .i64 l[k].1.2.f,.str l[k].1.2.c,.str (gb l[k].2)]:=by
 rw[Ng (l:=prL l) (by rw[pj];exact h)];simp[prL]
theorem tm_ne{l:List (Par×Rat)}{k:Nat}(h:k<l.length):fD (tmL l)≠[]:=Q0 (l:=tmL l) (by rw[oN];exact h)
theorem pr_ne{l:List (PP×Rat)}{k:Nat}(h:k<l.length):fE (prL l)≠[]:=Pj (l:=prL l) (by rw[pj];exact h)
abbrev NI(m:MC):List PV:=[.str (gb m.c),.sl none m.s.length (fD (tmL m.s)),.sl none m.p.length (fE (prL m.p))]
abbrev wc(m:MC):PV:= .agg (NI m)
structure MF1(m:MC):Prop where
 c:F1 m.c
 s:∀e∈m.s,F1 e.2
 p:∀e∈m.p,F1 e.2
 ls:m.s.length<=1000000
 lp:m.p.length<=1000000
section
variable {K:Type}[BEq K][LawfulBEq K]
theorem yX{l:List (K×Rat)}(r:(l.map (·.1)).Nodup){i:Nat}(s:i<l.length):uE (l.take i) l[i].1 l[i].2=l.take (i+1):=by
 have q:(l.take i).findIdx? (fun e=>e.1==l[i].1)=none:=by
  rw[Un];intro e he;obtain⟨j,hj,rfl⟩:=Tg.1 he;have d:=Sv.1 r j i Vk Vk Vf;simp only[SE]at d;cases h:(l[j]'Vf).1==l[i].1 with
  |false=>rfl
  |true=>exact absurd (eq_of_beq h) d
 unfold uE;rw[q];simp only;rw[<-bX s]
end
theorem HQ(m:MC)(T:(m.s.map (·.1)).Nodup)(U:(m.p.map (·.1)).Nodup)(D:MF1 m):FnP prog 57 [wc m] (· =mcP m):=by
 refine FnP.ofC func57 O ntmps57 Vj fun m0 w0 F R0=>?_
 have E:=ko 0 Vh Vh;have G:=gl (gb m.c) m.c (np m.c D.c);have L:=D.ls;have M:=D.lp;refine Z2 O<|Gr O<|Rs O (bt [] 2 call54 E O O O O trivial Vh O)<|Y2 O<|Z2 O<|Rs O (aa call143 G O)<|Y2 O<|Z4 O ?_;refine Gl O (st:=fun Vn:Nat=>mkS [(1,.ptr 0 0),(2,.ptr 1 0),(3,.ptr 4 0),(14,.pv (.sl none m.s.length (fD (tmL m.s)))),(15,pIi m.s.length),(16,pIi Vn)] [(0,.mix 47 [.pv (.str (gb m.c)),.pv (.sl none m.s.length (fD (tmL m.s))),.pv (.sl none m.p.length (fE (prL m.p)))]),(1,.mix 120 [.pv (.bool false),.pv nS,.pv (.bool false),.pv nS,.pv .nilmap,.pv .nilmap]),(2,.mp (aI dr (m.s.take Vn)) (aN (m.s.take Vn))),(3,.mp [] []),(4,.mix 120 [.pv (.bool (decide (m.c.num<0))),.pv (bF m.c.num.natAbs),.pv (.bool (decide ((m.c.den:Int)<0))),.pv (bF (m.c.den:Int).natAbs),.map 2,.map 3])] 5)
  (I:=fun Vn=>Vn<=m.s.length) (μ:=fun Vn=>m.s.length-Vn) (x0:=(0)) (Q5 (aS O) (aO Vg) O O) (cd _) ?_
 rintro i hi;refine Z1 O ?_;refine Gp O (fun hc17=>?_) (fun hc17=>?_)
 ·have l:i<m.s.length:=Vf;have q:=P1 l;have z:=tm_ne l;have A:=gl (gb m.s[i].2) m.s[i].2 (np _ (D.s _ (au l)));have B:=yX T l;have t:=jC c7 (m.s.take i) m.s[i].1 m.s[i].2;have u:=jh c7 (m.s.take i) m.s[i].1 m.s[i].2;obtain⟨r,hr⟩:=lx c7 (m.s.take i) m.s[i].1;rw[B]at t u;refine Q3<|Gr O<|Rs O (ae i underlying44 PL O O O l z)<|Rs O (aU ⟨_,underlying149,O⟩ PL O q O)<|Y2 O<|RW 8 O ?_;iterate 6 refine D1 O ?_
  refine Ds [] O (fun τ h=>aa call143 A (h.aK O)) O Vg<|DL.step (d:=none) [2] O O O (fun τ h=>bZ kZ underlying117 (Ee h 0 O O) (Eo h 0 O O) (Ee h 1 O O) (Ee h 2 O O) ⟨m.s[i].1,O⟩ hr t u) O Vg ?_;refine⟨Vg,?_⟩;exact Z2 O<|⟨(i+1),Q5 (aS O) (aO Vg) O O,l,Vf⟩
 ·have H:m.s.take i=m.s:=aQ Vf;rw[H];refine Gx O<|Z4 O ?_;refine Gl O (st:=fun x_1:Nat=>mkS [(2,.ptr 1 0),(3,.ptr 4 0),(29,.pv (.sl none m.p.length (fE (prL m.p)))),(30,pIi m.p.length),(31,pIi x_1)] [(1,.mix 120 [.pv (.bool false),.pv nS,.pv (.bool false),.pv nS,.pv .nilmap,.pv .nilmap]),(2,.mp (aI dr m.s) (aN m.s)),(3,.mp (aI ppP (m.p.take x_1)) (aN (m.p.take x_1))),(4,.mix 120 [.pv (.bool (decide (m.c.num<0))),.pv (bF m.c.num.natAbs),.pv (.bool (decide ((m.c.den:Int)<0))),.pv (bF (m.c.den:Int).natAbs),.map 2,.map 3])] 5)
   (I:=fun x_1=>x_1<=m.p.length) (μ:=fun x_1=>m.p.length-x_1) (x0:=(0)) (Q5 (aS O) (aO Vg) O O) (cd _) ?_
  rintro j hj;refine Z1 O ?_;refine Gp O (fun hc32=>?_) (fun hc32=>?_)
  ·have l:j<m.p.length:=Vf;have q:=Pp l;have z:=pr_ne l;have A:=gl (gb m.p[j].2) m.p[j].2 (np _ (D.p _ (au l)));have B:=yX U l;have t:=jC ft (m.p.take j) m.p[j].1 m.p[j].2;have u:=jh ft (m.p.take j) m.p[j].1 m.p[j].2;obtain⟨r,hr⟩:=lx ft (m.p.take j) m.p[j].1;rw[B]at t u;refine Q3<|Gr O<|Rs O (ae j underlying45 Po O O O l z)<|Rs O (aU ⟨_,underlying151,O⟩ Po O q O)<|Y2 O<|RW 11 O ?_;iterate 9 refine D1 O ?_
   refine Ds [] O (fun τ h=>aa call143 A (h.aK O)) O Vg<|DL.step (d:=none) [3] O O O (fun τ h=>bZ rZ underlying118 (Ee h 0 O O) (Eo h 0 O O) (Ee h 1 O O) (Ee h 2 O O) ⟨m.p[j].1,O⟩ hr t u) O Vg ?_;refine⟨Vg,?_⟩;exact Z2 O<|⟨(j+1),Q5 (aS O) (aO Vg) O O,l,Vf⟩
  ·have J:m.p.take j=m.p:=aQ Vf;rw[J];exact Gx O<|Z2 O<|Q4 (St.cw (ks:=aI dr m.s) (vs:=aN m.s) 2 Vg (Pc _ _) (RY _))<|Q4 (St.cw (ks:=aI ppP m.p) (vs:=aN m.p) 3 Vg (Pc _ _) (RY _))<|Gt O<|⟨_,_,O,O,⟨az ⟨_,underlying120,O⟩ j0 O O O,Vm⟩,O⟩
end
section
abbrev rnd(l:Nat):Fence:=Fence.wide.inRound l
theorem Gq{l k:Nat}{P:Program}{f:FuncId}{args:Array Value}{w:World}{R:Ending->World->Prop}(h:Calls P f args w R):CallsIn (rnd l) k P f args w R:=
 (callsIn_wide.2 h).inRound l
theorem Ip{l k:Nat}{P:Program}{row:String}{args:Array Value}{w:World}{R:Value->World->Prop}(h:Rows P row args w R):RowsIn (rnd l) k P row args w R:=by
 intro c cs _;obtain⟨v,w',r,s⟩:=h c cs;exact⟨v,w',r,stepsIn_wide.2 s⟩
theorem zq{l k:Nat}{P:Program}{o:Oper}{a:Act}{w:World}{K:Act->World->Prop}{Q:Exit->Act->World->Prop}(d:∀c,o.op≠ .defer c)(h:o.wp P a w K Q):o.wpIn (rnd l) k P a w K Q:=by
 refine⟨fun _ _=>trivial,?_⟩;have e:o.semAt (rnd l).round a.eval=execOp a.eval o:=by
  unfold Oper.semAt;split
  ·rename_i hc;exact absurd hc (d _)
  ·rfl
 rw[e];unfold Oper.wp Oper.upon at h;unfold Oper.uponIn;cases hr:(execOp a.eval o).run P w with
 | ok x w1=>
   rw[hr]at h;cases x<;>first|exact h|exact⟨fun h0=>absurd (show false=true from h0) Vh,Gq h⟩|exact⟨fun h0=>absurd (show false=true from h0) Vh,Ip h⟩|exact h.elim
 | halt x w1=>
   rw[hr]at h;cases x<;>first|exact h|exact h.elim
structure AWR(C:Ctx)(n:Nat)(c:Code)(Q:Exit->St->Prop)(σ:St):Prop where
 go:∀l a w,SJ C n σ a w->c.wpIn (rnd l) 0 C.P (fun ex a' w'=>∃σ',Q ex σ'/\SJ C n σ' a' w') a w
section
variable {C:Ctx}{n:Nat}{Q:Exit->St->Prop}{σ τ:St}
theorem AWR.skip(h:Q .normal σ):AWR C n .skip Q σ:=⟨fun _ _ _ hs=>wpIn_skip ⟨σ,h,hs⟩⟩
theorem AWR.seq{x y:Code}(h:AWR C n x (FC (AWR C n y Q) Q) σ):AWR C n (.seq x y) Q σ:=by
 refine⟨fun l a w hs=>?_⟩;refine wpIn_seq (wpIn_mono (h.go l a w hs) ?_);rintro e a' w' ⟨s,q,r⟩;cases e<;>first|exact AWR.go q l a' w' r|exact⟨s,q,r⟩
theorem AWR.block{id:Nat}{c:Code}(h:AWR C n c (tV id Q) σ):AWR C n (.block id c) Q σ:=by
 refine⟨fun l a w hs=>?_⟩;refine wpIn_block (wpIn_mono (h.go l a w hs) ?_);rintro e a' w' ⟨s,q,r⟩;cases e with
 | exit id'=>
   simp only[tV]at q;simp only[Exit.inBlock];split
   ·rename_i hid;rw[AT hid]at q;exact⟨s,q,r⟩
   ·rename_i hid;rw[dt hid]at q;exact⟨s,q,r⟩
 |_=>exact⟨s,q,r⟩
theorem AWR.cond{c:Operand}{x y:Code}{b:Bool}(hc:σ.ev n c= .pv (.bool b))(j:b=true->AWR C n x Q σ)(q:b=false->AWR C n y Q σ):AWR C n (.cond c x y) Q σ:=by
 refine⟨fun l a w hs=>?_⟩;obtain⟨m,R,hw⟩:=hs;have d:=hw.ev c;rw[hc]at d;simp only[Rel,RelP]at d;exact wpIn_cond_split d (fun e=>(j e).go l a w ⟨m,R,hw⟩) (fun e=>(q e).go l a w ⟨m,R,hw⟩)
variable {ops:Array Oper}
theorem RL.Qa(r:∀o∈ops.toList,∀c,o.op≠ .defer c)(l:Nat)(K:St->Prop):∀(os:List Oper)(k:Nat)(σ:St),ops.toList.drop k=os->RL C n ops os K σ->∀a w,SJ C n σ a w->∀Q:Exit->Act->World->Prop,
  (∀a w,(∃s,K s/\SJ C n s a w)->Q .normal a w)->wpOpsIn (rnd l) 0 C.P ops Q (List.range' k (ops.size-k)) a w:=by
 intro os;induction os with
 | nil=>
   intro k σ hd h a w hs Q hQ;have:ops.size-k=0:=by
    have:=ag List.length hd;simpa using this
   rw[this];simp only[List.range'_zero,wpOpsIn];exact hQ a w ⟨σ,h,hs⟩
 | cons o os ih=>
   intro k σ hd h a w hs Q hQ;have z:k<ops.size:=by
    have:=ag List.length hd;simp at this;omega
   have u:ops[k]? =some o:=by
    have:=ag (·[0]?) hd;simpa using this
   have q:o∈ops.toList:=by
    obtain⟨_,e⟩:=Ro.1 u;rw[<-e];exact Array.getElem_mem_toList _
   have t:ops.toList.drop (k+1)=os:=by
    have:=ag (List.drop 1) hd;simpa[UL]using this
   have e:ops.size-k=(ops.size-(k+1))+1:=Vf;rw[e,List.range'_succ];have d:∀a' w',(∃s,RL C n ops os K s/\SJ C n s a' w')->wpOpsIn (rnd l) 0 C.P ops Q (List.range' (k+1) (ops.size-(k+1))) a' w':=by
    rintro a' w' ⟨s,hs',hr⟩;exact ih (k+1) s t hs' a' w' hr Q hQ
   simp only[wpOpsIn,u];simp only[RL]at h;cases hg:o.guard with
   | none=>
     rw[hg]at h;simp only[Region.wanted,hg,UP];exact zq (r o q) (Oper.wp_mono d (h a w Q hs))
   | some jw=>
     obtain⟨j,want⟩:=jw;rw[hg]at h;obtain⟨b,hb,h1,h2⟩:=h;have A:=hb a w hs;simp only[Region.wanted,hg,A];by_cases hbw:b=some want
     ·subst hbw;simp only[S9,UP];exact zq (r o q) (Oper.wp_mono d (h1 O a w Q hs))
     ·have:(b==some want)=false:=by simpa using hbw
      simp only[this,Sz,Up];exact⟨fun _ _=>trivial,d _ _ (h2 hbw a w hs)⟩
def noDef(ops:Array Oper):Bool:=ops.toList.all fun o=>match o.op with| .defer _=>false|_=>true
theorem AWR.region{id:Nat}(j:noDef ops=true)(h:RL C n ops ops.toList (Q .normal) σ):AWR C n (.region id ops false) Q σ:=by
 refine⟨fun l a w hs=>?_⟩;refine wpIn_region ?_;have d:∀o∈ops.toList,∀c,o.op≠ .defer c:=fun o ho c e=>by
  have:=Ri.1 j o ho;rw[e]at this;cases this
 have:=RL.Qa d l (Q .normal) ops.toList 0 σ Vj h a w hs (fun ex a' w'=>∃σ',Q ex σ'/\SJ C n σ' a' w') (fun _ _ x=>x);rw[List.range_eq_range'];simpa using this
end
end
section
def Ob.j1:Ob->Bool
 | .cells .. | .mix .. | .gro .. =>true
 |_=>false
theorem lz.j1{w:World}{m:Gm}{av:Av}{R:Nat->Prop}{b N:Nat}{o:Ob}(h:lz w m av R b N o)(hc:o.j1=true):∃arr ty fz,w.heap[b]? =some (.cells arr ty fz):=by
 cases o with
 |cells ty cs=>obtain⟨arr,h1,_⟩:=h;exact⟨_,_,_,h1⟩
 |mix ty cs=>obtain⟨arr,h1,_⟩:=h;exact⟨_,_,_,h1⟩
 |gro ty cs=>obtain⟨arr,h1,_⟩:=h;exact⟨_,_,_,h1⟩
 |_=>cases hc
structure Btw(P:Program)(w0:World)(R0:Nat->Prop)(bs X:List Nat)(os:List (Nat×Ob))(k:Nat)(W:World):Prop where
 ex:∃(m:Gm)(rt:RT W (dG m)),HR ⟨P,m,W,dG m,rt⟩ m rt.p (ax os) (avK k) W/\(∀j b,bs[j]? =some b->∃N,m (big+j)=some (b,N))/\
  (∀id b N,m id=some (b,N)->w0.heap.size<=b/\b∉X)/\(∀b,R0 b->rt.p b)/\(∀b,rt.p b->(R0 b\/w0.heap.size<=b)/\b∉X)
 bel:Below w0.heap.size w0 W
 xs:∀x∈X,x<W.heap.size/\w0.heap.size<=x
section
variable {P:Program}{w0:World}{R0:Nat->Prop}{bs X X':List Nat}{os os':List (Nat×Ob)}{k k':Nat}{W W':World}
theorem Btw.other(h:Btw P w0 R0 bs X os k W)(t:W.heap.size<=W'.heap.size)(u:∀q,q<W.heap.size->q∉X->W'.heap[q]? =W.heap[q]?)(s:Below w0.heap.size w0 W')
  (z:∀x∈X',x∈X\/(W.heap.size<=x/\x<W'.heap.size)):Btw P w0 R0 bs X' os k W':=by
 obtain⟨m,rt,hr,h1,h2,h3,h4⟩:=h.ex;have l:∀b,rt.p b->rt.p b/\W'.heap[b]? =W.heap[b]? :=fun b hb'=>⟨hb',u b (rt.d b hb').1 (h4 b hb').2⟩
 have r:∀b,b<W.heap.size->b∉X->b∉X':=fun b hlt hn hm=>by
  rcases z b hm with e|e
  ·exact hn e
  ·omega
 have j:=hr.own;refine⟨⟨m,⟨rt.p,rt.g.mono l,fun b hb'=>⟨RA (rt.d b hb').1 t,(rt.d b hb').2⟩,[]⟩,?_,h1,fun id b N e=>⟨(h2 id b N e).1,r b (j id b N e).1 (h2 id b N e).2⟩,h3,fun b hb'=>⟨(h4 b hb').1,r b (rt.d b hb').1 (h4 b hb').2⟩⟩,s,fun x hx=>?_⟩
 ·exact ⟨hr.dom,hr.free,fun id o b N h5 h6=>lz.mono l (fun _ _ _ e=>e) (fun _ e=>e) (u b (j id b N h6).1 (h2 id b N h6).2) (hr.obj id o b N h5 h6),hr.inj,
   fun id b N e=>⟨RA (j id b N e).1 t,(j id b N e).2.1,.inl ⟨id,N,e⟩⟩,fun b hb'=>RA (hr.rsz b hb') t,fun b hb'=> .inl hb',fun b hb'=>hb',Fr.refl _ _,fun _ _ _ e=>e,hr.res⟩
 ·rcases z x hx with e|e
  ·exact⟨RA (h.xs x e).1 t,(h.xs x e).2⟩
  ·exact⟨e.2,IT h.bel.size e.1⟩
theorem Btw.round{n l:Nat}{body:Code}{slots:List (Nat×V)}{Q:Exit->St->Prop}{G:Exit->List (Nat×Ob)->Nat->Prop}(T:∀m0 w0 F R0,AWR ⟨P,m0,w0,F,R0⟩ n body Q (mkS slots os k))
  (U:∀ex τ,Q ex τ->∃os' k',τ.le (mkS [] os' k')/\(∀j,j<bs.length->bI (ax os' (big+j))=true)/\G ex os' k')
  (h:Btw P w0 R0 bs X os k W) (a:Act) (I:a.defers=[]) (J:a.tmps.size=n)
  (L:∀(m:Gm)(R:Nat->Prop),(∀j b,bs[j]? =some b->∃N,m (big+j)=some (b,N))->(∀b,R0 b->R b)->∀t,t<n->Rel W m (avK k) R (look slots t) (a.eval (.tmp t))):
  body.wpIn (rnd l) 0 P (fun ex _ W'=>(∃os' k',G ex os' k'/\Btw P w0 R0 bs X os' k' W')/\(∀x∈X,W'.heap[x]? =W.heap[x]?)/\W.heap.size<=W'.heap.size/\(∀b,R0 b->W'.heap[b]? =W.heap[b]?)/\
   ((∀i o,ax os i=some o->o.j1=true)->∀(q:Nat)(o:Obj),W.heap[q]? =some o->o.isWalk=true->W'.heap[q]? =some o)) a W:=by
 obtain⟨m,rt0,hr0,h1,h2,h3,h4⟩:=h.ex;obtain⟨rt,hp,hd0⟩:∃rt:RT W (dG m),rt.p=rt0.p/\rt.df=[]:=⟨⟨rt0.p,rt0.g,rt0.d,[]⟩,O,O⟩;have B:=hr0.dfs hp;rw[<-hp]at B h3 h4;refine wpIn_mono ((T m W (dG m) rt).go l a W ⟨m,rt.p,B,I.trans hd0.symm,J,L m rt.p h1 h3⟩) ?_;rintro ex a' W' ⟨τ,hq,hsj⟩;obtain⟨os',k',hle,hlive,hG⟩:=U ex τ hq;obtain⟨m',R',hw⟩:=hle _ _ _ _ hsj;have r:HR ⟨P,m,W,dG m,rt⟩ m' R' (ax os') (avK k') W':=hw.hr;have s:Fr (dG m) W W':=r.frame;have z:∀x∈X,¬dG m x:=fun x hx ⟨id,N,e⟩=>(h2 id x N e).2 hx
 have D:∀x∈X,¬R' x:=fun x hx hR=>by
  rcases r.rfr x hR with e|e|e
  ·exact(h4 x e).2 hx
  ·have:=(h.xs x hx).1;exact absurd e (Nat.not_le.2 this)
  ·exact z x hx e
 have A:Below w0.heap.size w0 W':=by
  have E:Below w0.heap.size W W':=⟨s.os,s.tape,s.output,s.size,fun q hq'=>s.block q (RA hq' h.bel.size) fun⟨id,N,e⟩=>by have:=(h2 id q N e).1;omega⟩;exact h.bel.trans E
 have H:(∀i o,ax os i=some o->o.j1=true)->∀(q:Nat)(o:Obj),W.heap[q]? =some o->o.isWalk=true->W'.heap[q]? =some o:=by
  intro hc q o ho hiw;refine(s.block q (Ro.1 ho).1 ?_).trans ho;rintro⟨id,N,e⟩;have u:=B.dom id;rw[e]at u;cases ho2:ax os id with
  |none=>rw[ho2]at u;cases u
  | some o2=>
    obtain⟨arr,ty,fz,h5⟩:=(B.obj id o2 q N ho2 e).j1 (hc id o2 ho2);rw[h5]at ho;cases ho;cases hiw
 refine⟨⟨os',k',hG,⟨⟨m',⟨R',r.gi,fun b hb=>⟨r.rsz b hb,fun⟨id,N,e⟩=>(r.own id b N e).2.1 hb⟩,[]⟩,?_,?_,?_,fun b hb=>r.r0 b (h3 b hb),?_⟩,A,fun x hx=>⟨RA (h.xs x hx).1 s.size,(h.xs x hx).2⟩⟩⟩,fun x hx=>s.block x (h.xs x hx).1 (z x hx),s.size,fun b hb=>s.block b (rt.d b (h3 b hb)).1 (rt.d b (h3 b hb)).2,H⟩
 ·exact⟨r.dom,r.free,r.obj,r.inj,fun id b N e=>⟨(r.own id b N e).1,(r.own id b N e).2.1,.inl ⟨id,N,e⟩⟩,r.rsz,fun b hb=> .inl hb,fun b hb=>hb,Fr.refl _ _,fun _ _ _ e=>e,r.res⟩
 ·intro j b hj;obtain⟨N,hN⟩:=h1 j b hj;have u:=r.dom (big+j);rw[hlive j (Rp.1 hj).1]at u;obtain⟨y,hy⟩:=RQ.1 u;have:=r.keep (big+j) y (TH _ _) hy;have e:m (big+j)=some y:=this;rw[hN]at e;exact⟨N,by rw[hy,<-e]⟩
 ·intro id b N e;rcases(r.own id b N e).2.2 with⟨id2,N2,e2⟩|e2
  ·exact h2 id2 b N2 e2
  ·have M:W.heap.size<=b:=e2;exact⟨IT h.bel.size M,fun hx=>by have:=(h.xs b hx).1;omega⟩
 ·intro b hb;refine⟨?_,fun hx=>D b hx hb⟩;rcases r.rfr b hb with e|e|⟨id,N,e⟩
  ·exact(h4 b e).1
  ·exact .inr (IT h.bel.size e)
  ·exact .inr (h2 id b N e).1
end
end
section
open Go.RowKit Go.MapKept
open Go.ChangeMaps (setBlock)
section
variable {F:Fence}{n:Nat}{P:Program}(w:World){ops:Array Oper}{rest:List Oper}{o:Oper}{a:Act}{Q:Exit->Act->World->Prop}
theorem jb(j:o.guard=none)(m:Operand)(t:TypeId)(d:o.op=Op.range t m)(k e:TypeId)(l:P.underlying t=some (.map k e))(b:Nat)(es:Array MapEntry)(clock:Nat)(q:a.eval m= .map (some b))(r:w.heap[b]? =some (.map es clock))
  (s:wpListIn F n P ops Q rest (a.put o.dst (.pointer (some ⟨w.heap.size,0,none⟩))) (w.alloc (.mapIter (some b) clock #[] clock))):wpListIn F n P ops Q (o::rest) a w:=by
 refine wpListIn_plain j fun K' hK'=>?_
 unfold Oper.wpIn;refine⟨by simp[Oper.about,d],?_⟩;rw[Oper.semAt_plain F _ _ (by rw[d];intro c hc';cases hc')];simp[execOp,d,q,run_range_map w t k e b es clock l r,Result.andThen];exact hK' _ _ s
theorem yf(t:o.guard=none)(it:Operand)(d:o.op=Op.next it false)(r b clock:Nat)(seen:Array Nat)(es:Array MapEntry)(q:a.eval it= .pointer (some ⟨r,0,none⟩))(u:w.heap[r]? =some (.mapIter (some b) clock seen clock))(z:w.heap[b]? =some (.map es clock))(s:db es.toList clock)
  (j:(leftOf es seen).size=0->wpListIn F n P ops Q rest (a.put o.dst (.tuple #[.bool false])) w)
  (l:∀e∈(leftOf es seen).toList,∀w1,(w1=w\/w1=w.drew)->wpListIn F n P ops Q rest (a.put o.dst (.tuple #[.bool true,e.key,e.val])) (setBlock w1 r (.mapIter (some b) clock (seen.push e.born) clock))):wpListIn F n P ops Q (o::rest) a w:=by
 refine wpListIn_plain t fun K' hK'=>?_
 unfold Oper.wpIn;refine⟨by simp[Oper.about,d],?_⟩;rw[Oper.semAt_plain F _ _ (by rw[d];intro c hc';cases hc')];rcases Go.run_next_at (P:=P) w o.type r b clock clock seen es clock u z s.2 (BY _)with⟨h0,hrun⟩|⟨e,he,w1,hal,hrun⟩
 ·simp[execOp,d,q,hrun,Result.andThen];exact hK' _ _ (j h0)
 ·simp[execOp,d,q,hrun,Result.andThen];exact hK' _ _ (l e he w1 hal)
theorem iN(q:o.guard=none)(it:Operand)(d:o.op=Op.entry it)(r:Nat)(k v:Value)(l:a.eval it= .pointer (some ⟨r,0,none⟩))(j:(Instr.entry (.pointer (some ⟨r,0,none⟩))).run P w= .ok (.tuple #[k,v]) w)
  (s:wpListIn F n P ops Q rest (a.put o.dst (.tuple #[k,v])) w):wpListIn F n P ops Q (o::rest) a w:=by
 refine wpListIn_plain q fun K' hK'=>?_
 unfold Oper.wpIn;refine⟨by simp[Oper.about,d],?_⟩;rw[Oper.semAt_plain F _ _ (by rw[d];intro c hc';cases hc')];simp[execOp,d,l,j,Result.andThen];exact hK' _ _ s
end
def fS(es:Array MapEntry)(seen:Array Nat):List Value:=(es.toList.filter fun e=> !seen.contains e.born).map (·.key)
theorem oG(es:Array MapEntry):fS es #[]=es.toList.map (·.key):=by
 unfold fS;rw[U0.2 fun e _=>by simp]
theorem dA(es:Array MapEntry)(seen:Array Nat):(leftOf es seen).toList=es.toList.filter fun e=> !seen.contains e.born:=by unfold leftOf;simp
theorem Di{α:Type}{l:List α}{i:Nat}(h:i<l.length):l.Perm (l[i]::l.eraseIdx i):=by
 have e:l=l.take i++l[i]::l.drop (i+1):=by rw[<-RF h,Sb]
 rw[List.eraseIdx_eq_take_drop_succ];exact(List.Perm.of_eq e).trans Uq
theorem lC{es:Array MapEntry}{clock:Nat}(j:db es.toList clock){seen:Array Nat}{e:MapEntry}(l:e∈(leftOf es seen).toList):(fS es seen).Perm (e.key::fS es (seen.push e.born)):=by
 rw[dA]at l;obtain⟨i,hi⟩:=SU l;have d:((es.toList.filter fun e=> !seen.contains e.born).map (·.born)).Nodup:=(SZ.map _).nodup j.1;have q:(es.toList.filter fun x=> !(seen.push e.born).contains x.born)=(es.toList.filter fun e=> !seen.contains e.born).eraseIdx i:=by
  rw[<-ke d hi,List.filter_filter];apply List.filter_congr;intro x _;rw[contains_push];cases seen.contains x.born<;>cases (x.born==e.born)<;>rfl
 unfold fS;rw[q];obtain⟨hlt,rfl⟩:=Rp.1 hi;have:=(Di hlt).map (·.key);simpa using this
theorem mg{es:Array MapEntry}{seen:Array Nat}(h:(leftOf es seen).size=0):fS es seen=[]:=by
 have:(leftOf es seen).toList=[]:=TV.1 (by rw[RE];exact h);rw[dA]at this;rw[fS,this];rfl
end
end Go.Proofs.YtoplpepiabedhaaGreatDoor
